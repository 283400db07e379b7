/- DiskAgain on the abstract machine. -/
import Derived.Test.YtijfdjjbodalaaaDkAgainE
import Derived.Test.YtijfdjjbodalaaaDkBulk
set_option linter.unusedSimpArgs false
set_option linter.unusedVariables false
namespace Go.Am.Dk
open Go.Am
attribute [local go_sem] ne_eq not_true_eq_false not_false_eq_true Nat.reduceEqDiff Nat.reduceAdd Nat.reduceLeDiff Int.toNat_natCast Int.reduceToNat and_self Bool.not_true Bool.not_false Bool.false_and Bool.and_false Bool.true_and Bool.and_true Int.reduceEq Int.reduceLT Int.reduceLE Int.reduceAdd Int.reduceSub Int.reduceNeg decide_true decide_false Option.bind_some Bool.or_true Bool.or_false Bool.true_or Bool.false_or
attribute [local go_sem ↓] reduceIte
set_option maxRecDepth 20000
set_option maxHeartbeats 2000000
theorem greatA_false {l : List DAct} (h : greatL l = false) : l.length ≤ 60 ∧ ∀ a ∈ l, a.name.length ≤ 100 ∧ a.to.length ≤ 100 ∧ a.b.length ≤ 500 ∧ a.keep.length ≤ 60 := by
  unfold greatL at h
  simp only [Bool.or_eq_false_iff, decide_eq_false_iff_not] at h
  have hl : l.length ≤ 60 := by omega
  refine ⟨hl, fun a ha => ?_⟩
  rw [List.take_of_length_le hl, List.any_eq_false] at h
  have := h.1 a ha
  simp only [bigA, Bool.or_eq_true, decide_eq_true_eq, not_or] at this
  omega
theorem again_fun (files : List FileV) (l : List DAct) (turns : Int) (keep : List Int) (n0 n1 n3 : Bool) (h0l : files.length ≤ 9223372036854775807) (h0w : ∀ f ∈ files, FileWf f) (h1l : l.length ≤ 9223372036854775807) (hw : ∀ a ∈ l, ActWf a) (h3l : keep.length ≤ 9223372036854775807) (hkw : ∀ z ∈ keep, I64 z) :
    Fun PA 5 [slv n0 false files, slv n1 false l, .int .i64 turns, slv n3 false keep] h0 (fun v _ => v = .bool true) := by
  have hQ := PA_R.toDkQ
  have hP := PA_R.toDkQ.toDkP
  refine Fun.of (code := a5c) rfl rfl ?_
  simp (disch := omega) only [go_sem, a5c_eq, a5r0]
  simp (disch := omega) only [go_sem, a5r1]
  refine WO.den (k := 1) (vs := [slv n0 false files, .int .i64 2000]) rfl (by simp (disch := omega) only [go_sem]) (R := fun v => ∃ k : Int, v = .int .i64 k ∧ (¬ 2000 < k → Small files)) ?_ (fun v hv => by obtain ⟨k, rfl, -⟩ := hv; rfl) (fun v hv => ?_)
  · simp only [lent_11, List.map_cons, List.map_nil, frz_slv, frz_int]
    exact bulk_den hP files n0 false h0l h0w
  obtain ⟨k, rfl, hsm⟩ := hv
  simp (disch := omega) only [go_sem]
  refine guardS_pf (fun c1 w1 => ?_) (fun c1 w1 => ?_) <;> simp (disch := omega) only [go_sem, w1]
  rotate_left
  · simp (disch := omega) only [go_sem, a5r2]
    refine WO.fun (vs := []) (by simp (disch := omega) only [go_sem]) (awake_funA _) (fun v h' hv => ?_)
    obtain ⟨rfl, rfl⟩ := hv
    simp (disch := omega) only [go_sem]
  have hs := hsm c1
  refine WO.den (k := 0) (vs := [slv n1 false l]) rfl (by simp (disch := omega) only [go_sem]) (great_den rfl l n1 false (by omega) hw) (fun v hv => by subst hv; rfl) (fun v hv => ?_)
  subst hv
  cases hg : greatL l with
  | true =>
    simp (disch := omega) only [go_sem]
    simp (disch := omega) only [go_sem, a5r2]
    refine WO.fun (vs := []) (by simp (disch := omega) only [go_sem]) (awake_funA _) (fun v h' hv => ?_)
    obtain ⟨rfl, rfl⟩ := hv
    simp (disch := omega) only [go_sem]
  | false =>
    obtain ⟨g1, g2⟩ := greatA_false hg
    simp (disch := omega) only [go_sem]
    refine condS_if (fun c2 => ?_) (fun c2 => ?_)
    · simp (disch := omega) only [go_sem, a5r2]
      refine WO.fun (vs := []) (by simp (disch := omega) only [go_sem]) (awake_funA _) (fun v h' hv => ?_)
      obtain ⟨rfl, rfl⟩ := hv
      simp (disch := omega) only [go_sem]
    simp (disch := omega) only [go_sem, a5r3]
    refine WO.fun (vs := [slv n0 false files, .int .i64 1048576]) (by simp (disch := omega) only [go_sem]) (newD_fun hQ files n0 1048576 _ h0l hs.2) (fun v hA hv => ?_)
    rcases hv with rfl | ⟨d, y0, ids, file, rfl, hD0, q1, q2, q3, q4, q5, q6⟩
    · simp (disch := omega) only [go_sem]
      simp (disch := omega) only [go_sem, a5r4]
      simp (disch := omega) only [go_sem, a5r5]
      refine WO.fun (vs := []) (by simp (disch := omega) only [go_sem]) (awake_funA _) (fun v h' hv => ?_)
      obtain ⟨rfl, rfl⟩ := hv
      simp (disch := omega) only [go_sem]
    have hB0 := new_bnd q1 q2 q3 ⟨q4, q5⟩ hs.2
    simp (disch := omega) only [go_sem]
    simp (disch := omega) only [go_sem, a5r4]
    simp (disch := omega) only [go_sem, a5r6]
    refine Wp_loop (fun x : Nat × Nat × Heap × DSt × Lay => x.2.1 ≤ l.length ∧ DiskAt x.2.2.1 d x.2.2.2.1 x.2.2.2.2 ∧ Bnd x.2.2.2.1 x.2.1)
      (fun (t, k, hh, _, _) => { fr := [(1, slv n1 false l), (2, .int .i64 turns), (3, slv n3 false keep), (9, .ptr d 0), (10, .int .i64 k)], st := t, h := hh }) (fun x => l.length - x.2.1) (0, 0, hA, _, y0) rfl ⟨Nat.zero_le _, hD0, hB0⟩ ?_
    rintro ⟨t, k, hh, σ, y⟩ ⟨i1, hD, hB⟩
    simp only at i1 hD hB
    simp (disch := omega) only [go_sem, a5l0, a5r7]
    refine condS_if (fun hk => ?_) (fun hk => ?_)
    · have hk' : k < l.length := by omega
      have ham : l.getD k default ∈ l := by
        rw [List.getD_eq_getElem?_getD, List.getElem?_eq_getElem hk']
        exact List.getElem_mem hk'
      have haw := hw _ ham
      have hab := g2 _ ham
      simp (disch := omega) only [go_sem, a5r8]
      generalize l.getD k default = a at haw hab ham ⊢
      have hgx : ((hh.reserve 1).put hh.next (.cells (refC 0))).get hh.next = some (.cells (refC 0)) := get_put_same _ _ _
      have hDx : DiskAt ((hh.reserve 1).put hh.next (.cells (refC 0))) d σ y := hD.ext (fun o ho => by rw [get_put_ne _ _ _ _ (by have := hD.lt o ho; omega), get_reserve]) (by show hh.next ≤ hh.next + 1; omega)
      have hxo : ¬ Own d σ y hh.next := fun ho => by have := hD.lt _ ho; omega
      refine WO.fun (vs := [.ptr d 0, .ptr hh.next 0, .agg (Enc.cells a)]) (by simp (disch := omega) only [go_sem]) (do_any PA_R a haw hab.2.2.1 ⟨hab.1, hab.2.1⟩ _ d hh.next σ y hDx k (by omega) hB hgx (by show hh.next < hh.next + 1; omega) hxo) (fun v h' hv => ?_)
      obtain ⟨σ', y', hD', hB'⟩ := hv
      simp (disch := omega) only [go_sem]
      simp (disch := omega) only [go_sem, a5r9]
      exact ⟨(t, k + 1, h', σ', y'), ⟨by simp only; omega, hD', hB'⟩, by simp only; omega, rfl⟩
    · simp (disch := omega) only [go_sem]
      have hc := hB.calls
      simp (disch := omega) only [go_sem, a5r10]
      refine WO.fun (vs := [.ptr d 0]) (by simp (disch := omega) only [go_sem]) (deadD_fun hP hh d σ y hD) (fun v h1 hv => ?_)
      obtain ⟨rfl, rfl⟩ := hv
      cases hdd : σ.dead with
      | true =>
        simp (disch := omega) only [go_sem]
        exact again1_ok σ turns n3 keep ⟨h3l, hkw⟩ hB (by omega) hdd h1 d y hD _ _ (by simp (disch := omega) only [go_sem]) (by simp (disch := omega) only [go_sem]) (by simp (disch := omega) only [go_sem])
      | false =>
        simp (disch := omega) only [go_sem]
        simp (disch := omega) only [go_sem, a5r11]
        refine WO.fun (vs := [.ptr d 0, .int .i64 1]) (by simp (disch := omega) only [go_sem]) (fuseD_fun hP 1 h1 d σ y hD hc.1 (by omega)) (fun v h2 hs1 => ?_)
        simp (disch := omega) only [go_sem]
        simp (disch := omega) only [go_sem, a5r12]
        refine WO.fun (vs := [.ptr d 0]) (by simp (disch := omega) only [go_sem]) (syncDirD_fun hP h2 d _ y hs1.at' hc.1 (by show σ.calls < _; omega)) (fun v h3 hv => ?_)
        obtain ⟨rfl, y2, hs2⟩ := hv
        rw [off_any hdd] at hs2 ⊢
        simp (disch := omega) only [go_sem]
        exact again1_ok (offA σ) turns n3 keep ⟨h3l, hkw⟩ hB.off (by omega) rfl h3 d y2 hs2.at' _ _ (by simp (disch := omega) only [go_sem]) (by simp (disch := omega) only [go_sem]) (by simp (disch := omega) only [go_sem])
end Go.Am.Dk
