/- DiskAgain: what is there when the power comes back; any acts ahead. -/
import Derived.Test.YtijfdjjbodalaaaDkAgainD
set_option linter.unusedSimpArgs false
set_option linter.unusedVariables false
namespace Go.Am.Dk
open Go.Am
attribute [local go_sem] ne_eq not_true_eq_false not_false_eq_true Nat.reduceEqDiff Nat.reduceAdd Nat.reduceLeDiff Int.toNat_natCast Int.reduceToNat and_self Bool.not_true Bool.not_false Bool.false_and Bool.and_false Bool.true_and Bool.and_true Int.reduceEq Int.reduceLT Int.reduceLE Int.reduceAdd Int.reduceSub Int.reduceNeg decide_true decide_false Option.bind_some Bool.or_true Bool.or_false Bool.true_or Bool.false_or
attribute [local go_sem ↓] reduceIte
set_option maxRecDepth 20000
set_option maxHeartbeats 2000000
theorem again1_ok (σ0 : DSt) (turns : Int) (n3 : Bool) (keep : List Int) (hk : keep.length ≤ 9223372036854775807 ∧ ∀ z ∈ keep, -9223372036854775808 ≤ z ∧ z ≤ 9223372036854775807) {kk : Nat} (hB0 : Bnd σ0 kk) (hkk : kk ≤ 90) (hdd : σ0.dead = true) (h0 : Heap) (d : Nat) (y0 : Lay) (hD0 : DiskAt h0 d σ0 y0) (st : Nat)
    (fr0 : Fr) (f2 : fget fr0 2 = some (.int .i64 turns)) (f3 : fget fr0 3 = some (slv n3 false keep)) (f9 : fget fr0 9 = some (.ptr d 0)) :
    Wp PA again1 { fr := fr0, st := st, h := h0 } (bodyQ [.slot 8] fun v _ => v = .bool true) := by
  have hB1 := hB0.bootS (by omega) turns keep
  simp (disch := omega) only [go_sem, again1, a5r13, f2, f3, f9]
  refine WO.fun (vs := [.ptr d 0, .int .i64 turns, slv n3 false keep]) (by simp (disch := omega) only [go_sem]) (boot_funA hD0 hB0 (by omega) turns keep n3 false hdd hk) (fun v h1 hv => ?_)
  obtain ⟨rfl, y, hst⟩ := hv
  have hD1 := hst.at'
  simp (disch := omega) only [go_sem, f9]
  simp (disch := omega) only [go_sem, a5r15]
  have hnl : (bootS σ0 turns keep).names.length ≤ 1000000 := by have := hB1.nl; omega
  refine WO.fun (vs := [.ptr d 0]) (by simp (disch := omega) only [go_sem]) (listD_fun PA_R h1 d _ y hD1 hnl (fun p hp => by have := hB1.nk p hp; omega)) (fun v h2 hv => ?_)
  obtain ⟨rfl, hx2⟩ := hv
  have hD2 := hD1.ext' hx2
  have again2' := fun bl bv hh hD hl hbv hr hbl hbl2 st fr0 f9 f11 f12 => again2_ok σ0 hD0.ok turns keep hB0 hkk bl bv hh d y hD hl hbv hr hbl hbl2 st fr0 f9 f11 f12
  have hd1 : (bootS σ0 turns keep).dead = false := rfl
  have hkr : ∀ k ∈ listS (bootS σ0 turns keep), ∃ l, readS (bootS σ0 turns keep) k = (some l, 0) ∧ l.length ≤ 1000000000 := fun k hk => by
    unfold listS at hk
    rw [if_neg (by simp [hd1]), List.mem_mergeSort] at hk
    obtain ⟨f, hf⟩ := nget_key hk
    refine ⟨((bootS σ0 turns keep).file f).b, ?_, ?_⟩
    · unfold readS
      rw [if_neg (by simp [hd1]), hf]
    · have := hB1.fl f (hD1.ok.names _ (nget_mem hf))
      omega
  have hkl : (listS (bootS σ0 turns keep)).length ≤ 1000000 := by
    unfold listS
    rw [if_neg (by simp [hd1]), List.length_mergeSort, List.length_map]; exact hnl
  obtain ⟨σ1, hσ1⟩ : ∃ σ1, bootS σ0 turns keep = σ1 := ⟨_, rfl⟩
  rw [hσ1] at hB1 hD1 hD2 again2' hkr hkl hd1 ⊢
  obtain ⟨ks, hks⟩ : ∃ ks, listS σ1 = ks := ⟨_, rfl⟩
  rw [hks] at again2' hkr hkl ⊢
  simp (disch := omega) only [go_sem]
  simp (disch := omega) only [go_sem, a5r16]
  simp (disch := omega) only [go_sem, a5r17]
  refine Wp_loop (fun x : Nat × Nat × Heap × AV × List OneV => x.2.1 ≤ ks.length ∧ h2.next ≤ x.2.2.1.next ∧ DiskAt x.2.2.1 d σ1 y ∧ PreC x.2.2.1 x.2.2.2.1 x.2.2.2.2 ∧ x.2.2.2.2.length = x.2.1 ∧ (∀ o, rowOf x.2.2.2.1 = some o → h2.next ≤ o ∧ o < x.2.2.1.next) ∧
      (∀ j, j < x.2.1 → ∃ l, readS σ1 (ks.getD j default) = (some l, 0) ∧ HoldB x.2.2.1 (x.2.2.2.2.getD j default).v l ∧ l.length ≤ 1000000000) ∧ ∀ j, j < x.2.1 → ∀ o, rowOf (x.2.2.2.2.getD j default).v = some o → h2.next ≤ o ∧ o < x.2.2.1.next ∧ rowOf x.2.2.2.1 ≠ some o)
    (fun x => { fr := [(9, .ptr d 0), (11, slv true false ks), (12, x.2.2.2.1), (13, .int .i64 x.2.1)], st := x.1, h := x.2.2.1 }) (fun x => ks.length - x.2.1) (st, 0, h2, .nils, []) rfl ⟨Nat.zero_le _, Nat.le_refl _, hD2, Or.inl ⟨rfl, rfl⟩, rfl, fun o ho => by simp [rowOf] at ho, fun j hj => by simp at hj, fun j hj => by simp at hj⟩ ?_
  rintro ⟨t, i, hx, bv, bl⟩ ⟨i1, i2, i3, i4, i5, i6, i7, i8⟩
  simp only at i1 i2 i3 i4 i5 i6 i7 i8
  have ev := i4.ev
  have dt := i4.dt
  simp (disch := omega) only [go_sem, a5l1, a5r18, ev, dt]
  refine condS_if (fun c => ?_) (fun c => ?_)
  · have hi : i < ks.length := by omega
    have ham : ks.getD i default ∈ ks := by
      rw [List.getD_eq_getElem?_getD, List.getElem?_eq_getElem hi]
      exact List.getElem_mem hi
    obtain ⟨l, r1, r3⟩ := hkr _ ham
    simp (disch := omega) only [go_sem, a5r19, ev, dt]
    refine WO.fun (vs := [.ptr d 0, strv (ks.getD i default)]) (by simp (disch := omega) only [go_sem]) (readD_fun PA_R.toDkP _ hx d σ1 y i3 (fun f hf => by have := hB1.fl f hf; omega)) (fun v hy hv => ?_)
    obtain ⟨w, rfl, hbt, hxy⟩ := hv
    rw [r1] at hbt ⊢
    have hw : HoldB hy w l ∧ ∀ o, rowOf w = some o → hx.next ≤ o ∧ o < hy.next := by
      rcases hbt with ⟨e1, e2⟩ | ⟨o, ep, e1, e2, e3, e4⟩
      · exact ⟨Or.inl ⟨e1, e2⟩, fun o ho => by rw [e1] at ho; simp [rowOf] at ho⟩
      · refine ⟨Or.inr ⟨o, ep, e1, e3, e4⟩, fun o' ho => ?_⟩
        rw [e1] at ho
        obtain rfl : o = o' := Option.some.inj ho
        exact ⟨e2, e3⟩
    have wev : ∀ i, evS i (some w) = some w := fun i => by rcases hw.1 with ⟨rfl, -⟩ | ⟨o, ep, rfl, -⟩ <;> rfl
    have wdt : datW (some w) = some w := by rcases hw.1 with ⟨rfl, -⟩ | ⟨o, ep, rfl, -⟩ <;> rfl
    have wcl : w.cellsOf = [w] := by rcases hw.1 with ⟨rfl, -⟩ | ⟨o, ep, rfl, -⟩ <;> rfl
    simp (disch := omega) only [go_sem, ev, dt, wev, wdt]
    simp (disch := omega) only [go_sem, a5r20, ev, dt, wev, wdt, wcl]
    have hxn := hxy.1
    refine stepP_app (α := OneV) (bytes := 24) (l := bl) (new := [⟨w⟩]) (i4.keep (fun o ho => by rw [get_reserve]; exact hxy.2 o (i6 o ho).2)) (addsC_one _ _ _ _ rfl) rfl (by simp [two47]; omega) (fun v' h3 hr3 hn3 ho3 hf3 hnn => ?_)
    have ev3 := hr3.ev
    have dt3 := hr3.dt
    simp (disch := omega) only [go_sem, ev3, dt3]
    simp (disch := omega) only [go_sem, a5r21, ev3, dt3]
    have n3' : h3.next = hy.next + 1 := hn3
    have g3 : ∀ q, q < hy.next → rowOf bv ≠ some q → h3.get q = hy.get q := fun q h5 h6 => (hf3 q (by omega) h6).trans (get_reserve _ _ _)
    have v'r : ∀ o, rowOf v' = some o → (rowOf bv = some o ∨ o = hy.next) := fun o ho => by
      rcases ho3 with e | e
      · exact Or.inl (by rw [← e]; exact ho)
      · rw [e] at ho; exact Or.inr (Option.some.inj ho).symm
    refine ⟨(t, i + 1, h3, v', bl ++ [⟨w⟩]), ⟨by simp only; omega, by simp only; omega, ?_, hr3, by simp [i5], ?_, ?_, ?_⟩, by simp only; omega, rfl⟩
    · show DiskAt h3 d σ1 y
      refine i3.ext (fun o ho => ?_) (by omega)
      have h5 : o < h2.next := hD2.lt o ho
      rw [g3 o (by omega) (fun e => by have := (i6 o e).1; omega)]
      exact hxy.2 o (by omega)
    · intro o ho
      simp only at ho ⊢
      rcases v'r o ho with e | e
      · have := i6 o e; omega
      · omega
    · intro j hj
      simp only at hj ⊢
      by_cases e : j < i
      · obtain ⟨lj, q1, q2, q3⟩ := i7 j e
        refine ⟨lj, q1, ?_, q3⟩
        rw [List.getD_eq_getElem?_getD, List.getElem?_append_left (by omega), ← List.getD_eq_getElem?_getD]
        refine q2.keep (by omega) (fun o ho => ?_)
        have h5 := i8 j e o ho
        rw [g3 o (by omega) h5.2.2]
        exact hxy.2 o h5.2.1
      · obtain rfl : j = i := by omega
        refine ⟨l, r1, ?_, r3⟩
        rw [List.getD_eq_getElem?_getD, List.getElem?_append_right (by omega), i5, Nat.sub_self]
        refine hw.1.keep (by omega) (fun o ho => ?_)
        have h5 := hw.2 o ho
        exact g3 o h5.2 (fun e => by have := (i6 o e).2; omega)
    · intro j hj o ho
      simp only at hj ho ⊢
      by_cases e : j < i
      · rw [List.getD_eq_getElem?_getD, List.getElem?_append_left (by omega), ← List.getD_eq_getElem?_getD] at ho
        have h5 := i8 j e o ho
        refine ⟨h5.1, by omega, fun e2 => ?_⟩
        rcases v'r o e2 with e3 | e3
        · exact h5.2.2 e3
        · omega
      · obtain rfl : j = i := by omega
        rw [List.getD_eq_getElem?_getD, List.getElem?_append_right (by omega), i5, Nat.sub_self] at ho
        have h5 := hw.2 o ho
        refine ⟨by omega, by omega, fun e2 => ?_⟩
        rcases v'r o e2 with e3 | e3
        · have := (i6 o e3).2; omega
        · omega
  · have hik : i = ks.length := by omega
    subst hik
    simp (disch := omega) only [go_sem, ev, dt]
    refine again2' bl bv hx i3 i5 i4 (fun j hj => i7 j (by omega)) (fun o ho => ⟨(i6 o ho).2, fun ho2 => ?_⟩) (fun j hj o ho ho2 => ?_) t _ (by simp (disch := omega) only [go_sem]) (by simp (disch := omega) only [go_sem]) (by simp (disch := omega) only [go_sem])
    · have := hD2.lt o ho2
      have := (i6 o ho).1
      omega
    · have := hD2.lt o ho2
      have := (i8 j (by omega) o ho).1
      omega
end Go.Am.Dk
