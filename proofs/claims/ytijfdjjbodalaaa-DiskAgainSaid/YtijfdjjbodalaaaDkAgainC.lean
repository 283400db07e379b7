/- DiskAgain: the last loop. -/
import Derived.Test.YtijfdjjbodalaaaDkAgainB
set_option linter.unusedSimpArgs false
set_option linter.unusedVariables false
namespace Go.Am.Dk
open Go.Am
attribute [local go_sem] ne_eq not_true_eq_false not_false_eq_true Nat.reduceEqDiff Nat.reduceAdd Nat.reduceLeDiff Int.toNat_natCast Int.reduceToNat and_self Bool.not_true Bool.not_false Bool.false_and Bool.and_false Bool.true_and Bool.and_true Int.reduceEq Int.reduceLT Int.reduceLE Int.reduceAdd Int.reduceSub Int.reduceNeg decide_true decide_false Option.bind_some Bool.or_true Bool.or_false Bool.true_or Bool.false_or
attribute [local go_sem ↓] reduceIte
set_option maxRecDepth 20000
set_option maxHeartbeats 2000000
theorem DiskAt.ext' {h h' : Heap} {d : Nat} {σ : DSt} {y : Lay} (hD : DiskAt h d σ y) (hx : Ext h h') : DiskAt h' d σ y := hD.ext (fun o ho => hx.2 o (hD.lt o ho)) hx.1
theorem again3_ok (ks : List (List UInt8)) (bl : List OneV) (bv : AV) (hh : Heap) (d : Nat) (σ : DSt) (y : Lay) (hD : DiskAt hh d σ y) {kk : Nat} (hB : Bnd σ kk) (hkk : kk ≤ 100) (hl : bl.length = ks.length) (hkl : ks.length ≤ 1000000) (hbv : PreC hh bv bl)
    (hr : ∀ i, i < ks.length → ∃ l, readS σ (ks.getD i default) = (some l, 0) ∧ HoldB hh (bl.getD i default).v l ∧ l.length ≤ 1000000000) (hbl : ∀ o, rowOf bv = some o → o < hh.next) (st : Nat) :
    Wp PA again3 { fr := [(9, .ptr d 0), (11, slv true false ks), (12, bv), (16, slv true false ks), (101, .bool false)], st := st, h := hh } (bodyQ [.slot 8] fun v _ => v = .bool true) := by
  have ev := hbv.ev
  have dt := hbv.dt
  simp (disch := omega) only [go_sem, again3, a5r28, ev, dt]
  refine Wp_loop (fun x : Nat × Nat × Heap => x.2.1 ≤ ks.length ∧ Ext hh x.2.2) (fun (t, i, hx) => { fr := [(9, .ptr d 0), (11, slv true false ks), (12, bv), (16, slv true false ks), (17, .int .i64 i)], st := t, h := hx }) (fun x => ks.length - x.2.1) (st, 0, hh) rfl ⟨Nat.zero_le _, Ext.refl _⟩ ?_
  rintro ⟨t, i, hx⟩ ⟨i1, i2⟩
  simp only at i1 i2
  simp (disch := omega) only [go_sem, a5l2, a5r29, ev, dt]
  refine condS_if (fun c => ?_) (fun c => ?_)
  · have hi : i < ks.length := by omega
    obtain ⟨l, r1, r2, r3⟩ := hr i hi
    have hDx := hD.ext' i2
    simp (disch := omega) only [go_sem, a5r30, ev, dt]
    refine WO.fun (vs := [.ptr d 0, strv (ks.getD i default)]) (by simp (disch := omega) only [go_sem]) (readD_fun PA_R.toDkP _ hx d σ y hDx (fun f hf => by have := hB.fl f hf; omega)) (fun v hy hv => ?_)
    obtain ⟨w, rfl, hbt, hxy⟩ := hv
    rw [r1] at hbt ⊢
    have hw : HoldB hy w l := by
      rcases hbt with ⟨e1, e2⟩ | ⟨o, ep, e1, e2, e3, e4⟩
      · exact Or.inl ⟨e1, e2⟩
      · exact Or.inr ⟨o, ep, e1, e3, e4⟩
    have hx2 := i2.trans hxy
    have hne : bl ≠ [] := fun e => by rw [e] at hl; simp at hl; omega
    obtain ⟨o, ep, j, rfl, hg⟩ := hbv.resolve_left (fun e => hne e.2)
    have hgy : hy.get o = some (.row 1 ep (bl.flatMap Cel.ccells ++ j)) := (hx2.2 o (hbl o rfl)).trans hg
    have hld := ld_pre (α := OneV) (l := bl) (j := j) (k := i) (by omega)
    have hcs : Cel.csz OneV = 1 := rfl
    obtain ⟨b, hb⟩ : ∃ b, bl.getD i default = b := ⟨_, rfl⟩
    have ce : Cel.ccells b = [b.v] := rfl
    rw [hcs, hb, ce] at hld
    rw [hb] at r2
    have hby : HoldB hy b.v l := r2.keep hx2.1 (fun o ho => hx2.2 o (by
      rcases r2 with ⟨e, -⟩ | ⟨o', ep, e, e2, -⟩
      · rw [e] at ho; simp [rowOf] at ho
      · rw [e] at ho
        obtain rfl : o' = o := Option.some.inj ho
        exact e2))
    have wev : ∀ i, evS i (some w) = some w := fun i => by rcases hw with ⟨rfl, -⟩ | ⟨o, ep, rfl, -⟩ <;> rfl
    have wdt : datW (some w) = some w := by rcases hw with ⟨rfl, -⟩ | ⟨o, ep, rfl, -⟩ <;> rfl
    have bev : ∀ i, evS i (some b.v) = some b.v := fun i => by rcases hby with ⟨e, -⟩ | ⟨o, ep, e, -⟩ <;> rw [e] <;> rfl
    have bdt : datW (some b.v) = some b.v := by rcases hby with ⟨e, -⟩ | ⟨o, ep, e, -⟩ <;> rw [e] <;> rfl
    simp (disch := omega) only [go_sem, wev, wdt]
    simp (disch := omega) only [go_sem, a5d31, wev, wdt, hcs, hgy, hld, bev, bdt]
    obtain ⟨n1, z1⟩ := hw.frz
    obtain ⟨n2, z2⟩ := hby.frz
    refine WD_den (k := 1) (vs := [w, b.v]) rfl (by simp (disch := omega) only [go_sem, wev, wdt, bev, bdt]) (R := fun v => v = .bool true) ?_ (fun v hv => by subst hv; rfl) (fun v hv => by subst hv; simp (disch := omega) only [go_sem]) (fun v hv => ?_)
    · simp only [lent_11, List.map_cons, List.map_nil, z1, z2]
      exact (same_den (P := PA) rfl l l n1 false n2 false (by omega) (by omega)).mono (fun v h => by rw [h]; simp)
    subst hv
    simp (disch := omega) only [go_sem, wev, wdt, bev, bdt]
    simp (disch := omega) only [go_sem, a5r33]
    exact ⟨(t + 1, i + 1, hy), ⟨by simp only; omega, hx2⟩, by simp only; omega, rfl⟩
  · simp (disch := omega) only [go_sem, a5r34, ev, dt]
    refine WO.fun (vs := []) (by simp (disch := omega) only [go_sem]) (awake_funA _) (fun v h' hv => ?_)
    obtain ⟨rfl, rfl⟩ := hv
    simp (disch := omega) only [go_sem]
end Go.Am.Dk
