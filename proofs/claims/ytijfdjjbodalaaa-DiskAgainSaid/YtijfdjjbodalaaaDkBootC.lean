/- Boot: the files that have no name go; the names are those that are sure. -/
import Derived.Test.YtijfdjjbodalaaaDkBootB
import Derived.Test.YtijfdjjbodalaaaDkUsed
set_option linter.unusedSimpArgs false
set_option linter.unusedVariables false
namespace Go.Am.Dk
open Go.Am
attribute [local go_sem] ne_eq not_true_eq_false not_false_eq_true Nat.reduceEqDiff Nat.reduceAdd Nat.reduceLeDiff Int.toNat_natCast Int.reduceToNat and_self Bool.not_true Bool.not_false Bool.false_and Bool.and_false Bool.true_and Bool.and_true Int.reduceEq Int.reduceLT Int.reduceLE Int.reduceAdd Int.reduceSub Int.reduceNeg decide_true decide_false Option.bind_some Bool.or_true Bool.or_false Bool.true_or Bool.false_or
attribute [local go_sem ↓] reduceIte
set_option maxRecDepth 20000
set_option maxHeartbeats 2000000
variable {P : Prog}
theorem PU_P : DkP PU := ⟨fun _ _ _ _ _ => rfl, rfl, fun _ _ _ h => h, fun _ _ _ h => h, fun _ _ _ h => h⟩
theorem Fun.mono' {f : Nat} {args : List AV} {h : Heap} {R R' : AV → Heap → Prop} (hf : Fun P f args h R) (hr : ∀ v h', R v h' → R' v h') : Fun P f args h R' := by
  obtain ⟨n, v, h', e, q⟩ := hf
  exact ⟨n, v, h', e, hr v h' q⟩
def putO (h : Heap) : Option (Nat × AObj) → Nat → Option AObj
  | none, q => h.get q
  | some (o, x), q => if q = o then some x else h.get q
theorem idx_nil (hP : DkP P) (h : Heap) (hb : Nat) : Fun P 69 [.nils, .fn 52 [.ptr hb 0]] h (fun v h' => h' = h ∧ v = .int .i64 (-1)) := by
  refine Fun.of (code := a69c) (hP.code rfl) (by rw [hP.pure]; rfl) ?_
  simp (disch := omega) only [go_sem, a69c, a69r0]
  have lt1 : lenTag 1 .nils = true := rfl
  have ln1 : ∀ h, lenA h .nils = some 0 := fun _ => rfl
  simp (disch := omega) only [go_sem, a69r1, lt1, ln1, cond_true]
  refine Wp_unroll ?_
  have w0 : decide (((0 : Nat) : Int) > (0 : Int)) = false := rfl
  have w1 : decide ((0 : Int) < ((0 : Nat) : Int)) = false := rfl
  simp (disch := omega) only [go_sem, a69l0, a69r2, w0, w1]
  simp (disch := omega) only [go_sem, a69r7]
theorem del_nil (hP : DkP P) (h : Heap) (hb : Nat) : Fun P 51 [.nils, .fn 52 [.ptr hb 0]] h (fun v h' => v = .nils ∧ h' = h) := by
  refine Fun.of (code := a51c) (hP.code rfl) (by rw [hP.pure]; rfl) ?_
  simp (disch := omega) only [go_sem, a51c, a51r0]
  simp (disch := omega) only [go_sem, a51r1]
  refine WO.fun (vs := [.nils, .fn 52 [.ptr hb 0]]) (by simp (disch := omega) only [go_sem]) (idx_nil hP h hb) (fun v h' hv => ?_)
  obtain ⟨rfl, rfl⟩ := hv
  simp (disch := omega) only [go_sem]
  simp (disch := omega) only [go_sem, a51r2]
  simp (disch := omega) only [go_sem, a51r3]
theorem rowOf_hs (e o ep a n : Nat) (f : Bool) : rowOf (.hs e o ep a n f) = some o := rfl
theorem flat_fil (l : List Nat) : (l.map FilP.mk).flatMap Cel.ccells = l.map (fun f => AV.ptr f 0) := by
  rw [List.flatMap_map]
  induction l with
  | nil => rfl
  | cons a r ih => simp only [List.flatMap_cons, List.map_cons, ih]; rfl
theorem del_all (hP : DkP P) {h : Heap} {d : Nat} {σ : DSt} {y : Lay} (hD : DiskAt h d σ y) (hl : σ.all.length ≤ 1000000000) (p : Nat → Bool) :
    ∃ av' ro, (∀ q x, ro = some (q, x) → rowOf y.av = some q) ∧ (∀ h' : Heap, (∀ q, rowOf y.av = some q → h'.get q = putO h ro q) → PreC h' av' ((σ.all.filter p).map FilP.mk)) ∧ (∀ o, rowOf av' = some o → rowOf y.av = some o) ∧
      ∀ hh hb hm L, (∀ q, rowOf y.av = some q → hh.get q = h.get q) → HasAt hh hb hm L → (∀ f ∈ σ.all, f ∈ L ↔ p f = true) → (∀ f ∈ σ.all, liveP hh f 0 = true) → Fun P 51 [y.av, .fn 52 [.ptr hb 0]] hh (fun v h' => v = av' ∧ h'.next = hh.next ∧ ∀ q, h'.get q = putO hh ro q) := by
  rcases hD.all with ⟨hav, hnil⟩ | ⟨o, ep, j, hav, hg⟩
  · have h0 : σ.all = [] := by simpa using hnil
    refine ⟨.nils, none, fun q x e => by simp at e, fun h' _ => Or.inl ⟨rfl, by rw [h0]; rfl⟩, fun o ho => by simp [rowOf] at ho, fun hh hb hm L _ _ _ _ => ?_⟩
    rw [hav]
    exact Fun.mono' (del_nil hP hh hb) fun v h' hv => ⟨hv.1, by rw [hv.2], fun q => by rw [hv.2]; rfl⟩
  · rw [flat_fil] at hg
    have hln : (σ.all.map FilP.mk).length = σ.all.length := by simp
    have hcs : Cel.csz FilP = 1 := rfl
    rw [hcs] at hg
    rw [hcs, hln] at hav
    refine ⟨.hs 1 o ep 0 (σ.all.filter p).length false, some (o, .row 1 ep ((σ.all.filter p).map (fun f => AV.ptr f 0) ++ (List.replicate (σ.all.length - (σ.all.filter p).length) AV.nilp ++ j))), fun q x e => ?_, fun h' hh' => Or.inr ⟨o, ep, List.replicate (σ.all.length - (σ.all.filter p).length) AV.nilp ++ j, by simp; rfl, ?_⟩, fun q hq => by rw [hav]; exact hq, fun hh hb hm L hx hH hL hlv => ?_⟩
    · simp only [Option.some.injEq, Prod.mk.injEq] at e
      rw [hav, ← e.1]; rfl
    · rw [hh' o (by rw [hav]; rfl), flat_fil]
      simp only [putO, if_true]
      rfl
    · rw [hav]
      have hp : σ.all.filter p = σ.all.filter (fun f => decide (f ∈ L)) := List.filter_congr (fun f hf => by
        rw [Bool.eq_iff_iff, ← hL f hf]; simp)
      refine Fun.mono' (del_fun hP hh hb hm o ep σ.all L j hH ((hx o (by rw [hav]; rfl)).trans hg) hl hlv) fun v h' hv => ?_
      rw [hp]
      refine ⟨hv.1, hv.2.2.1, fun q => ?_⟩
      simp only [putO]
      split
      · rename_i e; rw [e]; exact hv.2.1
      · rename_i e; exact hv.2.2.2 q e
end Go.Am.Dk
