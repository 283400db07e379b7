/- The document's disk, an empty one: what is done with it ends. -/
import Derived.Test.YtijfdjjbodalaaaDkBootG
set_option linter.unusedSimpArgs false
set_option linter.unusedVariables false
namespace Go.Am.Dk
open Go.Am
attribute [local go_sem] ne_eq not_true_eq_false not_false_eq_true Nat.reduceEqDiff Nat.reduceAdd Nat.reduceLeDiff Int.toNat_natCast Int.reduceToNat and_self Bool.not_true Bool.not_false Bool.false_and Bool.and_false Bool.true_and Bool.and_true Int.reduceEq Int.reduceLT Int.reduceLE Int.reduceAdd Int.reduceSub Int.reduceNeg decide_true decide_false Option.bind_some Bool.or_true Bool.or_false Bool.true_or Bool.false_or
attribute [local go_sem ↓] reduceIte
set_option maxRecDepth 20000
set_option maxHeartbeats 1000000
variable {P : Prog}
def refC (n : Int) : List AV := [.nils, .nils, .nils, .nils, .int .i64 0, .bool false, .int .i64 n, .int .i64 0, .int .i64 0, .int .i64 0]
def RefEnds (h : Heap) (x : Nat) (v : AV) (h' : Heap) : Prop := (∃ n : Int, v = .int .i64 n) ∧ h.next ≤ h'.next ∧ ∀ o, o < h.next → o ≠ x → h'.get o = h.get o
theorem beginR_fun (hP : DkP P) (h : Heap) (x : Nat) (hx : h.get x = some (.cells (refC 0))) : Fun P 64 [.ptr x 0] h (fun v h' => v = .int .i64 0 ∧ h' = h.put x (.cells (refC 1))) := by
  unfold refC at *
  refine Fun.of (code := a64c) (hP.code rfl) (by rw [hP.pure]; rfl) ?_
  simp (disch := omega) only [go_sem, a64c, a64r0]
  simp (disch := omega) only [go_sem, a64r1, hx]
  simp (disch := omega) only [go_sem, a64r3, hx]
  simp (disch := omega) only [go_sem, a64r4, get_put_same]
  simp (disch := omega) only [go_sem, a64r5, get_put_same]
  simp (disch := omega) only [go_sem, a64r6, get_put_same]
  simp (disch := omega) only [go_sem, a64r8, get_put_same]
  simp (disch := omega) only [go_sem, a64r10]
  simp (disch := omega) only [go_sem, a64r13]
  simp (disch := omega) only [go_sem, a64r15]
theorem findR_nil (hP : DkP P) (s : List UInt8) (h : Heap) : Fun P 55 [.nils, strv s] h (fun v h' => v = .int .i64 (-1) ∧ h' = h) := by
  refine Fun.of (code := a55c) (hP.code rfl) (by rw [hP.pure]; rfl) ?_
  have lt1 : lenTag 1 .nils = true := rfl
  have ln1 : ∀ h, lenA h .nils = some 0 := fun _ => rfl
  have w1 : decide ((0 : Int) < ((0 : Nat) : Int)) = false := rfl
  simp (disch := omega) only [go_sem, a55c, a55r0]
  simp (disch := omega) only [go_sem, a55r1]
  refine Wp_unroll ?_
  simp (disch := omega) only [go_sem, a55l0, a55r2, lt1, ln1, cond_true, w1]
  simp (disch := omega) only [go_sem, a55r6]
theorem nameR_den (hP : DkP P) (s : List UInt8) (hl : s.length ≤ 9223372036854775807) : Den P 29 [strv s] (fun v => ∃ b, v = .bool b) := by
  refine Den.of (code := a29c) (hP.code rfl) (fun N => ?_)
  simp (disch := omega) only [go_sem, a29c, a29r0]
  simp (disch := omega) only [go_sem, a29r1]
  refine Wp_loop (fun x : Nat × Nat => x.2 ≤ s.length) (fun (t, k) => { fr := [(0, strv s), (3, .int .i64 k)], st := t, h := { next := N, m := .leaf } }) (fun x => s.length - x.2) (0, 0) rfl (by simp) ?_
  rintro ⟨t, k⟩ h1
  simp only at h1
  simp (disch := omega) only [go_sem, a29l0, a29r2]
  refine condS_if (fun hk => ?_) (fun hk => ?_)
  · simp (disch := omega) only [go_sem, a29r3]
    simp (disch := omega) only [go_sem, a29r4]
    repeat' (first | (refine guardS_split (fun w => ?_) (fun w => ?_) <;> simp (disch := omega) only [go_sem, w]) | (refine condS_split (fun w => ?_) (fun w => ?_) <;> simp (disch := omega) only [go_sem, w]))
    all_goals first
      | (simp (disch := omega) only [go_sem, a29r6]
         exact ⟨(t, k + 1), by simp only; omega, by simp only; omega, rfl⟩)
      | (simp (disch := omega) only [go_sem, a29r5]
         exact ⟨_, rfl⟩)
  · simp (disch := omega) only [go_sem, a29r7]
    repeat' (refine guardS_split (fun w => ?_) (fun w => ?_) <;> simp (disch := omega) only [go_sem, w])
    all_goals exact ⟨_, rfl⟩
theorem ends_put (h : Heap) (x : Nat) (o : AObj) (n : Int) : RefEnds h x (.int .i64 n) (h.put x o) := ⟨⟨n, rfl⟩, Nat.le_refl _, fun q _ hq => get_put_ne _ _ _ _ hq⟩
theorem syncdirR_fun (hP : DkP P) (h : Heap) (x : Nat) (hx : h.get x = some (.cells (refC 0))) : Fun P 43 [.ptr x 0] h (RefEnds h x) := by
  refine Fun.of (code := a43c) (hP.code rfl) (by rw [hP.pure]; rfl) ?_
  simp (disch := omega) only [go_sem, a43c, a43r0]
  simp (disch := omega) only [go_sem, a43r1]
  refine WO.fun (vs := [.ptr x 0]) (by simp (disch := omega) only [go_sem]) (beginR_fun hP h x hx) (fun v h' hv => ?_)
  obtain ⟨rfl, rfl⟩ := hv
  unfold refC
  simp (disch := omega) only [go_sem, a43r2]
  simp (disch := omega) only [go_sem, a43r4, get_put_same]
  simp (disch := omega) only [go_sem, a43r5, get_put_same]
  simp (disch := omega) only [go_sem, a43r6]
  exact ⟨⟨_, rfl⟩, Nat.le_refl _, fun q _ hq => by rw [get_put_ne _ _ _ _ hq, get_put_ne _ _ _ _ hq, get_put_ne _ _ _ _ hq]⟩
theorem appendR_fun (hP : DkP P) (s : List UInt8) (b : AV) (h : Heap) (x : Nat) (hx : h.get x = some (.cells (refC 0))) (hb : ∀ i, evS i (some b) = some b) : Fun P 41 [.ptr x 0, strv s, b] h (RefEnds h x) := by
  refine Fun.of (code := a41c) (hP.code rfl) (by rw [hP.pure]; rfl) ?_
  simp (disch := omega) only [go_sem, a41c, a41r0]
  simp (disch := omega) only [go_sem, a41r1]
  refine WO.fun (vs := [.ptr x 0]) (by simp (disch := omega) only [go_sem]) (beginR_fun hP h x hx) (fun v h' hv => ?_)
  obtain ⟨rfl, rfl⟩ := hv
  unfold refC
  simp (disch := omega) only [go_sem, a41r2]
  simp (disch := omega) only [go_sem, a41r4, get_put_same]
  refine WO.fun (vs := [.nils, strv s]) (by simp (disch := omega) only [go_sem]) (findR_nil hP s _) (fun v h' hv => ?_)
  obtain ⟨rfl, rfl⟩ := hv
  simp (disch := omega) only [go_sem, a41r5]
  simp (disch := omega) only [go_sem, a41r6]
  exact ends_put _ _ _ _
theorem syncR_fun (hP : DkP P) (s : List UInt8) (h : Heap) (x : Nat) (hx : h.get x = some (.cells (refC 0))) : Fun P 42 [.ptr x 0, strv s] h (RefEnds h x) := by
  refine Fun.of (code := a42c) (hP.code rfl) (by rw [hP.pure]; rfl) ?_
  simp (disch := omega) only [go_sem, a42c, a42r0]
  simp (disch := omega) only [go_sem, a42r1]
  refine WO.fun (vs := [.ptr x 0]) (by simp (disch := omega) only [go_sem]) (beginR_fun hP h x hx) (fun v h' hv => ?_)
  obtain ⟨rfl, rfl⟩ := hv
  unfold refC
  simp (disch := omega) only [go_sem, a42r2]
  simp (disch := omega) only [go_sem, a42r4, get_put_same]
  refine WO.fun (vs := [.nils, strv s]) (by simp (disch := omega) only [go_sem]) (findR_nil hP s _) (fun v h' hv => ?_)
  obtain ⟨rfl, rfl⟩ := hv
  simp (disch := omega) only [go_sem, a42r5]
  simp (disch := omega) only [go_sem, a42r6]
  exact ends_put _ _ _ _
theorem renameR_fun (hP : DkP P) (s t : List UInt8) (h : Heap) (x : Nat) (hx : h.get x = some (.cells (refC 0))) : Fun P 44 [.ptr x 0, strv s, strv t] h (RefEnds h x) := by
  refine Fun.of (code := a44c) (hP.code rfl) (by rw [hP.pure]; rfl) ?_
  simp (disch := omega) only [go_sem, a44c, a44r0]
  simp (disch := omega) only [go_sem, a44r1]
  refine WO.fun (vs := [.ptr x 0]) (by simp (disch := omega) only [go_sem]) (beginR_fun hP h x hx) (fun v h' hv => ?_)
  obtain ⟨rfl, rfl⟩ := hv
  unfold refC
  simp (disch := omega) only [go_sem, a44r2]
  simp (disch := omega) only [go_sem, a44r4, get_put_same]
  refine WO.fun (vs := [.nils, strv s]) (by simp (disch := omega) only [go_sem]) (findR_nil hP s _) (fun v h' hv => ?_)
  obtain ⟨rfl, rfl⟩ := hv
  simp (disch := omega) only [go_sem]
  simp (disch := omega) only [go_sem, a44r5]
  exact ends_put _ _ _ _
theorem removeR_fun (hP : DkP P) (s : List UInt8) (h : Heap) (x : Nat) (hx : h.get x = some (.cells (refC 0))) : Fun P 45 [.ptr x 0, strv s] h (RefEnds h x) := by
  refine Fun.of (code := a45c) (hP.code rfl) (by rw [hP.pure]; rfl) ?_
  simp (disch := omega) only [go_sem, a45c, a45r0]
  simp (disch := omega) only [go_sem, a45r1]
  refine WO.fun (vs := [.ptr x 0]) (by simp (disch := omega) only [go_sem]) (beginR_fun hP h x hx) (fun v h' hv => ?_)
  obtain ⟨rfl, rfl⟩ := hv
  unfold refC
  simp (disch := omega) only [go_sem, a45r2]
  simp (disch := omega) only [go_sem, a45r4, get_put_same]
  refine WO.fun (vs := [.nils, strv s]) (by simp (disch := omega) only [go_sem]) (findR_nil hP s _) (fun v h' hv => ?_)
  obtain ⟨rfl, rfl⟩ := hv
  simp (disch := omega) only [go_sem]
  simp (disch := omega) only [go_sem, a45r5]
  exact ends_put _ _ _ _
end Go.Am.Dk
