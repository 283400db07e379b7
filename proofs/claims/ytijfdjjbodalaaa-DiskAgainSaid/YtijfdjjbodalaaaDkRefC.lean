/- Fault; of the document's disk, an empty one: Arm, SetFault, Boot. -/
import Derived.Test.YtijfdjjbodalaaaDkRefB
set_option linter.unusedSimpArgs false
set_option linter.unusedVariables false
namespace Go.Am.Dk
open Go.Am
attribute [local go_sem] ne_eq not_true_eq_false not_false_eq_true Nat.reduceEqDiff Nat.reduceAdd Nat.reduceLeDiff Int.toNat_natCast Int.reduceToNat and_self Bool.not_true Bool.not_false Bool.false_and Bool.and_false Bool.true_and Bool.and_true Int.reduceEq Int.reduceLT Int.reduceLE Int.reduceAdd Int.reduceSub Int.reduceNeg decide_true decide_false Option.bind_some Bool.or_true Bool.or_false Bool.true_or Bool.false_or
attribute [local go_sem ↓] reduceIte
set_option maxRecDepth 20000
set_option maxHeartbeats 1000000
variable {P : Prog}
def armS (n : Int) : Int := if n < 1 ∨ 1099511627776 < n then 0 else n
theorem armR_fun (hP : DkP P) (n : Int) (h : Heap) : Fun P 46 [.int .i64 n] h (fun v h' => v = .int .i64 (armS n) ∧ h' = h) := by
  refine Fun.of (code := a46c) (hP.code rfl) (by rw [hP.pure]; rfl) ?_
  unfold armS
  simp (disch := omega) only [go_sem, a46c, a46r0, a46r1]
  refine guardS_pf (fun c w => ?_) (fun c w => ?_) <;> simp (disch := omega) only [go_sem, w]
  · refine condS_if (fun c2 => ?_) (fun c2 => ?_)
    · simp (disch := omega) only [go_sem, a46r2]
      rw [if_pos (Or.inr c2)]
      exact ⟨rfl, trivial⟩
    · simp (disch := omega) only [go_sem, a46r3]
      rw [if_neg (by omega)]
      exact ⟨rfl, trivial⟩
  · simp (disch := omega) only [go_sem, a46r2]
    rw [if_pos (Or.inl c)]
    exact ⟨rfl, trivial⟩
def faultS (σ : DSt) (n e : Int) : DSt := { σ with fault := if e = 0 ∨ e = 9 then 0 else aheadS σ n, e := e }
theorem faultD_fun (hP : DkP P) (n e : Int) (h : Heap) (d : Nat) (σ : DSt) (y : Lay) (hD : DiskAt h d σ y) (h1 : 0 ≤ σ.calls) (h2 : σ.calls < 8000000000000000000) : Fun P 30 [.ptr d 0, .int .i64 n, .int .i64 e] h (fun v h' => Step h h' d σ y (faultS σ n e) y) := by
  have hd := hD.disk
  simp only [DSt.cells] at hd
  refine Fun.of (code := a30c) (hP.code rfl) (by rw [hP.pure]; rfl) ?_
  simp (disch := omega) only [go_sem, a30c, a30r0]
  simp (disch := omega) only [go_sem, a30r1]
  refine WO.fun (vs := [.ptr d 0, .int .i64 n]) (by simp (disch := omega) only [go_sem]) (aheadD_fun hP n h d σ y hD h1 h2) (fun v h' hv => ?_)
  obtain ⟨rfl, rfl⟩ := hv
  simp (disch := omega) only [go_sem, hd, get_put_same]
  simp (disch := omega) only [go_sem, a30r2]
  have fin : ∀ h2 : Heap, h2.get d = some (.cells ((faultS σ n e).cells y)) → (∀ o, o ≠ d → h2.get o = h'.get o) → h2.next = h'.next → Step h' h2 d σ y (faultS σ n e) y := fun h2 g1 g2 g3 =>
    Step.only (hD.turn g1 (fun o _ ho => g2 o ho) (Nat.le_of_eq g3.symm) rfl rfl rfl rfl rfl) g3 g2 rfl
  have e1 : ∀ a, (faultS σ n e).cells y = [.int .i64 σ.cap, .mp y.m, .mp y.m2, y.av, y.wv, .bool σ.dead, .int .i64 σ.calls, .int .i64 σ.fuse, .int .i64 a, .int .i64 e] ↔ (if e = 0 ∨ e = 9 then 0 else aheadS σ n) = a := fun a => by
    unfold faultS DSt.cells
    simp
  refine guardS_pf (fun c w => ?_) (fun c w => ?_) <;> simp (disch := omega) only [go_sem, w]
  · refine condS_if (fun c2 => ?_) (fun c2 => ?_)
    · simp (disch := omega) only [go_sem, a30r3, get_put_same]
      refine fin _ (by rw [get_put_same, (e1 0).2 (if_pos (Or.inr c2))]) (fun o ho => ?_) rfl
      simp only [get_put_ne _ _ _ _ ho]
    · simp (disch := omega) only [go_sem]
      refine fin _ (by rw [get_put_same, (e1 _).2 (if_neg (by omega))]) (fun o ho => ?_) rfl
      simp only [get_put_ne _ _ _ _ ho]
  · simp (disch := omega) only [go_sem, a30r3, get_put_same]
    refine fin _ (by rw [get_put_same, (e1 0).2 (if_pos (Or.inl c))]) (fun o ho => ?_) rfl
    simp only [get_put_ne _ _ _ _ ho]
def Only (h : Heap) (x : Nat) (h' : Heap) : Prop := h.next ≤ h'.next ∧ ∀ o, o < h.next → o ≠ x → h'.get o = h.get o
theorem setFaultR_fun (hP : DkP P) (n e : Int) (h : Heap) (x : Nat) (hx : h.get x = some (.cells (refC 0))) : Fun P 47 [.ptr x 0, .int .i64 n, .int .i64 e] h (fun v h' => Only h x h') := by
  unfold refC at hx
  refine Fun.of (code := a47c) (hP.code rfl) (by rw [hP.pure]; rfl) ?_
  simp (disch := omega) only [go_sem, a47c, a47r0]
  refine WO.fun (vs := [.int .i64 n]) (by simp (disch := omega) only [go_sem]) (armR_fun hP n h) (fun v h' hv => ?_)
  obtain ⟨rfl, rfl⟩ := hv
  simp (disch := omega) only [go_sem, hx]
  simp (disch := omega) only [go_sem, a47r1, get_put_same]
  simp (disch := omega) only [go_sem, a47r2]
  have fin : ∀ a b c, Only h' x (((h'.put x a).put x b).put x c) := fun a b c => ⟨Nat.le_refl _, fun o h1 h2 => by rw [get_put_ne _ _ _ _ h2, get_put_ne _ _ _ _ h2, get_put_ne _ _ _ _ h2]⟩
  have fin2 : ∀ a b, Only h' x ((h'.put x a).put x b) := fun a b => ⟨Nat.le_refl _, fun o h1 h2 => by rw [get_put_ne _ _ _ _ h2, get_put_ne _ _ _ _ h2]⟩
  refine guardS_pf (fun c w => ?_) (fun c w => ?_) <;> simp (disch := omega) only [go_sem, w]
  · refine condS_if (fun c2 => ?_) (fun c2 => ?_)
    · simp (disch := omega) only [go_sem, a47r3, get_put_same]
      exact fin _ _ _
    · simp (disch := omega) only [go_sem]
      exact fin2 _ _
  · simp (disch := omega) only [go_sem, a47r3, get_put_same]
    exact fin _ _ _
theorem bootR_fun (hP : DkP P) (n : Int) (kv : AV) (h : Heap) (x : Nat) (hx : h.get x = some (.cells (refC 0))) : Fun P 48 [.ptr x 0, .int .i64 n, kv] h (fun v h' => v = .int .i64 1 ∧ h' = h) := by
  unfold refC at hx
  refine Fun.of (code := a48c) (hP.code rfl) (by rw [hP.pure]; rfl) ?_
  simp (disch := omega) only [go_sem, a48c, a48r0]
  simp (disch := omega) only [go_sem, a48r1, hx]
  simp (disch := omega) only [go_sem, a48r2]
end Go.Am.Dk
