/- New of no files; what an act does, plainly. -/
import Derived.Test.YtijfdjjbodalaaaDkRefB
set_option linter.unusedSimpArgs false
set_option linter.unusedVariables false
namespace Go.Am.Dk
open Go.Am
attribute [local go_sem] ne_eq not_true_eq_false not_false_eq_true Nat.reduceEqDiff Nat.reduceAdd Nat.reduceLeDiff Int.toNat_natCast Int.reduceToNat and_self Bool.not_true Bool.not_false Bool.false_and Bool.and_false Bool.true_and Bool.and_true Int.reduceEq Int.reduceLT Int.reduceLE Int.reduceAdd Int.reduceSub Int.reduceNeg decide_true decide_false Option.bind_some Bool.or_true Bool.or_false Bool.true_or Bool.false_or
attribute [local go_sem ↓] reduceIte
set_option maxRecDepth 20000
set_option maxHeartbeats 1000000
variable {P : Prog}
def zeroS (cap : Int) : DSt := { cap := cap, names := [], sure := [], all := [], waits := [], dead := false, calls := 0, fuse := 0, fault := 0, e := 0, file := fun _ => default }
theorem new_nil (hP : DkP P) (h : Heap) (cap : Int) (hc : 0 ≤ cap ∧ cap ≤ 1048576) : Fun P 10 [.nils, .int .i64 cap] h (fun v h' => ∃ d y, v = .ptr d 0 ∧ DiskAt h' d (zeroS cap) y ∧ Ext h h' ∧ ∀ o, Own d (zeroS cap) y o → h.next ≤ o) := by
  refine Fun.of (code := a10c) (hP.code rfl) (by rw [hP.pure]; rfl) ?_
  have lt1 : lenTag 1 .nils = true := rfl
  have ln1 : ∀ h, lenA h .nils = some 0 := fun _ => rfl
  have w1 : decide (cap < 0) = false := by simp only [decide_eq_false_iff_not]; omega
  have w2 : decide (1048576 < cap) = false := by simp only [decide_eq_false_iff_not]; omega
  have w3 : decide ((64 : Int) < ((0 : Nat) : Int)) = false := rfl
  have w4 : decide ((0 : Int) < ((0 : Nat) : Int)) = false := rfl
  simp (disch := omega) only [go_sem, a10c, a10r0]
  simp (disch := omega) only [go_sem, a10r1, w1, w2, lt1, ln1, cond_true, w3]
  simp (disch := omega) only [go_sem, a10r3]
  simp (disch := omega) only [go_sem, a10r4, lt1, ln1, cond_true]
  refine Wp_unroll ?_
  simp (disch := omega) only [go_sem, a10l0, a10r5, w4]
  simp (disch := omega) only [go_sem, a10r13, get_put_same]
  have n01 : h.next ≠ h.next + 1 := by omega
  refine WO.fun (vs := [.mp h.next]) (by simp (disch := omega) only [go_sem]) (mclone_funP hP _ h.next [] [] 0 (by rw [get_put_ne _ _ _ _ n01, get_put_same])) (fun v h' hv => ?_)
  obtain ⟨rfl, rfl⟩ := hv
  have d1 : h.next + 1 ≠ h.next + 2 := by omega
  simp (disch := omega) only [go_sem, get_put_same, get_put_ne, d1, get_reserve]
  simp (disch := omega) only [go_sem, a10r14]
  refine ⟨h.next + 1, { m := h.next, m2 := h.next + 2, av := .nils, wv := .nils, bv := fun _ => .nils }, rfl, ?_, ⟨by show h.next ≤ h.next + 3; omega, fun i hi => by rw [get_put_ne _ _ _ _ (by omega), get_put_ne _ _ _ _ (by show i ≠ h.next + 2; omega), get_reserve, get_put_ne _ _ _ _ (by omega), get_put_ne _ _ _ _ (by omega), get_reserve]⟩, ?_⟩
  · refine { ok := ⟨fun p hp => by simp [zeroS] at hp, fun p hp => by simp [zeroS] at hp, fun p hp => by simp [zeroS] at hp, List.nodup_nil, List.nodup_nil, List.nodup_nil⟩, disk := get_put_same _ _ _, names := ⟨[], 0, ?_, ⟨rfl, List.nodup_nil, fun b hb => by simp at hb⟩⟩, sure := ⟨[], 0, ?_, ⟨rfl, List.nodup_nil, fun b hb => by simp at hb⟩⟩, all := Or.inl ⟨rfl, rfl⟩, waits := Or.inl ⟨rfl, rfl⟩, cell := fun f hf => by simp [zeroS] at hf, bytes := fun f hf => by simp [zeroS] at hf, mm := by simp only; omega, bb := fun f hf => by simp [zeroS] at hf, ab := fun f hf => by simp [zeroS] at hf, wb := fun f hf => by simp [zeroS] at hf, aw := fun o ho => by simp [rowOf] at ho, lt := ?_ }
    · rw [get_put_ne _ _ _ _ (by simp only; omega), get_put_ne _ _ _ _ (by simp only; show h.next ≠ h.next + 2; omega), get_reserve, get_put_ne _ _ _ _ (by simp only; omega), get_put_same]
      rfl
    · rw [get_put_ne _ _ _ _ (by simp only; omega)]
      exact get_put_same _ _ _
    · rintro o (h1 | h1 | h1 | h1 | h1 | ⟨f, hf, h1⟩)
      · show o < h.next + 3; omega
      · show o < h.next + 3; simp only at h1; omega
      · show o < h.next + 3; simp only at h1; omega
      · simp [rowOf] at h1
      · simp [rowOf] at h1
      · simp [zeroS] at hf
  · rintro o (h1 | h1 | h1 | h1 | h1 | ⟨f, hf, h1⟩)
    · omega
    · simp only at h1; omega
    · simp only at h1; omega
    · simp [rowOf] at h1
    · simp [rowOf] at h1
    · simp [zeroS] at hf
end Go.Am.Dk
