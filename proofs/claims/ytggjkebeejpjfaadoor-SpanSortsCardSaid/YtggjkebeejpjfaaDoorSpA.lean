/- The span layer's functions, in plain Lean: Check, of the program and of the document. -/
import Derived.Test.YtggjkebeejpjfaaDoorSpCode
import Derived.Test.YtggjkebeejpjfaaDoorSpDefs
set_option linter.unusedSimpArgs false
set_option linter.unusedVariables false
namespace Go.Am.Sp
open Go.Am
structure SpP (P : Prog) : Prop where
  fn : P.fn = code
  pure : ∀ n, n ≠ 17 → P.pure n = pures n
variable {P : Prog}
set_option maxHeartbeats 1000000
theorem check_den (hP : SpP P) (n : Int) (l : List Edit) (nl full : Bool) (hl : l.length ≤ 9223372036854775807) : Den P 13 [.int .i64 n, slv nl full l] (fun v => v = .int .i64 (chkE n l)) := by
  refine Den.of (code := a13c) (by rw [hP.fn]; rfl) (fun N => ?_)
  simp (disch := omega) only [go_sem, ne_eq, not_true_eq_false, not_false_eq_true, ↓reduceIte, Nat.reduceEqDiff, Nat.reduceAdd, Nat.reduceLeDiff, Int.toNat_natCast, Int.reduceToNat, and_self, Bool.not_true, Bool.not_false, Bool.false_and, Bool.and_false, Bool.true_and, Bool.and_true, a13c, a13r0, a13r1]
  refine condS_if (fun h => ?_) (fun h => ?_)
  · simp (disch := omega) only [go_sem, ne_eq, not_true_eq_false, not_false_eq_true, ↓reduceIte, Nat.reduceEqDiff, Nat.reduceAdd, Nat.reduceLeDiff, Int.toNat_natCast, Int.reduceToNat, and_self, Bool.not_true, Bool.not_false, Bool.false_and, Bool.and_false, Bool.true_and, Bool.and_true, a13r2]
    rw [chkE, if_pos (by omega)]
  · simp (disch := omega) only [go_sem, ne_eq, not_true_eq_false, not_false_eq_true, ↓reduceIte, Nat.reduceEqDiff, Nat.reduceAdd, Nat.reduceLeDiff, Int.toNat_natCast, Int.reduceToNat, and_self, Bool.not_true, Bool.not_false, Bool.false_and, Bool.and_false, Bool.true_and, Bool.and_true, a13r3, a13r4]
    refine Wp_loop (fun x : Nat × Nat × Int × Int => x.2.1 ≤ l.length ∧ chk n x.2.2.1 x.2.2.2 (l.drop x.2.1) = chkE n l) (fun (t, k, to, fr) => { fr := [(0, .int .i64 n), (5, .int .i64 to), (6, .int .i64 fr), (12, slv nl full l), (13, .int .i64 l.length), (14, .int .i64 k)], st := t, h := { next := N, m := .leaf } }) (fun x => l.length - x.2.1) (0, 0, 0, -1) rfl ⟨by simp, by rw [chkE, if_neg (by omega)]; rfl⟩ ?_
    rintro ⟨t, k, to, fr⟩ ⟨h1, h2⟩
    simp only at h1 h2
    simp (disch := omega) only [go_sem, ne_eq, not_true_eq_false, not_false_eq_true, ↓reduceIte, Nat.reduceEqDiff, Nat.reduceAdd, Nat.reduceLeDiff, Int.toNat_natCast, Int.reduceToNat, and_self, Bool.not_true, Bool.not_false, Bool.false_and, Bool.and_false, Bool.true_and, Bool.and_true, a13l0, a13r5]
    refine condS_if (fun hk => ?_) (fun hk => ?_)
    · have hk' : k < l.length := by omega
      rw [chk_step _ _ _ _ _ hk'] at h2
      simp (disch := omega) only [go_sem, ne_eq, not_true_eq_false, not_false_eq_true, ↓reduceIte, Nat.reduceEqDiff, Nat.reduceAdd, Nat.reduceLeDiff, Int.toNat_natCast, Int.reduceToNat, and_self, Bool.not_true, Bool.not_false, Bool.false_and, Bool.and_false, Bool.true_and, Bool.and_true, a13r6, a13r7]
      refine guardS_f (fun c1 => ?_) (fun c1 => ?_) <;> simp (disch := omega) only [go_sem, ne_eq, not_true_eq_false, not_false_eq_true, ↓reduceIte, Nat.reduceEqDiff, Nat.reduceAdd, Nat.reduceLeDiff, Int.toNat_natCast, Int.reduceToNat, and_self, Bool.not_true, Bool.not_false, Bool.false_and, Bool.and_false, Bool.true_and, Bool.and_true, a13r8, c1] <;> simp only [decide_eq_true_eq, decide_eq_false_iff_not] at c1
      · refine guardS_f (fun c2 => ?_) (fun c2 => ?_) <;> simp (disch := omega) only [go_sem, ne_eq, not_true_eq_false, not_false_eq_true, ↓reduceIte, Nat.reduceEqDiff, Nat.reduceAdd, Nat.reduceLeDiff, Int.toNat_natCast, Int.reduceToNat, and_self, Bool.not_true, Bool.not_false, Bool.false_and, Bool.and_false, Bool.true_and, Bool.and_true, a13r8, c2] <;> simp only [decide_eq_true_eq, decide_eq_false_iff_not] at c2
        · refine guardS_f (fun c3 => ?_) (fun c3 => ?_) <;> simp (disch := omega) only [go_sem, ne_eq, not_true_eq_false, not_false_eq_true, ↓reduceIte, Nat.reduceEqDiff, Nat.reduceAdd, Nat.reduceLeDiff, Int.toNat_natCast, Int.reduceToNat, and_self, Bool.not_true, Bool.not_false, Bool.false_and, Bool.and_false, Bool.true_and, Bool.and_true, a13r8, c3] <;> simp only [decide_eq_true_eq, decide_eq_false_iff_not] at c3
          · refine condS_if (fun c4 => ?_) (fun c4 => ?_)
            · simp (disch := omega) only [go_sem, ne_eq, not_true_eq_false, not_false_eq_true, ↓reduceIte, Nat.reduceEqDiff, Nat.reduceAdd, Nat.reduceLeDiff, Int.toNat_natCast, Int.reduceToNat, and_self, Bool.not_true, Bool.not_false, Bool.false_and, Bool.and_false, Bool.true_and, Bool.and_true, a13r8]
              rw [← h2, if_pos (by simp only [c4, or_true])]
            · simp (disch := omega) only [go_sem, ne_eq, not_true_eq_false, not_false_eq_true, ↓reduceIte, Nat.reduceEqDiff, Nat.reduceAdd, Nat.reduceLeDiff, Int.toNat_natCast, Int.reduceToNat, and_self, Bool.not_true, Bool.not_false, Bool.false_and, Bool.and_false, Bool.true_and, Bool.and_true, a13d9, a13r10]
              rw [if_neg (by simp only [c1, c2, c3, c4, or_self, not_false_eq_true])] at h2
              exact ⟨(_, k + 1, _, _), ⟨by simp only; omega, h2⟩, by simp only; omega, rfl⟩
          · rw [← h2, if_pos (by simp only [c3, true_or, or_true])]
        · rw [← h2, if_pos (by simp only [c2, true_or, or_true])]
      · rw [← h2, if_pos (by simp only [c1, true_or])]
    · simp (disch := omega) only [go_sem, ne_eq, not_true_eq_false, not_false_eq_true, ↓reduceIte, Nat.reduceEqDiff, Nat.reduceAdd, Nat.reduceLeDiff, Int.toNat_natCast, Int.reduceToNat, and_self, Bool.not_true, Bool.not_false, Bool.false_and, Bool.and_false, Bool.true_and, Bool.and_true, a13r11]
      rw [← h2, List.drop_of_length_le (by omega)]; rfl
end Go.Am.Sp
