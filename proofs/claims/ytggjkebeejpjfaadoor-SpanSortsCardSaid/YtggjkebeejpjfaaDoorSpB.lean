/- The document's Check, in plain Lean. -/
import Derived.Test.YtggjkebeejpjfaaDoorSpA
set_option linter.unusedSimpArgs false
set_option linter.unusedVariables false
namespace Go.Am.Sp
open Go.Am
variable {P : Prog}
def toAt (l : List Edit) : Nat → Int
  | 0 => 0
  | k + 1 => (l.getD k default).t
def frAt (l : List Edit) : Nat → Int
  | 0 => -1
  | k + 1 => (l.getD k default).f
set_option maxHeartbeats 1000000
theorem refcheck_den (hP : SpP P) (n : Int) (l : List Edit) (nl full : Bool) (hl : l.length ≤ 9223372036854775807) : Den P 12 [.int .i64 n, slv nl full l] (fun v => v = .int .i64 (chkE n l)) := by
  refine Den.of (code := a12c) (by rw [hP.fn]; rfl) (fun N => ?_)
  simp (disch := omega) only [go_sem, ne_eq, not_true_eq_false, not_false_eq_true, ↓reduceIte, Nat.reduceEqDiff, Nat.reduceAdd, Nat.reduceLeDiff, Int.toNat_natCast, Int.reduceToNat, and_self, Bool.not_true, Bool.not_false, Bool.false_and, Bool.and_false, Bool.true_and, Bool.and_true, a12c, a12r0, a12r1]
  refine condS_if (fun h => ?_) (fun h => ?_)
  · simp (disch := omega) only [go_sem, ne_eq, not_true_eq_false, not_false_eq_true, ↓reduceIte, Nat.reduceEqDiff, Nat.reduceAdd, Nat.reduceLeDiff, Int.toNat_natCast, Int.reduceToNat, and_self, Bool.not_true, Bool.not_false, Bool.false_and, Bool.and_false, Bool.true_and, Bool.and_true, a12r2]
    rw [chkE, if_pos (by omega)]
  · simp (disch := omega) only [go_sem, ne_eq, not_true_eq_false, not_false_eq_true, ↓reduceIte, Nat.reduceEqDiff, Nat.reduceAdd, Nat.reduceLeDiff, Int.toNat_natCast, Int.reduceToNat, and_self, Bool.not_true, Bool.not_false, Bool.false_and, Bool.and_false, Bool.true_and, Bool.and_true, a12r3]
    refine Wp_loop (fun x : Nat × Nat => x.2 ≤ l.length ∧ 0 ≤ toAt l x.2 ∧ chk n (toAt l x.2) (frAt l x.2) (l.drop x.2) = chkE n l) (fun (t, k) => { fr := [(0, .int .i64 n), (1, slv nl full l), (5, .int .i64 k)], st := t, h := { next := N, m := .leaf } }) (fun x => l.length - x.2) (0, 0) rfl ⟨by simp, by simp [toAt], by rw [chkE, if_neg (by omega)]; rfl⟩ ?_
    rintro ⟨t, k⟩ ⟨h1, h0, h2⟩
    simp only at h1 h2 h0
    simp (disch := omega) only [go_sem, ne_eq, not_true_eq_false, not_false_eq_true, ↓reduceIte, Nat.reduceEqDiff, Nat.reduceAdd, Nat.reduceLeDiff, Int.toNat_natCast, Int.reduceToNat, and_self, Bool.not_true, Bool.not_false, Bool.false_and, Bool.and_false, Bool.true_and, Bool.and_true, a12l0, a12r4]
    refine condS_if (fun hk => ?_) (fun hk => ?_)
    · have hk' : k < l.length := by omega
      rw [chk_step _ _ _ _ _ hk'] at h2
      simp (disch := omega) only [go_sem, ne_eq, not_true_eq_false, not_false_eq_true, ↓reduceIte, Nat.reduceEqDiff, Nat.reduceAdd, Nat.reduceLeDiff, Int.toNat_natCast, Int.reduceToNat, and_self, Bool.not_true, Bool.not_false, Bool.false_and, Bool.and_false, Bool.true_and, Bool.and_true, a12d5]
      refine dguardS_f (fun c1 => ?_) (fun c1 => ?_) <;> simp (disch := omega) only [go_sem, ne_eq, not_true_eq_false, not_false_eq_true, ↓reduceIte, Nat.reduceEqDiff, Nat.reduceAdd, Nat.reduceLeDiff, Int.toNat_natCast, Int.reduceToNat, and_self, Bool.not_true, Bool.not_false, Bool.false_and, Bool.and_false, Bool.true_and, Bool.and_true, c1] <;> simp only [decide_eq_true_eq, decide_eq_false_iff_not] at c1
      · refine dguardS_f (fun c2 => ?_) (fun c2 => ?_) <;> simp (disch := omega) only [go_sem, ne_eq, not_true_eq_false, not_false_eq_true, ↓reduceIte, Nat.reduceEqDiff, Nat.reduceAdd, Nat.reduceLeDiff, Int.toNat_natCast, Int.reduceToNat, and_self, Bool.not_true, Bool.not_false, Bool.false_and, Bool.and_false, Bool.true_and, Bool.and_true, c2] <;> simp only [decide_eq_true_eq, decide_eq_false_iff_not] at c2
        · refine condS_if (fun c3 => ?_) (fun c3 => ?_)
          · simp (disch := omega) only [go_sem, ne_eq, not_true_eq_false, not_false_eq_true, ↓reduceIte, Nat.reduceEqDiff, Nat.reduceAdd, Nat.reduceLeDiff, Int.toNat_natCast, Int.reduceToNat, and_self, Bool.not_true, Bool.not_false, Bool.false_and, Bool.and_false, Bool.true_and, Bool.and_true, a12r6]
            rw [← h2, if_pos (by simp only [c3, or_true])]
          · simp (disch := omega) only [go_sem, ne_eq, not_true_eq_false, not_false_eq_true, ↓reduceIte, Nat.reduceEqDiff, Nat.reduceAdd, Nat.reduceLeDiff, Int.toNat_natCast, Int.reduceToNat, and_self, Bool.not_true, Bool.not_false, Bool.false_and, Bool.and_false, Bool.true_and, Bool.and_true, a12d7]
            have hk1 : ((k : Int) - 1).toNat = k - 1 := by omega
            have hk2 : ∀ m, k = m + 1 → m = k - 1 := by omega
            refine dguardS_pt (fun c4 d4 => ?_) (fun c4 d4 => ?_) <;> simp (disch := omega) only [go_sem, ne_eq, not_true_eq_false, not_false_eq_true, ↓reduceIte, Nat.reduceEqDiff, Nat.reduceAdd, Nat.reduceLeDiff, Int.toNat_natCast, Int.reduceToNat, and_self, Bool.not_true, Bool.not_false, Bool.false_and, Bool.and_false, Bool.true_and, Bool.and_true, d4, hk1, a12r9]
            · have e1 : toAt l k = (l.getD (k - 1) default).t := by cases k with | zero => omega | succ k => rfl
              have e2 : frAt l k = (l.getD (k - 1) default).f := by cases k with | zero => omega | succ k => rfl
              refine dguardS_pf (fun c5 d5 => ?_) (fun c5 d5 => ?_) <;> simp (disch := omega) only [go_sem, ne_eq, not_true_eq_false, not_false_eq_true, ↓reduceIte, Nat.reduceEqDiff, Nat.reduceAdd, Nat.reduceLeDiff, Int.toNat_natCast, Int.reduceToNat, and_self, Bool.not_true, Bool.not_false, Bool.false_and, Bool.and_false, Bool.true_and, Bool.and_true, d5, hk1, a12r9]
              · refine condS_if (fun c6 => ?_) (fun c6 => ?_)
                · simp (disch := omega) only [go_sem, ne_eq, not_true_eq_false, not_false_eq_true, ↓reduceIte, Nat.reduceEqDiff, Nat.reduceAdd, Nat.reduceLeDiff, Int.toNat_natCast, Int.reduceToNat, and_self, Bool.not_true, Bool.not_false, Bool.false_and, Bool.and_false, Bool.true_and, Bool.and_true, a12r8]
                  rw [← h2, if_pos (by right; left; omega)]
                · simp (disch := omega) only [go_sem, ne_eq, not_true_eq_false, not_false_eq_true, ↓reduceIte, Nat.reduceEqDiff, Nat.reduceAdd, Nat.reduceLeDiff, Int.toNat_natCast, Int.reduceToNat, and_self, Bool.not_true, Bool.not_false, Bool.false_and, Bool.and_false, Bool.true_and, Bool.and_true, a12r9]
                  rw [if_neg (by omega)] at h2
                  exact ⟨(_, k + 1), ⟨by simp only; omega, by simp only [toAt]; omega, h2⟩, by simp only; omega, rfl⟩
              · simp (disch := omega) only [go_sem, ne_eq, not_true_eq_false, not_false_eq_true, ↓reduceIte, Nat.reduceEqDiff, Nat.reduceAdd, Nat.reduceLeDiff, Int.toNat_natCast, Int.reduceToNat, and_self, Bool.not_true, Bool.not_false, Bool.false_and, Bool.and_false, Bool.true_and, Bool.and_true, a12r8]
                rw [← h2, if_pos (by left; omega)]
            · obtain rfl : k = 0 := by omega
              rw [if_neg (by simp only [toAt, frAt]; omega)] at h2
              exact ⟨(_, 0 + 1), ⟨by simp only; omega, by simp only [toAt]; omega, h2⟩, by simp only; omega, rfl⟩
        · simp (disch := omega) only [go_sem, ne_eq, not_true_eq_false, not_false_eq_true, ↓reduceIte, Nat.reduceEqDiff, Nat.reduceAdd, Nat.reduceLeDiff, Int.toNat_natCast, Int.reduceToNat, and_self, Bool.not_true, Bool.not_false, Bool.false_and, Bool.and_false, Bool.true_and, Bool.and_true, a12r6]
          rw [← h2, if_pos (by simp only [c2, true_or, or_true])]
      · simp (disch := omega) only [go_sem, ne_eq, not_true_eq_false, not_false_eq_true, ↓reduceIte, Nat.reduceEqDiff, Nat.reduceAdd, Nat.reduceLeDiff, Int.toNat_natCast, Int.reduceToNat, and_self, Bool.not_true, Bool.not_false, Bool.false_and, Bool.and_false, Bool.true_and, Bool.and_true, a12r6]
        rw [← h2, if_pos (by left; omega)]
    · simp (disch := omega) only [go_sem, ne_eq, not_true_eq_false, not_false_eq_true, ↓reduceIte, Nat.reduceEqDiff, Nat.reduceAdd, Nat.reduceLeDiff, Int.toNat_natCast, Int.reduceToNat, and_self, Bool.not_true, Bool.not_false, Bool.false_and, Bool.and_false, Bool.true_and, Bool.and_true, a12r10]
      rw [← h2, List.drop_of_length_le (by omega)]; rfl
end Go.Am.Sp
