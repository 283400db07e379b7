/- great, and what a disk that is none answers. -/
import Derived.Test.YtijfdjjbodalaaaDkDefs
set_option linter.unusedSimpArgs false
set_option linter.unusedVariables false
namespace Go.Am.Dk
open Go.Am
attribute [local go_sem] ne_eq not_true_eq_false not_false_eq_true Nat.reduceEqDiff Nat.reduceAdd Nat.reduceLeDiff Int.toNat_natCast Int.reduceToNat and_self Bool.not_true Bool.not_false Bool.false_and Bool.and_false Bool.true_and Bool.and_true
attribute [local go_sem ↓] reduceIte
variable {P : Prog}
set_option maxRecDepth 20000
set_option maxHeartbeats 1000000
def bigA (a : DAct) : Bool := decide (100 < a.name.length) || decide (100 < a.to.length) || decide (500 < a.b.length) || decide (60 < a.keep.length)
def greatL (l : List DAct) : Bool := (l.take 60).any bigA || decide (60 < l.length)
theorem great_den (hf : P.fn 15 = some a15) (l : List DAct) (nl full : Bool) (hl : l.length ≤ 9223372036854775807) (hw : ∀ a ∈ l, ActWf a) : Den P 15 [slv nl full l] (fun v => v = .bool (greatL l)) := by
  refine Den.of (code := a15c) hf (fun N => ?_)
  simp (disch := omega) only [go_sem, a15c, a15r0, a15r1]
  refine Wp_loop (fun x : Nat × Nat => x.2 ≤ l.length ∧ x.2 ≤ 60 ∧ (l.take x.2).any bigA = false) (fun (t, k) => { fr := [(0, slv nl full l), (3, .int .i64 k)], st := t, h := { next := N, m := .leaf } }) (fun x => l.length - x.2) (0, 0) rfl ⟨by simp, by simp, by simp⟩ ?_
  rintro ⟨t, k⟩ ⟨h1, h2, h3⟩
  simp only at h1 h2 h3
  simp (disch := omega) only [go_sem, a15l0, a15r2]
  refine guardS_pt (fun c1 w1 => ?_) (fun c1 w1 => ?_) <;> simp (disch := omega) only [go_sem, w1]
  · refine condS_if (fun c2 => ?_) (fun c2 => ?_)
    · have hk : k < l.length := by omega
      have hstep : (l.take (k + 1)).any bigA = bigA (l.getD k default) := by
        rw [List.take_succ_eq_append_getElem hk, List.any_append, h3, List.getD_eq_getElem?_getD, List.getElem?_eq_getElem hk]
        simp
      have hany : bigA (l.getD k default) = true → greatL l = true := fun hb => by
        unfold greatL
        rw [show (l.take 60).any bigA = true from ?_, Bool.true_or]
        rw [List.any_eq_true]
        refine ⟨l[k], List.mem_take_iff_getElem.2 ⟨k, by omega, rfl⟩, ?_⟩
        rw [← hb, List.getD_eq_getElem?_getD, List.getElem?_eq_getElem hk]; rfl
      have hwk : ActWf (l.getD k default) := by
        rw [List.getD_eq_getElem?_getD, List.getElem?_eq_getElem hk]
        exact hw _ (List.getElem_mem hk)
      simp only [bigA] at hany hstep
      simp (disch := omega) only [go_sem, a15r3]
      refine guardS_pf (fun d1 v1 => ?_) (fun d1 v1 => ?_) <;> simp (disch := omega) only [go_sem, v1]
      · refine guardS_pf (fun d2 v2 => ?_) (fun d2 v2 => ?_) <;> simp (disch := omega) only [go_sem, v2]
        · refine guardS_pf (fun d3 v3 => ?_) (fun d3 v3 => ?_) <;> simp (disch := omega) only [go_sem, v3]
          · refine condS_if (fun d4 => ?_) (fun d4 => ?_)
            · simp (disch := omega) only [go_sem, a15r4]
              rw [hany (by simp only [Bool.or_eq_true, decide_eq_true_eq]; omega)]
            · simp (disch := omega) only [go_sem, a15r5]
              exact ⟨(t, k + 1), ⟨by simp only; omega, by simp only; omega, by rw [hstep]; simp only [Bool.or_eq_false_iff, decide_eq_false_iff_not]; omega⟩, by simp only; omega, rfl⟩
          · simp (disch := omega) only [go_sem, a15r4]
            rw [hany (by simp only [Bool.or_eq_true, decide_eq_true_eq]; omega)]
        · simp (disch := omega) only [go_sem, a15r4]
          rw [hany (by simp only [Bool.or_eq_true, decide_eq_true_eq]; omega)]
      · simp (disch := omega) only [go_sem, a15r4]
        rw [hany (by simp only [Bool.or_eq_true, decide_eq_true_eq]; omega)]
    · have hk : 60 ≤ l.length := by omega
      have e60 : k = 60 := by omega
      simp (disch := omega) only [go_sem, a15r6]
      simp only [greatL]
      rw [← e60, h3, Bool.false_or]
      simp
      omega
  · simp (disch := omega) only [go_sem, a15r6]
    have hk : l.length ≤ k := by omega
    simp only [greatL]
    rw [List.take_of_length_le (by omega)]
    rw [List.take_of_length_le hk] at h3
    rw [h3]
    simp
    omega
end Go.Am.Dk
