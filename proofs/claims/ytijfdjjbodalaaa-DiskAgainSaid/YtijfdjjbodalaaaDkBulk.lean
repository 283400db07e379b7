/- Bulk: how many bytes files have. -/
import Derived.Test.YtijfdjjbodalaaaDkList
set_option linter.unusedSimpArgs false
set_option linter.unusedVariables false
namespace Go.Am.Dk
open Go.Am
attribute [local go_sem] ne_eq not_true_eq_false not_false_eq_true Nat.reduceEqDiff Nat.reduceAdd Nat.reduceLeDiff Int.toNat_natCast Int.reduceToNat and_self Bool.not_true Bool.not_false Bool.false_and Bool.and_false Bool.true_and Bool.and_true Int.reduceEq Int.reduceLT Int.reduceLE Int.reduceAdd Int.reduceSub Int.reduceNeg decide_true decide_false Option.bind_some Bool.or_true Bool.or_false Bool.true_or Bool.false_or
attribute [local go_sem ↓] reduceIte
set_option maxRecDepth 20000
set_option maxHeartbeats 1000000
variable {P : Prog}
def Small (l : List FileV) : Prop := l.length ≤ 2000 ∧ ∀ f ∈ l, f.name.length ≤ 2000 ∧ f.data.length ≤ 2000
theorem bulk_den (hP : DkP P) (l : List FileV) (nl full : Bool) (hl : l.length ≤ 9223372036854775807) (hw : ∀ f ∈ l, f.name.length ≤ 9223372036854775807 ∧ f.data.length ≤ 9223372036854775807) :
    Den P 22 [slv nl full l, .int .i64 2000] (fun v => ∃ k : Int, v = .int .i64 k ∧ (¬ 2000 < k → Small l)) := by
  refine Den.of (code := a22c) (hP.code rfl) (fun N => ?_)
  simp (disch := omega) only [go_sem, a22c, a22r0]
  simp (disch := omega) only [go_sem, a22r1]
  simp (disch := omega) only [go_sem, a22r2]
  refine Wp_loop (fun x : Nat × Nat × Nat => x.2.2 ≤ l.length ∧ x.2.1 ≤ 6003 ∧ x.2.2 ≤ x.2.1 ∧ ∀ f ∈ l.take x.2.2, min f.name.length 2001 ≤ x.2.1 ∧ min f.data.length 2001 ≤ x.2.1) (fun (t, n, k) => { fr := [(0, slv nl full l), (1, .int .i64 2000), (5, .int .i64 n), (6, .int .i64 k)], st := t, h := { next := N, m := .leaf } }) (fun x => l.length - x.2.2) (0, 0, 0) rfl ⟨by simp, by simp, by simp, by simp⟩ ?_
  rintro ⟨t, n, k⟩ ⟨h1, h2, h3, h4⟩
  simp only at h1 h2 h3 h4
  simp (disch := omega) only [go_sem, a22l0, a22r3]
  refine guardS_pt (fun c1 w1 => ?_) (fun c1 w1 => ?_) <;> simp (disch := omega) only [go_sem, w1]
  · refine condS_if (fun c2 => ?_) (fun c2 => ?_)
    · have hk : k < l.length := by omega
      have hm : l.getD k default ∈ l := by
        rw [List.getD_eq_getElem?_getD, List.getElem?_eq_getElem hk]
        exact List.getElem_mem hk
      have hwk := hw _ hm
      simp (disch := omega) only [go_sem, a22d4]
      simp (disch := omega) only [go_sem, a22r5]
      have e : (n : Int) + 1 + min ((l.getD k default).data.length : Int) 2001 + min ((l.getD k default).name.length : Int) 2001 = ((n + 1 + min (l.getD k default).data.length 2001 + min (l.getD k default).name.length 2001 : Nat) : Int) := by omega
      rw [e]
      refine ⟨(t + 1, n + 1 + min (l.getD k default).data.length 2001 + min (l.getD k default).name.length 2001, k + 1), ⟨by simp only; omega, by simp only; omega, by simp only; omega, fun f hf => ?_⟩, by simp only; omega, rfl⟩
      simp only at hf ⊢
      rw [List.take_succ_eq_append_getElem hk, List.mem_append, List.mem_singleton] at hf
      rcases hf with hf | hf
      · have := h4 f hf
        omega
      · have e2 : l.getD k default = f := by
          rw [hf, List.getD_eq_getElem?_getD, List.getElem?_eq_getElem hk]; rfl
        rw [e2]
        omega
    · simp (disch := omega) only [go_sem, a22r6]
      exact ⟨_, rfl, fun h => by omega⟩
  · simp (disch := omega) only [go_sem, a22r6]
    refine ⟨_, rfl, fun h => ⟨by omega, fun f hf => ?_⟩⟩
    rw [List.take_of_length_le (by omega)] at h4
    have := h4 f hf
    omega
end Go.Am.Dk
