/- The document's Apply, in plain Lean. -/
import Derived.Test.YtggjkebeejpjfaaDoorSpC
set_option linter.unusedSimpArgs false
set_option linter.unusedVariables false
namespace Go.Am.Sp
open Go.Am
variable {P : Prog}
set_option maxRecDepth 20000
def endAt (l : List Edit) : Nat → Nat
  | 0 => 0
  | k + 1 => (l.getD k default).t.toNat
theorem okD_at {n : Nat} : ∀ {l : List Edit} {m : Nat}, okD n m l → ∀ k, k < l.length → (((match k with | 0 => m | k + 1 => (l.getD k default).t.toNat) : Nat) : Int) ≤ (l.getD k default).f ∧ (l.getD k default).f ≤ (l.getD k default).t ∧ (l.getD k default).t ≤ n
  | [], m, _, k, hk => by simp at hk
  | e :: r, m, h, k, hk => by
    obtain ⟨h1, h2, h3, h4⟩ := h
    cases k with
    | zero => exact ⟨h1, h2, h3⟩
    | succ k =>
      have := okD_at h4 k (by simpa using hk)
      cases k with
      | zero => simpa using this
      | succ k => simpa using this
theorem okD_end {n : Nat} {l : List Edit} (h : okD n 0 l) (k : Nat) (hk : k < l.length) : (endAt l k : Int) ≤ (l.getD k default).f ∧ (l.getD k default).f ≤ (l.getD k default).t ∧ (l.getD k default).t ≤ n := by
  have := okD_at h k hk
  cases k <;> exact this
theorem appD_step (s : List UInt8) (l : List Edit) (k F T : Nat) (hk : k < l.length) (hf : (l.getD k default).f = F) (ht : (l.getD k default).t = T) (a : Nat) (ha : a ≤ F) (hF : F ≤ T) (hT : T ≤ s.length) :
    ((s.take T ++ appD s T (l.drop (k + 1))).take F).drop 0 ++ (l.getD k default).x ++ ((s.take T ++ appD s T (l.drop (k + 1))).take (s.take T ++ appD s T (l.drop (k + 1))).length).drop T = s.take a ++ appD s a (l.drop k) := by
  have e : l.getD k default = l[k] := by simp [List.getD_eq_getElem?_getD, hk]
  rw [List.drop_eq_getElem_cons hk, ← e]
  simp only [appD, hf, ht, Int.toNat_natCast, List.drop_zero, List.take_length]
  have h1 : (s.take T).length = T := by rw [List.length_take]; omega
  rw [List.drop_left' h1, List.take_append_of_le_length (by omega), List.take_take, Nat.min_eq_left hF]
  have h2 : s.take a ++ (s.take F).drop a = s.take F := by
    have : s.take a = (s.take F).take a := by rw [List.take_take, Nat.min_eq_left ha]
    rw [this, List.take_append_drop]
  simp only [← List.append_assoc, h2]
set_option maxHeartbeats 1000000
theorem refapply_den (hP : SpP P) (s : List UInt8) (l : List Edit) (nl full : Bool) (c : Nat) (hx : ∀ e ∈ l, e.x.length ≤ c) (hll : l.length ≤ 4611686018427387904) (hc : (s.length + c) * (l.length + 1) ≤ 1000000000000000) (hok : okD s.length 0 l) : Den P 15 [strv s, slv nl full l] (fun v => v = strv (appD s 0 l)) := by
  refine Den.of (code := a15c) (by rw [hP.fn]; rfl) (fun N => ?_)
  have hend : ∀ k, k ≤ l.length → endAt l k ≤ s.length := fun k hk => by
    cases k with
    | zero => exact Nat.zero_le _
    | succ k =>
      have := okD_end hok k (by omega)
      show (l.getD k default).t.toNat ≤ s.length
      omega
  simp (disch := omega) only [go_sem, ne_eq, not_true_eq_false, not_false_eq_true, ↓reduceIte, Nat.reduceEqDiff, Nat.reduceAdd, Nat.reduceLeDiff, Int.toNat_natCast, Int.reduceToNat, and_self, Bool.not_true, Bool.not_false, Bool.false_and, Bool.and_false, Bool.true_and, Bool.and_true, a15c, a15r0, a15r1]
  refine Wp_loop (fun x : Nat × Nat => x.2 ≤ l.length) (fun (t, k) => { fr := [(0, strv (s.take (endAt l k) ++ appD s (endAt l k) (l.drop k))), (1, slv nl full l), (5, .int .i64 ((k : Int) - 1))], st := t, h := { next := N, m := .leaf } }) (fun x => x.2) (0, l.length) ?_ (Nat.le_refl _) ?_
  · simp only [List.drop_length, appD, List.take_append_drop]
  rintro ⟨t, k⟩ h1
  simp only at h1
  simp (disch := omega) only [go_sem, ne_eq, not_true_eq_false, not_false_eq_true, ↓reduceIte, Nat.reduceEqDiff, Nat.reduceAdd, Nat.reduceLeDiff, Int.toNat_natCast, Int.reduceToNat, and_self, Bool.not_true, Bool.not_false, Bool.false_and, Bool.and_false, Bool.true_and, Bool.and_true, a15l0, a15r2]
  refine condS_if (fun hk => ?_) (fun hk => ?_)
  · obtain ⟨k, rfl⟩ : ∃ j, k = j + 1 := ⟨k - 1, by omega⟩
    obtain ⟨o1, o2, o3⟩ := okD_end hok k (by omega)
    obtain ⟨F, hf⟩ := Int.eq_ofNat_of_zero_le (show 0 ≤ (l.getD k default).f by omega)
    obtain ⟨T, ht⟩ := Int.eq_ofNat_of_zero_le (show 0 ≤ (l.getD k default).t by omega)
    have hT : endAt l (k + 1) = T := by show (l.getD k default).t.toNat = T; omega
    have hk1 : (((k + 1 : Nat) : Int) - 1) = k := by omega
    have hstep := appD_step s l k F T (by omega) hf ht (endAt l k) (by omega) (by omega) (by omega)
    have hlenR : (appD s T (l.drop (k + 1))).length ≤ (s.length + c) * (l.length + 1) := by
      refine Nat.le_trans (appD_le s c _ _ (fun e he => hx e (List.mem_of_mem_drop he))) (Nat.mul_le_mul_left _ ?_)
      rw [List.length_drop]; omega
    have hxk : (l.getD k default).x.length ≤ c := by
      have e : l.getD k default = l[k] := by simp [List.getD_eq_getElem?_getD, show k < l.length by omega]
      rw [e]; exact hx _ (List.getElem_mem _)
    rw [hT, hk1]
    generalize hcur : s.take T ++ appD s T (l.drop (k + 1)) = cur at hstep ⊢
    have hcl : cur.length = T + (appD s T (l.drop (k + 1))).length := by
      rw [← hcur, List.length_append, List.length_take]; omega
    have hsl : s.length ≤ 1000000000000000 := by
      have h1 := Nat.le_mul_of_pos_right (s.length + c) (Nat.succ_pos l.length)
      have h2 : (s.length + c) * (l.length + 1) = (s.length + c) * l.length.succ := rfl
      omega
    have hcc : c ≤ 1000000000000000 := by
      have h1 := Nat.le_mul_of_pos_right (s.length + c) (Nat.succ_pos l.length)
      have h2 : (s.length + c) * (l.length + 1) = (s.length + c) * l.length.succ := rfl
      omega
    have b1 : ((cur.take F).drop 0).length ≤ F := by rw [List.drop_zero, List.length_take]; omega
    have b2 : ((cur.take cur.length).drop T).length ≤ 1000000000000000 := by rw [List.length_drop, List.length_take]; omega
    have a1 := str_add ((cur.take F).drop 0) (l.getD k default).x (by omega)
    have a2 := str_add ((cur.take F).drop 0 ++ (l.getD k default).x) ((cur.take cur.length).drop T) (by rw [List.length_append]; omega)
    simp (disch := omega) only [go_sem, ne_eq, not_true_eq_false, not_false_eq_true, ↓reduceIte, Nat.reduceEqDiff, Nat.reduceAdd, Nat.reduceLeDiff, Int.toNat_natCast, Int.reduceToNat, and_self, Bool.not_true, Bool.not_false, Bool.false_and, Bool.and_false, Bool.true_and, Bool.and_true, a15d3, a15r4, hf, ht, a1, a2, hstep]
    exact ⟨(t + 1, k), by simp only; omega, by simp only; omega, rfl⟩
  · simp (disch := omega) only [go_sem, ne_eq, not_true_eq_false, not_false_eq_true, ↓reduceIte, Nat.reduceEqDiff, Nat.reduceAdd, Nat.reduceLeDiff, Int.toNat_natCast, Int.reduceToNat, and_self, Bool.not_true, Bool.not_false, Bool.false_and, Bool.and_false, Bool.true_and, Bool.and_true, a15r5]
    obtain rfl : k = 0 := by omega
    rfl
end Go.Am.Sp
