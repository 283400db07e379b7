/- Exchanges of places and of blocks in a list. -/
import Derived.Test.YtggjkebeejpjfaaDoorSpK
set_option linter.unusedSimpArgs false
set_option linter.unusedVariables false
namespace Go.Am.Sp
open Go.Am
/-- Two places change what they hold. -/
def swp (l : List Edit) (i j : Nat) : List Edit := (l.set i (l.getD j default)).set j (l.getD i default)
theorem swp_len (l : List Edit) (i j : Nat) : (swp l i j).length = l.length := by simp [swp]
theorem swp_at {l : List Edit} {i j : Nat} (hi : i < l.length) (hj : j < l.length) (t : Nat) : (swp l i j)[t]? = if t = j then l[i]? else if t = i then l[j]? else l[t]? := by
  unfold swp
  rw [List.getElem?_set, List.length_set, List.getElem?_set]
  have e1 : l.getD i default = l[i] := by simp [List.getD_eq_getElem?_getD, hi]
  have e2 : l.getD j default = l[j] := by simp [List.getD_eq_getElem?_getD, hj]
  rw [e1, e2]
  by_cases h1 : j = t
  · subst h1; simp [hj, List.getElem?_eq_getElem hi]
  · by_cases h2 : i = t
    · subst h2; simp [h1, hi, List.getElem?_eq_getElem hj, Ne.symm h1]
    · simp [h1, h2, Ne.symm h1, Ne.symm h2]
/-- The first 'n' of two blocks change places. -/
def swr (l : List Edit) (a b : Nat) : Nat → List Edit
  | 0 => l
  | n + 1 => swp (swr l a b n) (a + n) (b + n)
theorem swr_len (l : List Edit) (a b : Nat) : ∀ n, (swr l a b n).length = l.length
  | 0 => rfl
  | n + 1 => by rw [swr, swp_len, swr_len]
theorem swr_at {l : List Edit} {a b : Nat} : ∀ (n : Nat), a + n ≤ b → b + n ≤ l.length → ∀ t, (swr l a b n)[t]? = if a ≤ t ∧ t < a + n then l[t + (b - a)]? else if b ≤ t ∧ t < b + n then l[t - (b - a)]? else l[t]?
  | 0, _, _, t => by
    simp only [swr, Nat.add_zero]
    rw [if_neg (by omega), if_neg (by omega)]
  | n + 1, h1, h2, t => by
    have ih := swr_at (l := l) (a := a) (b := b) n (by omega) (by omega)
    rw [swr, swp_at (by rw [swr_len]; omega) (by rw [swr_len]; omega), ih, ih, ih]
    by_cases c1 : t = b + n
    · subst c1
      rw [if_pos rfl, if_neg (by omega), if_neg (by omega), if_neg (by omega), if_pos (by omega)]
      congr 1; omega
    · rw [if_neg c1]
      by_cases c2 : t = a + n
      · subst c2
        rw [if_pos rfl, if_neg (by omega), if_neg (by omega), if_pos (by omega)]
        congr 1; omega
      · rw [if_neg c2]
        by_cases c3 : a ≤ t ∧ t < a + n
        · rw [if_pos c3, if_pos (by omega)]
        · rw [if_neg c3, if_neg (show ¬ (a ≤ t ∧ t < a + (n + 1)) by omega)]
          by_cases c4 : b ≤ t ∧ t < b + n
          · rw [if_pos c4, if_pos (by omega)]
          · rw [if_neg c4, if_neg (show ¬ (b ≤ t ∧ t < b + (n + 1)) by omega)]
theorem at_app3 (p x q : List Edit) (t : Nat) : (p ++ x ++ q)[t]? = if t < p.length then p[t]? else if t < p.length + x.length then x[t - p.length]? else q[t - p.length - x.length]? := by
  rw [List.append_assoc, List.getElem?_append, List.getElem?_append]
  by_cases h1 : t < p.length
  · rw [if_pos h1, if_pos h1]
  · rw [if_neg h1, if_neg h1]
    by_cases h2 : t - p.length < x.length
    · rw [if_pos h2, if_pos (by omega)]
    · rw [if_neg h2, if_neg (by omega)]
/-- Blocks of one length, between them some more, change places. -/
theorem swr_blocks (p x m y q : List Edit) (h : x.length = y.length) : swr (p ++ x ++ m ++ y ++ q) p.length (p ++ x ++ m).length x.length = p ++ y ++ m ++ x ++ q := by
  refine List.ext_getElem? (fun t => ?_)
  have hl : (p ++ x ++ m).length = p.length + x.length + m.length := by simp only [List.length_append]
  rw [swr_at _ (by omega) (by simp only [List.length_append]; omega)]
  simp only [List.getElem?_append, List.length_append, hl, h]
  by_cases c1 : t < p.length
  · simp only [c1, show t < p.length + y.length by omega, show t < p.length + y.length + m.length by omega, show t < p.length + y.length + m.length + y.length by omega, show ¬ (p.length ≤ t) by omega, show ¬ (p.length + y.length + m.length ≤ t) by omega, false_and, if_false, if_true]
  · by_cases c2 : t < p.length + y.length
    · simp only [c1, c2, show t < p.length + y.length + m.length by omega, show t < p.length + y.length + m.length + y.length by omega, show p.length ≤ t by omega, and_self, if_true, if_false,
        show ¬ (t + (p.length + y.length + m.length - p.length) < p.length) by omega, show ¬ (t + (p.length + y.length + m.length - p.length) < p.length + y.length) by omega, show ¬ (t + (p.length + y.length + m.length - p.length) < p.length + y.length + m.length) by omega, show t + (p.length + y.length + m.length - p.length) < p.length + y.length + m.length + y.length by omega]
      congr 1; omega
    · by_cases c3 : t < p.length + y.length + m.length
      · simp only [c1, c2, c3, show t < p.length + y.length + m.length + y.length by omega, and_false, show ¬ (p.length + y.length + m.length ≤ t) by omega, false_and, if_true, if_false]
      · by_cases c4 : t < p.length + y.length + m.length + y.length
        · simp only [c1, c2, c3, c4, and_false, show p.length + y.length + m.length ≤ t by omega, and_self, if_true, if_false,
            show ¬ (t - (p.length + y.length + m.length - p.length) < p.length) by omega, show t - (p.length + y.length + m.length - p.length) < p.length + y.length by omega, show t - (p.length + y.length + m.length - p.length) < p.length + y.length + m.length by omega, show t - (p.length + y.length + m.length - p.length) < p.length + y.length + m.length + y.length by omega]
          congr 1; omega
        · simp only [c1, c2, c3, c4, and_false, if_false]
end Go.Am.Sp
