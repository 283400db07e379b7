/- The span layer in plain Lean: what fits, what comes. -/
import Derived.Test.YtggjkebeejpjfaaDoorAmAll3
set_option linter.unusedSimpArgs false
set_option linter.unusedVariables false
namespace Go.Am.Sp
open Go.Am
/-- Do edits fit? 0, or an error's number. -/
def chk (n : Int) : Int → Int → List Edit → Int
 | _, _, [] => 0
 | to, fr, e :: r => if e.f < to ∨ e.f = fr ∨ e.t < e.f ∨ n < e.t then 1 else chk n e.t e.f r
theorem chk_step (n to fr : Int) (l : List Edit) (k : Nat) (hk : k < l.length) : chk n to fr (l.drop k) = if (l.getD k default).f < to ∨ (l.getD k default).f = fr ∨ (l.getD k default).t < (l.getD k default).f ∨ n < (l.getD k default).t then 1 else chk n (l.getD k default).t (l.getD k default).f (l.drop (k+1)) := by
  rw [List.drop_eq_getElem_cons hk]
  simp only [chk, List.getD_eq_getElem?_getD, List.getElem?_eq_getElem hk, Option.getD_some]
def chkE (n : Int) (l : List Edit) : Int := if 512 < l.length then 3 else chk n 0 (-1) l
/-- What comes of a text from a place on. -/
def appD (b : List UInt8) : Nat → List Edit → List UInt8
  | m, [] => b.drop m
  | m, e :: r => (b.take e.f.toNat).drop m ++ e.x ++ appD b e.t.toNat r
/-- Do edits fit, from a place on? -/
def okD (n : Nat) : Nat → List Edit → Prop
  | m, [] => m ≤ n
  | m, e :: r => (m : Int) ≤ e.f ∧ e.f ≤ e.t ∧ e.t ≤ n ∧ okD n e.t.toNat r
theorem okD_of_chk (n : Nat) : ∀ (l : List Edit) (to fr : Int), 0 ≤ to → to ≤ n → chk n to fr l = 0 → okD n to.toNat l
  | [], to, fr, h0, hn, _ => by simp only [okD]; omega
  | e :: r, to, fr, h0, hn, h => by
    simp only [chk] at h
    split at h
    · omega
    · rename_i hc
      simp only [not_or] at hc
      obtain ⟨c1, c2, c3, c4⟩ := hc
      exact ⟨by omega, by omega, by omega, okD_of_chk n r e.t e.f (by omega) (by omega) h⟩
theorem chkE_zero {n : Nat} {l : List Edit} (h : chkE n l = 0) : l.length ≤ 512 ∧ okD n 0 l := by
  unfold chkE at h
  split at h
  · omega
  · exact ⟨by omega, okD_of_chk n l 0 (-1) (by omega) (by omega) h⟩
theorem chk_range (n : Int) : ∀ (l : List Edit) (to fr : Int), chk n to fr l = 0 ∨ chk n to fr l = 1
  | [], _, _ => Or.inl rfl
  | e :: r, to, fr => by
    simp only [chk]
    split
    · exact Or.inr rfl
    · exact chk_range n r e.t e.f
theorem chkE_range (n : Int) (l : List Edit) : chkE n l = 0 ∨ chkE n l = 1 ∨ chkE n l = 3 := by
  unfold chkE
  split
  · exact Or.inr (Or.inr rfl)
  · rcases chk_range n l 0 (-1) with h | h
    · exact Or.inl h
    · exact Or.inr (Or.inl h)
theorem appD_le (b : List UInt8) (c : Nat) : ∀ (l : List Edit) (m : Nat), (∀ e ∈ l, e.x.length ≤ c) → (appD b m l).length ≤ (b.length + c) * (l.length + 1)
  | [], m, _ => by simp only [appD, List.length_drop, List.length_nil, Nat.zero_add, Nat.mul_one]; omega
  | e :: r, m, h => by
    have h1 := appD_le b c r e.t.toNat (fun x hx => h x (by simp [hx]))
    have h2 := h e (by simp)
    simp only [appD, List.length_append, List.length_drop, List.length_take, List.length_cons]
    rw [Nat.mul_add (b.length + c) (r.length + 1) 1, Nat.mul_one]
    have := Nat.min_le_right e.f.toNat b.length
    omega
/-- What Apply answers. -/
def applyV (b : List UInt8) (l : List Edit) : AV := if chkE b.length l = 0 then .tup [slv false false (appD b 0 l), .int .i64 0] else .tup [.nils, .int .i64 (chkE b.length l)]
end Go.Am.Sp
