/- Stable sorting of edits, as lists: what a sorted text of edits is, and that there is one alone. -/
import Derived.Test.YtggjkebeejpjfaaDoorSpDefs
set_option linter.unusedSimpArgs false
set_option linter.unusedVariables false
namespace Go.Am.Sp
open Go.Am
def Srt (l : List Edit) : Prop := l.Pairwise fun x y => x.f ≤ y.f
def fl (k : Int) (l : List Edit) : List Edit := l.filter fun e => decide (e.f = k)
/-- r' is r, sorted, each key's edits in their order. -/
def Stb (r r' : List Edit) : Prop := Srt r' ∧ r'.length = r.length ∧ ∀ k, fl k r' = fl k r
theorem fl_append (k : Int) (a b : List Edit) : fl k (a ++ b) = fl k a ++ fl k b := by simp [fl]
theorem mem_fl {k : Int} {x : Edit} {l : List Edit} : x ∈ fl k l ↔ x ∈ l ∧ x.f = k := by simp [fl]
theorem mem_of_fl {a b : List Edit} (h : ∀ k, fl k a = fl k b) {x : Edit} (hx : x ∈ a) : x ∈ b := by
  have h1 : x ∈ fl x.f a := mem_fl.2 ⟨hx, rfl⟩
  rw [h] at h1
  exact (mem_fl.1 h1).1
theorem fl_nil_of {k : Int} {l : List Edit} (h : ∀ x ∈ l, x.f ≠ k) : fl k l = [] := by
  simp only [fl, List.filter_eq_nil_iff, decide_eq_true_eq]
  exact h
/-- Blocks of unlike keys may be exchanged. -/
theorem fl_exch {u v : List Edit} (h : ∀ x ∈ u, ∀ y ∈ v, y.f < x.f) (k : Int) : fl k (v ++ u) = fl k (u ++ v) := by
  rw [fl_append, fl_append]
  by_cases hu : ∃ x ∈ u, x.f = k
  · obtain ⟨x, hx, hk⟩ := hu
    have : fl k v = [] := fl_nil_of fun y hy => by have := h x hx y hy; omega
    rw [this, List.nil_append, List.append_nil]
  · have : fl k u = [] := fl_nil_of fun x hx e => hu ⟨x, hx, e⟩
    rw [this, List.nil_append, List.append_nil]
theorem Stb.refl {l : List Edit} (h : Srt l) : Stb l l := ⟨h, rfl, fun _ => rfl⟩
theorem Stb.append {a b c d : List Edit} (h1 : Stb a c) (h2 : Stb b d) (h : ∀ x ∈ a, ∀ y ∈ b, x.f ≤ y.f) : Stb (a ++ b) (c ++ d) := by
  refine ⟨List.pairwise_append.2 ⟨h1.1, h2.1, fun x hx y hy => h x (mem_of_fl h1.2.2 hx) y (mem_of_fl h2.2.2 hy)⟩, by simp [h1.2.1, h2.2.1], fun k => ?_⟩
  rw [fl_append, fl_append, h1.2.2, h2.2.2]
theorem Stb.of {a b c : List Edit} (h : Stb a c) (hl : a.length = b.length) (hf : ∀ k, fl k a = fl k b) : Stb b c := ⟨h.1, by rw [h.2.1, hl], fun k => (h.2.2 k).trans (hf k)⟩
theorem srt_uniq : ∀ {a b : List Edit}, Srt a → Srt b → (∀ k, fl k a = fl k b) → a = b
  | [], [], _, _, _ => rfl
  | [], y :: b, _, _, h => by
    have := mem_of_fl (fun k => (h k).symm) (List.mem_cons_self (a := y) (l := b))
    simp at this
  | x :: a, [], _, _, h => by
    have := mem_of_fl h (List.mem_cons_self (a := x) (l := a))
    simp at this
  | x :: a, y :: b, ha, hb, h => by
    have ha' := List.pairwise_cons.1 ha
    have hb' := List.pairwise_cons.1 hb
    have hk : x.f = y.f := by
      have h1 := mem_of_fl h (List.mem_cons_self (a := x) (l := a))
      have h2 := mem_of_fl (fun k => (h k).symm) (List.mem_cons_self (a := y) (l := b))
      have g1 : y.f ≤ x.f := by
        rcases List.mem_cons.1 h1 with e | e
        · rw [e]; exact Int.le_refl _
        · exact hb'.1 x e
      have g2 : x.f ≤ y.f := by
        rcases List.mem_cons.1 h2 with e | e
        · rw [e]; exact Int.le_refl _
        · exact ha'.1 y e
      omega
    have hx := h x.f
    simp only [fl, List.filter_cons, decide_true, if_true, ← hk, List.cons.injEq] at hx
    obtain ⟨rfl, -⟩ := hx
    congr 1
    refine srt_uniq ha'.2 hb'.2 (fun k => ?_)
    have := h k
    simp only [fl, List.filter_cons] at this
    split at this
    · exact (List.cons.inj this).2
    · exact this
theorem Stb.uniq {a c d : List Edit} (h1 : Stb a c) (h2 : Stb a d) : c = d := srt_uniq h1.1 h2.1 (fun k => (h1.2.2 k).trans (h2.2.2 k).symm)
/-- One more, behind all that are at most it. -/
theorem Stb.insert {r w1 w2 : List Edit} {x : Edit} (h : Stb r (w1 ++ w2)) (h1 : ∀ y ∈ w1, y.f ≤ x.f) (h2 : ∀ y ∈ w2, x.f < y.f) : Stb (r ++ [x]) (w1 ++ x :: w2) := by
  obtain ⟨hs, hl, hf⟩ := h
  obtain ⟨s1, s2, s3⟩ := List.pairwise_append.1 hs
  refine ⟨List.pairwise_append.2 ⟨s1, List.pairwise_cons.2 ⟨fun y hy => by have := h2 y hy; omega, s2⟩, fun a ha b hb => ?_⟩, by simp at hl ⊢; omega, fun k => ?_⟩
  · rcases List.mem_cons.1 hb with rfl | hb
    · exact h1 a ha
    · exact s3 a ha b hb
  · have e := fl_exch (u := w2) (v := [x]) (fun y hy z hz => by simp at hz; subst hz; exact h2 y hy) k
    rw [fl_append, fl_append, ← hf, fl_append, show x :: w2 = [x] ++ w2 from rfl, e, fl_append, List.append_assoc]
/-- A merge, by its four parts. -/
theorem stb_four {a1 a2 b1 b2 c1 c2 : List Edit} (hA : Srt (a1 ++ a2)) (hB : Srt (b1 ++ b2)) (h1 : Stb (a1 ++ b1) c1) (h2 : Stb (a2 ++ b2) c2) (hx : ∀ x ∈ a1, ∀ y ∈ b2, x.f ≤ y.f) (hy : ∀ x ∈ a2, ∀ y ∈ b1, y.f < x.f) : Stb ((a1 ++ a2) ++ (b1 ++ b2)) (c1 ++ c2) := by
  obtain ⟨-, -, sA⟩ := List.pairwise_append.1 hA
  obtain ⟨-, -, sB⟩ := List.pairwise_append.1 hB
  refine (h1.append h2 (fun x hxm y hym => ?_)).of (by simp; omega) (fun k => ?_)
  · rcases List.mem_append.1 hxm with p | p <;> rcases List.mem_append.1 hym with q | q
    · exact sA x p y q
    · exact hx x p y q
    · have := hy y q x p; omega
    · exact sB x p y q
  · have e := fl_exch hy k
    simp only [fl_append] at e ⊢
    rw [List.append_assoc, ← List.append_assoc (fl k b1), e]
    simp only [List.append_assoc]
end Go.Am.Sp
