/- What is sure stays: plainly. -/
import Derived.Test.YtijfdjjbodalaaaDkSureA
set_option linter.unusedSimpArgs false
set_option linter.unusedVariables false
namespace Go.Am.Dk
open Go.Am
set_option maxRecDepth 20000
set_option maxHeartbeats 1000000
def keptL : List UInt8 := [107, 101, 112, 116]
theorem turnDo_keep {t : DTurn} {n : NMap} {k : List UInt8} (h1 : t.fr ≠ k) (h2 : t.to ≠ k) : nget k (turnDo t n) = nget k n := by
  unfold turnDo
  split
  · split
    · rfl
    · exact nget_nput_ne _ (Ne.symm h2) _
  · split
    · exact nget_ndel_ne (Ne.symm h1) _
    · split
      · exact nget_ndel_ne (Ne.symm h1) _
      · rw [nget_nput_ne _ (Ne.symm h2), nget_ndel_ne (Ne.symm h1)]
theorem nput_len (k : List UInt8) (f : Nat) : ∀ n : NMap, (nput k f n).length ≤ n.length + 1
  | [] => by simp [nput]
  | p :: r => by
    rw [nput]
    split
    · simp
    · have := nput_len k f r
      simp only [List.length_cons]
      omega
theorem ndel_len (k : List UInt8) : ∀ n : NMap, (ndel k n).length ≤ n.length
  | [] => by simp [ndel]
  | p :: r => by
    rw [ndel]
    split
    · simp
    · have := ndel_len k r
      simp only [List.length_cons]
      omega
theorem turnDo_len (t : DTurn) (n : NMap) : (turnDo t n).length ≤ n.length + 1 := by
  unfold turnDo
  split
  · split
    · omega
    · exact nput_len _ _ _
  · have := ndel_len t.fr n
    split
    · omega
    · split
      · omega
      · have := nput_len t.to (by assumption) (ndel t.fr n)
        omega
structure Sure (σ : DSt) (data : List UInt8) (k : Nat) : Prop where
  dead : σ.dead = false
  fuse : σ.fuse = 0
  fault : σ.fault = 0
  cap : σ.cap = 1048576
  calls : 0 ≤ σ.calls ∧ σ.calls ≤ 4 + k
  keep : ∃ f, nget keptL σ.names = some f ∧ nget keptL σ.sure = some f ∧ (∃ r, (σ.file f).b = data ++ r) ∧ data.length ≤ (σ.file f).sure
  turns : ∀ t ∈ σ.waits, t.fr ≠ keptL ∧ t.to ≠ keptL
  wl : σ.waits.length ≤ 4 + k
  al : σ.all.length ≤ 4 + k
  nl : σ.names.length ≤ 4 + k
  fl : ∀ f ∈ σ.all, (σ.file f).sure ≤ (σ.file f).b.length ∧ (σ.file f).b.length ≤ 500 * (4 + k)
theorem sum_le (l : NMap) (g : List UInt8 × Nat → Nat) (m : Nat) (h : ∀ p ∈ l, g p ≤ m) : (l.map g).sum ≤ l.length * m := by
  induction l with
  | nil => simp
  | cons p r ih =>
    have h1 := h p List.mem_cons_self
    have h2 := ih (fun q hq => h q (List.mem_cons_of_mem _ hq))
    simp only [List.map_cons, List.sum_cons, List.length_cons, Nat.add_mul]
    omega
theorem Sure.used {σ : DSt} {data : List UInt8} {k : Nat} (hS : Sure σ data k) (hO : σ.Ok) (hk : k ≤ 100) : usedS σ ≤ 1000000000 := by
  have h1 := sum_le σ.names (fun p => (σ.file p.2).b.length) (500 * (4 + k)) (fun p hp => (hS.fl _ (hO.names p hp)).2)
  have h2 : σ.names.length * (500 * (4 + k)) ≤ (4 + k) * (500 * (4 + k)) := Nat.mul_le_mul_right _ hS.nl
  have h3 : (4 + k) * (500 * (4 + k)) ≤ 104 * (500 * 104) := Nat.mul_le_mul (by omega) (by omega)
  have h4 : usedS σ ≤ σ.names.length * (500 * (4 + k)) := h1
  omega
theorem Sure.begin {σ : DSt} {data : List UInt8} {k : Nat} (hS : Sure σ data k) : beginS σ = (0, { σ with calls := σ.calls + 1 }) := by
  have h := hS.calls
  unfold beginS
  rw [hS.dead, hS.fuse, hS.fault]
  rw [if_neg (by simp), if_neg (by omega), if_neg (by omega)]
theorem Sure.call {σ : DSt} {data : List UInt8} {k : Nat} (hS : Sure σ data k) : Sure { σ with calls := σ.calls + 1 } data (k + 1) := by
  have h := hS.calls
  refine ⟨hS.dead, hS.fuse, hS.fault, hS.cap, ⟨by simp only; omega, by simp only; omega⟩, hS.keep, hS.turns, ?_, ?_, ?_, fun f hf => ?_⟩
  · have := hS.wl; simp only; omega
  · have := hS.al; simp only; omega
  · have := hS.nl; simp only; omega
  · have := hS.fl f hf; simp only; omega
theorem Sure.turn {σ : DSt} {data : List UInt8} {k : Nat} (hS : Sure σ data k) (t : DTurn) (h1 : t.fr ≠ keptL) (h2 : t.to ≠ keptL) : Sure (turnsS { σ with calls := σ.calls + 1 } t) data (k + 1) := by
  have h := hS.call
  obtain ⟨f, k1, k2, k3, k4⟩ := h.keep
  refine ⟨h.dead, h.fuse, h.fault, h.cap, h.calls, ⟨f, (turnDo_keep h1 h2).trans k1, k2, k3, k4⟩, fun u hu => ?_, ?_, h.al, ?_, h.fl⟩
  · rcases List.mem_append.1 hu with hu | hu
    · exact hS.turns u hu
    · rw [List.mem_singleton.1 hu]; exact ⟨h1, h2⟩
  · have := hS.wl
    simp only [turnsS, List.length_append, List.length_cons, List.length_nil]
    omega
  · have := hS.nl
    have := turnDo_len t σ.names
    simp only [turnsS]
    omega
theorem Sure.setF {σ : DSt} {data : List UInt8} {k : Nat} (hS : Sure σ data k) (f : Nat) (x : DFile) (h1 : x.sure ≤ x.b.length) (h2 : x.b.length ≤ 500 * (4 + (k + 1))) (h3 : (σ.file f).sure ≤ x.sure) (h4 : ∃ r, x.b = (σ.file f).b ++ r) : Sure (setF { σ with calls := σ.calls + 1 } f x) data (k + 1) := by
  have h := hS.call
  obtain ⟨g, k1, k2, ⟨r, k3⟩, k4⟩ := h.keep
  refine ⟨h.dead, h.fuse, h.fault, h.cap, h.calls, ⟨g, k1, k2, ?_, ?_⟩, h.turns, h.wl, h.al, h.nl, fun g' hg => ?_⟩
  · simp only [Dk.setF]
    split
    · rename_i e
      obtain ⟨r', h4⟩ := h4
      refine ⟨r ++ r', ?_⟩
      rw [h4, ← e, ← List.append_assoc]
      simp only at k3
      rw [k3]
    · exact ⟨r, k3⟩
  · simp only [Dk.setF]
    split
    · rename_i e
      simp only at k4
      rw [e] at k4
      omega
    · exact k4
  · simp only [Dk.setF]
    split
    · exact ⟨h1, h2⟩
    · exact h.fl g' hg
theorem Sure.open {σ : DSt} {data : List UInt8} {k : Nat} (hS : Sure σ data k) (s : List UInt8) : openS σ s = (nget s σ.names, (if (nget s σ.names).isSome then 0 else 6), { σ with calls := σ.calls + 1 }) := by
  unfold openS
  rw [hS.begin]
  simp only [ne_eq, not_true_eq_false, if_false]
  cases nget s σ.names <;> rfl
theorem Sure.create {σ : DSt} {data : List UInt8} {k : Nat} (hS : Sure σ data k) (hO : σ.Ok) (s : List UInt8) (f : Nat) (hf : f ∉ σ.all) : Sure (createS σ s f).2 data (k + 1) := by
  unfold createS
  rw [hS.begin]
  simp only [ne_eq, not_true_eq_false, if_false]
  obtain ⟨g, k1, k2, k3, k4⟩ := hS.keep
  split
  · exact hS.call
  · split
    · exact hS.call
    · rename_i hn
      split
      · exact hS.call
      · have hsk : s ≠ keptL := fun e => hn (by rw [e, k1]; rfl)
        have hgf : g ≠ f := fun e => hf (by rw [← e]; exact hO.names _ (nget_mem k1))
        have h := hS.turn ⟨[], s, some f⟩ (by unfold keptL; simp) hsk
        refine ⟨h.dead, h.fuse, h.fault, h.cap, h.calls, ⟨g, ?_, k2, ?_, ?_⟩, h.turns, h.wl, ?_, h.nl, fun g' hg => ?_⟩
        · exact (turnDo_keep (t := ⟨[], s, some f⟩) (by unfold keptL; simp) hsk).trans k1
        · simp only [turnsS, newS, if_neg hgf]
          exact k3
        · simp only [turnsS, newS, if_neg hgf]
          exact k4
        · have := hS.al
          simp only [turnsS, newS, List.length_append, List.length_cons, List.length_nil]
          omega
        · simp only [turnsS, newS] at hg ⊢
          split
          · simp
          · rename_i e
            rcases List.mem_append.1 hg with hg | hg
            · exact hS.call.fl g' hg
            · exact absurd (List.mem_singleton.1 hg) e
theorem Sure.append {σ : DSt} {data : List UInt8} {k : Nat} (hS : Sure σ data k) (hO : σ.Ok) (s b : List UInt8) (hb : b.length ≤ 500) : Sure (appendS σ s b).2 data (k + 1) := by
  unfold appendS
  rw [hS.begin, hS.open s]
  cases hq : nget s σ.names with
  | none => simp only [Option.isSome_none, Bool.false_eq_true, if_false, ne_eq, Int.reduceEq, not_false_eq_true, if_true]; exact hS.call
  | some f =>
    simp only [Option.isSome_some, if_true, ne_eq, not_true_eq_false, if_false]
    split
    · exact hS.call
    · have := hS.fl f (hO.names _ (nget_mem hq))
      exact hS.setF f _ (by simp only [List.length_append]; omega) (by simp only [List.length_append]; omega) (Nat.le_refl _) ⟨b, rfl⟩
theorem Sure.sync {σ : DSt} {data : List UInt8} {k : Nat} (hS : Sure σ data k) (hO : σ.Ok) (s : List UInt8) : Sure (syncS σ s).2 data (k + 1) := by
  unfold syncS
  rw [hS.begin, hS.open s]
  cases hq : nget s σ.names with
  | none => simp only [Option.isSome_none, Bool.false_eq_true, if_false, ne_eq, Int.reduceEq, not_false_eq_true, if_true]; exact hS.call
  | some f =>
    simp only [Option.isSome_some, if_true, ne_eq, not_true_eq_false, if_false]
    have := hS.fl f (hO.names _ (nget_mem hq))
    exact hS.setF f _ (Nat.le_refl _) (by simp only; omega) this.1 ⟨[], by simp⟩
theorem Sure.syncDir {σ : DSt} {data : List UInt8} {k : Nat} (hS : Sure σ data k) : Sure (syncDirS σ).2 data (k + 1) := by
  unfold syncDirS
  rw [hS.begin]
  simp only [ne_eq, not_true_eq_false, if_false]
  have h := hS.call
  obtain ⟨g, k1, k2, k3, k4⟩ := h.keep
  exact ⟨h.dead, h.fuse, h.fault, h.cap, h.calls, ⟨g, k1, k1, k3, k4⟩, fun t ht => by simp at ht, by simp, h.al, h.nl, h.fl⟩
theorem Sure.rename {σ : DSt} {data : List UInt8} {k : Nat} (hS : Sure σ data k) (s t : List UInt8) (h1 : s ≠ keptL) (h2 : t ≠ keptL) : Sure (renameS σ s t).2 data (k + 1) := by
  unfold renameS
  rw [hS.begin, hS.open s]
  cases hq : nget s σ.names with
  | none => simp only [Option.isSome_none, Bool.false_eq_true, if_false, ne_eq, Int.reduceEq, not_false_eq_true, if_true]; exact hS.call
  | some f =>
    simp only [Option.isSome_some, if_true, ne_eq, not_true_eq_false, if_false]
    split
    · exact hS.call
    · exact hS.turn ⟨s, t, none⟩ h1 h2
theorem Sure.remove {σ : DSt} {data : List UInt8} {k : Nat} (hS : Sure σ data k) (s : List UInt8) (h1 : s ≠ keptL) : Sure (removeS σ s).2 data (k + 1) := by
  unfold removeS
  rw [hS.begin, hS.open s]
  cases hq : nget s σ.names with
  | none => simp only [Option.isSome_none, Bool.false_eq_true, if_false, ne_eq, Int.reduceEq, not_false_eq_true, if_true]; exact hS.call
  | some f =>
    simp only [Option.isSome_some, if_true, ne_eq, not_true_eq_false, if_false]
    exact hS.turn ⟨s, [], none⟩ h1 (by unfold keptL; simp)
end Go.Am.Dk
