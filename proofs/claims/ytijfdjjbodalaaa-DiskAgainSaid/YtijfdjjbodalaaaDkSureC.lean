/- What is sure: how it begins, and what is there at last. -/
import Derived.Test.YtijfdjjbodalaaaDkSureB
set_option linter.unusedSimpArgs false
set_option linter.unusedVariables false
namespace Go.Am.Dk
open Go.Am
set_option maxRecDepth 20000
set_option maxHeartbeats 1000000
def st1 (f : Nat) : DSt := { cap := 1048576, names := [(keptL, f)], sure := [], all := [f], waits := [⟨[], keptL, some f⟩], dead := false, calls := 1, fuse := 0, fault := 0, e := 0, file := fun g => if g = f then ⟨[], 0⟩ else default }
def st2 (f : Nat) (data : List UInt8) : DSt := setF { st1 f with calls := 2 } f ⟨data, 0⟩
def st3 (f : Nat) (data : List UInt8) : DSt := setF { st2 f data with calls := 3 } f ⟨data, data.length⟩
def st4 (f : Nat) (data : List UInt8) : DSt := { st3 f data with calls := 4, sure := [(keptL, f)], waits := [] }
theorem kept_ne : keptL ≠ [] := by unfold keptL; simp
theorem create_st (f : Nat) : createS (zeroS 1048576) keptL f = (0, st1 f) := by
  have h0 : beginS (zeroS 1048576) = (0, { zeroS 1048576 with calls := 1 }) := by
    unfold beginS zeroS
    rfl
  have hn : nameL keptL = true := by decide
  unfold createS
  rw [h0, hn]
  simp only [ne_eq, not_true_eq_false, if_false, Bool.true_eq_false]
  rw [if_neg (by unfold zeroS; simp [nget]), if_neg (by unfold zeroS; simp)]
  simp only [turnsS, newS, turnDo, zeroS, st1, if_neg kept_ne, List.nil_append]
  rfl
theorem nget_st (f : Nat) : nget keptL [(keptL, f)] = some f := by simp [nget]
theorem append_st (f : Nat) (data : List UInt8) (h : data.length ≤ 500) : appendS (st1 f) keptL data = (0, st2 f data) := by
  have h0 : beginS (st1 f) = (0, { st1 f with calls := 2 }) := by
    unfold beginS st1
    rfl
  have h1 : openS (st1 f) keptL = (some f, 0, { st1 f with calls := 2 }) := by
    unfold openS
    rw [h0]
    simp only [ne_eq, not_true_eq_false, if_false]
    simp only [st1, nget_st]
  have h2 : usedS (st1 f) = 0 := by simp [usedS, st1]
  unfold appendS
  rw [h0, h1, h2]
  simp only [ne_eq, not_true_eq_false, if_false]
  rw [if_neg (by simp only [st1]; omega)]
  simp only [st2, st1, if_true, List.nil_append]
theorem sync_st (f : Nat) (data : List UInt8) : syncS (st2 f data) keptL = (0, st3 f data) := by
  have h0 : beginS (st2 f data) = (0, { st2 f data with calls := 3 }) := by
    unfold beginS st2 st1
    rfl
  have h1 : openS (st2 f data) keptL = (some f, 0, { st2 f data with calls := 3 }) := by
    unfold openS
    rw [h0]
    simp only [ne_eq, not_true_eq_false, if_false]
    simp only [st2, st1, setF, nget_st]
  unfold syncS
  rw [h0, h1]
  simp only [ne_eq, not_true_eq_false, if_false]
  simp only [st3, st2, st1, setF, if_true]
theorem syncdir_st (f : Nat) (data : List UInt8) : syncDirS (st3 f data) = (0, st4 f data) := by
  have h0 : beginS (st3 f data) = (0, { st3 f data with calls := 4 }) := by
    unfold beginS st3 st2 st1
    rfl
  unfold syncDirS
  rw [h0]
  simp only [ne_eq, not_true_eq_false, if_false]
  rfl
theorem sure_st (f : Nat) (data : List UInt8) (h : data.length ≤ 500) : Sure (st4 f data) data 0 := by
  refine ⟨rfl, rfl, rfl, rfl, ⟨by simp [st4], by simp [st4]⟩, ⟨f, nget_st f, nget_st f, ⟨[], ?_⟩, ?_⟩, fun t ht => by simp [st4] at ht, by simp [st4], by simp [st4, st3, st2, st1, setF], by simp [st4, st3, st2, st1, setF], fun g hg => ?_⟩
  · simp [st4, st3, setF]
  · simp [st4, st3, setF]
  · have : g = f := by simpa [st4, st3, st2, st1, setF] using hg
    subst this
    simp [st4, st3, setF]
    omega
def offS (σ : DSt) : DSt := { σ with fuse := σ.calls + 1, calls := σ.calls + 1, dead := true }
theorem off_st {σ : DSt} {data : List UInt8} {k : Nat} (hS : Sure σ data k) : syncDirS (fuseS σ 1) = (9, offS σ) := by
  have h1 : aheadS σ 1 = σ.calls + 1 := by unfold aheadS; rw [if_neg (by omega)]
  have h0 : beginS (fuseS σ 1) = (9, offS σ) := by
    unfold beginS fuseS
    rw [h1]
    simp only [hS.dead, Bool.false_eq_true, if_false, if_true]
    rfl
  unfold syncDirS
  rw [h0]
  simp
theorem boot_keep {σ : DSt} (h : ∀ t ∈ σ.waits, t.fr ≠ keptL ∧ t.to ≠ keptL) : ∀ k, k ≤ σ.waits.length → nget keptL (bootNames σ k) = nget keptL σ.sure
  | 0, _ => rfl
  | k + 1, hk => by
    rw [bootNames_succ (by omega)]
    have hm : σ.waits.getD k default ∈ σ.waits := by
      rw [List.getD_eq_getElem?_getD, List.getElem?_eq_getElem (show k < σ.waits.length by omega)]
      exact List.getElem_mem _
    rw [turnDo_keep (h _ hm).1 (h _ hm).2]
    exact boot_keep h k (by omega)
theorem cut_keep {keep : List Int} {all : List Nat} {file : Nat → DFile} {g : Nat} {data : List UInt8} (h1 : ∃ r, (file g).b = data ++ r) (h2 : data.length ≤ (file g).sure) : ∀ k, (∃ r, ((cutN keep all file k).1 g).b = data ++ r) ∧ data.length ≤ ((cutN keep all file k).1 g).sure
  | 0 => ⟨h1, h2⟩
  | k + 1 => by
    obtain ⟨⟨r, i1⟩, i2⟩ := cut_keep (keep := keep) (all := all) h1 h2 k
    simp only [cutN]
    by_cases e : g = all.getD k 0
    · rw [if_pos e, ← e]
      unfold cutOne
      split
      · exact ⟨⟨r, i1⟩, i2⟩
      · simp only
        refine ⟨⟨r.take (((cutN keep all file k).1 g).sure + kpS ((cutN keep all file k).1 g) keep (cutN keep all file k).2 - data.length), ?_⟩, by omega⟩
        rw [i1, List.take_append, List.take_of_length_le (by omega)]
    · rw [if_neg e]
      exact ⟨⟨r, i1⟩, i2⟩
theorem read_st {σ : DSt} {data : List UInt8} {k : Nat} (hS : Sure σ data k) (turns : Int) (keep : List Int) : ∃ r, readS (bootS (offS σ) turns keep) keptL = (some (data ++ r), 0) := by
  obtain ⟨f, k1, k2, k3, k4⟩ := hS.keep
  have htk : tkS (offS σ) turns ≤ (offS σ).waits.length := by unfold tkS; omega
  have hb : nget keptL (bootNames (offS σ) (tkS (offS σ) turns)) = some f := (boot_keep (σ := offS σ) hS.turns _ htk).trans k2
  obtain ⟨⟨r, i1⟩, -⟩ := cut_keep (keep := keep) (all := σ.all) k3 k4 σ.all.length
  refine ⟨r, ?_⟩
  unfold readS
  rw [if_neg (by simp [bootS, endS])]
  show (match nget keptL (bootNames (offS σ) (tkS (offS σ) turns)) with | none => _ | some f => _) = _
  rw [hb]
  simp only [Prod.mk.injEq, Option.some.injEq, and_true]
  exact i1
end Go.Am.Dk
