/- What is there when the power comes back is sure: plainly. -/
import Derived.Test.YtijfdjjbodalaaaDkAny
import Derived.Test.YtijfdjjbodalaaaDkNewB
set_option linter.unusedSimpArgs false
set_option linter.unusedVariables false
namespace Go.Am.Dk
open Go.Am
set_option maxRecDepth 20000
set_option maxHeartbeats 1000000
theorem cut_sure {keep : List Int} {all : List Nat} {file : Nat → DFile} (hn : all.Nodup) (h : ∀ f ∈ all, (file f).sure ≤ (file f).b.length) : ∀ k, k ≤ all.length → ∀ i, i < k → ((cutN keep all file k).1 (all.getD i 0)).b.length = ((cutN keep all file k).1 (all.getD i 0)).sure
  | 0, _, i, hi => by omega
  | k + 1, hk, i, hi => by
    have gd : ∀ j, j < all.length → all.getD j 0 = all[j]! := fun j hj => by simp [List.getD_eq_getElem?_getD, List.getElem?_eq_getElem hj, hj]
    by_cases e : i = k
    · subst e
      simp only [cutN, if_true]
      have hm : all.getD i 0 ∈ all := by
        rw [List.getD_eq_getElem?_getD, List.getElem?_eq_getElem (show i < all.length by omega)]
        exact List.getElem_mem _
      have hc := ((cutN_ok (keep := keep) h i (by omega)).1 _ hm).1
      unfold cutOne
      split
      · rename_i e; exact e
      · simp only [List.length_take]
        have := kp_le (keep := keep) (i := (cutN keep all file i).2) hc
        omega
    · have hne : all.getD i 0 ≠ all.getD k 0 := fun e2 => by
        rw [List.getD_eq_getElem?_getD, List.getD_eq_getElem?_getD, List.getElem?_eq_getElem (show i < all.length by omega), List.getElem?_eq_getElem (show k < all.length by omega)] at e2
        exact e ((List.getElem_inj hn).1 e2)
      simp only [cutN, if_neg hne]
      exact cut_sure hn h k (by omega) i (by omega)
theorem cut_all {keep : List Int} {all : List Nat} {file : Nat → DFile} (hn : all.Nodup) (h : ∀ f ∈ all, (file f).sure ≤ (file f).b.length) : ∀ f ∈ all, ((cutN keep all file all.length).1 f).b.length = ((cutN keep all file all.length).1 f).sure := fun f hf => by
  obtain ⟨i, hi, rfl⟩ := List.getElem_of_mem hf
  have := cut_sure (keep := keep) hn h all.length (Nat.le_refl _) i hi
  rw [List.getD_eq_getElem?_getD, List.getElem?_eq_getElem hi] at this
  exact this
theorem cut_id {keep : List Int} {all : List Nat} {file : Nat → DFile} (h : ∀ f ∈ all, (file f).b.length = (file f).sure) : ∀ k, k ≤ all.length → (cutN keep all file k).1 = file
  | 0, _ => rfl
  | k + 1, hk => by
    have ih := cut_id (keep := keep) h k (by omega)
    have hm : all.getD k 0 ∈ all := by
      rw [List.getD_eq_getElem?_getD, List.getElem?_eq_getElem (show k < all.length by omega)]
      exact List.getElem_mem _
    simp only [cutN, ih]
    funext g
    split
    · rename_i e
      unfold cutOne
      rw [if_pos (h _ hm), e]
    · rfl
def offA (σ : DSt) : DSt := { σ with fuse := σ.calls + 1, calls := σ.calls + 1, dead := true }
theorem off_any {σ : DSt} (hd : σ.dead = false) : syncDirS (fuseS σ 1) = (9, offA σ) := by
  have h1 : aheadS σ 1 = σ.calls + 1 := by unfold aheadS; rw [if_neg (by omega)]
  have h0 : beginS (fuseS σ 1) = (9, offA σ) := by
    unfold beginS fuseS
    rw [h1]
    simp only [hd, Bool.false_eq_true, if_false, if_true]
    rfl
  unfold syncDirS
  rw [h0]
  simp
theorem Bnd.off {σ : DSt} {k : Nat} (h : Bnd σ k) : Bnd (offA σ) (k + 1) := by
  have m := h.mono
  have := h.calls
  exact ⟨m.cap, ⟨by show 0 ≤ σ.calls + 1; omega, by show σ.calls + 1 ≤ _; omega⟩, m.wl, m.al, m.nl, m.sl, m.nk, m.sk, m.wk, m.fl⟩
theorem boot_twice {σ : DSt} (hO : σ.Ok) (turns : Int) (keep keep2 : List Int) (h : ∀ f ∈ σ.all, (σ.file f).sure ≤ (σ.file f).b.length) :
    (bootS (offA (bootS σ turns keep)) 0 keep2).names = (bootS σ turns keep).names ∧ (bootS (offA (bootS σ turns keep)) 0 keep2).file = (bootS σ turns keep).file ∧ (bootS (offA (bootS σ turns keep)) 0 keep2).dead = false := by
  have hc : ∀ f ∈ (bootS σ turns keep).all, ((bootS σ turns keep).file f).b.length = ((bootS σ turns keep).file f).sure := fun f hf => cut_all (keep := keep) hO.ad h f (List.mem_filter.1 hf).1
  have ht : tkS (offA (bootS σ turns keep)) 0 = 0 := by unfold tkS; omega
  refine ⟨?_, ?_, rfl⟩
  · show bootNames (offA (bootS σ turns keep)) (tkS (offA (bootS σ turns keep)) 0) = _
    rw [ht]
    rfl
  · show (cutN keep2 (bootS σ turns keep).all (bootS σ turns keep).file (bootS σ turns keep).all.length).1 = _
    exact cut_id hc _ (Nat.le_refl _)
theorem nget_key {k : List UInt8} : ∀ {n : NMap}, k ∈ n.map (·.1) → ∃ f, nget k n = some f
  | p :: r, h => by
    rw [nget]
    split
    · exact ⟨_, rfl⟩
    · rename_i e
      rw [List.map_cons, List.mem_cons] at h
      exact nget_key (h.resolve_left (fun e2 => e e2.symm))
theorem bsum_key {l : List FileV} {ids : List Nat} {p : List UInt8 × Nat} (h : p ∈ (l.map (·.name)).zip ids) : p.1 ∈ l.map (·.name) ∧ p.2 ∈ ids := List.of_mem_zip h
theorem new_bnd {cap : Int} {fl : List FileV} {ids : List Nat} {file : Nat → DFile} (hln : ids.length = fl.length) (hfile : ids.map file = fl.map (fun f => ⟨f.data, f.data.length⟩)) (h64 : fl.length ≤ 64) (hc : 0 ≤ cap ∧ cap ≤ 1048576) (hs : ∀ f ∈ fl, f.name.length ≤ 2000 ∧ f.data.length ≤ 2000) :
    Bnd { filesS cap fl ids file with sure := (fl.map (·.name)).zip ids } 0 := by
  have hz : ((fl.map (·.name)).zip ids).length ≤ 64 := by simp [List.length_zip]; omega
  have hk : ∀ p ∈ (fl.map (·.name)).zip ids, p.1.length ≤ 2000 := fun p hp => by
    obtain ⟨f, hf, e⟩ := List.mem_map.1 (bsum_key hp).1
    rw [← e]; exact (hs f hf).1
  refine ⟨hc, ⟨Int.le_refl _, Int.le_refl _⟩, Nat.le_refl _, by show ids.length ≤ _; omega, hz, hz, hk, hk, fun t ht => by simp [filesS] at ht, fun f hf => ?_⟩
  have : file f ∈ ids.map file := List.mem_map.2 ⟨f, hf, rfl⟩
  rw [hfile] at this
  obtain ⟨g, hg, e⟩ := List.mem_map.1 this
  show (file f).sure ≤ (file f).b.length ∧ (file f).b.length ≤ _
  rw [← e]
  exact ⟨Nat.le_refl _, by have := (hs g hg).2; simp only; omega⟩
end Go.Am.Dk
