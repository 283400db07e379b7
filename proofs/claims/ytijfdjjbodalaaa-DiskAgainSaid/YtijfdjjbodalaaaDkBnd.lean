/- Any disk's bounds, through any acts: plainly. -/
import Derived.Test.YtijfdjjbodalaaaDkRefC
set_option linter.unusedSimpArgs false
set_option linter.unusedVariables false
namespace Go.Am.Dk
open Go.Am
set_option maxRecDepth 20000
set_option maxHeartbeats 1000000
theorem bnput_len (k : List UInt8) (f : Nat) : ∀ n : NMap, (nput k f n).length ≤ n.length + 1
  | [] => by simp [nput]
  | p :: r => by
    rw [nput]
    split
    · simp
    · have := bnput_len k f r
      simp only [List.length_cons]
      omega
theorem bndel_len (k : List UInt8) : ∀ n : NMap, (ndel k n).length ≤ n.length
  | [] => by simp [ndel]
  | p :: r => by
    rw [ndel]
    split
    · simp
    · have := bndel_len k r
      simp only [List.length_cons]
      omega
theorem bturn_len (t : DTurn) (n : NMap) : (turnDo t n).length ≤ n.length + 1 := by
  unfold turnDo
  split
  · split
    · omega
    · exact bnput_len _ _ _
  · have := bndel_len t.fr n
    split
    · omega
    · split
      · omega
      · have := bnput_len t.to (by assumption) (ndel t.fr n)
        omega
theorem bturn_keys {t : DTurn} {n : NMap} {m : Nat} (h : ∀ p ∈ n, p.1.length ≤ m) (ht : t.to.length ≤ m) : ∀ p ∈ turnDo t n, p.1.length ≤ m := by
  intro p hp
  unfold turnDo at hp
  split at hp
  · split at hp
    · exact h p hp
    · rcases mem_nput hp with hp | rfl
      · exact h p hp
      · exact ht
  · split at hp
    · exact h p (mem_ndel hp)
    · split at hp
      · exact h p (mem_ndel hp)
      · rcases mem_nput hp with hp | rfl
        · exact h p (mem_ndel hp)
        · exact ht
theorem bsum_le (l : NMap) (g : List UInt8 × Nat → Nat) (m : Nat) (h : ∀ p ∈ l, g p ≤ m) : (l.map g).sum ≤ l.length * m := by
  induction l with
  | nil => simp
  | cons p r ih =>
    have h1 := h p List.mem_cons_self
    have h2 := ih (fun q hq => h q (List.mem_cons_of_mem _ hq))
    simp only [List.map_cons, List.sum_cons, List.length_cons, Nat.add_mul]
    omega
structure Bnd (σ : DSt) (k : Nat) : Prop where
  cap : 0 ≤ σ.cap ∧ σ.cap ≤ 1048576
  calls : 0 ≤ σ.calls ∧ σ.calls ≤ k
  wl : σ.waits.length ≤ k
  al : σ.all.length ≤ 64 + k
  nl : σ.names.length ≤ 64 + 100 * k
  sl : σ.sure.length ≤ 64 + 100 * k
  nk : ∀ p ∈ σ.names, p.1.length ≤ 2000
  sk : ∀ p ∈ σ.sure, p.1.length ≤ 2000
  wk : ∀ t ∈ σ.waits, t.to.length ≤ 2000
  fl : ∀ f ∈ σ.all, (σ.file f).sure ≤ (σ.file f).b.length ∧ (σ.file f).b.length ≤ 2000 + 500 * k
variable {σ : DSt} {k : Nat}
theorem Bnd.mono (h : Bnd σ k) : Bnd σ (k + 1) := by
  have := h.calls
  have := h.wl
  have := h.al
  have := h.nl
  have := h.sl
  exact ⟨h.cap, ⟨by omega, by omega⟩, by omega, by omega, by omega, by omega, h.nk, h.sk, h.wk, fun f hf => by have := h.fl f hf; omega⟩
theorem Bnd.used (h : Bnd σ k) (hO : σ.Ok) (hk : k ≤ 100) : usedS σ ≤ 1000000000 := by
  have h1 := bsum_le σ.names (fun p => (σ.file p.2).b.length) (2000 + 500 * k) (fun p hp => (h.fl _ (hO.names p hp)).2)
  have h2 : σ.names.length * (2000 + 500 * k) ≤ (64 + 100 * 100) * (2000 + 500 * 100) := Nat.mul_le_mul (by have := h.nl; omega) (by omega)
  have h4 : usedS σ ≤ σ.names.length * (2000 + 500 * k) := h1
  omega
theorem beginS_calls (σ : DSt) : σ.calls ≤ (beginS σ).2.calls ∧ (beginS σ).2.calls ≤ σ.calls + 1 := by
  unfold beginS
  split
  · simp only; omega
  · split
    · simp only; omega
    · split <;> (simp only; omega)
theorem Bnd.begin (h : Bnd σ k) : Bnd (beginS σ).2 (k + 1) := by
  obtain ⟨e1, e2, e3, e4, e5, e6⟩ := beginS_all σ
  have hc := beginS_calls σ
  have m := h.mono
  have := h.calls
  exact ⟨by rw [e6]; exact m.cap, ⟨by omega, by omega⟩, by rw [e4]; exact m.wl, by rw [e1]; exact m.al, by rw [e2]; exact m.nl, by rw [e3]; exact m.sl, by rw [e2]; exact m.nk, by rw [e3]; exact m.sk, by rw [e4]; exact m.wk, by rw [e1, e5]; exact m.fl⟩
theorem Bnd.turn (h : Bnd σ k) (t : DTurn) (ht : t.to.length ≤ 2000) : Bnd (turnsS (beginS σ).2 t) (k + 1) := by
  obtain ⟨e1, e2, e3, e4, e5, e6⟩ := beginS_all σ
  have m := h.begin
  have := h.wl
  have := h.nl
  refine ⟨m.cap, m.calls, ?_, m.al, ?_, m.sl, bturn_keys m.nk ht, m.sk, fun u hu => ?_, m.fl⟩
  · show ((beginS σ).2.waits ++ [t]).length ≤ _
    rw [e4, List.length_append, List.length_singleton]; omega
  · show (turnDo t (beginS σ).2.names).length ≤ _
    have := bturn_len t (beginS σ).2.names
    rw [e2] at this ⊢
    omega
  · rcases List.mem_append.1 hu with hu | hu
    · exact m.wk u hu
    · rw [List.mem_singleton.1 hu]; exact ht
theorem Bnd.setF (h : Bnd σ k) (f : Nat) (x : DFile) (h1 : x.sure ≤ x.b.length) (h2 : x.b.length ≤ 2000 + 500 * (k + 1)) : Bnd (setF (beginS σ).2 f x) (k + 1) := by
  have m := h.begin
  refine ⟨m.cap, m.calls, m.wl, m.al, m.nl, m.sl, m.nk, m.sk, m.wk, fun g hg => ?_⟩
  show ((if g = f then x else (beginS σ).2.file g) : DFile).sure ≤ ((if g = f then x else (beginS σ).2.file g) : DFile).b.length ∧ ((if g = f then x else (beginS σ).2.file g) : DFile).b.length ≤ _
  split
  · exact ⟨h1, h2⟩
  · exact m.fl g hg
theorem openS_got {s : List UInt8} {f : Nat} (h : (openS σ s).1 = some f) : nget s σ.names = some f := by
  obtain ⟨e1, e2, e3, e4, e5, e6⟩ := beginS_all σ
  unfold openS at h
  split at h
  · simp at h
  · rw [e2] at h
    split at h
    · simp at h
    · rename_i g hg
      rw [hg]; exact h
theorem Bnd.create (h : Bnd σ k) (s : List UInt8) (hs : s.length ≤ 2000) (f : Nat) : Bnd (createS σ s f).2 (k + 1) := by
  unfold createS
  split
  · exact h.begin
  · split
    · exact h.begin
    · split
      · exact h.begin
      · split
        · exact h.begin
        · have m := h.turn ⟨[], s, some f⟩ hs
          refine ⟨m.cap, m.calls, m.wl, ?_, m.nl, m.sl, m.nk, m.sk, m.wk, fun g hg => ?_⟩
          · show ((beginS σ).2.all ++ [f]).length ≤ _
            have := h.al
            rw [(beginS_all σ).1, List.length_append, List.length_singleton]; omega
          · show ((if g = f then (⟨[], 0⟩ : DFile) else (beginS σ).2.file g) : DFile).sure ≤ ((if g = f then (⟨[], 0⟩ : DFile) else (beginS σ).2.file g) : DFile).b.length ∧ ((if g = f then (⟨[], 0⟩ : DFile) else (beginS σ).2.file g) : DFile).b.length ≤ _
            split
            · simp
            · rename_i e
              have hg' : g ∈ (beginS σ).2.all ++ [f] := hg
              rcases List.mem_append.1 hg' with hg | hg
              · exact m.fl g hg
              · exact absurd (List.mem_singleton.1 hg) e
theorem Bnd.append (h : Bnd σ k) (hO : σ.Ok) (s b : List UInt8) (hb : b.length ≤ 500) : Bnd (appendS σ s b).2 (k + 1) := by
  unfold appendS
  split
  · exact h.begin
  · split
    · exact h.begin
    · rename_i f hf
      split
      · exact h.begin
      · have := h.fl f (hO.names _ (nget_mem (openS_got hf)))
        exact h.setF f _ (by simp only [List.length_append]; omega) (by simp only [List.length_append]; omega)
theorem Bnd.sync (h : Bnd σ k) (hO : σ.Ok) (s : List UInt8) : Bnd (syncS σ s).2 (k + 1) := by
  unfold syncS
  split
  · exact h.begin
  · split
    · exact h.begin
    · rename_i f hf
      have := h.fl f (hO.names _ (nget_mem (openS_got hf)))
      exact h.setF f _ (Nat.le_refl _) (by simp only; omega)
theorem Bnd.syncDir (h : Bnd σ k) : Bnd (syncDirS σ).2 (k + 1) := by
  unfold syncDirS
  split
  · exact h.begin
  · have m := h.begin
    have m2 := h.mono
    exact ⟨m.cap, m.calls, Nat.zero_le _, m.al, m.nl, m2.nl, m.nk, m2.nk, fun t ht => by simp at ht, m.fl⟩
theorem Bnd.rename (h : Bnd σ k) (s t : List UInt8) (ht : t.length ≤ 2000) : Bnd (renameS σ s t).2 (k + 1) := by
  unfold renameS
  split
  · exact h.begin
  · split
    · exact h.begin
    · exact h.turn _ ht
theorem Bnd.remove (h : Bnd σ k) (s : List UInt8) : Bnd (removeS σ s).2 (k + 1) := by
  unfold removeS
  split
  · exact h.begin
  · exact h.turn _ (by simp)
theorem Bnd.fuse (h : Bnd σ k) (n : Int) : Bnd (fuseS σ n) (k + 1) := by
  have m := h.mono
  exact ⟨m.cap, m.calls, m.wl, m.al, m.nl, m.sl, m.nk, m.sk, m.wk, m.fl⟩
theorem Bnd.fault (h : Bnd σ k) (n e : Int) : Bnd (faultS σ n e) (k + 1) := by
  have m := h.mono
  exact ⟨m.cap, m.calls, m.wl, m.al, m.nl, m.sl, m.nk, m.sk, m.wk, m.fl⟩
theorem bboot_len {σ : DSt} : ∀ k, k ≤ σ.waits.length → (bootNames σ k).length ≤ σ.sure.length + k
  | 0, _ => Nat.le_refl _
  | k + 1, hk => by
    rw [bootNames_succ (by omega)]
    have := bturn_len (σ.waits.getD k default) (bootNames σ k)
    have := bboot_len (σ := σ) k (by omega)
    omega
theorem bboot_keys {σ : DSt} {m : Nat} (h1 : ∀ p ∈ σ.sure, p.1.length ≤ m) (h2 : ∀ t ∈ σ.waits, t.to.length ≤ m) : ∀ k, k ≤ σ.waits.length → ∀ p ∈ bootNames σ k, p.1.length ≤ m
  | 0, _ => h1
  | k + 1, hk => by
    rw [bootNames_succ (by omega)]
    refine bturn_keys (bboot_keys h1 h2 k (by omega)) (h2 _ ?_)
    rw [List.getD_eq_getElem?_getD, List.getElem?_eq_getElem (show k < σ.waits.length by omega)]
    exact List.getElem_mem _
theorem tkS_le (σ : DSt) (turns : Int) : tkS σ turns ≤ σ.waits.length := by unfold tkS; omega
theorem Bnd.bootS (h : Bnd σ k) (hk : k ≤ 100) (turns : Int) (keep : List Int) : Bnd (bootS σ turns keep) (k + 1) := by
  have ht := tkS_le σ turns
  have hl := bboot_len (σ := σ) _ ht
  have hn := bboot_keys h.sk h.wk _ ht
  have := h.sl
  have := h.wl
  have := h.al
  have := h.calls
  have hc := (cutN_ok (keep := keep) (file := σ.file) (all := σ.all) (fun f hf => (h.fl f hf).1) σ.all.length (Nat.le_refl _)).1
  refine ⟨h.cap, ⟨by show 0 ≤ σ.calls; omega, by show σ.calls ≤ _; omega⟩, Nat.zero_le _, ?_, ?_, ?_, hn, hn, fun t ht => by simp [Dk.bootS, endS] at ht, fun f hf => ?_⟩
  · show (σ.all.filter _).length ≤ _
    have := List.length_filter_le (fun f => decide (f ∈ (bootNames σ (tkS σ turns)).map (·.2))) σ.all
    simp only at this ⊢
    omega
  · show (bootNames σ (tkS σ turns)).length ≤ _
    omega
  · show (bootNames σ (tkS σ turns)).length ≤ _
    omega
  · have hf' : f ∈ σ.all := (List.mem_filter.1 hf).1
    have h1 := hc f hf'
    have h2 := (h.fl f hf').2
    exact ⟨h1.1, by show ((cutN keep σ.all σ.file σ.all.length).1 f).b.length ≤ _; omega⟩
theorem Bnd.bootR (h : Bnd σ k) (hk : k ≤ 100) (turns : Int) (keep : List Int) : Bnd (bootR σ turns keep).2 (k + 1) := by
  unfold Dk.bootR
  split
  · exact h.bootS hk turns keep
  · exact h.mono
end Go.Am.Dk
