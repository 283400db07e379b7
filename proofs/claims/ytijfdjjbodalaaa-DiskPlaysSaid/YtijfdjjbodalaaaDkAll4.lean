/- A disk, and the document's: names in plain Lean. -/
import Derived.Test.YtijfdjjbodalaaaDkAll3
import Derived.Sort.KeysCollected
import Derived.Test.YtijfdjjbodalaaaDkAll2
import Derived.Test.YtijfdjjbodalaaaDkAll1
set_option linter.unusedSimpArgs false
set_option linter.unusedVariables false
namespace Go.Am.Dk
open Go.Am
set_option maxRecDepth 20000
set_option maxHeartbeats 1000000
theorem ltB_iff : ∀ (a b : List UInt8), ltB a b = true ↔ a < b
  | a, [] => by
    cases a <;> simp [ltB]
  | [], b :: y => by simp [ltB]
  | a :: x, b :: y => by
    rw [List.cons_lt_cons_iff, ltB]
    split
    · rename_i h
      exact ⟨fun _ => Or.inl (UInt8.lt_iff_toNat_lt.2 h), fun _ => rfl⟩
    · rename_i h
      split
      · rename_i e
        rw [ltB_iff x y]
        exact ⟨fun h2 => Or.inr ⟨e, h2⟩, fun h2 => h2.elim (fun h3 => absurd (UInt8.lt_iff_toNat_lt.1 h3) h) (fun h3 => h3.2)⟩
      · rename_i e
        exact ⟨fun h2 => by simp at h2, fun h2 => h2.elim (fun h3 => absurd (UInt8.lt_iff_toNat_lt.1 h3) h) (fun h3 => absurd h3.1 e)⟩
theorem ltB_irrefl (a : List UInt8) : ltB a a = false := by
  cases h : ltB a a with
  | false => rfl
  | true => exact absurd ((ltB_iff a a).1 h) (List.lt_irrefl a)
theorem ltB_trans {a b c : List UInt8} (h1 : ltB a b = true) (h2 : ltB b c = true) : ltB a c = true := (ltB_iff a c).2 (List.lt_trans ((ltB_iff a b).1 h1) ((ltB_iff b c).1 h2))
theorem ltB_total : ∀ {a b : List UInt8}, a ≠ b → ltB a b = false → ltB b a = true
  | a, [], h, _ => by
    cases a with
    | nil => exact absurd rfl h
    | cons x r => rfl
  | [], b :: y, _, h2 => by simp [ltB] at h2
  | a :: x, b :: y, h, h2 => by
    rw [ltB] at h2 ⊢
    split at h2
    · simp at h2
    · rename_i h3
      split at h2
      · rename_i e
        rw [if_neg (by rw [e]; omega), if_pos e.symm]
        exact ltB_total (fun e2 => h (by rw [e, e2])) h2
      · rename_i e
        rw [if_pos]
        have : a.toNat ≠ b.toNat := fun e2 => e (UInt8.toNat_inj.1 e2)
        omega
theorem gtB_iff {a b : List UInt8} : gtB a b = true ↔ ltB b a = true := by
  unfold gtB
  constructor
  · intro h
    simp only [Bool.not_eq_true', Bool.or_eq_false_iff, decide_eq_false_iff_not] at h
    exact ltB_total h.2 h.1
  · intro h
    simp only [Bool.not_eq_true', Bool.or_eq_false_iff, decide_eq_false_iff_not]
    refine ⟨?_, fun e => by rw [e, ltB_irrefl] at h; simp at h⟩
    cases h2 : ltB a b with
    | false => rfl
    | true => have := ltB_trans h h2; rw [ltB_irrefl] at this; simp at this
def SortedE (l : List REnt) : Prop := l.Pairwise fun a b => ltB a.s b.s = true
theorem sorted_without {l : List REnt} (h : SortedE l) (s : List UInt8) : SortedE (withoutL l s) := List.Pairwise.filter _ h
theorem putF_sorted {x : REnt} : ∀ (l : List REnt) (a : List REnt × Bool), SortedE a.1 → SortedE l → (∀ e ∈ a.1, ∀ e' ∈ l, ltB e.s e'.s = true) → (a.2 = false → ∀ e ∈ a.1, ltB e.s x.s = true) → (a.2 = true → ∀ e' ∈ l, ltB x.s e'.s = true ∨ e'.s = x.s) →
    SortedE (l.foldl (putStep x) a).1 ∧ ((l.foldl (putStep x) a).2 = false → ∀ e ∈ (l.foldl (putStep x) a).1, ltB e.s x.s = true)
  | [], a, h1, _, _, h4, _ => ⟨h1, h4⟩
  | e :: r, a, h1, h2, h3, h4, h5 => by
    rw [List.foldl_cons]
    obtain ⟨g1, g2⟩ := List.pairwise_cons.1 h2
    have snoc : SortedE (a.1 ++ [e]) := by
      refine List.pairwise_append.2 ⟨h1, List.pairwise_singleton _ _, fun b hb c hc => ?_⟩
      rw [List.mem_singleton.1 hc]
      exact h3 b hb e List.mem_cons_self
    unfold putStep
    split
    · exact putF_sorted r a h1 g2 (fun b hb c hc => h3 b hb c (List.mem_cons_of_mem _ hc)) h4 (fun hd c hc => h5 hd c (List.mem_cons_of_mem _ hc))
    · rename_i hne
      split
      · rename_i hc
        rw [Bool.and_eq_true] at hc
        have hd : a.2 = false := by simpa using hc.1
        have hgt := gtB_iff.1 hc.2
        refine putF_sorted r _ ?_ g2 (fun b hb c hc2 => ?_) (fun h => by simp at h) (fun _ c hc2 => Or.inl (ltB_trans hgt (g1 c hc2)))
        · simp only
          refine List.pairwise_append.2 ⟨List.pairwise_append.2 ⟨h1, List.pairwise_singleton _ _, fun b hb c hc2 => ?_⟩, List.pairwise_singleton _ _, fun b hb c hc2 => ?_⟩
          · rw [List.mem_singleton.1 hc2]; exact h4 hd b hb
          · rw [List.mem_singleton.1 hc2]
            rcases List.mem_append.1 hb with hb | hb
            · exact h3 b hb e List.mem_cons_self
            · rw [List.mem_singleton.1 hb]; exact hgt
        · simp only at hb
          rcases List.mem_append.1 hb with hb | hb
          · rcases List.mem_append.1 hb with hb | hb
            · exact h3 b hb c (List.mem_cons_of_mem _ hc2)
            · rw [List.mem_singleton.1 hb]; exact ltB_trans hgt (g1 c hc2)
          · rw [List.mem_singleton.1 hb]; exact g1 c hc2
      · rename_i hc
        refine putF_sorted r _ snoc g2 (fun b hb c hc2 => ?_) (fun hd b hb => ?_) (fun hd c hc2 => h5 hd c (List.mem_cons_of_mem _ hc2))
        · rcases List.mem_append.1 hb with hb | hb
          · exact h3 b hb c (List.mem_cons_of_mem _ hc2)
          · rw [List.mem_singleton.1 hb]; exact g1 c hc2
        · have hd' : a.2 = false := hd
          rcases List.mem_append.1 hb with hb | hb
          · exact h4 hd' b hb
          · rw [List.mem_singleton.1 hb]
            cases h6 : ltB e.s x.s with
            | true => rfl
            | false =>
              exfalso
              apply hc
              rw [hd']
              simp only [Bool.not_false, Bool.true_and]
              exact gtB_iff.2 (ltB_total hne h6)
theorem sorted_put {l : List REnt} (h : SortedE l) (x : REnt) : SortedE (putL l x) := by
  obtain ⟨h1, h2⟩ := putF_sorted (x := x) l ([], false) List.Pairwise.nil h (fun e he => by simp at he) (fun _ e he => by simp at he) (fun hd => by simp at hd)
  unfold putL
  split
  · exact h1
  · rename_i hd
    refine List.pairwise_append.2 ⟨h1, List.pairwise_singleton _ _, fun b hb c hc => ?_⟩
    rw [List.mem_singleton.1 hc]
    have h3 : (putF l x).2 = false := by simpa using hd
    exact h2 h3 b hb
theorem sorted_find {l : List REnt} (h : SortedE l) {e : REnt} (he : e ∈ l) : findL l e.s = e.n := by
  induction l with
  | nil => simp at he
  | cons b r ih =>
    obtain ⟨g1, g2⟩ := List.pairwise_cons.1 h
    rw [findL]
    rcases List.mem_cons.1 he with rfl | he
    · rw [if_pos rfl]
    · rw [if_neg (fun e2 => by have := g1 e he; rw [e2, ltB_irrefl] at this; simp at this)]
      exact ih g2 he
theorem sorted_nodup {l : List REnt} (h : SortedE l) : (l.map (·.s)).Nodup := by
  unfold SortedE at h
  rw [List.Nodup, List.pairwise_map]
  exact h.imp (fun hab e => by rw [e, ltB_irrefl] at hab; simp at hab)
theorem findL_without (l : List REnt) (k s : List UInt8) : findL (withoutL l k) s = if k = s then -1 else findL l s := by
  induction l with
  | nil => simp [withoutL, findL]
  | cons e r ih =>
    unfold withoutL at ih ⊢
    rw [List.filter_cons]
    by_cases h : e.s = k
    · rw [if_neg (by simp [h]), ih]
      split
      · rfl
      · rename_i hk
        rw [findL, if_neg (by rw [h]; exact hk)]
    · rw [if_pos (by simp [h]), findL, ih]
      by_cases h2 : e.s = s
      · rw [if_pos h2, if_neg (fun e2 => h (h2.trans e2.symm)), findL, if_pos h2]
      · rw [if_neg h2]
        split
        · rfl
        · rw [findL, if_neg h2]
theorem nget_ndel_same {k : List UInt8} : ∀ {n : NMap}, (n.map (·.1)).Nodup → nget k (ndel k n) = none
  | [], _ => rfl
  | p :: r, h => by
    rw [List.map_cons, List.nodup_cons] at h
    rw [ndel]
    split
    · rename_i e
      cases h2 : nget k r with
      | none => rfl
      | some f => exact absurd (List.mem_map.2 ⟨_, nget_mem h2, e.symm⟩) h.1
    · rename_i e
      rw [nget, if_neg e]
      exact nget_ndel_same h.2
def ix (all : List Nat) : Option Nat → Int
  | none => -1
  | some f => (all.idxOf f : Nat)
structure NamesR (all : List Nat) (n : NMap) (l : List REnt) : Prop where
  srt : SortedE l
  fnd : ∀ s, findL l s = ix all (nget s n)
  pos : ∀ e ∈ l, 0 ≤ e.n
theorem without_pos {l : List REnt} (h : ∀ e ∈ l, 0 ≤ e.n) (s : List UInt8) : ∀ e ∈ withoutL l s, 0 ≤ e.n := fun e he => h e (List.mem_filter.1 he).1
theorem putL_pos {l : List REnt} {x : REnt} (h : ∀ e ∈ l, 0 ≤ e.n) (hx : 0 ≤ x.n) : ∀ e ∈ putL l x, 0 ≤ e.n := by
  have key : ∀ (l : List REnt) (a : List REnt × Bool), (∀ e ∈ a.1, 0 ≤ e.n) → (∀ e ∈ l, 0 ≤ e.n) → ∀ e ∈ (l.foldl (putStep x) a).1, 0 ≤ e.n := by
    intro l
    induction l with
    | nil => intro a h1 _; exact h1
    | cons b r ih =>
      intro a h1 h2
      rw [List.foldl_cons]
      refine ih _ ?_ (fun e he => h2 e (List.mem_cons_of_mem _ he))
      have hb := h2 b List.mem_cons_self
      unfold putStep
      split
      · exact h1
      · split
        · intro e he
          rcases List.mem_append.1 he with he | he
          · rcases List.mem_append.1 he with he | he
            · exact h1 e he
            · rw [List.mem_singleton.1 he]; exact hx
          · rw [List.mem_singleton.1 he]; exact hb
        · intro e he
          rcases List.mem_append.1 he with he | he
          · exact h1 e he
          · rw [List.mem_singleton.1 he]; exact hb
  have h1 := key l ([], false) (fun e he => by simp at he) h
  unfold putL
  split
  · exact h1
  · intro e he
    rcases List.mem_append.1 he with he | he
    · exact h1 e he
    · rw [List.mem_singleton.1 he]; exact hx
theorem NamesR.put {all : List Nat} {n : NMap} {l : List REnt} (h : NamesR all n l) (s : List UInt8) (f : Nat) : NamesR all (nput s f n) (putL l ⟨s, (all.idxOf f : Nat)⟩) := by
  refine ⟨sorted_put h.srt _, fun t => ?_, putL_pos h.pos (by show (0 : Int) ≤ ((all.idxOf f : Nat) : Int); omega)⟩
  rw [findL_putL]
  simp only
  by_cases e : s = t
  · rw [if_pos e, ← e, nget_nput_same]; rfl
  · rw [if_neg e, nget_nput_ne f (Ne.symm e), h.fnd]
theorem NamesR.del {all : List Nat} {n : NMap} {l : List REnt} (h : NamesR all n l) (hn : (n.map (·.1)).Nodup) (s : List UInt8) : NamesR all (ndel s n) (withoutL l s) := by
  refine ⟨sorted_without h.srt s, fun t => ?_, without_pos h.pos s⟩
  rw [findL_without]
  by_cases e : s = t
  · rw [if_pos e, ← e, nget_ndel_same hn]; rfl
  · rw [if_neg e, nget_ndel_ne (Ne.symm e), h.fnd]
def tR (all : List Nat) (t : DTurn) : RTurn := ⟨t.fr, t.to, ix all t.f⟩
theorem ix_neg {all : List Nat} {o : Option Nat} : ix all o < 0 ↔ o = none := by
  cases o with
  | none => simp [ix]
  | some f => simp [ix]
theorem NamesR.turn {all : List Nat} {n : NMap} {l : List REnt} (h : NamesR all n l) (hn : (n.map (·.1)).Nodup) (t : DTurn) : NamesR all (turnDo t n) (doL l (tR all t)) := by
  unfold turnDo doL doN doW tR
  simp only
  cases hf : t.f with
  | some f =>
    have hn1 : ¬ ix all (some f) < 0 := by rw [ix_neg]; simp
    simp only [hn1, if_false, or_false]
    split
    · exact h
    · exact h.put t.to f
  | none =>
    have hn1 : ix all none < 0 := ix_neg.2 rfl
    simp only [hn1, if_true, h.fnd]
    have hd := h.del hn t.fr
    cases hg : nget t.fr n with
    | none =>
      have hn2 : ix all none < 0 := ix_neg.2 rfl
      rw [if_pos (Or.inr hn2)]
      exact hd
    | some f =>
      have hn2 : ¬ ix all (some f) < 0 := by rw [ix_neg]; simp
      simp only [hn2, or_false]
      split
      · exact hd
      · exact hd.put t.to f
end Go.Am.Dk
/- Any disk's bounds, through any acts: plainly. -/
namespace Go.Am.Dk
open Go.Am
set_option maxRecDepth 20000
set_option maxHeartbeats 1000000
theorem bnput_len (k : List UInt8) (f : Nat) : ∀ n : NMap, (nput k f n).length ≤ n.length + 1
  | [] => by simp [nput]
  | p :: r => by
    rw [nput]
    split
    · simp
    · have := bnput_len k f r
      simp only [List.length_cons]
      omega
theorem bndel_len (k : List UInt8) : ∀ n : NMap, (ndel k n).length ≤ n.length
  | [] => by simp [ndel]
  | p :: r => by
    rw [ndel]
    split
    · simp
    · have := bndel_len k r
      simp only [List.length_cons]
      omega
theorem bturn_len (t : DTurn) (n : NMap) : (turnDo t n).length ≤ n.length + 1 := by
  unfold turnDo
  split
  · split
    · omega
    · exact bnput_len _ _ _
  · have := bndel_len t.fr n
    split
    · omega
    · split
      · omega
      · have := bnput_len t.to (by assumption) (ndel t.fr n)
        omega
theorem bturn_keys {t : DTurn} {n : NMap} {m : Nat} (h : ∀ p ∈ n, p.1.length ≤ m) (ht : t.to.length ≤ m) : ∀ p ∈ turnDo t n, p.1.length ≤ m := by
  intro p hp
  unfold turnDo at hp
  split at hp
  · split at hp
    · exact h p hp
    · rcases mem_nput hp with hp | rfl
      · exact h p hp
      · exact ht
  · split at hp
    · exact h p (mem_ndel hp)
    · split at hp
      · exact h p (mem_ndel hp)
      · rcases mem_nput hp with hp | rfl
        · exact h p (mem_ndel hp)
        · exact ht
theorem bsum_le (l : NMap) (g : List UInt8 × Nat → Nat) (m : Nat) (h : ∀ p ∈ l, g p ≤ m) : (l.map g).sum ≤ l.length * m := by
  induction l with
  | nil => simp
  | cons p r ih =>
    have h1 := h p List.mem_cons_self
    have h2 := ih (fun q hq => h q (List.mem_cons_of_mem _ hq))
    simp only [List.map_cons, List.sum_cons, List.length_cons, Nat.add_mul]
    omega
structure Bnd (σ : DSt) (k : Nat) : Prop where
  cap : 0 ≤ σ.cap ∧ σ.cap ≤ 1048576
  calls : 0 ≤ σ.calls ∧ σ.calls ≤ k
  wl : σ.waits.length ≤ k
  al : σ.all.length ≤ 64 + k
  nl : σ.names.length ≤ 64 + 100 * k
  sl : σ.sure.length ≤ 64 + 100 * k
  nk : ∀ p ∈ σ.names, p.1.length ≤ 2000
  sk : ∀ p ∈ σ.sure, p.1.length ≤ 2000
  wk : ∀ t ∈ σ.waits, t.to.length ≤ 2000
  fl : ∀ f ∈ σ.all, (σ.file f).sure ≤ (σ.file f).b.length ∧ (σ.file f).b.length ≤ 2000 + 500 * k
variable {σ : DSt} {k : Nat}
theorem Bnd.mono (h : Bnd σ k) : Bnd σ (k + 1) := by
  have := h.calls
  have := h.wl
  have := h.al
  have := h.nl
  have := h.sl
  exact ⟨h.cap, ⟨by omega, by omega⟩, by omega, by omega, by omega, by omega, h.nk, h.sk, h.wk, fun f hf => by have := h.fl f hf; omega⟩
theorem Bnd.used (h : Bnd σ k) (hO : σ.Ok) (hk : k ≤ 100) : usedS σ ≤ 1000000000 := by
  have h1 := bsum_le σ.names (fun p => (σ.file p.2).b.length) (2000 + 500 * k) (fun p hp => (h.fl _ (hO.names p hp)).2)
  have h2 : σ.names.length * (2000 + 500 * k) ≤ (64 + 100 * 100) * (2000 + 500 * 100) := Nat.mul_le_mul (by have := h.nl; omega) (by omega)
  have h4 : usedS σ ≤ σ.names.length * (2000 + 500 * k) := h1
  omega
theorem beginS_calls (σ : DSt) : σ.calls ≤ (beginS σ).2.calls ∧ (beginS σ).2.calls ≤ σ.calls + 1 := by
  unfold beginS
  split
  · simp only; omega
  · split
    · simp only; omega
    · split <;> (simp only; omega)
theorem Bnd.begin (h : Bnd σ k) : Bnd (beginS σ).2 (k + 1) := by
  obtain ⟨e1, e2, e3, e4, e5, e6⟩ := beginS_all σ
  have hc := beginS_calls σ
  have m := h.mono
  have := h.calls
  exact ⟨by rw [e6]; exact m.cap, ⟨by omega, by omega⟩, by rw [e4]; exact m.wl, by rw [e1]; exact m.al, by rw [e2]; exact m.nl, by rw [e3]; exact m.sl, by rw [e2]; exact m.nk, by rw [e3]; exact m.sk, by rw [e4]; exact m.wk, by rw [e1, e5]; exact m.fl⟩
theorem Bnd.turn (h : Bnd σ k) (t : DTurn) (ht : t.to.length ≤ 2000) : Bnd (turnsS (beginS σ).2 t) (k + 1) := by
  obtain ⟨e1, e2, e3, e4, e5, e6⟩ := beginS_all σ
  have m := h.begin
  have := h.wl
  have := h.nl
  refine ⟨m.cap, m.calls, ?_, m.al, ?_, m.sl, bturn_keys m.nk ht, m.sk, fun u hu => ?_, m.fl⟩
  · show ((beginS σ).2.waits ++ [t]).length ≤ _
    rw [e4, List.length_append, List.length_singleton]; omega
  · show (turnDo t (beginS σ).2.names).length ≤ _
    have := bturn_len t (beginS σ).2.names
    rw [e2] at this ⊢
    omega
  · rcases List.mem_append.1 hu with hu | hu
    · exact m.wk u hu
    · rw [List.mem_singleton.1 hu]; exact ht
theorem Bnd.setF (h : Bnd σ k) (f : Nat) (x : DFile) (h1 : x.sure ≤ x.b.length) (h2 : x.b.length ≤ 2000 + 500 * (k + 1)) : Bnd (setF (beginS σ).2 f x) (k + 1) := by
  have m := h.begin
  refine ⟨m.cap, m.calls, m.wl, m.al, m.nl, m.sl, m.nk, m.sk, m.wk, fun g hg => ?_⟩
  show ((if g = f then x else (beginS σ).2.file g) : DFile).sure ≤ ((if g = f then x else (beginS σ).2.file g) : DFile).b.length ∧ ((if g = f then x else (beginS σ).2.file g) : DFile).b.length ≤ _
  split
  · exact ⟨h1, h2⟩
  · exact m.fl g hg
theorem openS_got {s : List UInt8} {f : Nat} (h : (openS σ s).1 = some f) : nget s σ.names = some f := by
  obtain ⟨e1, e2, e3, e4, e5, e6⟩ := beginS_all σ
  unfold openS at h
  split at h
  · simp at h
  · rw [e2] at h
    split at h
    · simp at h
    · rename_i g hg
      rw [hg]; exact h
theorem Bnd.create (h : Bnd σ k) (s : List UInt8) (hs : s.length ≤ 2000) (f : Nat) : Bnd (createS σ s f).2 (k + 1) := by
  unfold createS
  split
  · exact h.begin
  · split
    · exact h.begin
    · split
      · exact h.begin
      · split
        · exact h.begin
        · have m := h.turn ⟨[], s, some f⟩ hs
          refine ⟨m.cap, m.calls, m.wl, ?_, m.nl, m.sl, m.nk, m.sk, m.wk, fun g hg => ?_⟩
          · show ((beginS σ).2.all ++ [f]).length ≤ _
            have := h.al
            rw [(beginS_all σ).1, List.length_append, List.length_singleton]; omega
          · show ((if g = f then (⟨[], 0⟩ : DFile) else (beginS σ).2.file g) : DFile).sure ≤ ((if g = f then (⟨[], 0⟩ : DFile) else (beginS σ).2.file g) : DFile).b.length ∧ ((if g = f then (⟨[], 0⟩ : DFile) else (beginS σ).2.file g) : DFile).b.length ≤ _
            split
            · simp
            · rename_i e
              have hg' : g ∈ (beginS σ).2.all ++ [f] := hg
              rcases List.mem_append.1 hg' with hg | hg
              · exact m.fl g hg
              · exact absurd (List.mem_singleton.1 hg) e
theorem Bnd.append (h : Bnd σ k) (hO : σ.Ok) (s b : List UInt8) (hb : b.length ≤ 500) : Bnd (appendS σ s b).2 (k + 1) := by
  unfold appendS
  split
  · exact h.begin
  · split
    · exact h.begin
    · rename_i f hf
      split
      · exact h.begin
      · have := h.fl f (hO.names _ (nget_mem (openS_got hf)))
        exact h.setF f _ (by simp only [List.length_append]; omega) (by simp only [List.length_append]; omega)
theorem Bnd.sync (h : Bnd σ k) (hO : σ.Ok) (s : List UInt8) : Bnd (syncS σ s).2 (k + 1) := by
  unfold syncS
  split
  · exact h.begin
  · split
    · exact h.begin
    · rename_i f hf
      have := h.fl f (hO.names _ (nget_mem (openS_got hf)))
      exact h.setF f _ (Nat.le_refl _) (by simp only; omega)
theorem Bnd.syncDir (h : Bnd σ k) : Bnd (syncDirS σ).2 (k + 1) := by
  unfold syncDirS
  split
  · exact h.begin
  · have m := h.begin
    have m2 := h.mono
    exact ⟨m.cap, m.calls, Nat.zero_le _, m.al, m.nl, m2.nl, m.nk, m2.nk, fun t ht => by simp at ht, m.fl⟩
theorem Bnd.rename (h : Bnd σ k) (s t : List UInt8) (ht : t.length ≤ 2000) : Bnd (renameS σ s t).2 (k + 1) := by
  unfold renameS
  split
  · exact h.begin
  · split
    · exact h.begin
    · exact h.turn _ ht
theorem Bnd.remove (h : Bnd σ k) (s : List UInt8) : Bnd (removeS σ s).2 (k + 1) := by
  unfold removeS
  split
  · exact h.begin
  · exact h.turn _ (by simp)
theorem Bnd.fuse (h : Bnd σ k) (n : Int) : Bnd (fuseS σ n) (k + 1) := by
  have m := h.mono
  exact ⟨m.cap, m.calls, m.wl, m.al, m.nl, m.sl, m.nk, m.sk, m.wk, m.fl⟩
theorem Bnd.fault (h : Bnd σ k) (n e : Int) : Bnd (faultS σ n e) (k + 1) := by
  have m := h.mono
  exact ⟨m.cap, m.calls, m.wl, m.al, m.nl, m.sl, m.nk, m.sk, m.wk, m.fl⟩
theorem bboot_len {σ : DSt} : ∀ k, k ≤ σ.waits.length → (bootNames σ k).length ≤ σ.sure.length + k
  | 0, _ => Nat.le_refl _
  | k + 1, hk => by
    rw [bootNames_succ (by omega)]
    have := bturn_len (σ.waits.getD k default) (bootNames σ k)
    have := bboot_len (σ := σ) k (by omega)
    omega
theorem bboot_keys {σ : DSt} {m : Nat} (h1 : ∀ p ∈ σ.sure, p.1.length ≤ m) (h2 : ∀ t ∈ σ.waits, t.to.length ≤ m) : ∀ k, k ≤ σ.waits.length → ∀ p ∈ bootNames σ k, p.1.length ≤ m
  | 0, _ => h1
  | k + 1, hk => by
    rw [bootNames_succ (by omega)]
    refine bturn_keys (bboot_keys h1 h2 k (by omega)) (h2 _ ?_)
    rw [List.getD_eq_getElem?_getD, List.getElem?_eq_getElem (show k < σ.waits.length by omega)]
    exact List.getElem_mem _
theorem tkS_le (σ : DSt) (turns : Int) : tkS σ turns ≤ σ.waits.length := by unfold tkS; omega
theorem Bnd.bootS (h : Bnd σ k) (hk : k ≤ 100) (turns : Int) (keep : List Int) : Bnd (bootS σ turns keep) (k + 1) := by
  have ht := tkS_le σ turns
  have hl := bboot_len (σ := σ) _ ht
  have hn := bboot_keys h.sk h.wk _ ht
  have := h.sl
  have := h.wl
  have := h.al
  have := h.calls
  have hc := (cutN_ok (keep := keep) (file := σ.file) (all := σ.all) (fun f hf => (h.fl f hf).1) σ.all.length (Nat.le_refl _)).1
  refine ⟨h.cap, ⟨by show 0 ≤ σ.calls; omega, by show σ.calls ≤ _; omega⟩, Nat.zero_le _, ?_, ?_, ?_, hn, hn, fun t ht => by simp [Dk.bootS, endS] at ht, fun f hf => ?_⟩
  · show (σ.all.filter _).length ≤ _
    have := List.length_filter_le (fun f => decide (f ∈ (bootNames σ (tkS σ turns)).map (·.2))) σ.all
    simp only at this ⊢
    omega
  · show (bootNames σ (tkS σ turns)).length ≤ _
    omega
  · show (bootNames σ (tkS σ turns)).length ≤ _
    omega
  · have hf' : f ∈ σ.all := (List.mem_filter.1 hf).1
    have h1 := hc f hf'
    have h2 := (h.fl f hf').2
    exact ⟨h1.1, by show ((cutN keep σ.all σ.file σ.all.length).1 f).b.length ≤ _; omega⟩
theorem Bnd.bootR (h : Bnd σ k) (hk : k ≤ 100) (turns : Int) (keep : List Int) : Bnd (bootR σ turns keep).2 (k + 1) := by
  unfold Dk.bootR
  split
  · exact h.bootS hk turns keep
  · exact h.mono
end Go.Am.Dk
/- A disk, and the document's: all calls but Boot, in plain Lean. -/
namespace Go.Am.Dk
open Go.Am
set_option maxRecDepth 20000
set_option maxHeartbeats 1000000
structure Rel (σ : DSt) (ρ : RSt) : Prop where
  files : ρ.files = σ.all.map (fun f => ⟨(σ.file f).b, (σ.file f).sure⟩)
  now : NamesR σ.all σ.names ρ.now
  sure : NamesR σ.all σ.sure ρ.sure
  waits : ρ.waits = σ.waits.map (tR σ.all)
  cap : ρ.cap = σ.cap
  dead : ρ.dead = σ.dead
  calls : ρ.calls = σ.calls
  fuse : ρ.fuse = max 0 (σ.fuse - σ.calls)
  fault : ρ.fault = max 0 (σ.fault - σ.calls)
  e : ρ.e = σ.e
variable {σ : DSt} {ρ : RSt}
theorem Rel.begin (h : Rel σ ρ) (hc : 0 ≤ σ.calls) : (beginR ρ).1 = (beginS σ).1 ∧ Rel (beginS σ).2 (beginR ρ).2 := by
  have hf := h.fuse
  have hg := h.fault
  unfold beginR beginS
  rw [h.dead]
  cases hd : σ.dead with
  | true => exact ⟨rfl, h⟩
  | false =>
    simp only [Bool.false_eq_true, if_false]
    by_cases c1 : σ.calls + 1 = σ.fuse
    · have c1' : ρ.fuse = 1 := by omega
      rw [if_pos c1, if_pos c1']
      exact ⟨rfl, h.files, h.now, h.sure, h.waits, h.cap, rfl, by simp only [h.calls], by simp only; split <;> omega, by simp only; split <;> omega, h.e⟩
    · have c1' : ¬ ρ.fuse = 1 := by omega
      rw [if_neg c1, if_neg c1']
      by_cases c2 : σ.calls + 1 = σ.fault
      · have c2' : ρ.fault = 1 := by omega
        rw [if_pos c2, if_pos c2']
        exact ⟨h.e, h.files, h.now, h.sure, h.waits, h.cap, by first | rfl | exact h.dead, by simp only [h.calls], by simp only; split <;> omega, by simp only; split <;> omega, h.e⟩
      · have c2' : ¬ ρ.fault = 1 := by omega
        rw [if_neg c2, if_neg c2']
        exact ⟨rfl, h.files, h.now, h.sure, h.waits, h.cap, by first | rfl | exact h.dead, by simp only [h.calls], by simp only; split <;> omega, by simp only; split <;> omega, h.e⟩
theorem nget_keyP {k : List UInt8} : ∀ {n : NMap}, k ∈ n.map (·.1) → ∃ f, nget k n = some f
  | p :: r, h => by
    rw [nget]
    split
    · exact ⟨_, rfl⟩
    · rename_i e
      rw [List.map_cons, List.mem_cons] at h
      exact nget_keyP (h.resolve_left (fun e2 => e e2.symm))
theorem nget_isSome {s : List UInt8} {n : NMap} : (nget s n).isSome = true ↔ s ∈ n.map (·.1) := by
  constructor
  · intro h
    obtain ⟨f, hf⟩ := Option.isSome_iff_exists.1 h
    exact List.mem_map.2 ⟨_, nget_mem hf, rfl⟩
  · intro h
    obtain ⟨f, hf⟩ := nget_keyP h
    rw [hf]; rfl
theorem NamesR.mem {all : List Nat} {n : NMap} {l : List REnt} (h : NamesR all n l) (s : List UInt8) : s ∈ l.map (·.s) ↔ s ∈ n.map (·.1) := by
  rw [← nget_isSome]
  have hf := h.fnd s
  constructor
  · intro hm
    obtain ⟨e, he, rfl⟩ := List.mem_map.1 hm
    rw [sorted_find h.srt he] at hf
    have := h.pos e he
    cases hg : nget e.s n with
    | some f => rfl
    | none => rw [hg] at hf; simp [ix] at hf; omega
  · intro hm
    obtain ⟨f, hg⟩ := Option.isSome_iff_exists.1 hm
    rw [hg] at hf
    obtain ⟨e, he, h2, -⟩ := findL_mem (l := l) (s := s) (by rw [hf]; simp [ix])
    exact List.mem_map.2 ⟨e, he, h2⟩
theorem NamesR.perm {all : List Nat} {n : NMap} {l : List REnt} (h : NamesR all n l) (hn : (n.map (·.1)).Nodup) : (l.map (·.s)).Perm (n.map (·.1)) :=
  (List.perm_ext_iff_of_nodup (sorted_nodup h.srt) hn).2 h.mem
theorem NamesR.len {all : List Nat} {n : NMap} {l : List REnt} (h : NamesR all n l) (hn : (n.map (·.1)).Nodup) : l.length = n.length := by
  have := (h.perm hn).length_eq
  simpa using this
theorem NamesR.isSome {all : List Nat} {n : NMap} {l : List REnt} (h : NamesR all n l) (s : List UInt8) : 0 ≤ findL l s ↔ (nget s n).isSome = true := by
  rw [h.fnd]
  cases nget s n <;> simp [ix]
theorem NamesR.perm2 {all : List Nat} {n : NMap} {l : List REnt} (h : NamesR all n l) (hn : (n.map (·.1)).Nodup) : l.Perm (n.map fun p => ⟨p.1, (all.idxOf p.2 : Nat)⟩) := by
  have h1 : l.Nodup := by
    have := sorted_nodup h.srt
    rw [List.Nodup, List.pairwise_map] at this
    exact this.imp (fun hab e => hab (by rw [e]))
  have h2 : (n.map fun p => (⟨p.1, (all.idxOf p.2 : Nat)⟩ : REnt)).Nodup := by
    rw [List.Nodup, List.pairwise_map] at hn ⊢
    exact hn.imp (fun hab e => hab (congrArg REnt.s e))
  have nm : ∀ p ∈ n, nget p.1 n = some p.2 := by
    intro p hp
    clear h2 h
    induction n with
    | nil => simp at hp
    | cons q r ih =>
      rw [List.map_cons, List.nodup_cons] at hn
      rw [nget]
      rcases List.mem_cons.1 hp with rfl | hp
      · rw [if_pos rfl]
      · rw [if_neg (fun e => hn.1 (List.mem_map.2 ⟨p, hp, e.symm⟩))]
        exact ih hn.2 hp
  refine (List.perm_ext_iff_of_nodup h1 h2).2 (fun e => ?_)
  constructor
  · intro he
    have hm := (h.mem e.s).1 (List.mem_map.2 ⟨e, he, rfl⟩)
    obtain ⟨p, hp, e1⟩ := List.mem_map.1 hm
    refine List.mem_map.2 ⟨p, hp, ?_⟩
    have hf := h.fnd e.s
    rw [sorted_find h.srt he, ← e1, nm p hp] at hf
    cases e with
    | mk s k => simp only at e1 hf; rw [e1, hf]; rfl
  · intro he
    obtain ⟨p, hp, rfl⟩ := List.mem_map.1 he
    have hm := (h.mem p.1).2 (List.mem_map.2 ⟨p, hp, rfl⟩)
    obtain ⟨e, he2, e1⟩ := List.mem_map.1 hm
    have hf := h.fnd e.s
    rw [sorted_find h.srt he2, e1, nm p hp] at hf
    have : e = ⟨p.1, (all.idxOf p.2 : Nat)⟩ := by
      cases e with
      | mk s k => simp only at e1 hf; rw [e1, hf]; rfl
    rw [← this]; exact he2
theorem Rel.file (h : Rel σ ρ) {f : Nat} (hf : f ∈ σ.all) : σ.all.idxOf f < ρ.files.length ∧ ρ.files.getD (σ.all.idxOf f) default = ⟨(σ.file f).b, (σ.file f).sure⟩ := by
  have h1 := List.idxOf_lt_length_iff.2 hf
  refine ⟨by rw [h.files, List.length_map]; exact h1, ?_⟩
  rw [h.files, List.getD_eq_getElem?_getD, List.getElem?_map, List.getElem?_eq_getElem h1, List.getElem_idxOf]
  rfl
theorem Rel.used (h : Rel σ ρ) (hO : σ.Ok) : usedX ρ = usedS σ := by
  unfold usedX usedS
  have hp := (h.now.perm2 hO.nd).map (fun e : REnt => (ρ.files.getD e.n.toNat default).b.length)
  rw [hp.sum_nat, List.map_map]
  congr 1
  refine List.map_congr_left (fun p hp => ?_)
  simp only [Function.comp_def, Int.toNat_natCast]
  rw [(h.file (hO.names p hp)).2]
theorem Rel.idx (h : Rel σ ρ) (hO : σ.Ok) : Idx ρ := by
  intro e he
  refine ⟨h.now.pos e he, ?_⟩
  have hm := (h.now.perm2 hO.nd).mem_iff.1 he
  obtain ⟨p, hp, rfl⟩ := List.mem_map.1 hm
  have := (h.file (hO.names p hp)).1
  simp only
  omega
theorem openS_eq (σ : DSt) (s : List UInt8) : openS σ s = if (beginS σ).1 ≠ 0 then (none, (beginS σ).1, (beginS σ).2) else match nget s σ.names with
    | none => (none, 6, (beginS σ).2)
    | some f => (some f, 0, (beginS σ).2) := by
  unfold openS
  rw [(beginS_all σ).2.1]
  rfl
theorem Rel.syncDir (h : Rel σ ρ) (hc : 0 ≤ σ.calls) : (syncDirX ρ).1 = (syncDirS σ).1 ∧ Rel (syncDirS σ).2 (syncDirX ρ).2 := by
  obtain ⟨h1, h2⟩ := h.begin hc
  unfold syncDirX syncDirS
  rw [h1]
  split
  · exact ⟨h1, h2⟩
  · obtain ⟨e1, e2, e3, e4, e5, e6⟩ := beginS_all σ
    refine ⟨rfl, h2.files, h2.now, ?_, rfl, h2.cap, h2.dead, h2.calls, h2.fuse, h2.fault, h2.e⟩
    show NamesR (beginS σ).2.all σ.names ρ.now
    rw [e1]; exact h.now
theorem Rel.turn (h : Rel σ ρ) (hO : σ.Ok) (t : DTurn) : Rel (turnsS σ t) (turnRS ρ (tR σ.all t)) := by
  refine ⟨h.files, h.now.turn hO.nd t, h.sure, ?_, h.cap, h.dead, h.calls, h.fuse, h.fault, h.e⟩
  show ρ.waits ++ [tR σ.all t] = (σ.waits ++ [t]).map (tR σ.all)
  rw [List.map_append, h.waits]; rfl
theorem beginS_ok (hO : σ.Ok) : (beginS σ).2.Ok := by
  obtain ⟨e1, e2, e3, e4, e5, e6⟩ := beginS_all σ
  exact ⟨by rw [e1, e2]; exact hO.names, by rw [e1, e3]; exact hO.sure, by rw [e1, e4]; exact hO.waits, by rw [e2]; exact hO.nd, by rw [e3]; exact hO.sd, by rw [e1]; exact hO.ad⟩
theorem Rel.rename (h : Rel σ ρ) (hO : σ.Ok) (hc : 0 ≤ σ.calls) (s t : List UInt8) : (renameX ρ s t).1 = (renameS σ s t).1 ∧ Rel (renameS σ s t).2 (renameX ρ s t).2 := by
  obtain ⟨h1, h2⟩ := h.begin hc
  obtain ⟨e1, e2, e3, e4, e5, e6⟩ := beginS_all σ
  unfold renameX renameS
  rw [h1, openS_eq, h.now.fnd]
  by_cases c : (beginS σ).1 = 0
  · simp only [c, ne_eq, not_true_eq_false, if_false]
    cases hg : nget s σ.names with
    | none =>
      rw [if_pos (ix_neg.2 rfl)]
      simp only [Int.reduceEq, not_false_eq_true, if_true]
      exact ⟨trivial, h2⟩
    | some f =>
      rw [if_neg (by rw [ix_neg]; simp)]
      simp only [not_true_eq_false, if_false]
      split
      · exact ⟨rfl, h2⟩
      · exact ⟨rfl, h2.turn (beginS_ok hO) ⟨s, t, none⟩⟩
  · simp only [c, ne_eq, not_false_eq_true, if_true]
    exact ⟨h1, h2⟩
theorem Rel.remove (h : Rel σ ρ) (hO : σ.Ok) (hc : 0 ≤ σ.calls) (s : List UInt8) : (removeX ρ s).1 = (removeS σ s).1 ∧ Rel (removeS σ s).2 (removeX ρ s).2 := by
  obtain ⟨h1, h2⟩ := h.begin hc
  unfold removeX removeS
  rw [h1, openS_eq, h.now.fnd]
  by_cases c : (beginS σ).1 = 0
  · simp only [c, ne_eq, not_true_eq_false, if_false]
    cases hg : nget s σ.names with
    | none =>
      rw [if_pos (ix_neg.2 rfl)]
      simp only [Int.reduceEq, not_false_eq_true, if_true]
      exact ⟨trivial, h2⟩
    | some f =>
      rw [if_neg (by rw [ix_neg]; simp)]
      simp only [not_true_eq_false, if_false]
      exact ⟨trivial, h2.turn (beginS_ok hO) ⟨s, [], none⟩⟩
  · simp only [c, ne_eq, not_false_eq_true, if_true]
    exact ⟨h1, h2⟩
theorem ext_getD {α : Type} [Inhabited α] {a b : List α} (hl : a.length = b.length) (h : ∀ i, i < a.length → a.getD i default = b.getD i default) : a = b := by
  refine List.ext_getElem hl (fun i h1 h2 => ?_)
  have := h i h1
  rw [List.getD_eq_getElem?_getD, List.getD_eq_getElem?_getD, List.getElem?_eq_getElem h1, List.getElem?_eq_getElem h2] at this
  exact this
theorem Rel.put (h : Rel σ ρ) (hO : σ.Ok) {f : Nat} (hf : f ∈ σ.all) (x : DFile) : Rel (setF σ f x) (withRS ρ (σ.all.idxOf f) ⟨x.b, x.sure⟩) := by
  refine ⟨?_, h.now, h.sure, h.waits, h.cap, h.dead, h.calls, h.fuse, h.fault, h.e⟩
  have hi := (h.file hf).1
  have hl : ρ.files.length = σ.all.length := by rw [h.files, List.length_map]
  show ρ.files.take (σ.all.idxOf f) ++ [_] ++ ρ.files.drop (σ.all.idxOf f + 1) = σ.all.map (fun g => ⟨(if g = f then x else σ.file g).b, (if g = f then x else σ.file g).sure⟩)
  refine ext_getD (by rw [len_with _ _ _ hi, List.length_map, hl]) (fun i hi2 => ?_)
  rw [len_with _ _ _ hi, hl] at hi2
  rw [getD_with _ _ _ hi, h.files]
  simp only [List.getD_eq_getElem?_getD, List.getElem?_map, List.getElem?_eq_getElem hi2, Option.map_some, Option.getD_some]
  have hx := List.idxOf_lt_length_iff.2 hf
  by_cases e : i = σ.all.idxOf f
  · subst e
    rw [if_pos rfl, List.getElem_idxOf, if_pos rfl]
  · rw [if_neg e, if_neg]
    intro e2
    apply e
    have h3 : σ.all[i] = σ.all[σ.all.idxOf f] := by rw [List.getElem_idxOf]; exact e2
    exact (List.getElem_inj hO.ad).1 h3
theorem Rel.sync (h : Rel σ ρ) (hO : σ.Ok) (hc : 0 ≤ σ.calls) (s : List UInt8) : (syncX ρ s).1 = (syncS σ s).1 ∧ Rel (syncS σ s).2 (syncX ρ s).2 := by
  obtain ⟨h1, h2⟩ := h.begin hc
  obtain ⟨e1, e2, e3, e4, e5, e6⟩ := beginS_all σ
  unfold syncX syncS
  rw [h1, openS_eq, h.now.fnd]
  by_cases c : (beginS σ).1 = 0
  · simp only [c, ne_eq, not_true_eq_false, if_false]
    cases hg : nget s σ.names with
    | none =>
      rw [if_pos (ix_neg.2 rfl)]
      simp only [Int.reduceEq, not_false_eq_true, if_true]
      exact ⟨trivial, h2⟩
    | some f =>
      have hfa := hO.names _ (nget_mem hg)
      rw [if_neg (by rw [ix_neg]; simp)]
      simp only [not_true_eq_false, if_false]
      refine ⟨trivial, ?_⟩
      have h3 := h2.put (beginS_ok hO) (f := f) (by rw [e1]; exact hfa) ⟨(σ.file f).b, (σ.file f).b.length⟩
      have h4 := (h.file hfa).2
      simp only [ix, Int.toNat_natCast, h4]
      rw [e1] at h3
      exact h3
  · simp only [c, ne_eq, not_false_eq_true, if_true]
    exact ⟨h1, h2⟩
theorem Rel.append (h : Rel σ ρ) (hO : σ.Ok) (hc : 0 ≤ σ.calls) (s b : List UInt8) : (appendX ρ s b).1 = (appendS σ s b).1 ∧ Rel (appendS σ s b).2 (appendX ρ s b).2 := by
  obtain ⟨h1, h2⟩ := h.begin hc
  obtain ⟨e1, e2, e3, e4, e5, e6⟩ := beginS_all σ
  unfold appendX appendS
  rw [h1, openS_eq, h.now.fnd, h.used hO, h.cap]
  by_cases c : (beginS σ).1 = 0
  · simp only [c, ne_eq, not_true_eq_false, if_false]
    cases hg : nget s σ.names with
    | none =>
      rw [if_pos (ix_neg.2 rfl)]
      simp only [Int.reduceEq, not_false_eq_true, if_true]
      exact ⟨trivial, h2⟩
    | some f =>
      have hfa := hO.names _ (nget_mem hg)
      rw [if_neg (by rw [ix_neg]; simp)]
      simp only [not_true_eq_false, if_false]
      split
      · exact ⟨rfl, h2⟩
      · refine ⟨rfl, ?_⟩
        have h3 := h2.put (beginS_ok hO) (f := f) (by rw [e1]; exact hfa) ⟨(σ.file f).b ++ b, (σ.file f).sure⟩
        have h4 := (h.file hfa).2
        simp only [ix, Int.toNat_natCast, h4]
        rw [e1] at h3
        exact h3
  · simp only [c, ne_eq, not_false_eq_true, if_true]
    exact ⟨h1, h2⟩
theorem ix_grow {all : List Nat} {f : Nat} {o : Option Nat} (ho : ∀ g, o = some g → g ∈ all) : ix (all ++ [f]) o = ix all o := by
  cases o with
  | none => rfl
  | some g =>
    simp only [ix]
    rw [List.idxOf_append, if_pos (ho g rfl)]
theorem NamesR.grow {all : List Nat} {n : NMap} {l : List REnt} (h : NamesR all n l) (hn : ∀ p ∈ n, p.2 ∈ all) (f : Nat) : NamesR (all ++ [f]) n l :=
  ⟨h.srt, fun s => by rw [ix_grow (fun g hg => hn _ (nget_mem hg))]; exact h.fnd s, h.pos⟩
theorem Rel.create (h : Rel σ ρ) (hO : σ.Ok) (hc : 0 ≤ σ.calls) (s : List UInt8) (f : Nat) (hf : f ∉ σ.all) : (createX ρ s).1 = (createS σ s f).1 ∧ Rel (createS σ s f).2 (createX ρ s).2 := by
  obtain ⟨h1, h2⟩ := h.begin hc
  obtain ⟨e1, e2, e3, e4, e5, e6⟩ := beginS_all σ
  unfold createX createS
  rw [h1, h.now.len hO.nd]
  have hs := h.now.isSome s
  split
  · exact ⟨h1, h2⟩
  · split
    · exact ⟨rfl, h2⟩
    · by_cases c : (nget s σ.names).isSome = true
      · rw [if_pos (hs.2 c), if_pos c]
        exact ⟨rfl, h2⟩
      · rw [if_neg (fun h => c (hs.1 h)), if_neg c]
        split
        · exact ⟨rfl, h2⟩
        · refine ⟨rfl, ?_⟩
          have hO1 := beginS_ok hO
          have hl : ρ.files.length = σ.all.length := by rw [h.files, List.length_map]
          have hfe : ∀ g ∈ σ.all, g ≠ f := fun g hg e => hf (e ▸ hg)
          have h3 : Rel (newS (beginS σ).2 f) { (beginR ρ).2 with files := ρ.files ++ [⟨[], 0⟩] } := by
            refine ⟨?_, ?_, ?_, ?_, h2.cap, h2.dead, h2.calls, h2.fuse, h2.fault, h2.e⟩
            · show ρ.files ++ [_] = ((beginS σ).2.all ++ [f]).map (fun g => ⟨(if g = f then (⟨[], 0⟩ : DFile) else (beginS σ).2.file g).b, (if g = f then (⟨[], 0⟩ : DFile) else (beginS σ).2.file g).sure⟩)
              rw [e1, e5, List.map_append, h.files]
              congr 1
              · refine List.map_congr_left (fun g hg => ?_)
                rw [if_neg (hfe g hg)]
              · simp
            · exact h2.now.grow hO1.names f
            · exact h2.sure.grow hO1.sure f
            · show (beginR ρ).2.waits = (beginS σ).2.waits.map (tR ((beginS σ).2.all ++ [f]))
              rw [h2.waits]
              refine List.map_congr_left (fun t ht => ?_)
              unfold tR
              rw [ix_grow (fun g hg => hO1.waits t ht g hg)]
          have hO3 : (newS (beginS σ).2 f).Ok := ⟨fun p hp => List.mem_append_left _ (hO1.names p hp), fun p hp => List.mem_append_left _ (hO1.sure p hp), fun t ht g hg => List.mem_append_left _ (hO1.waits t ht g hg), hO1.nd, hO1.sd, by
            show ((beginS σ).2.all ++ [f]).Nodup
            rw [List.nodup_append, e1]
            exact ⟨hO.ad, by simp, fun a ha b hb => by rw [List.mem_singleton.1 hb]; exact hfe a ha⟩⟩
          have h4 := h3.turn hO3 ⟨[], s, some f⟩
          have e7 : tR (newS (beginS σ).2 f).all ⟨[], s, some f⟩ = ⟨[], s, ρ.files.length⟩ := by
            show (⟨[], s, (((beginS σ).2.all ++ [f]).idxOf f : Nat)⟩ : RTurn) = _
            rw [e1, List.idxOf_append, if_neg hf, hl]
            simp
          rw [e7] at h4
          exact h4
theorem Rel.fuseS (h : Rel σ ρ) (hc : 0 ≤ σ.calls) (n : Int) : Rel (fuseS σ n) { ρ with fuse := armS n } := by
  refine ⟨h.files, h.now, h.sure, h.waits, h.cap, h.dead, h.calls, ?_, h.fault, h.e⟩
  show armS n = max 0 (aheadS σ n - σ.calls)
  unfold armS aheadS
  split <;> omega
theorem Rel.faultS (h : Rel σ ρ) (hc : 0 ≤ σ.calls) (n e : Int) : Rel (faultS σ n e) (faultX ρ n e) := by
  refine ⟨h.files, h.now, h.sure, h.waits, h.cap, h.dead, h.calls, h.fuse, ?_, rfl⟩
  show (if e = 0 ∨ e = 9 then 0 else armS n) = max 0 ((if e = 0 ∨ e = 9 then 0 else aheadS σ n) - σ.calls)
  unfold armS aheadS
  split
  · omega
  · split <;> omega
end Go.Am.Dk
/- A disk, and the document's: Boot, in plain Lean. -/
namespace Go.Am.Dk
open Go.Am
set_option maxRecDepth 20000
set_option maxHeartbeats 1000000
variable {σ : DSt} {ρ : RSt}
theorem Rel.tk (h : Rel σ ρ) (turns : Int) : tkX ρ turns = tkS σ turns := by
  unfold tkX tkS
  rw [h.waits, List.length_map]
theorem Rel.names (h : Rel σ ρ) (hO : σ.Ok) : ∀ j, j ≤ σ.waits.length → NamesR σ.all (bootNames σ j) (bnamesX ρ j)
  | 0, _ => h.sure
  | j + 1, hj => by
    have ih := h.names hO j (by omega)
    have hn := (bootNames_ok hO j (by omega)).2
    rw [bootNames_succ (by omega)]
    have hl : ρ.waits.length = σ.waits.length := by rw [h.waits, List.length_map]
    have e : bnamesX ρ (j + 1) = doL (bnamesX ρ j) (tR σ.all (σ.waits.getD j default)) := by
      unfold bnamesX
      have hj' : j < ρ.waits.length := by omega
      rw [List.take_succ_eq_append_getElem hj', List.foldl_append]
      have : ρ.waits[j] = tR σ.all (σ.waits.getD j default) := by
        simp only [h.waits, List.getElem_map]
        rw [List.getD_eq_getElem?_getD, List.getElem?_eq_getElem (show j < σ.waits.length by omega)]
        rfl
      rw [this]; rfl
    rw [e]
    exact ih.turn hn _
theorem Rel.cut (h : Rel σ ρ) (hO : σ.Ok) (keep : List Int) : ∀ i, i ≤ σ.all.length → Rel { σ with file := (cutN keep σ.all σ.file i).1 } (cutX keep ρ i).1 ∧ (cutX keep ρ i).2 = (cutN keep σ.all σ.file i).2
  | 0, _ => ⟨h, rfl⟩
  | i + 1, hi => by
    obtain ⟨ih1, ih2⟩ := h.cut hO keep i (by omega)
    have hl : ρ.files.length = σ.all.length := by rw [h.files, List.length_map]
    have hc := (cutX_all keep ρ i (by omega)).2.1 i (Nat.le_refl _)
    have hm : σ.all.getD i 0 ∈ σ.all := by
      rw [List.getD_eq_getElem?_getD, List.getElem?_eq_getElem (show i < σ.all.length by omega)]
      exact List.getElem_mem _
    have hx : σ.all.idxOf (σ.all.getD i 0) = i := by
      have h1 := List.idxOf_lt_length_iff.2 hm
      have h2 : σ.all[σ.all.idxOf (σ.all.getD i 0)] = σ.all[i] := by
        rw [List.getElem_idxOf, List.getD_eq_getElem?_getD, List.getElem?_eq_getElem (show i < σ.all.length by omega)]; rfl
      exact (List.getElem_inj hO.ad).1 h2
    have hO2 : DSt.Ok { σ with file := (cutN keep σ.all σ.file i).1 } := ⟨hO.names, hO.sure, hO.waits, hO.nd, hO.sd, hO.ad⟩
    have hf := (ih1.file (f := σ.all.getD i 0) hm).2
    have hf' : ρ.files.getD i default = ⟨((cutN keep σ.all σ.file i).1 (σ.all.getD i 0)).b, ((cutN keep σ.all σ.file i).1 (σ.all.getD i 0)).sure⟩ := by
      rw [← hc]
      have h3 : (cutX keep ρ i).1.files.getD (σ.all.idxOf (σ.all.getD i 0)) default = _ := hf
      rw [hx] at h3
      exact h3
    obtain ⟨F, hF⟩ : ∃ F, (cutN keep σ.all σ.file i).1 (σ.all.getD i 0) = F := ⟨_, rfl⟩
    rw [hF] at hf'
    unfold cutX cutN
    simp only [hf', hF, ih2]
    unfold cutOne
    by_cases e : F.b.length = F.sure
    · rw [if_pos e, if_pos e]
      refine ⟨?_, ih2⟩
      have e2 : (fun g => if g = σ.all.getD i 0 then (F, (cutN keep σ.all σ.file i).2).1 else (cutN keep σ.all σ.file i).1 g) = (cutN keep σ.all σ.file i).1 := by
        funext g
        split
        · rename_i e3; rw [e3, hF]
        · rfl
      rw [e2]
      exact ih1
    · rw [if_neg e, if_neg e]
      refine ⟨?_, rfl⟩
      have h4 := ih1.put hO2 (f := σ.all.getD i 0) hm ⟨F.b.take (F.sure + kpS F keep (cutN keep σ.all σ.file i).2), F.sure + kpS F keep (cutN keep σ.all σ.file i).2⟩
      have h5 : σ.all.idxOf (σ.all.getD i 0) = i := hx
      simp only [h5] at h4
      exact h4
theorem goneN_find {l : List REnt} (hs : SortedE l) (i m : Nat) (s : List UInt8) : ∀ now : List REnt, findL (goneN l i m now) s = if findL l s = (i : Int) then (m : Int) else findL now s := by
  induction l with
  | nil =>
    intro now
    split
    · rename_i h; simp [findL] at h
    · rfl
  | cons e r ih =>
    intro now
    obtain ⟨g1, g2⟩ := List.pairwise_cons.1 hs
    have ih' := ih g2 (if e.n = (i : Int) then putL now ⟨e.s, m⟩ else now)
    have e0 : goneN (e :: r) i m now = goneN r i m (if e.n = (i : Int) then putL now ⟨e.s, m⟩ else now) := rfl
    rw [e0, ih', findL]
    by_cases h1 : e.s = s
    · have h2 : findL r s < 0 := by
        cases h3 : decide (0 ≤ findL r s) with
        | false => simpa using h3
        | true =>
          obtain ⟨e', h4, h5, -⟩ := findL_mem (of_decide_eq_true h3)
          have := g1 e' h4
          rw [h1, h5, ltB_irrefl] at this
          simp at this
      rw [if_neg (by omega), if_pos h1]
      split
      · rw [findL_putL, if_pos h1]
      · rfl
    · rw [if_neg h1]
      split
      · rfl
      · split
        · rw [findL_putL, if_neg h1]
        · rfl
theorem goneN_sorted (l : List REnt) (i m : Nat) : ∀ now : List REnt, SortedE now → SortedE (goneN l i m now) := by
  unfold goneN
  induction l with
  | nil => intro now h; exact h
  | cons e r ih =>
    intro now h
    rw [List.foldl_cons]
    refine ih _ ?_
    split
    · exact sorted_put h _
    · exact h
theorem goneN_pos (l : List REnt) (i m : Nat) : ∀ now : List REnt, (∀ e ∈ now, 0 ≤ e.n) → ∀ e ∈ goneN l i m now, 0 ≤ e.n := by
  unfold goneN
  induction l with
  | nil => intro now h; exact h
  | cons e r ih =>
    intro now h
    rw [List.foldl_cons]
    refine ih _ ?_
    split
    · exact putL_pos h (by show (0 : Int) ≤ (m : Int); omega)
    · exact h
def keepB (S : NMap) (f : Nat) : Bool := decide (f ∈ S.map (·.2))
theorem gone_step {all : List Nat} {S : NMap} {l : List REnt} (h : NamesR all S l) (hS : ∀ p ∈ S, p.2 ∈ all) (hd : (S.map (·.1)).Nodup) (ha : all.Nodup) : ∀ n, n ≤ all.length →
    (goneF l n).1.map (fun i => all.getD i 0) = (all.take n).filter (keepB S) ∧ SortedE (goneF l n).2 ∧ (∀ e ∈ (goneF l n).2, 0 ≤ e.n) ∧
    ∀ s, findL (goneF l n).2 s = match nget s S with | none => -1 | some f => if f ∈ all.take n then (((all.take n).filter (keepB S)).idxOf f : Nat) else -1
  | 0, _ => ⟨rfl, List.Pairwise.nil, fun e he => by simp [goneF] at he, fun s => by
    show findL [] s = _
    cases nget s S <;> simp [findL]⟩
  | n + 1, hn => by
    obtain ⟨i1, i2, i3, i4⟩ := gone_step h hS hd ha n (by omega)
    have hlt : n < all.length := by omega
    obtain ⟨g, hg⟩ : ∃ g, all[n] = g := ⟨_, rfl⟩
    have hgd : all.getD n 0 = g := by rw [List.getD_eq_getElem?_getD, List.getElem?_eq_getElem hlt, ← hg]; rfl
    have hgm : g ∈ all := by rw [← hg]; exact List.getElem_mem hlt
    have htk : all.take (n + 1) = all.take n ++ [g] := by rw [List.take_succ_eq_append_getElem hlt, hg]
    have hgi : all.idxOf g = n := by
      have h1 := List.idxOf_lt_length_iff.2 hgm
      have h2 : all[all.idxOf g] = all[n] := by rw [List.getElem_idxOf, hg]
      exact (List.getElem_inj ha).1 h2
    have hgn : g ∉ all.take n := fun hm => by
      have : (all.take (n + 1)).Nodup := (List.take_sublist _ _).nodup ha
      rw [htk, List.nodup_append] at this
      exact this.2.2 g hm g (List.mem_singleton.2 rfl) rfl
    have hlen : (goneF l n).1.length = ((all.take n).filter (keepB S)).length := by
      have := congrArg List.length i1
      rw [List.length_map] at this; exact this
    have ixg : ∀ f ∈ all, (all.idxOf f = n ↔ f = g) := fun f hf => by
      constructor
      · intro e
        have h1 := List.idxOf_lt_length_iff.2 hf
        have h2 : all[all.idxOf f] = f := List.getElem_idxOf h1
        have h3 : all[all.idxOf f] = all[n] := by congr 1
        rw [← h2, h3, hg]
      · rintro rfl; exact hgi
    have hhad : hadN l n = keepB S g := by
      unfold hadN keepB
      cases hk : decide (g ∈ S.map (·.2)) with
      | true =>
        rw [List.any_eq_true]
        obtain ⟨p, hp, e1⟩ := List.mem_map.1 (of_decide_eq_true hk)
        have hm := (h.perm2 hd).mem_iff.2 (List.mem_map.2 ⟨p, hp, rfl⟩)
        refine ⟨_, hm, ?_⟩
        simp only [decide_eq_true_eq]
        rw [e1, hgi]
      | false =>
        rw [List.any_eq_false]
        intro e he
        obtain ⟨p, hp, rfl⟩ := List.mem_map.1 ((h.perm2 hd).mem_iff.1 he)
        simp only [decide_eq_true_eq]
        intro e2
        have e3 : all.idxOf p.2 = n := by omega
        have e4 := (ixg p.2 (hS p hp)).1 e3
        exact of_decide_eq_false hk (List.mem_map.2 ⟨p, hp, e4⟩)
    rw [goneF_succ, goneStep, hhad]
    simp only
    refine ⟨?_, goneN_sorted _ _ _ _ i2, goneN_pos _ _ _ _ i3, fun s => ?_⟩
    · rw [htk, List.filter_append]
      cases hk : keepB S g with
      | true =>
        simp only [if_true, List.map_append, i1, List.map_cons, List.map_nil, hgd]
        rw [List.filter_cons, if_pos hk]; rfl
      | false =>
        simp only [Bool.false_eq_true, if_false, i1]
        rw [List.filter_cons, if_neg (by rw [hk]; simp)]; simp
    · rw [goneN_find h.srt, h.fnd, i4, hlen]
      cases hq : nget s S with
      | none =>
        rw [if_neg (show ¬ (ix all none = (n : Int)) by simp [ix])]
      | some f =>
        show (if ix all (some f) = (n : Int) then ((((all.take n).filter (keepB S)).length : Nat) : Int) else if f ∈ all.take n then ((((all.take n).filter (keepB S)).idxOf f : Nat) : Int) else -1) = if f ∈ all.take (n + 1) then ((((all.take (n + 1)).filter (keepB S)).idxOf f : Nat) : Int) else -1
        have hfa := hS _ (nget_mem hq)
        have hfk : keepB S f = true := by
          unfold keepB
          exact decide_eq_true (List.mem_map.2 ⟨_, nget_mem hq, rfl⟩)
        by_cases e : f = g
        · subst e
          rw [if_pos (show ix all (some f) = (n : Int) by simp [ix, hgi]), htk, if_pos (by simp), List.filter_append, List.idxOf_append, if_neg (fun hm => hgn (List.mem_filter.1 hm).1), List.filter_cons, if_pos hfk]
          simp
        · have hni : ¬ all.idxOf f = n := fun e2 => e ((ixg f hfa).1 e2)
          rw [if_neg (show ¬ (ix all (some f) = (n : Int)) by simp only [ix]; omega)]
          by_cases hm : f ∈ all.take n
          · rw [if_pos hm, htk, if_pos (List.mem_append_left _ hm), List.filter_append, List.idxOf_append, if_pos (List.mem_filter.2 ⟨hm, hfk⟩)]
          · rw [if_neg hm, htk, if_neg (fun h2 => (List.mem_append.1 h2).elim hm (fun h3 => e (List.mem_singleton.1 h3)))]
theorem Rel.boot (h : Rel σ ρ) (hO : σ.Ok) (hc : 0 ≤ σ.calls) (turns : Int) (keep : List Int) : (bootX ρ turns keep).1 = (bootR σ turns keep).1 ∧ Rel (bootR σ turns keep).2 (bootX ρ turns keep).2 := by
  unfold bootX bootR
  rw [h.dead]
  cases hd : σ.dead with
  | false => exact ⟨rfl, h⟩
  | true =>
    rw [if_neg (by simp), if_pos rfl]
    refine ⟨rfl, ?_⟩
    have hl : ρ.files.length = σ.all.length := by rw [h.files, List.length_map]
    have htk : tkS σ turns ≤ σ.waits.length := by unfold tkS; omega
    obtain ⟨hS, hdN⟩ := bootNames_ok hO _ htk
    have hN := h.names hO _ htk
    obtain ⟨hC, -⟩ := h.cut hO keep σ.all.length (Nat.le_refl _)
    obtain ⟨c1, c2, c3, c4, c5, c6, c7, c8, c9, c10, c11, c12⟩ := cutX_all keep ρ ρ.files.length (Nat.le_refl _)
    obtain ⟨g1, g2, g3, g4⟩ := gone_step hN hS hdN hO.ad σ.all.length (Nat.le_refl _)
    rw [h.tk]
    rw [← hl] at hC g1 g2 g3 g4
    rw [hl, List.take_length] at g1
    simp only [hl, List.take_length] at g4
    have hnow : NamesR (σ.all.filter (keepB (bootNames σ (tkS σ turns)))) (bootNames σ (tkS σ turns)) (goneF (bnamesX ρ (tkS σ turns)) σ.all.length).2 := by
      refine ⟨by rw [← hl]; exact g2, fun s => ?_, by rw [← hl]; exact g3⟩
      rw [g4 s]
      cases hq : nget s (bootNames σ (tkS σ turns)) with
      | none => rfl
      | some f =>
        simp only [ix]
        rw [if_pos (hS _ (nget_mem hq))]
    have hcf : (cutX keep ρ ρ.files.length).1.files = σ.all.map (fun f => ⟨((cutN keep σ.all σ.file ρ.files.length).1 f).b, ((cutN keep σ.all σ.file ρ.files.length).1 f).sure⟩) := hC.files
    refine ⟨?_, ?_, ?_, rfl, ?_, rfl, ?_, ?_, ?_, ?_⟩
    · show (goneF (bnamesX ρ (tkS σ turns)) (cutX keep ρ ρ.files.length).1.files.length).1.map (fun i => (cutX keep ρ ρ.files.length).1.files.getD i default) = (σ.all.filter (fun f => decide (f ∈ (bootNames σ (tkS σ turns)).map (·.2)))).map (fun f => ⟨((cutN keep σ.all σ.file σ.all.length).1 f).b, ((cutN keep σ.all σ.file σ.all.length).1 f).sure⟩)
      have hk : (fun f => decide (f ∈ (bootNames σ (tkS σ turns)).map (·.2))) = keepB (bootNames σ (tkS σ turns)) := rfl
      rw [hk, ← g1, List.map_map, c1, hl]
      refine List.map_congr_left (fun i hi => ?_)
      have hi2 := goneF_lt _ _ i hi
      rw [← hl, hcf]
      simp only [Function.comp_def, List.getD_eq_getElem?_getD, List.getElem?_map, List.getElem?_eq_getElem hi2, Option.map_some, Option.getD_some]
    · show NamesR _ _ (goneF (bnamesX ρ (tkS σ turns)) (cutX keep ρ ρ.files.length).1.files.length).2
      rw [c1, hl]
      exact hnow
    · show NamesR _ _ (goneF (bnamesX ρ (tkS σ turns)) (cutX keep ρ ρ.files.length).1.files.length).2
      rw [c1, hl]
      exact hnow
    · show (cutX keep ρ ρ.files.length).1.cap = σ.cap
      rw [c8]; exact h.cap
    · show (cutX keep ρ ρ.files.length).1.calls = σ.calls
      rw [c9]; exact h.calls
    · show (0 : Int) = max 0 (0 - σ.calls)
      omega
    · show (0 : Int) = max 0 (0 - σ.calls)
      omega
    · show (cutX keep ρ ρ.files.length).1.e = σ.e
      rw [c12]; exact h.e
end Go.Am.Dk
/- New of any files. -/
namespace Go.Am.Dk
open Go.Am
set_option maxRecDepth 20000
set_option maxHeartbeats 2000000
variable {P : Prog}
theorem cloneV_fun (hP : DkP P) (nl : Bool) (l : List UInt8) (h : Heap) (hl : l.length ≤ 1000000000000) :
    Fun P 35 [slv nl false l] h (fun v' h' => ((v' = .nils ∧ l = []) ∨ NewRow h h' v' l) ∧ Ext h h') := by
  rcases slv_cases nl false l with ⟨e, e1, -⟩ | e
  · rw [e]
    refine Fun.of (code := a35c) (hP.code rfl) (by rw [hP.pure]; rfl) ?_
    simp (disch := omega) only [go_sem, a35c, a35r0]
    simp (disch := omega) only [go_sem, a35r1]
    simp (disch := omega) only [go_sem, a35r2]
    exact ⟨Or.inl ⟨by trivial, e1⟩, Ext.refl h⟩
  · refine Fun.mono' (clone_fun (P := P) (hP.code rfl) (by rw [hP.pure]; rfl) (slv nl false l) l h hl (fun h' _ => adds_slv h' nl false l) (by rw [e, same_sl_nils]) (fun i => evS_slv i _ _ _) (datW_slv _ _ _)) (fun v' h' hv => ⟨Or.inr hv.1, hv.2⟩)
structure NewAt (h : Heap) (d m : Nat) (av : AV) (bv : Nat → AV) (σ : DSt) : Prop where
  disk : h.get d = some (.cells [.int .i64 σ.cap, .mp m, .nilm, av, .nils, .bool false, .int .i64 0, .int .i64 0, .int .i64 0, .int .i64 0])
  names : MapAt h m σ.names
  all : PreC h av (σ.all.map FilP.mk)
  cell : ∀ f ∈ σ.all, h.get f = some (.cells [bv f, .int .i64 (σ.file f).sure])
  bytes : ∀ f ∈ σ.all, PreC h (bv f) (σ.file f).b
  nm : ∀ p ∈ σ.names, p.2 ∈ σ.all
  nd : (σ.names.map (·.1)).Nodup
  ad : σ.all.Nodup
  bb : ∀ f ∈ σ.all, ∀ f' ∈ σ.all, f ≠ f' → ∀ o, rowOf (bv f) = some o → rowOf (bv f') ≠ some o
  ab : ∀ f ∈ σ.all, ∀ o, rowOf av = some o → rowOf (bv f) ≠ some o
  lt : d < h.next ∧ m < h.next ∧ (∀ o, rowOf av = some o → o < h.next) ∧ ∀ f ∈ σ.all, f < h.next ∧ ∀ o, rowOf (bv f) = some o → o < h.next
def filesS (cap : Int) (fs : List FileV) (ids : List Nat) (file : Nat → DFile) : DSt := { cap := cap, names := (fs.map (·.name)).zip ids, sure := [], all := ids, waits := [], dead := false, calls := 0, fuse := 0, fault := 0, e := 0, file := file }
theorem NewAt.ext {h h' : Heap} {d m : Nat} {av : AV} {bv : Nat → AV} {σ : DSt} (hN : NewAt h d m av bv σ) (hx : Ext h h') : NewAt h' d m av bv σ := by
  obtain ⟨l1, l2, l3, l4⟩ := hN.lt
  have := hx.1
  refine ⟨(hx.2 d l1).trans hN.disk, hN.names.of_get (hx.2 m l2), hN.all.keep (fun o ho => hx.2 o (l3 o ho)), fun f hf => (hx.2 f (l4 f hf).1).trans (hN.cell f hf), fun f hf => (hN.bytes f hf).keep (fun o ho => hx.2 o ((l4 f hf).2 o ho)), hN.nm, hN.nd, hN.ad, hN.bb, hN.ab, by omega, by omega, fun o ho => by have := l3 o ho; omega, fun f hf => ⟨by have := (l4 f hf).1; omega, fun o ho => by have := (l4 f hf).2 o ho; omega⟩⟩
theorem NewAt.sum {h : Heap} {d m : Nat} {av : AV} {bv : Nat → AV} {σ : DSt} (hN : NewAt h d m av bv σ) : ∀ n : NMap, (∀ p ∈ n, p.2 ∈ σ.all) → sumL h ((kv (fp n)).map (·.2)) = some (n.map fun p => (σ.file p.2).b.length).sum
  | [], _ => rfl
  | p :: r, hp => by
    have ih := hN.sum r (fun q hq => hp q (List.mem_cons_of_mem _ hq))
    have hf := hp p List.mem_cons_self
    have hc := hN.cell _ hf
    have hb := hN.bytes _ hf
    have hlt := (hN.lt.2.2.2 _ hf).1
    have e1 : lenF h (.ptr p.2 0) = some (σ.file p.2).b.length := by
      have hblt : Nat.blt p.2 h.next = true := by simp only [nblt, decide_eq_true_eq]; exact hlt
      simp only [lenF, hc]
      rcases hb with ⟨e, e'⟩ | ⟨o, ep, j, e, -⟩
      · rw [e, e', hblt]; rfl
      · rw [e, hblt]; rfl
    rw [fp_cons, kv_cons]
    simp only [List.map_cons, sumL, e1, ih, Option.bind_some, List.sum_cons]
theorem usedN_fun (hP : DkQ P) {h : Heap} {d m : Nat} {av : AV} {bv : Nat → AV} {σ : DSt} (hN : NewAt h d m av bv σ) (hu : usedS σ ≤ 4611686018427387904) : Fun P 33 [.ptr d 0] h (fun v h' => v = .int .i64 (usedS σ) ∧ Ext h h') := by
  obtain ⟨bs, ck, hg, hs⟩ := hN.names
  have hdk := hN.disk
  refine Fun.prim hP.none33 (by rw [hP.pure]; rfl) (hP.used _ _ (.int .i64 (usedS σ), (h.reserve 1).put h.next .dead) ?_) ⟨rfl, ext_dead h⟩
  simp only [usedF, hdk, hg, hN.sum σ.names hN.nm, Option.bind_some]
  rw [if_pos ⟨hu, by rw [hs.len, kv_length, fp_length], hs.nd, hs.lt, hN.lt.2.1⟩]
  rfl
theorem usedS_files {cap : Int} {fs : List FileV} {ids : List Nat} {file : Nat → DFile} (hln : ids.length = fs.length) (hfile : ids.map file = fs.map (fun f => ⟨f.data, f.data.length⟩)) : usedS (filesS cap fs ids file) = sumX fs := by
  unfold usedS filesS sumX
  simp only
  have e1 : ((fs.map (·.name)).zip ids).map (fun p => (file p.2).b.length) = (((fs.map (·.name)).zip ids).map (·.2)).map (fun g => (file g).b.length) := by rw [List.map_map]; rfl
  rw [e1, List.map_snd_zip (by simp [hln])]
  have e2 : ids.map (fun g => (file g).b.length) = (ids.map file).map (fun x => x.b.length) := by rw [List.map_map]; rfl
  rw [e2, hfile, List.map_map]
  rfl
theorem nput_none (k : List UInt8) (f : Nat) : ∀ n : NMap, nget k n = none → nput k f n = n ++ [(k, f)]
  | [], _ => rfl
  | p :: r, h => by
    rw [nget] at h
    split at h
    · simp at h
    · rename_i e
      rw [nput, if_neg e, nput_none k f r h]
      rfl
theorem nget_keyN {k : List UInt8} : ∀ {n : NMap}, k ∈ n.map (·.1) → nget k n ≠ none
  | p :: r, h => by
    rw [nget]
    split
    · simp
    · rename_i e
      rw [List.map_cons, List.mem_cons] at h
      exact nget_keyN (h.resolve_left (fun e2 => e e2.symm))
theorem new_body (hP : DkQ P) (cap : Int) (f : FileV) (h : Heap) (d m : Nat) (av : AV) (bv : Nat → AV) (fs : List FileV) (ids : List Nat) (file : Nat → DFile) (hN : NewAt h d m av bv (filesS cap fs ids file)) (hln : ids.length = fs.length) (hfile : ids.map file = fs.map (fun f => ⟨f.data, f.data.length⟩))
    (hsum : (sumX fs : Int) ≤ cap) (hfl : fs.length ≤ 1000) (hcap : 0 ≤ cap ∧ cap ≤ 1048576) (hf : f.name.length ≤ 2000 ∧ f.data.length ≤ 2000) (fr0 : Fr) (st : Nat) (f1 : fget fr0 1 = some (.int .i64 cap)) (f5 : fget fr0 5 = some (.ptr d 0)) (f7 : fget fr0 7 = some (.lbox st [strv f.name, slv f.nl false f.data])) :
    Wp P (.seq (.seq (.dreg 0 a10d7 [1, 5, 7, 8, 24, 25, 26, 53]) (.cond (.s 53) (.seq (.reg 0 a10r8 [4]) .ret) .skip)) (.seq (.dreg 1 a10d9 [1, 5, 7, 8, 24, 25, 26]) (.seq (.dreg 0 a10d10 [1, 5, 8, 24, 25, 26]) (.reg 1 a10r11 [1, 5, 8, 24, 25, 26])))) { fr := fr0, st := st + 1, h := h }
      (fun e s' => (e = .ret ∧ fget s'.fr 4 = some .nilp ∧ ¬ OkFile cap fs f) ∨ (e = .normal ∧ fget s'.fr 1 = some (.int .i64 cap) ∧ fget s'.fr 5 = some (.ptr d 0) ∧ fget s'.fr 24 = fget fr0 24 ∧ fget s'.fr 25 = fget fr0 25 ∧ fget s'.fr 26 = fget fr0 26 ∧
        ∃ id av' bv' file', NewAt s'.h d m av' bv' (filesS cap (fs ++ [f]) (ids ++ [id]) file') ∧ (ids ++ [id]).map file' = (fs ++ [f]).map (fun f => ⟨f.data, f.data.length⟩) ∧ (sumX (fs ++ [f]) : Int) ≤ cap ∧ OkFile cap fs f)) := by
  have hd := hN.disk
  simp only [filesS] at hd
  have hl := hN.names.look
  simp only [filesS] at hl
  have lkt : ∀ x : Option AV, lookG (some (.bool true)) false x = some undefA := fun _ => rfl
  have lku2 : lookE 40 (some (.tup [])) (some (.tup [])) = true := rfl
  have lku : lookE 40 (some undefA) (some undefA) = true := rfl
  obtain ⟨o8, f8⟩ : ∃ o, fget fr0 8 = o := ⟨_, rfl⟩
  obtain ⟨o24, f24⟩ : ∃ o, fget fr0 24 = o := ⟨_, rfl⟩
  obtain ⟨o25, f25⟩ : ∃ o, fget fr0 25 = o := ⟨_, rfl⟩
  obtain ⟨o26, f26⟩ : ∃ o, fget fr0 26 = o := ⟨_, rfl⟩
  simp (disch := omega) only [go_sem, a10d7, f1, f5, f7, f8, f24, f25, f26]
  refine WD_fun (vs := [strv f.name]) (by simp (disch := omega) only [go_sem]) (name_funD hP.toDkP f.name h (by omega)) (fun v h' hv => rfl) (fun v h' hv => ?_)
  obtain ⟨rfl, hx1⟩ := hv
  cases hnm : nameL f.name with
  | false =>
    simp (disch := omega) only [go_sem, f1, f5, f7]
    refine dguardS_split (fun e => by simp at e) (fun _ => ⟨by simp (disch := omega) only [go_sem, f1, f5, f7, lkt, lku, lku2], ?_⟩)
    simp (disch := omega) only [go_sem, f1, f5, f7, f8, f24, f25, f26, fget_keepV]
    simp (disch := omega) only [go_sem, a10r8]
    exact Or.inl ⟨by trivial, by trivial, fun ho => by have := ho.1; rw [hnm] at this; simp at this⟩
  | true =>
    have hd1 : h'.get d = _ := (hx1.2 d hN.lt.1).trans hd
    have hl1 : lookM h' 1 .nilp false (strv f.name) (h'.get m) = some (fcell (nget f.name ((fs.map (·.name)).zip ids))) := by rw [hx1.2 m hN.lt.2.1]; exact hl _ _
    simp (disch := omega) only [go_sem, hd1, f1, f5, f7, hl1]
    cases hg : nget f.name ((fs.map (·.name)).zip ids) with
    | some g =>
      simp (disch := omega) only [go_sem, Option.isNone_some, f1, f5, f7]
      refine dguardS_split (fun e => by simp at e) (fun _ => ⟨by simp (disch := omega) only [go_sem, f1, f5, f7, lkt, lku, lku2], ?_⟩)
      simp (disch := omega) only [go_sem, f1, f5, f7, f8, f24, f25, f26, fget_keepV]
      simp (disch := omega) only [go_sem, a10r8]
      exact Or.inl ⟨by trivial, by trivial, fun ho => ho.2.1 (List.of_mem_zip (nget_mem hg)).1⟩
    | none =>
      simp (disch := omega) only [go_sem, Option.isNone_none, f1, f5, f7]
      have hN1 := hN.ext hx1
      have hus := usedS_files (cap := cap) hln hfile
      refine WD_fun (vs := [.ptr d 0]) (by simp (disch := omega) only [go_sem]) (usedN_fun hP hN1 (by rw [hus]; omega)) (fun v hB hv => ?_) (fun v hB hv => ?_)
      · obtain ⟨rfl, hx2⟩ := hv
        simp (disch := omega) only [go_sem, f1, f5, f7]
      obtain ⟨rfl, hx2⟩ := hv
      rw [hus]
      simp (disch := omega) only [go_sem, f1, f5, f7, f8, f24, f25, f26, fget_keepV]
      refine condS_if (fun c => ?_) (fun c => ?_)
      · simp (disch := omega) only [go_sem, a10r8]
        exact Or.inl ⟨by trivial, by trivial, fun ho => by have := ho.2.2; omega⟩
      have hN2 := hN1.ext hx2
      simp (disch := omega) only [go_sem, a10d9, fget_keepV]
      refine WD_fun (vs := [slv f.nl false f.data]) (by simp (disch := omega) only [go_sem]) (cloneV_fun hP.toDkP f.nl f.data (hB.reserve 1) (by omega)) (fun v hC hv => by simp (disch := omega) only [go_sem, fget_keepV]) (fun v hC hv => ?_)
      obtain ⟨hcl, hx3⟩ := hv
      have vp : PreC hC v f.data := by
        rcases hcl with ⟨rfl, e⟩ | ⟨o, ep, rfl, q1, q2, q3⟩
        · exact Or.inl ⟨rfl, e⟩
        · exact Or.inr ⟨o, ep, [], rfl, by rw [List.append_nil]; exact q3⟩
      have vro : ∀ o, rowOf v = some o → hB.next + 1 ≤ o ∧ o < hC.next := fun o ho => by
        rcases hcl with ⟨rfl, e⟩ | ⟨o', ep, rfl, q1, q2, q3⟩
        · simp [rowOf] at ho
        · obtain rfl : o' = o := Option.some.inj ho
          exact ⟨q1, q2⟩
      have vev := vp.ev
      have vdt := vp.dt
      have vcl : v.cellsOf = [v] := by rcases vp with ⟨rfl, -⟩ | ⟨o, ep, j, rfl, -⟩ <;> rfl
      have hC1 : hB.next + 1 ≤ hC.next := hx3.1
      have hN3 : NewAt hC d m av bv (filesS cap fs ids file) := hN2.ext ⟨by omega, fun i hi => (hx3.2 i (by show i < hB.next + 1; omega)).trans rfl⟩
      have hBd : d < hB.next := hN2.lt.1
      have hBm : m < hB.next := hN2.lt.2.1
      have hdC := hN3.disk
      simp only [filesS] at hdC
      obtain ⟨bs, ck, hmC, hsC⟩ := hN3.names
      simp only [filesS] at hmC hsC
      have dB : d ≠ hB.next := by omega
      have mB : m ≠ hB.next := by omega
      have dm : d ≠ m := fun e => by rw [e] at hdC; rw [hdC] at hmC; simp at hmC
      simp (disch := omega) only [go_sem, vev, vdt, vcl, fget_keepV]
      simp (disch := omega) only [go_sem, a10d10, fget_keepV, get_put_ne, dB, mB, hdC, hmC]
      have ave := hN3.all.ev
      have avd := hN3.all.dt
      have hall := hN3.all
      simp only [filesS] at hall
      have avlt : ∀ o, rowOf av = some o → o < hB.next := hN2.lt.2.2.1
      have avm : ∀ o, rowOf av = some o → o ≠ m := fun o ho e => by
        rcases hall with ⟨e1, -⟩ | ⟨o', ep, j, e1, hg'⟩
        · rw [e1] at ho; simp [rowOf] at ho
        · rw [e1] at ho
          obtain rfl : o' = o := Option.some.inj ho
          rw [e] at hg'; rw [hg'] at hmC; simp at hmC
      have avd' : ∀ o, rowOf av = some o → o ≠ d := fun o ho e => by
        rcases hall with ⟨e1, -⟩ | ⟨o', ep, j, e1, hg'⟩
        · rw [e1] at ho; simp [rowOf] at ho
        · rw [e1] at ho
          obtain rfl : o' = o := Option.some.inj ho
          rw [e] at hg'; rw [hg'] at hdC; simp at hdC
      simp (disch := omega) only [go_sem, a10r11, fget_keepV, get_put_ne, dB, mB, dm, hdC, ave, avd]
      refine stepP_app (α := FilP) (bytes := 8) (l := ids.map FilP.mk) (new := [⟨hB.next⟩]) (hall.keep (fun o ho => by
        have := avlt o ho
        rw [get_reserve, get_put_ne _ _ _ _ (avm o ho), get_put_ne _ _ _ _ (by omega)])) (addsC_one _ _ _ _ rfl) rfl (by simp [two47]; omega) (fun v' h3 hr3 hn3 ho3 hf3 hnn => ?_)
      have v'e := hr3.ev
      have v'd := hr3.dt
      have v'c : v'.cellsOf = [v'] := by rcases hr3 with ⟨rfl, -⟩ | ⟨o, ep, j, rfl, -⟩ <;> rfl
      have n3 : h3.next = hC.next + 1 := hn3
      have f3 : ∀ q, q ≠ hC.next → rowOf av ≠ some q → h3.get q = (((hC.put hB.next (.cells [v, .int .i64 f.data.length])).put m (putM f.name (.ptr hB.next 0) (fp ((fs.map (·.name)).zip ids)) bs ck)).reserve 1).get q := fun q h1 h2 => hf3 q h1 h2
      have hd3 : h3.get d = some (.cells [.int .i64 cap, .mp m, .nilm, av, .nils, .bool false, .int .i64 0, .int .i64 0, .int .i64 0, .int .i64 0]) := by
        rw [f3 d (by omega) (fun e => avd' d e rfl), get_reserve, get_put_ne _ _ _ _ dm, get_put_ne _ _ _ _ dB]
        exact hdC
      simp (disch := omega) only [go_sem, v'e, v'd, v'c, hd3]
      have hmap : MapAt h3 m (((fs ++ [f]).map (·.name)).zip (ids ++ [hB.next])) := by
        have e1 : ((fs ++ [f]).map (·.name)).zip (ids ++ [hB.next]) = nput f.name hB.next ((fs.map (·.name)).zip ids) := by
          rw [nput_none _ _ _ hg, List.map_append, List.zip_append (by simp [hln])]
          rfl
        rw [e1]
        refine (putM_at (h := hC.put hB.next (.cells [v, .int .i64 f.data.length])) (m := m) hsC f.name hB.next).of_get ?_
        rw [f3 m (by omega) (fun e => avm m e rfl), get_reserve]
      have G : ∀ q, q < hC.next → q ≠ d → q ≠ m → q ≠ hB.next → rowOf av ≠ some q → (h3.put d (.cells [.int .i64 cap, .mp m, .nilm, v', .nils, .bool false, .int .i64 0, .int .i64 0, .int .i64 0, .int .i64 0])).get q = hC.get q := fun q h1 h2 h3' h4 h5 => by
        rw [get_put_ne _ _ _ _ h2, f3 q (by omega) h5, get_reserve, get_put_ne _ _ _ _ h3', get_put_ne _ _ _ _ h4]
      have gB : (h3.put d (.cells [.int .i64 cap, .mp m, .nilm, v', .nils, .bool false, .int .i64 0, .int .i64 0, .int .i64 0, .int .i64 0])).get hB.next = some (.cells [v, .int .i64 f.data.length]) := by
        rw [get_put_ne _ _ _ _ (Ne.symm dB), f3 _ (by omega) (fun e => by have := avlt _ e; omega), get_reserve, get_put_ne _ _ _ _ (Ne.symm mB), get_put_same]
      have ilt : ∀ g ∈ ids, g < hB.next := fun g hg' => (hN2.lt.2.2.2 g hg').1
      have blt : ∀ g ∈ ids, ∀ o, rowOf (bv g) = some o → o < hB.next := fun g hg' => (hN2.lt.2.2.2 g hg').2
      have ikd : ∀ g ∈ ids, g ≠ m ∧ rowOf av ≠ some g ∧ g ≠ d := fun g hg' => by
        have hcg := hN3.cell g hg'
        refine ⟨fun e => ?_, fun e => ?_, fun e => ?_⟩
        · rw [e, hmC] at hcg; simp at hcg
        · rcases hall with ⟨e1, -⟩ | ⟨o', ep, j, e1, hg''⟩
          · rw [e1] at e; simp [rowOf] at e
          · rw [e1] at e
            obtain rfl : o' = g := Option.some.inj e
            rw [hg''] at hcg; simp at hcg
        · rw [e, hdC] at hcg; simp at hcg
      have bkd : ∀ g ∈ ids, ∀ o, rowOf (bv g) = some o → o ≠ m ∧ o ≠ d := fun g hg' o ho => by
        have hbg := hN3.bytes g hg'
        rcases hbg with ⟨e1, -⟩ | ⟨o', ep, j, e1, hg''⟩
        · rw [e1] at ho; simp [rowOf] at ho
        · rw [e1] at ho
          obtain rfl : o' = o := Option.some.inj ho
          exact ⟨fun e => by rw [e, hmC] at hg''; simp at hg'', fun e => by rw [e, hdC] at hg''; simp at hg''⟩
      have ine : ∀ g ∈ ids, g ≠ hB.next := fun g hg' => by have := ilt g hg'; omega
      have v'r : ∀ o, rowOf v' = some o → rowOf av = some o ∨ o = hC.next := fun o ho => by
        rcases ho3 with e | e
        · exact Or.inl (by rw [← e]; exact ho)
        · rw [e] at ho; exact Or.inr (Option.some.inj ho).symm
      refine Or.inr ⟨by trivial, by trivial, by trivial, ?_, ?_, ?_, hB.next, v', fun g => if g = hB.next then v else bv g, fun g => if g = hB.next then ⟨f.data, f.data.length⟩ else file g, ?_, ?_, by
        have : sumX (fs ++ [f]) = sumX fs + f.data.length := by simp [sumX, List.sum_append]
        rw [this]; omega, hnm, fun hm => ?_, by omega⟩
      · simp only [fget_keepV]
        cases o24 <;> simp [fget]
      · simp only [fget_keepV]
        cases o25 <;> simp [fget]
      · simp only [fget_keepV]
        cases o26 <;> simp [fget]
      · refine { disk := get_put_same _ _ _, names := hmap.of_get (by rw [get_put_ne _ _ _ _ (Ne.symm dm)]), all := ?_, cell := fun g hg' => ?_, bytes := fun g hg' => ?_, nm := fun p hp => ?_, nd := ?_, ad := ?_, bb := ?_, ab := ?_, lt := ?_ }
        · have : ((filesS cap (fs ++ [f]) (ids ++ [hB.next]) fun g => if g = hB.next then ⟨f.data, f.data.length⟩ else file g).all.map FilP.mk) = ids.map FilP.mk ++ [⟨hB.next⟩] := by simp [filesS]
          rw [this]
          refine hr3.keep (fun o ho => get_put_ne _ _ _ _ (fun e => ?_))
          rcases v'r o ho with h1 | h1
          · exact avd' o h1 e
          · omega
        · rcases List.mem_append.1 hg' with h1 | h1
          · show _ = some (AObj.cells [if g = hB.next then v else bv g, .int .i64 ((if g = hB.next then (⟨f.data, f.data.length⟩ : DFile) else file g).sure : Nat)])
            rw [if_neg (ine g h1), if_neg (ine g h1), G g (by have := ilt g h1; omega) (ikd g h1).2.2 (ikd g h1).1 (ine g h1) (ikd g h1).2.1]
            exact hN3.cell g h1
          · obtain rfl := List.mem_singleton.1 h1
            show _ = some (AObj.cells [if hB.next = hB.next then v else bv hB.next, .int .i64 ((if hB.next = hB.next then (⟨f.data, f.data.length⟩ : DFile) else file hB.next).sure : Nat)])
            rw [if_pos rfl, if_pos rfl]
            exact gB
        · rcases List.mem_append.1 hg' with h1 | h1
          · show PreC _ (if g = hB.next then v else bv g) (if g = hB.next then (⟨f.data, f.data.length⟩ : DFile) else file g).b
            rw [if_neg (ine g h1), if_neg (ine g h1)]
            refine (hN3.bytes g h1).keep (fun o ho => ?_)
            have hl := blt g h1 o ho
            exact G o (by omega) (bkd g h1 o ho).2 (bkd g h1 o ho).1 (by omega) (fun e => hN3.ab g h1 o e ho)
          · obtain rfl := List.mem_singleton.1 h1
            show PreC _ (if hB.next = hB.next then v else bv hB.next) (if hB.next = hB.next then (⟨f.data, f.data.length⟩ : DFile) else file hB.next).b
            rw [if_pos rfl, if_pos rfl]
            refine vp.keep (fun o ho => ?_)
            have h2 := vro o ho
            exact G o (by omega) (by omega) (by omega) (by omega) (fun e => by have := avlt o e; omega)
        · have hp' : p ∈ ((fs ++ [f]).map (·.name)).zip (ids ++ [hB.next]) := hp
          exact (List.of_mem_zip hp').2
        · obtain ⟨bs', ck', -, -⟩ := hmap
          have e1 : ((fs ++ [f]).map (·.name)).zip (ids ++ [hB.next]) = nput f.name hB.next ((fs.map (·.name)).zip ids) := by
            rw [nput_none _ _ _ hg, List.map_append, List.zip_append (by simp [hln])]
            rfl
          show ((((fs ++ [f]).map (·.name)).zip (ids ++ [hB.next])).map (·.1)).Nodup
          rw [e1]
          exact nodup_nput hN.nd
        · show (ids ++ [hB.next]).Nodup
          rw [List.nodup_append]
          exact ⟨hN.ad, by simp, fun a ha b hb => by rw [List.mem_singleton.1 hb]; exact ine a ha⟩
        · intro g hg1 g' hg2 hne o h1 h2
          have h1 : rowOf (if g = hB.next then v else bv g) = some o := h1
          have h2 : rowOf (if g' = hB.next then v else bv g') = some o := h2
          rcases List.mem_append.1 hg1 with q1 | q1 <;> rcases List.mem_append.1 hg2 with q2 | q2
          · rw [if_neg (ine g q1)] at h1
            rw [if_neg (ine g' q2)] at h2
            exact hN3.bb g q1 g' q2 hne o h1 h2
          · obtain rfl := List.mem_singleton.1 q2
            rw [if_neg (ine g q1)] at h1
            rw [if_pos rfl] at h2
            have := blt g q1 o h1
            have := (vro o h2).1
            omega
          · obtain rfl := List.mem_singleton.1 q1
            rw [if_pos rfl] at h1
            rw [if_neg (ine g' q2)] at h2
            have := blt g' q2 o h2
            have := (vro o h1).1
            omega
          · exact hne ((List.mem_singleton.1 q1).trans (List.mem_singleton.1 q2).symm)
        · intro g hg1 o h1 h2
          have h2 : rowOf (if g = hB.next then v else bv g) = some o := h2
          rcases List.mem_append.1 hg1 with q1 | q1
          · rw [if_neg (ine g q1)] at h2
            rcases v'r o h1 with e | e
            · exact hN3.ab g q1 o e h2
            · have := blt g q1 o h2; omega
          · obtain rfl := List.mem_singleton.1 q1
            rw [if_pos rfl] at h2
            have h3' := vro o h2
            rcases v'r o h1 with e | e
            · have := avlt o e; omega
            · omega
        · have nn : (h3.put d (.cells [.int .i64 cap, .mp m, .nilm, v', .nils, .bool false, .int .i64 0, .int .i64 0, .int .i64 0, .int .i64 0])).next = hC.next + 1 := n3
          rw [nn]
          refine ⟨by omega, by omega, fun o ho => ?_, fun g hg1 => ?_⟩
          · rcases v'r o ho with e | e
            · have := avlt o e; omega
            · omega
          · rcases List.mem_append.1 hg1 with q1 | q1
            · have := ilt g q1
              refine ⟨by omega, fun o ho => ?_⟩
              have ho : rowOf (if g = hB.next then v else bv g) = some o := ho
              rw [if_neg (ine g q1)] at ho
              have := blt g q1 o ho
              omega
            · obtain rfl := List.mem_singleton.1 q1
              refine ⟨by omega, fun o ho => ?_⟩
              have ho : rowOf (if hB.next = hB.next then v else bv hB.next) = some o := ho
              rw [if_pos rfl] at ho
              have := (vro o ho).2
              omega
      · rw [List.map_append, List.map_append]
        congr 1
        · rw [← hfile]
          exact List.map_congr_left (fun g hg' => if_neg (ine g hg'))
        · simp
      · exact nget_keyN (by rw [List.map_fst_zip (by simp [hln])]; exact hm) hg
end Go.Am.Dk
/- New of any files, told. -/
namespace Go.Am.Dk
open Go.Am
set_option maxRecDepth 20000
set_option maxHeartbeats 2000000
variable {P : Prog}
theorem newD_fun (hP : DkQ P) (fl : List FileV) (nl : Bool) (cap : Int) (h : Heap) (hlen : fl.length ≤ 9223372036854775807) (hsm : ∀ f ∈ fl, f.name.length ≤ 2000 ∧ f.data.length ≤ 2000) :
    Fun P 10 [slv nl false fl, .int .i64 cap] h (fun v h' => v = .nilp ∧ ¬ NewOk cap fl ∨ NewOk cap fl ∧ ∃ d y ids file, v = .ptr d 0 ∧ DiskAt h' d { filesS cap fl ids file with sure := (fl.map (·.name)).zip ids } y ∧ ids.length = fl.length ∧ ids.map file = fl.map (fun f => ⟨f.data, f.data.length⟩) ∧ fl.length ≤ 64 ∧ 0 ≤ cap ∧ cap ≤ 1048576 ∧ (sumX fl : Int) ≤ cap) := by
  refine Fun.of (code := a10c) (hP.toDkP.code rfl) (by rw [hP.pure]; rfl) ?_
  simp (disch := omega) only [go_sem, a10c, a10r0]
  simp (disch := omega) only [go_sem, a10r1]
  refine guardS_pf (fun c1 w1 => ?_) (fun c1 w1 => ?_) <;> simp (disch := omega) only [go_sem, w1]
  rotate_left
  · simp (disch := omega) only [go_sem, a10r2]
    exact Or.inl ⟨by trivial, fun hn => by have := hn.1; omega⟩
  refine guardS_pf (fun c2 w2 => ?_) (fun c2 w2 => ?_) <;> simp (disch := omega) only [go_sem, w2]
  rotate_left
  · simp (disch := omega) only [go_sem, a10r2]
    exact Or.inl ⟨by trivial, fun hn => by have := hn.2.1; omega⟩
  refine condS_if (fun c3 => ?_) (fun c3 => ?_)
  · simp (disch := omega) only [go_sem, a10r2]
    exact Or.inl ⟨by trivial, fun hn => by have := hn.2.2.1; omega⟩
  simp (disch := omega) only [go_sem, a10r3]
  simp (disch := omega) only [go_sem, a10r4]
  refine Wp_loop (fun x : Fr × Nat × Nat × Heap × AV × (Nat → AV) × List Nat × (Nat → DFile) =>
      x.2.2.1 ≤ fl.length ∧ fget x.1 1 = some (.int .i64 cap) ∧ fget x.1 5 = some (.ptr (h.next + 1) 0) ∧ fget x.1 24 = some (slv nl false fl) ∧ fget x.1 25 = some (.int .i64 fl.length) ∧ fget x.1 26 = some (.int .i64 x.2.2.1) ∧
      NewAt x.2.2.2.1 (h.next + 1) h.next x.2.2.2.2.1 x.2.2.2.2.2.1 (filesS cap (fl.take x.2.2.1) x.2.2.2.2.2.2.1 x.2.2.2.2.2.2.2) ∧ x.2.2.2.2.2.2.1.length = x.2.2.1 ∧ x.2.2.2.2.2.2.1.map x.2.2.2.2.2.2.2 = (fl.take x.2.2.1).map (fun f => ⟨f.data, f.data.length⟩) ∧ (sumX (fl.take x.2.2.1) : Int) ≤ cap ∧ ∀ j, j < x.2.2.1 → OkFile cap (fl.take j) (fl.getD j default))
    (fun x => { fr := x.1, st := x.2.1, h := x.2.2.2.1 }) (fun x => fl.length - x.2.2.1) (_, 0, 0, _, .nils, fun _ => .nils, [], fun _ => ⟨[], 0⟩) rfl ?_ ?_
  · have hN0 : NewAt (((h.reserve 2).put h.next (.map [] [] 0)).put (h.next + 1) (.cells [.int .i64 cap, .mp h.next, .nilm, .nils, .nils, .bool false, .int .i64 0, .int .i64 0, .int .i64 0, .int .i64 0])) (h.next + 1) h.next .nils (fun _ => .nils) (filesS cap [] [] fun _ => ⟨[], 0⟩) := by
      refine { disk := get_put_same _ _ _, names := ⟨[], 0, ?_, rfl, List.nodup_nil, fun b hb => by simp at hb⟩, all := Or.inl ⟨rfl, rfl⟩, cell := fun f hf => by simp [filesS] at hf, bytes := fun f hf => by simp [filesS] at hf, nm := fun p hp => by simp [filesS] at hp, nd := List.nodup_nil, ad := List.nodup_nil, bb := fun f hf => by simp [filesS] at hf, ab := fun f hf => by simp [filesS] at hf, lt := ⟨?_, ?_, fun o ho => by simp [rowOf] at ho, fun f hf => by simp [filesS] at hf⟩ }
      · rw [get_put_ne _ _ _ _ (by omega), get_put_same]; rfl
      · show h.next + 1 < h.next + 2; omega
      · show h.next < h.next + 2; omega
    exact ⟨Nat.zero_le _, by simp (disch := omega) only [go_sem], by simp (disch := omega) only [go_sem], by simp (disch := omega) only [go_sem, fget_keepV], by simp (disch := omega) only [go_sem, fget_keepV], by simp (disch := omega) only [go_sem, fget_keepV]; try trivial, hN0, rfl, rfl, by simp [sumX]; omega, fun j hj => by simp at hj⟩
  rintro ⟨fr, st, k, hh, av, bv, ids, file⟩ ⟨i1, f1, f5, f24, f25, f26, hN, hln, hfile, hsum, hok⟩
  simp only at i1 f1 f5 f24 f25 f26 hN hln hfile hsum hok
  simp (disch := omega) only [go_sem, a10l0, a10r5, f1, f5, f24, f25, f26, fget_keepV]
  refine condS_if (fun hk => ?_) (fun hk => ?_)
  · have hk' : k < fl.length := by omega
    obtain ⟨B, hB⟩ : ∃ B : ACode, B = (.seq (.seq (.dreg 0 a10d7 [1, 5, 7, 8, 24, 25, 26, 53]) (.cond (.s 53) (.seq (.reg 0 a10r8 [4]) .ret) .skip)) (.seq (.dreg 1 a10d9 [1, 5, 7, 8, 24, 25, 26]) (.seq (.dreg 0 a10d10 [1, 5, 8, 24, 25, 26]) (.reg 1 a10r11 [1, 5, 8, 24, 25, 26])))) := ⟨_, rfl⟩
    rw [← hB]
    simp (disch := omega) only [go_sem, a10r6, fget_keepV]
    have ham : fl.getD k default ∈ fl := by
      rw [List.getD_eq_getElem?_getD, List.getElem?_eq_getElem hk']
      exact List.getElem_mem hk'
    have htk : fl.take (k + 1) = fl.take k ++ [fl.getD k default] := by
      rw [List.take_add_one, List.getD_eq_getElem?_getD, List.getElem?_eq_getElem hk']; rfl
    rw [hB]
    have hlk : ids.length = (fl.take k).length := by rw [hln, List.length_take]; omega
    refine (new_body hP cap (fl.getD k default) hh (h.next + 1) h.next av bv (fl.take k) ids file hN hlk hfile hsum (by rw [List.length_take]; omega) (by omega) (hsm _ ham) _ st rfl rfl rfl).mono (fun e s' hs => ?_)
    rcases hs with ⟨rfl, h4, hno⟩ | ⟨rfl, g1, g5, g24, g25, g26, id, av', bv', file', hN', hf', hs', hyes⟩
    · simp (disch := omega) only [go_sem, h4]
      exact Or.inl ⟨by trivial, fun hn => hno (hn.2.2.2 k hk')⟩
    · rw [← htk] at hN' hf' hs'
      have e24 : fget s'.fr 24 = some (slv nl false fl) := g24.trans (by simp (disch := omega) only [go_sem, fget_keepV])
      have e25 : fget s'.fr 25 = some (.int .i64 fl.length) := g25.trans (by simp (disch := omega) only [go_sem, fget_keepV])
      have e26 : fget s'.fr 26 = some (.int .i64 k) := g26.trans (by simp (disch := omega) only [go_sem, fget_keepV])
      simp (disch := omega) only [go_sem, a10r12, g1, g5, e24, e25, e26, fget_keepV]
      refine ⟨(_, s'.st, k + 1, s'.h, av', bv', ids ++ [id], file'), ⟨by simp only; omega, by simp (disch := omega) only [go_sem], by simp (disch := omega) only [go_sem], by simp (disch := omega) only [go_sem, fget_keepV], by simp (disch := omega) only [go_sem, fget_keepV], by simp (disch := omega) only [go_sem, fget_keepV]; trivial, hN', by simp [hln], hf', hs', fun j hj => ?_⟩, by simp only; omega, rfl⟩
      have hj : j < k + 1 := hj
      by_cases e : j < k
      · exact hok j e
      · obtain rfl : j = k := by omega
        exact hyes
  · have hkl : k = fl.length := by omega
    subst hkl
    rw [List.take_length] at hN hfile hsum
    simp (disch := omega) only [go_sem, fget_keepV]
    have hd := hN.disk
    simp only [filesS] at hd
    obtain ⟨bs, ck, hm, hs⟩ := hN.names
    simp (disch := omega) only [go_sem, a10r13, fget_keepV, hd]
    refine WO.fun (vs := [.mp h.next]) (by simp (disch := omega) only [go_sem]) (mclone_funP hP.toDkP hh h.next _ bs ck hm) (fun v h' hv => ?_)
    obtain ⟨rfl, rfl⟩ := hv
    obtain ⟨l1, l2, l3, l4⟩ := hN.lt
    have q1 : ¬ h.next + 1 = hh.next := by omega
    have q2 : ¬ h.next = hh.next := by omega
    have hd2 : ((hh.reserve 1).put hh.next (.map (kv (fp (filesS cap fl ids file).names)) bs ck)).get (h.next + 1) = some (.cells [.int .i64 cap, .mp h.next, .nilm, av, .nils, .bool false, .int .i64 0, .int .i64 0, .int .i64 0, .int .i64 0]) := by rw [get_put_ne _ _ _ _ q1, get_reserve]; exact hd
    simp (disch := omega) only [go_sem, hd2]
    simp (disch := omega) only [go_sem, a10r14]
    refine Or.inr ⟨⟨by omega, by omega, by omega, hok⟩, h.next + 1, ⟨h.next, hh.next, av, .nils, bv⟩, ids, file, by trivial, ?_, hln, hfile, by omega, by omega, by omega, hsum⟩
    have G : ∀ o, o < hh.next → o ≠ h.next + 1 → (((hh.reserve 1).put hh.next (.map (kv (fp (filesS cap fl ids file).names)) bs ck)).put (h.next + 1) (.cells [.int .i64 cap, .mp h.next, .mp hh.next, av, .nils, .bool false, .int .i64 0, .int .i64 0, .int .i64 0, .int .i64 0])).get o = hh.get o := fun o h1 h2 => by
      rw [get_put_ne _ _ _ _ h2, get_put_ne _ _ _ _ (by omega), get_reserve]
    have ha := hN.all
    have avd : ∀ o, rowOf av = some o → o ≠ h.next + 1 := fun o ho e => by
      rcases ha with ⟨e1, -⟩ | ⟨o', ep, j, e1, hg'⟩
      · rw [e1] at ho; simp [rowOf] at ho
      · rw [e1] at ho
        obtain rfl : o' = o := Option.some.inj ho
        rw [e] at hg'; rw [hg'] at hd; simp at hd
    have idd : ∀ g ∈ ids, g ≠ h.next + 1 := fun g hg e => by
      have := hN.cell g hg
      rw [e, hd] at this; simp at this
    have bdd : ∀ g ∈ ids, ∀ o, rowOf (bv g) = some o → o ≠ h.next + 1 := fun g hg o ho e => by
      rcases hN.bytes g hg with ⟨e1, -⟩ | ⟨o', ep, j, e1, hg'⟩
      · rw [e1] at ho; simp [rowOf] at ho
      · rw [e1] at ho
        obtain rfl : o' = o := Option.some.inj ho
        rw [e] at hg'; rw [hg'] at hd; simp at hd
    exact { ok := ⟨hN.nm, hN.nm, fun t ht => by simp [filesS] at ht, hN.nd, hN.nd, hN.ad⟩
            disk := get_put_same _ _ _
            names := ⟨bs, ck, (G h.next (by omega) (by omega)).trans hm, hs⟩
            sure := ⟨bs, ck, by show ((((hh.reserve 1).put hh.next _).put (h.next + 1) _).get hh.next) = _; rw [get_put_ne _ _ _ _ (by omega), get_put_same]; rfl, hs⟩
            all := hN.all.keep (fun o ho => G o (l3 o ho) (avd o ho))
            waits := Or.inl ⟨rfl, rfl⟩
            cell := fun g hg => (G g (l4 g hg).1 (idd g hg)).trans (hN.cell g hg)
            bytes := fun g hg => (hN.bytes g hg).keep (fun o ho => G o ((l4 g hg).2 o ho) (bdd g hg o ho))
            mm := q2
            bb := hN.bb
            ab := hN.ab
            wb := fun g hg o ho => by simp [rowOf] at ho
            aw := fun o ho => by simp [rowOf]
            lt := fun o ho => by
              show o < hh.next + 1
              rcases ho with rfl | rfl | rfl | h1 | h1 | ⟨g, hg, rfl | h1⟩
              · omega
              · show h.next < _; omega
              · show hh.next < _; omega
              · have := l3 o h1; omega
              · simp [rowOf] at h1
              · have := (l4 o hg).1; omega
              · have := (l4 g hg).2 o h1; omega }
end Go.Am.Dk
/- Any act, done on a disk and on the document's that is like it. -/
namespace Go.Am.Dk
open Go.Am
set_option maxRecDepth 20000
set_option maxHeartbeats 1000000
variable {P : Prog}
def SepR (d : Nat) (σ : DSt) (y : Lay) (x : Nat) (r : RLay) : Prop := ¬ Own d σ y x ∧ ∀ o, RefOwn r o → ¬ Own d σ y o
theorem RefAt.rows {h : Heap} {x : Nat} {ρ : RSt} {r : RLay} (a : RefAt h x ρ r) : ∀ o, RefOwn r o → o < h.next := fun o ho => by
  rcases ho with ho | ho | ho | ho | ⟨f, hf, ho⟩
  · exact a.files.2 o ho
  · exact a.now.2 o ho
  · exact a.sure.2 o ho
  · exact a.waits.2 o ho
  · obtain ⟨i, hi, rfl⟩ := List.getElem_of_mem hf
    have h1 := (a.hold i (by rw [← a.len]; exact hi)).1
    rw [List.getD_eq_getElem?_getD, List.getElem?_eq_getElem hi] at h1
    exact (h1.lt o ho).1
theorem RefAt.keep {h h' : Heap} {x : Nat} {ρ : RSt} {r : RLay} (a : RefAt h x ρ r) (hn : h.next ≤ h'.next) (hx : h'.get x = h.get x) (hk : ∀ o, RefOwn r o → h'.get o = h.get o) : RefAt h' x ρ r := by
  refine ⟨hx.trans a.cell, Nat.lt_of_lt_of_le a.lt hn, a.files.keep hn (fun o ho => hk o (Or.inl ho)), a.len, fun i hi => ⟨(a.hold i hi).1.ext hn (fun o ho => hk o ?_), (a.hold i hi).2⟩, a.now.keep hn (fun o ho => hk o (Or.inr (Or.inl ho))), a.sure.keep hn (fun o ho => hk o (Or.inr (Or.inr (Or.inl ho)))), a.waits.keep hn (fun o ho => hk o (Or.inr (Or.inr (Or.inr (Or.inl ho)))))⟩
  refine Or.inr (Or.inr (Or.inr (Or.inr ⟨r.rfs.getD i default, ?_, ho⟩)))
  rw [List.getD_eq_getElem?_getD, List.getElem?_eq_getElem (show i < r.rfs.length by rw [a.len]; exact hi)]
  exact List.getElem_mem _
theorem both_disk {h h1 : Heap} {d x : Nat} {σ σ1 : DSt} {y y1 : Lay} {ρ : RSt} {r : RLay} (hr : RefAt h x ρ r) (hs : SepR d σ y x r) (hst : Step h h1 d σ y σ1 y1) : RefAt h1 x ρ r ∧ SepR d σ1 y1 x r := by
  refine ⟨hr.keep hst.frm.1 (hst.frm.2 x hr.lt hs.1) (fun o ho => hst.frm.2 o (hr.rows o ho) (hs.2 o ho)), fun ho => ?_, fun o ho h2 => ?_⟩
  · rcases hst.own x ho with h3 | h3
    · exact hs.1 h3
    · have := hr.lt; omega
  · rcases hst.own o h2 with h3 | h3
    · exact hs.2 o ho h3
    · have := hr.rows o ho; omega
theorem both_ref {h h1 : Heap} {d x : Nat} {σ : DSt} {y : Lay} {ρ : RSt} {r r1 : RLay} (hD : DiskAt h d σ y) (hr : RefAt h x ρ r) (hs : SepR d σ y x r) (hst : RStep h h1 x r r1) : DiskAt h1 d σ y ∧ SepR d σ y x r1 := by
  refine ⟨hD.ext (fun o ho => hst.1.2 o (hD.lt o ho) (fun e => hs.1 (e ▸ ho))) hst.1.1, hs.1, fun o ho h2 => ?_⟩
  rcases hst.2 o ho with h3 | h3
  · exact hs.2 o h3 h2
  · have := hD.lt o h2; omega
def RB (ρ : RSt) : Prop := (0 ≤ ρ.fuse ∧ ρ.fuse ≤ 1099511627776) ∧ 0 ≤ ρ.fault ∧ ρ.fault ≤ 1099511627776
theorem RB.begin {ρ : RSt} (h : RB ρ) : RB (beginR ρ).2 := by
  obtain ⟨h1, h2⟩ := h
  unfold beginR
  split
  · exact ⟨h1, h2⟩
  · split
    · exact ⟨by simp only; split <;> omega, by simp only; split <;> omega⟩
    · split <;> exact ⟨by simp only; split <;> omega, by simp only; split <;> omega⟩
theorem arm_b (n : Int) : 0 ≤ armS n ∧ armS n ≤ 1099511627776 := by unfold armS; split <;> omega
theorem Rel.rok {σ : DSt} {ρ : RSt} {k : Nat} (h : Rel σ ρ) (hO : σ.Ok) (hB : Bnd σ k) (hk : k ≤ 100) (hR : RB ρ) : ROk ρ := by
  have h1 := hB.nl
  have h2 := hB.al
  have h3 := hB.wl
  have h4 := hB.calls
  have hu := hB.used hO hk
  have hl : ρ.files.length = σ.all.length := by rw [h.files, List.length_map]
  refine ⟨h.idx hO, by rw [h.now.len hO.nd]; omega, by rw [hl]; omega, by rw [h.waits, List.length_map]; omega, by rw [h.calls]; unfold I62; omega, by have := hR.1; unfold I62; omega, by have := hR.2; unfold I62; omega, by rw [h.cap]; exact hB.cap, by rw [h.used hO]; omega, fun i hi => ?_⟩
  have : ρ.files.getD i default = ⟨(σ.file (σ.all.getD i 0)).b, (σ.file (σ.all.getD i 0)).sure⟩ := by
    rw [h.files, List.getD_eq_getElem?_getD, List.getElem?_map, List.getElem?_eq_getElem (show i < σ.all.length by omega), List.getD_eq_getElem?_getD, List.getElem?_eq_getElem (show i < σ.all.length by omega)]
    rfl
  rw [this]
  have hm : σ.all.getD i 0 ∈ σ.all := by
    rw [List.getD_eq_getElem?_getD, List.getElem?_eq_getElem (show i < σ.all.length by omega)]
    exact List.getElem_mem _
  have := hB.fl _ hm
  simp only
  omega
structure Both (h : Heap) (d x : Nat) (σ : DSt) (y : Lay) (ρ : RSt) (r : RLay) (k : Nat) : Prop where
  disk : DiskAt h d σ y
  ref : RefAt h x ρ r
  sep : SepR d σ y x r
  rel : Rel σ ρ
  bnd : Bnd σ k
  rb : RB ρ
theorem do_both (hR : DkR P) (a : DAct) (ha : ActWf a) (hb : a.b.length ≤ 500) (hl : a.name.length ≤ 100 ∧ a.to.length ≤ 100) (h : Heap) (d x : Nat) (σ : DSt) (y : Lay) (ρ : RSt) (r : RLay) (k : Nat) (hk2 : k ≤ 100) (B : Both h d x σ y ρ r k) :
    Fun P 19 [.ptr d 0, .ptr x 0, .agg (Enc.cells a)] h (fun v h' => v = .bool true ∧ ∃ σ' y' ρ' r', Both h' d x σ' y' ρ' r' (k + 1)) := by
  have hP : DkQ P := hR.toDkQ
  obtain ⟨hD, hX, hsep, hrel, hS, hrb⟩ := B
  have hO := hD.ok
  have hc := hS.calls
  have hwl := hS.wl
  have hal := hS.al
  have hsl := hS.sl
  have hus := hS.used hO hk2
  have hrk := hrel.rok hO hS hk2 hrb
  have hrf : ρ.files.length = σ.all.length := by rw [hrel.files, List.length_map]
  have hfl : ∀ f ∈ σ.all, (σ.file f).b.length ≤ 1000000000000 := fun f hf => by have := (hS.fl f hf).2; omega
  have fin : ∀ {h1 σ1 y1 ρ1 r1 h2}, Step h h1 d σ y σ1 y1 → RefAt h2 x ρ1 r1 → RStep h1 h2 x r r1 → Rel σ1 ρ1 → Bnd σ1 (k + 1) → RB ρ1 → Both h2 d x σ1 y1 ρ1 r1 (k + 1) := fun hst q1 q2 q3 q4 q5 => by
    obtain ⟨e1, e2⟩ := both_disk hX hsep hst
    obtain ⟨e3, e4⟩ := both_ref hst.at' e1 e2 q2
    exact ⟨e3, q1, e4, q3, q4, q5⟩
  refine Fun.of (code := a19c) (hP.toDkP.code rfl) (by rw [hP.pure]; rfl) ?_
  rw [cells_Act]
  simp (disch := omega) only [go_sem, a19c, a19r0]
  simp (disch := omega) only [go_sem, a19r1]
  simp (disch := omega) only [go_sem, a19r2]
  refine condS_if (fun c0 => ?_) (fun c0 => ?_)
  · simp (disch := omega) only [go_sem, a19d3]
    refine WD_fun (vs := [.ptr d 0, strv a.name]) (by simp (disch := omega) only [go_sem]) (createD_fun hP.toDkP a.name h d σ y hD hc.1 (by omega) (by omega) (by omega) (by omega)) (fun v h' hv => ?_) (fun v h' hv => ?_)
    · obtain ⟨f, y1, hf, rfl, hst⟩ := hv
      simp (disch := omega) only [go_sem]
    · obtain ⟨f, y1, hf, rfl, hst⟩ := hv
      obtain ⟨hx1, hsep1⟩ := both_disk hX hsep hst
      simp (disch := omega) only [go_sem]
      refine WD_fun (vs := [.ptr x 0, strv a.name]) (by simp (disch := omega) only [go_sem]) (createRR_fun hP.toDkP a.name (by omega) h' x ρ r hx1 hrk) (fun v h2 hv => by obtain ⟨rfl, -⟩ := hv; rfl) (fun v h2 hv => ?_)
      obtain ⟨rfl, r1, q1, q2⟩ := hv
      obtain ⟨g1, g2⟩ := hrel.create hO hc.1 a.name f (fun hm => by have := hD.lt f (Or.inr (Or.inr (Or.inr (Or.inr (Or.inr ⟨f, hm, Or.inl rfl⟩))))); omega)
      rw [g1]
      simp (disch := omega) only [go_sem]
      exact ⟨by trivial, _, _, _, _, fin hst q1 q2 g2 (hS.create _ (by omega) _) (by
        have := hrb.begin
        unfold createX
        repeat' split
        all_goals exact this)⟩
  simp (disch := omega) only [go_sem, a19r4]
  refine condS_if (fun c1 => ?_) (fun c1 => ?_)
  · simp (disch := omega) only [go_sem, a19d5]
    refine WD_fun (vs := [.ptr d 0, strv a.name, slv a.bn false a.b]) (by simp (disch := omega) only [go_sem]) (appendD_fun hP a.name a.b a.bn false h d σ y hD hc.1 (by omega) (by omega) hS.cap (by omega) hfl) (fun v h' hv => ?_) (fun v h' hv => ?_)
    · obtain ⟨rfl, y1, hst⟩ := hv
      simp (disch := omega) only [go_sem]
    · obtain ⟨rfl, y1, hst⟩ := hv
      obtain ⟨hx1, hsep1⟩ := both_disk hX hsep hst
      simp (disch := omega) only [go_sem]
      refine WD_fun (vs := [.ptr x 0, strv a.name, slv a.bn false a.b]) (by simp (disch := omega) only [go_sem]) (appendRR_fun hP.toDkP a.name a.b a.bn false (by omega) h' x ρ r hx1 hrk) (fun v h2 hv => by obtain ⟨rfl, -⟩ := hv; rfl) (fun v h2 hv => ?_)
      obtain ⟨rfl, r1, q1, q2⟩ := hv
      obtain ⟨g1, g2⟩ := hrel.append hO hc.1 a.name a.b
      rw [g1]
      simp (disch := omega) only [go_sem]
      exact ⟨by trivial, _, _, _, _, fin hst q1 q2 g2 (hS.append hO _ _ hb) (by
        have := hrb.begin
        unfold appendX
        repeat' split
        all_goals exact this)⟩
  simp (disch := omega) only [go_sem, a19r6]
  refine condS_if (fun c2 => ?_) (fun c2 => ?_)
  · simp (disch := omega) only [go_sem, a19d7]
    refine WD_fun (vs := [.ptr d 0, strv a.name]) (by simp (disch := omega) only [go_sem]) (syncD_fun hP.toDkP a.name h d σ y hD hc.1 (by omega)) (fun v h' hv => ?_) (fun v h' hv => ?_)
    · obtain ⟨rfl, y1, hst⟩ := hv
      simp (disch := omega) only [go_sem]
    · obtain ⟨rfl, y1, hst⟩ := hv
      obtain ⟨hx1, hsep1⟩ := both_disk hX hsep hst
      simp (disch := omega) only [go_sem]
      refine WD_fun (vs := [.ptr x 0, strv a.name]) (by simp (disch := omega) only [go_sem]) (syncRR_fun hP.toDkP a.name h' x ρ r hx1 hrk) (fun v h2 hv => by obtain ⟨rfl, -⟩ := hv; rfl) (fun v h2 hv => ?_)
      obtain ⟨rfl, r1, q1, q2⟩ := hv
      obtain ⟨g1, g2⟩ := hrel.sync hO hc.1 a.name
      rw [g1]
      simp (disch := omega) only [go_sem]
      exact ⟨by trivial, _, _, _, _, fin hst q1 q2 g2 (hS.sync hO _) (by
        have := hrb.begin
        unfold syncX
        repeat' split
        all_goals exact this)⟩
  simp (disch := omega) only [go_sem, a19r8]
  refine condS_if (fun c3 => ?_) (fun c3 => ?_)
  · simp (disch := omega) only [go_sem, a19r9]
    refine WO.fun (vs := [.ptr d 0]) (by simp (disch := omega) only [go_sem]) (syncDirD_fun hP.toDkP h d σ y hD hc.1 (by omega)) (fun v h' hv => ?_)
    obtain ⟨rfl, y1, hst⟩ := hv
    obtain ⟨hx1, hsep1⟩ := both_disk hX hsep hst
    simp (disch := omega) only [go_sem]
    refine WO.fun (vs := [.ptr x 0]) (by simp (disch := omega) only [go_sem]) (syncDirR_fun hP.toDkP h' x ρ r hx1 hrk) (fun v h2 hv => ?_)
    obtain ⟨rfl, r1, q1, q2⟩ := hv
    obtain ⟨g1, g2⟩ := hrel.syncDir hc.1
    rw [g1]
    simp (disch := omega) only [go_sem]
    exact ⟨by trivial, _, _, _, _, fin hst q1 q2 g2 (hS.syncDir) (by
      have := hrb.begin
      unfold syncDirX
      repeat' split
      all_goals exact this)⟩
  simp (disch := omega) only [go_sem, a19r10]
  refine condS_if (fun c4 => ?_) (fun c4 => ?_)
  · simp (disch := omega) only [go_sem, a19d11]
    refine WD_fun (vs := [.ptr d 0, strv a.name, strv a.to]) (by simp (disch := omega) only [go_sem]) (renameD_fun hP.toDkP a.name a.to h d σ y hD hc.1 (by omega) (by omega) (by omega)) (fun v h' hv => ?_) (fun v h' hv => ?_)
    · obtain ⟨rfl, y1, hst⟩ := hv
      simp (disch := omega) only [go_sem]
    · obtain ⟨rfl, y1, hst⟩ := hv
      obtain ⟨hx1, hsep1⟩ := both_disk hX hsep hst
      simp (disch := omega) only [go_sem]
      refine WD_fun (vs := [.ptr x 0, strv a.name, strv a.to]) (by simp (disch := omega) only [go_sem]) (renameRR_fun hP.toDkP a.name a.to (by omega) h' x ρ r hx1 hrk) (fun v h2 hv => by obtain ⟨rfl, -⟩ := hv; rfl) (fun v h2 hv => ?_)
      obtain ⟨rfl, r1, q1, q2⟩ := hv
      obtain ⟨g1, g2⟩ := hrel.rename hO hc.1 a.name a.to
      rw [g1]
      simp (disch := omega) only [go_sem]
      exact ⟨by trivial, _, _, _, _, fin hst q1 q2 g2 (hS.rename _ _ (by omega)) (by
        have := hrb.begin
        unfold renameX
        repeat' split
        all_goals exact this)⟩
  simp (disch := omega) only [go_sem, a19r12]
  refine condS_if (fun c5 => ?_) (fun c5 => ?_)
  · simp (disch := omega) only [go_sem, a19d13]
    refine WD_fun (vs := [.ptr d 0, strv a.name]) (by simp (disch := omega) only [go_sem]) (removeD_fun hP.toDkP a.name h d σ y hD hc.1 (by omega) (by omega)) (fun v h' hv => ?_) (fun v h' hv => ?_)
    · obtain ⟨rfl, y1, hst⟩ := hv
      simp (disch := omega) only [go_sem]
    · obtain ⟨rfl, y1, hst⟩ := hv
      obtain ⟨hx1, hsep1⟩ := both_disk hX hsep hst
      simp (disch := omega) only [go_sem]
      refine WD_fun (vs := [.ptr x 0, strv a.name]) (by simp (disch := omega) only [go_sem]) (removeRR_fun hP.toDkP a.name h' x ρ r hx1 hrk) (fun v h2 hv => by obtain ⟨rfl, -⟩ := hv; rfl) (fun v h2 hv => ?_)
      obtain ⟨rfl, r1, q1, q2⟩ := hv
      obtain ⟨g1, g2⟩ := hrel.remove hO hc.1 a.name
      rw [g1]
      simp (disch := omega) only [go_sem]
      exact ⟨by trivial, _, _, _, _, fin hst q1 q2 g2 (hS.remove _) (by
        have := hrb.begin
        unfold removeX
        repeat' split
        all_goals exact this)⟩
  simp (disch := omega) only [go_sem, a19r14]
  refine condS_if (fun c6 => ?_) (fun c6 => ?_)
  · simp (disch := omega) only [go_sem, a19r15]
    refine WO.fun (vs := [.ptr d 0, .int .i64 a.n]) (by simp (disch := omega) only [go_sem]) (fuseD_fun hP.toDkP a.n h d σ y hD hc.1 (by omega)) (fun v h' hst => ?_)
    obtain ⟨hx1, hsep1⟩ := both_disk hX hsep hst
    have hgx := hx1.cell
    simp only [RSt.cells] at hgx
    simp (disch := omega) only [go_sem]
    simp (disch := omega) only [go_sem, a19r16]
    refine WO.fun (vs := [.int .i64 a.n]) (by simp (disch := omega) only [go_sem]) (armR_fun hP.toDkP a.n h') (fun v h2 hv => ?_)
    obtain ⟨rfl, rfl⟩ := hv
    simp (disch := omega) only [go_sem, hgx]
    simp (disch := omega) only [go_sem, a19r22]
    exact ⟨by trivial, _, _, _, _, fin hst (hx1.turn (ρ' := { ρ with fuse := armS a.n }) (get_put_same _ _ _) (Only.put _ _ _) rfl rfl rfl rfl) (RStep.same (Only.put _ _ _)) (hrel.fuseS hc.1 a.n) (hS.fuse _) ⟨arm_b a.n, hrb.2⟩⟩
  simp (disch := omega) only [go_sem, a19r17]
  refine condS_if (fun c7 => ?_) (fun c7 => ?_)
  · simp (disch := omega) only [go_sem, a19r18]
    refine WO.fun (vs := [.ptr d 0, .int .i64 a.n, .int .i64 a.e]) (by simp (disch := omega) only [go_sem]) (faultD_fun hP.toDkP a.n a.e h d σ y hD hc.1 (by omega)) (fun v h' hst => ?_)
    obtain ⟨hx1, hsep1⟩ := both_disk hX hsep hst
    simp (disch := omega) only [go_sem]
    simp (disch := omega) only [go_sem, a19r19]
    refine WO.fun (vs := [.ptr x 0, .int .i64 a.n, .int .i64 a.e]) (by simp (disch := omega) only [go_sem]) (faultRR_fun hP.toDkP a.n a.e h' x ρ r hx1) (fun v h2 hv => ?_)
    simp (disch := omega) only [go_sem]
    simp (disch := omega) only [go_sem, a19r22]
    exact ⟨by trivial, _, _, _, _, fin hst hv.1 (RStep.same hv.2) (hrel.faultS hc.1 a.n a.e) (hS.fault _ _) ⟨hrb.1, by have := arm_b a.n; unfold faultX; simp only; split <;> omega⟩⟩
  simp (disch := omega) only [go_sem, a19r20]
  refine condS_if (fun c8 => ?_) (fun c8 => ?_)
  · simp (disch := omega) only [go_sem, a19d21]
    refine WD_fun (vs := [.ptr d 0, .int .i64 a.n, slv a.kn false a.keep]) (by simp (disch := omega) only [go_sem]) (boot_funR hR.none21 (by rw [hR.pure]; rfl) hR.boot hD a.n a.keep a.kn false (by omega) (by omega) (fun f hf => by have := hS.fl f hf; exact ⟨this.1, by omega⟩) ⟨ha.2.2.2.2.2.2.1, ha.2.2.2.2.2.2.2⟩) (fun v h' hv => ?_) (fun v h' hv => ?_)
    · obtain ⟨rfl, y1, hst⟩ := hv
      simp (disch := omega) only [go_sem]
    · obtain ⟨rfl, y1, hst⟩ := hv
      obtain ⟨hx1, hsep1⟩ := both_disk hX hsep hst
      simp (disch := omega) only [go_sem]
      have hsu : ρ.sure.length = σ.sure.length := hrel.sure.len hO.sd
      have hwu : ρ.waits.length = σ.waits.length := by rw [hrel.waits, List.length_map]
      have hm : σ.all.length * (σ.sure.length + σ.waits.length) ≤ 164 * 10264 := Nat.mul_le_mul (by omega) (by omega)
      refine WD_fun (vs := [.ptr x 0, .int .i64 a.n, slv a.kn false a.keep]) (by simp (disch := omega) only [go_sem]) (bootRR_fun hP.toDkP a.n a.keep a.kn false ⟨ha.2.2.2.2.2.2.1, ha.2.2.2.2.2.2.2⟩ h' x ρ r hx1 (by rw [hsu, hwu, hrf]; exact ⟨by omega, by omega, by omega⟩) (fun i hi => ?_)) (fun v h2 hv => by obtain ⟨rfl, -⟩ := hv; rfl) (fun v h2 hv => ?_)
      · have hi' : i < σ.all.length := by omega
        have hfe : ρ.files.getD i default = ⟨(σ.file σ.all[i]).b, (σ.file σ.all[i]).sure⟩ := by
          rw [hrel.files, List.getD_eq_getElem?_getD, List.getElem?_map, List.getElem?_eq_getElem hi']; rfl
        rw [hfe]
        have := hS.fl _ (List.getElem_mem hi')
        simp only
        omega
      obtain ⟨rfl, r1, q1, q2⟩ := hv
      obtain ⟨g1, g2⟩ := hrel.boot hO hc.1 a.n a.keep
      rw [g1]
      simp (disch := omega) only [go_sem]
      refine ⟨by trivial, _, _, _, _, fin hst q1 q2 g2 (hS.bootR hk2 _ _) ?_⟩
      unfold bootX
      split
      · exact hrb
      · exact ⟨⟨by simp, by simp⟩, by simp, by simp⟩
  simp (disch := omega) only [go_sem]
  simp (disch := omega) only [go_sem, a19r22]
  exact ⟨by trivial, σ, y, ρ, r, hD, hX, hsep, hrel, hS.mono, hrb⟩
end Go.Am.Dk
/- Are a disk and the document's alike? -/
namespace Go.Am.Dk
open Go.Am
set_option maxRecDepth 20000
set_option maxHeartbeats 2000000
variable {P : Prog}
def usedDF : List AV → Heap → Option (AV × Heap)
  | [.ptr d 0], h => (match h.get d with
    | some (.cells [_, _, _, _, _, .bool true, _, _, _, _]) => some (.int .i64 0, h)
    | _ => none)
  | _, _ => none
theorem used_off (args : List AV) (h : Heap) (v : AV) (h' : Heap) (hF : usedDF args h = some (v, h')) : FunX PU 33 args h (fun v2 h2 => v2 = v ∧ SubH h' h2) := by
  unfold usedDF at hF
  split at hF
  · rename_i d
    split at hF
    · rename_i a b c e f g i j k hg
      simp only [Option.some.injEq, Prod.mk.injEq] at hF
      obtain ⟨rfl, rfl⟩ := hF
      refine FunX.of (code := a33c) rfl (WX.det ?_)
      simp (disch := omega) only [go_sem, a33c, a33r0]
      simp (disch := omega) only [go_sem, a33r1]
      simp (disch := omega) only [go_sem, a33r2, hg]
      simp (disch := omega) only [go_sem, a33r3]
      exact ⟨by trivial, SubH.refl _⟩
    · simp at hF
  · simp at hF
theorem usedD_sim : CallSim L (onF 33 usedDF) := onF_sim (PA := PU) allFn mixed code_sim prim0_sim used_off
structure DkT (P : Prog) : Prop extends DkR P where
  off : ∀ args h r, usedDF args h = some r → P.prim 33 args h = some r
theorem usedOff_fun (hP : DkT P) {h : Heap} {d : Nat} {σ : DSt} {y : Lay} (hD : DiskAt h d σ y) (hd : σ.dead = true) : Fun P 33 [.ptr d 0] h (fun v h' => v = .int .i64 0 ∧ Ext h h') := by
  have hdk := hD.disk
  simp only [DSt.cells, hd] at hdk
  exact Fun.prim (v := .int .i64 0) (h' := h) hP.none33 (by rw [hP.pure]; rfl) (hP.off _ _ _ (by simp only [usedDF, hdk])) ⟨rfl, Ext.refl h⟩
theorem callsD_fun (hP : DkP P) (h : Heap) (d : Nat) (σ : DSt) (y : Lay) (hD : DiskAt h d σ y) : Fun P 34 [.ptr d 0] h (fun v h' => v = .int .i64 σ.calls ∧ h' = h) := by
  have hd := hD.disk
  simp only [DSt.cells] at hd
  refine Fun.of (code := a34c) (hP.code rfl) (by rw [hP.pure]; rfl) ?_
  simp (disch := omega) only [go_sem, a34c, a34r0, a34r1]
  simp (disch := omega) only [go_sem, a34r3]
  refine WO.fun (vs := [.ptr d 6]) (by simp (disch := omega) only [go_sem]) (load_funP hP h d σ.calls _ _ _ _ _ _ _ hd) (fun v h' hv => ?_)
  obtain ⟨rfl, rfl⟩ := hv
  simp (disch := omega) only [go_sem]
theorem Rel.list {σ : DSt} {ρ : RSt} (h : Rel σ ρ) (hO : σ.Ok) (hd : σ.dead = false) : listS σ = ρ.now.map (·.s) := by
  unfold listS
  rw [if_neg (by simp [hd])]
  have h1 : (σ.names.map (·.1)).mergeSort leT = (ρ.now.map (·.s)).mergeSort leT := mergeSort_of_perm (h.now.perm hO.nd).symm
  rw [h1]
  refine List.mergeSort_of_pairwise ?_
  rw [List.pairwise_map]
  refine h.now.srt.imp (fun hab => ?_)
  have h2 := (ltB_iff _ _).1 hab
  unfold leT
  exact decide_eq_true (List.le_of_lt h2)
theorem Rel.entry {σ : DSt} {ρ : RSt} (h : Rel σ ρ) (hO : σ.Ok) {e : REnt} (he : e ∈ ρ.now) : ∃ f, nget e.s σ.names = some f ∧ (ρ.files.getD e.n.toNat default).b = (σ.file f).b := by
  have h1 := h.now.fnd e.s
  rw [sorted_find h.now.srt he] at h1
  have h2 := h.now.pos e he
  cases hg : nget e.s σ.names with
  | none => rw [hg] at h1; simp [ix] at h1; omega
  | some f =>
    refine ⟨f, rfl, ?_⟩
    rw [hg] at h1
    simp only [ix] at h1
    rw [h1, Int.toNat_natCast, (h.file (hO.names _ (nget_mem hg))).2]
theorem Rel.read {σ : DSt} {ρ : RSt} (h : Rel σ ρ) (hO : σ.Ok) (s : List UInt8) : readX ρ s = ((readS σ s).1.getD [], (readS σ s).2) := by
  unfold readX readS
  rw [h.dead, h.now.fnd]
  cases hd : σ.dead with
  | true => rfl
  | false =>
    simp only [Bool.false_eq_true, if_false]
    cases hg : nget s σ.names with
    | none => rw [if_pos (ix_neg.2 rfl)]; rfl
    | some f =>
      rw [if_neg (by rw [ix_neg]; simp)]
      simp only [ix, Int.toNat_natCast, (h.file (hO.names _ (nget_mem hg))).2, Option.getD_some]
theorem Bts.frz {h h' : Heap} {w : AV} {o : Option (List UInt8)} (a : Bts h h' w o) : ∃ n, frz h' 0 40 w = slv n false (o.getD []) := by
  cases o with
  | none => exact ⟨true, by have : w = .nils := a; rw [this]; rfl⟩
  | some l =>
    rcases a with ⟨rfl, e⟩ | ⟨o, ep, rfl, h1, h2, h3⟩
    · exact ⟨true, by rw [e]; rfl⟩
    · refine ⟨false, ?_⟩
      have := frz_hs (α := UInt8) (off := 0) (len := l.length) (N := 0) (n := 39) (full := false) (l := l) h3 (by simp) (Nat.zero_le _)
      rw [List.drop_zero, List.take_length] at this
      exact this
theorem Bts.ev {h h' : Heap} {w : AV} {o : Option (List UInt8)} (a : Bts h h' w o) (i : Nat) : evS i (some w) = some w := by
  cases o with
  | none => have : w = .nils := a; rw [this]; rfl
  | some l => rcases a with ⟨rfl, e⟩ | ⟨o, ep, rfl, h1, h2, h3⟩ <;> rfl
theorem Bts.dt {h h' : Heap} {w : AV} {o : Option (List UInt8)} (a : Bts h h' w o) : datW (some w) = some w := by
  cases o with
  | none => have : w = .nils := a; rw [this]; rfl
  | some l => rcases a with ⟨rfl, e⟩ | ⟨o, ep, rfl, h1, h2, h3⟩ <;> rfl
end Go.Am.Dk
/- A disk, and the document's that is like it, show the same. -/
namespace Go.Am.Dk
open Go.Am
set_option maxRecDepth 20000
set_option maxHeartbeats 2000000
variable {P : Prog}
theorem Both.ext {h h' : Heap} {d x : Nat} {σ : DSt} {y : Lay} {ρ : RSt} {r : RLay} {k : Nat} (B : Both h d x σ y ρ r k) (hx : Ext h h') : Both h' d x σ y ρ r k :=
  ⟨B.disk.ext (fun o ho => hx.2 o (B.disk.lt o ho)) hx.1, B.ref.ext hx, B.sep, B.rel, B.bnd, B.rb⟩
theorem alike_fun (hT : DkT P) (h14 : P.fn 14 = some a14) (h : Heap) (d x : Nat) (σ : DSt) (y : Lay) (ρ : RSt) (r : RLay) (k : Nat) (hk : k ≤ 100) (B : Both h d x σ y ρ r k) :
    Fun P 26 [.ptr d 0, .ptr x 0] h (fun v h' => v = .bool true ∧ Ext h h') := by
  have hR := hT.toDkR
  have hP := hT.toDkR.toDkQ.toDkP
  obtain ⟨hD, hX, hsep, hrel, hS, hrb⟩ := B
  have hO := hD.ok
  have hrk := hrel.rok hO hS hk hrb
  have hg := hX.cell
  simp only [RSt.cells] at hg
  have hnl := hS.nl
  refine Fun.of (code := a26c) (hP.code rfl) (by rw [hP.pure]; rfl) ?_
  simp (disch := omega) only [go_sem, a26c, a26r0]
  simp (disch := omega) only [go_sem, a26d1, hg]
  refine WD_fun (vs := [.ptr d 0]) (by simp (disch := omega) only [go_sem]) (deadD_fun hP h d σ y hD) (fun v h' hv => ?_) (fun v h' hv => ?_)
  · obtain ⟨rfl, rfl⟩ := hv
    simp (disch := omega) only [go_sem, hg]
  obtain ⟨rfl, rfl⟩ := hv
  have e1 : same 0 (.bool σ.dead) (.bool ρ.dead) = some true := by rw [hrel.dead]; cases σ.dead <;> rfl
  simp (disch := omega) only [go_sem, e1, hg]
  refine WD_fun (vs := [.ptr d 0]) (by simp (disch := omega) only [go_sem]) (callsD_fun hP h' d σ y hD) (fun v h2 hv => ?_) (fun v h2 hv => ?_)
  · obtain ⟨rfl, rfl⟩ := hv
    simp (disch := omega) only [go_sem, hg]
  obtain ⟨rfl, rfl⟩ := hv
  have e2 := hrel.calls
  simp (disch := omega) only [go_sem, e2]
  simp (disch := omega) only [go_sem, a26r3]
  refine WO.fun (vs := [.ptr d 0]) (by simp (disch := omega) only [go_sem]) (listD_fun hR h2 d σ y hD (by omega) (fun p hp => by have := hS.nk p hp; omega)) (fun v h3 hv => ?_)
  obtain ⟨rfl, hx3⟩ := hv
  have hD3 := hD.ext (fun o ho => hx3.2 o (hD.lt o ho)) hx3.1
  have hX3 := hX.ext hx3
  have hg3 := hX3.cell
  simp only [RSt.cells] at hg3
  simp (disch := omega) only [go_sem]
  simp (disch := omega) only [go_sem, a26r4, hg3]
  cases hd : σ.dead with
  | true =>
    have hrd : ρ.dead = true := hrel.dead.trans hd
    have hl0 : listS σ = [] := by unfold listS; rw [if_pos hd]
    rw [hrd, hl0]
    simp (disch := omega) only [go_sem]
    simp (disch := omega) only [go_sem, a26r5]
    refine WO.fun (vs := [.ptr d 0, strv [97]]) (by simp (disch := omega) only [go_sem]) (readD_fun hP [97] h3 d σ y hD3 (fun f hf => by have := hS.fl f hf; omega)) (fun v h4 hv => ?_)
    obtain ⟨w, rfl, hbt, hx4⟩ := hv
    have hw : readS σ [97] = (none, 9) := by unfold readS; rw [if_pos hd]
    rw [hw] at hbt ⊢
    have wev := hbt.ev
    have wdt := hbt.dt
    have hD4 := hD3.ext (fun o ho => hx4.2 o (hD3.lt o ho)) hx4.1
    simp (disch := omega) only [go_sem, wev, wdt]
    simp (disch := omega) only [go_sem, a26r6, wev, wdt]
    refine WO.fun (vs := [.ptr d 0]) (by simp (disch := omega) only [go_sem]) (usedOff_fun hT hD4 hd) (fun v h5 hv => ?_)
    obtain ⟨rfl, hx5⟩ := hv
    simp (disch := omega) only [go_sem, wev, wdt]
    exact ⟨by trivial, (hx3.trans hx4).trans hx5⟩
  | false =>
    have hrd : ρ.dead = false := hrel.dead.trans hd
    rw [hrd]
    simp (disch := omega) only [go_sem]
    simp (disch := omega) only [go_sem, a26r7]
    refine WO.fun (vs := [.ptr x 0]) (by simp (disch := omega) only [go_sem]) (listRR_fun hP h3 x ρ r hX3 hrk) (fun v h4 hv => ?_)
    obtain ⟨⟨lst, hL, hl1, hl2⟩, hx4⟩ := hv
    have lev := hL.ev
    have ldt := hL.dt
    have lln := hL.len
    have ltg := hL.tag
    have hD4 := hD3.ext (fun o ho => hx4.2 o (hD3.lt o ho)) hx4.1
    have hX4 := hX3.ext hx4
    have hls := hrel.list hO hd
    have hll : (listS σ).length = lst.length := by rw [hls, List.length_map, hl1]
    have hus := hS.used hO hk
    have hlb : lst.length ≤ 10000000 := by rw [hl1]; exact hrk.nl
    simp (disch := omega) only [go_sem, lev, ldt]
    simp (disch := omega) only [go_sem, a26r8, lev, ldt, lln, ltg, cond_true, hll]
    refine WO.fun (vs := [.ptr d 0]) (by simp (disch := omega) only [go_sem]) (usedD_fun hR.toDkQ hD4 hd (by omega)) (fun v5 h5 hv => ?_)
    obtain ⟨rfl, hx5⟩ := hv
    have hD5 := hD4.ext (fun o ho => hx5.2 o (hD4.lt o ho)) hx5.1
    have hX5 := hX4.ext hx5
    simp (disch := omega) only [go_sem, lev, ldt]
    refine WO.fun (vs := [.ptr x 0]) (by simp (disch := omega) only [go_sem]) (usedR_fun hP h5 x ρ r hX5 hrk.idx (by have := hrk.nl; omega) (by have := hrk.fl; omega) (by have := hrk.used; omega)) (fun v6 h6 hv => ?_)
    obtain ⟨rfl, rfl⟩ := hv
    rw [hrel.used hO]
    simp (disch := omega) only [go_sem, lev, ldt]
    simp (disch := omega) only [go_sem, a26r10, lev, ldt]
    have hE6 : Ext h2 h6 := (hx3.trans hx4).trans hx5
    refine Wp_loop (fun z : Nat × Nat × Heap => z.2.1 ≤ lst.length ∧ Ext h6 z.2.2) (fun z => { fr := [(0, .ptr d 0), (5, slv true false (listS σ)), (8, v), (9, .int .i64 z.2.1)], st := z.1, h := z.2.2 }) (fun z => lst.length - z.2.1) (1, 0, h6) rfl ⟨Nat.zero_le _, Ext.refl _⟩ ?_
    rintro ⟨t, i, h7⟩ ⟨i1, i2⟩
    simp only at i1 i2
    simp (disch := omega) only [go_sem, a26l0, a26r11, lev, ldt, lln, ltg, cond_true]
    refine condS_if (fun c => ?_) (fun c => ?_)
    · have hi : i < lst.length := by omega
      have hne : lst ≠ [] := fun e => by rw [e] at hi; simp at hi
      have hL7 := (hL.ext hx5).ext i2
      obtain ⟨o, ep, j, rfl, hrow⟩ := hL7.1.resolve_left (fun e => hne e.2)
      have hcs : Cel.csz LFile = 2 := rfl
      obtain ⟨b, hb⟩ : ∃ b, lst.getD i default = b := ⟨_, rfl⟩
      have ce : Cel.ccells b = [strv b.s, b.v] := rfl
      have l0 := ld_pre1 (α := LFile) (l := lst) (j := j) (k := i) (f := 0) hi (by decide)
      have l1 := ld_pre1 (α := LFile) (l := lst) (j := j) (k := i) (f := 1) hi (by decide)
      rw [hcs, hb, ce] at l0 l1
      simp only [Nat.add_zero, List.getD_cons_zero, List.getD_cons_succ] at l0 l1
      obtain ⟨p1, p2⟩ := hl2 i (by omega)
      rw [hb] at p1 p2
      have hin : i < ρ.now.length := by omega
      obtain ⟨en, hen⟩ : ∃ en, ρ.now.getD i default = en := ⟨_, rfl⟩
      obtain ⟨-, -, t3⟩ := take_snoc hin hen
      rw [hen] at p1 p2
      obtain ⟨f, q1, q2⟩ := hrel.entry hO t3
      have hfa := hO.names _ (nget_mem q1)
      have hfl := (hS.fl f hfa).2
      rw [q2] at p2
      have hrd1 : readS σ b.s = (some (σ.file f).b, 0) := by
        unfold readS
        rw [if_neg (by simp [hd]), p1, q1]
      have hnm : (listS σ).getD i default = b.s := by
        rw [hls, p1, ← hen, List.getD_eq_getElem?_getD, List.getElem?_map, List.getElem?_eq_getElem hin, List.getD_eq_getElem?_getD, List.getElem?_eq_getElem hin]
        rfl
      have hD7 := hD5.ext (fun o ho => i2.2 o (hD5.lt o ho)) i2.1
      have p27 := (p2.ext (h' := h6) hx5.1 (fun o ho => hx5.2 o (p2.lt o ho).1))
      have p28 := (p27.ext (h' := h7) i2.1 (fun o ho => i2.2 o (p27.lt o ho).1))
      rw [hcs] at hrow
      simp (disch := omega) only [go_sem, a26r12, lev, ldt, hcs, hrow, l0]
      refine WO.fun (vs := [.ptr d 0, strv b.s]) (by simp (disch := omega) only [go_sem]) (readD_fun hP b.s h7 d σ y hD7 (fun f hf => by have := hS.fl f hf; omega)) (fun vv h8 hv => ?_)
      obtain ⟨w, rfl, hbt, hx8⟩ := hv
      rw [hrd1] at hbt ⊢
      have wev := hbt.ev
      have wdt := hbt.dt
      have bev := p28.ev
      have bdt := p28.dt
      have bcl := p28.cl
      have hrow8 : h8.get o = _ := (hx8.2 o (hL7.2 o rfl)).trans hrow
      have p29 := p28.ext (h' := h8) hx8.1 (fun o ho => hx8.2 o (p28.lt o ho).1)
      obtain ⟨n1, z1⟩ := hbt.frz
      obtain ⟨n2, f2, z2⟩ := p29.frz
      rw [Option.getD_some] at z1
      simp (disch := omega) only [go_sem, lev, ldt, wev, wdt, hcs]
      simp (disch := omega) only [go_sem, a26d13, lev, ldt, wev, wdt, hcs, hrow8, l0, l1, hnm, hll, bev, bdt]
      refine WD_den (k := 1) (vs := [w, b.v]) (by rw [hP.pure]; rfl) (by simp (disch := omega) only [go_sem, wev, wdt, bev, bdt]) (R := fun v => v = .bool true) ?_ (fun v hv => by subst hv; rfl) (fun v hv => by subst hv; simp (disch := omega) only [go_sem]) (fun v hv => ?_)
      · simp only [lent_11, List.map_cons, List.map_nil, z1, z2]
        exact (same_den (P := P) h14 (σ.file f).b (σ.file f).b n1 false n2 f2 (by omega) (by omega)).mono (fun v h => by rw [h]; simp)
      subst hv
      simp (disch := omega) only [go_sem, lev, ldt, wev, wdt, bev, bdt, hcs]
      simp (disch := omega) only [go_sem, a26r15, lev, ldt, hcs]
      exact ⟨(t + 1, i + 1, h8), ⟨by simp only; omega, i2.trans hx8⟩, by simp only; omega, rfl⟩
    · simp (disch := omega) only [go_sem, a26r16]
      exact ⟨by trivial, hE6.trans i2⟩
end Go.Am.Dk
/- DiskPlays on the abstract machine. -/
namespace Go.Am.Dk
open Go.Am
set_option maxRecDepth 20000
set_option maxHeartbeats 2000000
def codeB : Nat → Option AFn := fun n => bif Nat.beq n 8 || Nat.beq n 33 || Nat.beq n 21 then none else code n
noncomputable def primB : Nat → List AV → Heap → Option (AV × Heap) := orP (primOn 8 awakeF) (orP (onF 33 usedF) (orP (onF 33 usedDF) (orP (onF 21 bootF) (orP (sortedOn 53 72) prim0))))
theorem codeB_sim : ∀ n fn, codeB n = some fn → FnSim L n fn := fun n fn h => by
  unfold codeB at h
  cases hb : Nat.beq n 8 || Nat.beq n 33 || Nat.beq n 21 <;> rw [hb] at h
  · exact code_sim n fn h
  · simp at h
theorem primB_sim : CallSim L primB := orP_sim (primOn_sim awake_ok) (orP_sim used_sim (orP_sim usedD_sim (orP_sim boot_sim (orP_sim sorted_prim prim0_sim))))
noncomputable def PB : Prog := { fn := codeB, prim := primB, pure := pures }
theorem PB_code (n : Nat) (h8 : n ≠ 8) (h33 : n ≠ 33) (h21 : n ≠ 21) : PB.fn n = code n := by
  show codeB n = code n
  unfold codeB
  simp only [nbeq, h8, h33, h21, decide_false, Bool.or_false, cond_false]
theorem usedF_off {args : List AV} {h : Heap} {r : AV × Heap} (e : usedDF args h = some r) : usedF args h = none := by
  unfold usedDF at e
  split at e
  · split at e
    · rename_i hg
      simp only [usedF, hg]
    · simp at e
  · simp at e
theorem PB_T : DkT PB := by
  have hs : ∀ n, Nat.beq n 53 = false → ∀ args h, sortedOn 53 72 n args h = none := fun n hn args h => by
    unfold sortedOn
    rw [hn]; rfl
  have hp : ∀ n, Nat.beq n 8 = false → Nat.beq n 33 = false → Nat.beq n 21 = false → Nat.beq n 53 = false → ∀ args h, PB.prim n args h = prim0 n args h := fun n h1 h2 h3 h4 args h => by
    show primB n args h = _
    simp only [primB, orP, primOn, onF, h1, h2, h3, cond_false, hs n h4]
  have b1 : Nat.beq 33 8 = false := rfl
  have b2 : Nat.beq 33 33 = true := rfl
  refine ⟨⟨⟨⟨fun n h8 h33 h21 h24 => PB_code n h8 h33 h21, rfl, fun args h r e => ?_, fun args h r e => ?_, fun args h r e => ?_⟩, rfl, fun args h r e => ?_⟩, rfl, rfl, fun args h r e => ?_, rfl, fun args h r e => ?_⟩, fun args h r e => ?_⟩
  · rw [hp 63 rfl rfl rfl rfl]; exact e
  · rw [hp 61 rfl rfl rfl rfl]; exact e
  · rw [hp 36 rfl rfl rfl rfl]; exact e
  · show primB 33 args h = _
    simp only [primB, orP, primOn, onF, b1, b2, cond_false, cond_true, e]
  · show primB 53 args h = _
    have b1 : Nat.beq 53 8 = false := rfl
    have b2 : Nat.beq 53 33 = false := rfl
    have b3 : Nat.beq 53 21 = false := rfl
    simp only [primB, orP, primOn, onF, b1, b2, b3, cond_false, e]
  · show primB 21 args h = _
    have b1 : Nat.beq 21 8 = false := rfl
    have b2 : Nat.beq 21 33 = false := rfl
    have b3 : Nat.beq 21 21 = true := rfl
    simp only [primB, orP, primOn, onF, b1, b2, b3, cond_false, cond_true, e]
  · show primB 33 args h = _
    simp only [primB, orP, primOn, onF, b1, b2, cond_false, cond_true, e, usedF_off e]
theorem awake_funB (h : Heap) : Fun PB 8 [] h (fun v h' => v = .bool true ∧ h' = h) := by
  refine Fun.prim (v := .bool true) (h' := h) rfl rfl ?_ ⟨rfl, rfl⟩
  rfl
theorem greatB_false {l : List DAct} (h : greatL l = false) : l.length ≤ 60 ∧ ∀ a ∈ l, a.name.length ≤ 100 ∧ a.to.length ≤ 100 ∧ a.b.length ≤ 500 ∧ a.keep.length ≤ 60 := by
  unfold greatL at h
  simp only [Bool.or_eq_false_iff, decide_eq_false_iff_not] at h
  have hl : l.length ≤ 60 := by omega
  refine ⟨hl, fun a ha => ?_⟩
  rw [List.take_of_length_le hl, List.any_eq_false] at h
  have := h.1 a ha
  simp only [bigA, Bool.or_eq_true, decide_eq_true_eq, not_or] at this
  omega
theorem new_bndB {cap : Int} {fl : List FileV} {ids : List Nat} {file : Nat → DFile} (hln : ids.length = fl.length) (hfile : ids.map file = fl.map (fun f => ⟨f.data, f.data.length⟩)) (h64 : fl.length ≤ 64) (hc : 0 ≤ cap ∧ cap ≤ 1048576) (hs : ∀ f ∈ fl, f.name.length ≤ 2000 ∧ f.data.length ≤ 2000) :
    Bnd { filesS cap fl ids file with sure := (fl.map (·.name)).zip ids } 0 := by
  have hz : ((fl.map (·.name)).zip ids).length ≤ 64 := by simp [List.length_zip]; omega
  have hk : ∀ p ∈ (fl.map (·.name)).zip ids, p.1.length ≤ 2000 := fun p hp => by
    obtain ⟨f, hf, e⟩ := List.mem_map.1 (List.of_mem_zip hp).1
    rw [← e]; exact (hs f hf).1
  refine ⟨hc, ⟨Int.le_refl _, Int.le_refl _⟩, Nat.le_refl _, by show ids.length ≤ _; omega, hz, hz, hk, hk, fun t ht => by simp [filesS] at ht, fun f hf => ?_⟩
  have : file f ∈ ids.map file := List.mem_map.2 ⟨f, hf, rfl⟩
  rw [hfile] at this
  obtain ⟨g, hg, e⟩ := List.mem_map.1 this
  show (file f).sure ≤ (file f).b.length ∧ (file f).b.length ≤ _
  rw [← e]
  exact ⟨Nat.le_refl _, by have := (hs g hg).2; simp only; omega⟩
theorem nget_snoc (s k : List UInt8) (f : Nat) : ∀ n : NMap, nget s (n ++ [(k, f)]) = match nget s n with | some g => some g | none => if k = s then some f else none
  | [] => rfl
  | p :: r => by
    rw [List.cons_append, nget, nget, nget_snoc s k f r]
    split <;> rfl
theorem new_names {fl : List FileV} {ids : List Nat} (hln : ids.length = fl.length) (hd : ids.Nodup) (hok : ∀ k, k < fl.length → (fl.getD k default).name ∉ (fl.take k).map (·.name)) : ∀ k, k ≤ fl.length → NamesR ids (((fl.take k).map (·.name)).zip (ids.take k)) (nowF fl k)
  | 0, _ => ⟨List.Pairwise.nil, fun s => rfl, fun e he => by simp [nowF] at he⟩
  | k + 1, hk => by
    obtain ⟨i1, i2, i3⟩ := new_names hln hd hok k (by omega)
    have hk1 : k < ids.length := by omega
    obtain ⟨f, hf⟩ : ∃ f, fl.getD k default = f := ⟨_, rfl⟩
    obtain ⟨t1, t2, t3⟩ := take_snoc (show k < fl.length by omega) hf
    have t4 : ids.take (k + 1) = ids.take k ++ [ids[k]] := List.take_succ_eq_append_getElem hk1
    have hix : ids.idxOf ids[k] = k := by
      have h1 := List.idxOf_lt_length_iff.2 (List.getElem_mem hk1)
      have h2 : ids[ids.idxOf ids[k]] = ids[k] := List.getElem_idxOf h1
      exact (List.getElem_inj hd).1 h2
    have e : ((fl.take (k + 1)).map (·.name)).zip (ids.take (k + 1)) = ((fl.take k).map (·.name)).zip (ids.take k) ++ [(f.name, ids[k])] := by
      rw [t1, t4, List.map_append, List.zip_append (by simp [List.length_take]; omega)]
      rfl
    have hno := hok k (by omega)
    rw [hf] at hno
    rw [nowF, e, hf]
    refine ⟨sorted_put i1 _, fun s => ?_, putL_pos i3 (by show (0 : Int) ≤ (k : Int); omega)⟩
    rw [findL_putL, nget_snoc, i2 s]
    simp only
    cases hg : nget s (((fl.take k).map (·.name)).zip (ids.take k)) with
    | some g =>
      rw [if_neg]
      intro e2
      apply hno
      rw [e2]
      exact (List.of_mem_zip (nget_mem hg)).1
    | none =>
      split
      · simp only [ix, hix]
      · rfl
theorem new_rel {cap : Int} {fl : List FileV} {ids : List Nat} {file : Nat → DFile} (hln : ids.length = fl.length) (hd : ids.Nodup) (hfile : ids.map file = fl.map (fun f => ⟨f.data, f.data.length⟩)) (hn : NewOk cap fl) :
    Rel { filesS cap fl ids file with sure := (fl.map (·.name)).zip ids } (newRS cap fl) := by
  have h1 := new_names hln hd (fun k hk => (hn.2.2.2 k hk).2.1) fl.length (Nat.le_refl _)
  rw [List.take_length, ← hln, List.take_length, hln] at h1
  refine ⟨?_, h1, h1, rfl, rfl, rfl, rfl, by show (0 : Int) = max 0 (0 - 0); rfl, by show (0 : Int) = max 0 (0 - 0); rfl, rfl⟩
  show fl.map (fun f => (⟨f.data, f.data.length⟩ : FilR)) = ids.map (fun g => ⟨(file g).b, (file g).sure⟩)
  have h2 := congrArg (List.map (fun x : DFile => (⟨x.b, x.sure⟩ : FilR))) hfile
  rw [List.map_map, List.map_map] at h2
  exact h2.symm
theorem plays_fun (files : List FileV) (cap : Int) (l : List DAct) (name : List UInt8) (n0 n2 : Bool) (h0l : files.length ≤ 9223372036854775807) (h0w : ∀ f ∈ files, FileWf f) (h1l : l.length ≤ 9223372036854775807) (hw : ∀ a ∈ l, ActWf a) (hnl : name.length ≤ 9223372036854775807) :
    Fun PB 6 [slv n0 false files, .int .i64 cap, slv n2 false l, strv name] h0 (fun v _ => v = .bool true) := by
  have hT := PB_T
  have hR := PB_T.toDkR
  have hQ := PB_T.toDkR.toDkQ
  have hP := PB_T.toDkR.toDkQ.toDkP
  refine Fun.of (code := a6c) rfl rfl ?_
  simp (disch := omega) only [go_sem, a6c, a6r0]
  simp (disch := omega) only [go_sem, a6r1]
  refine WO.den (k := 1) (vs := [slv n0 false files, .int .i64 2000]) rfl (by simp (disch := omega) only [go_sem]) (R := fun v => ∃ k : Int, v = .int .i64 k ∧ (¬ 2000 < k → Small files)) ?_ (fun v hv => by obtain ⟨k, rfl, -⟩ := hv; rfl) (fun v hv => ?_)
  · simp only [lent_11, List.map_cons, List.map_nil, frz_slv, frz_int]
    exact bulk_den hP files n0 false h0l h0w
  obtain ⟨k, rfl, hsm⟩ := hv
  simp (disch := omega) only [go_sem]
  refine guardS_pf (fun c1 w1 => ?_) (fun c1 w1 => ?_) <;> simp (disch := omega) only [go_sem, w1]
  rotate_left
  · simp (disch := omega) only [go_sem, a6r2]
    refine WO.fun (vs := []) (by simp (disch := omega) only [go_sem]) (awake_funB _) (fun v h' hv => ?_)
    obtain ⟨rfl, rfl⟩ := hv
    simp (disch := omega) only [go_sem]
  have hs := hsm c1
  refine WO.den (k := 0) (vs := [slv n2 false l]) rfl (by simp (disch := omega) only [go_sem]) (great_den rfl l n2 false (by omega) hw) (fun v hv => by subst hv; rfl) (fun v hv => ?_)
  subst hv
  cases hg : greatL l with
  | true =>
    simp (disch := omega) only [go_sem]
    simp (disch := omega) only [go_sem, a6r2]
    refine WO.fun (vs := []) (by simp (disch := omega) only [go_sem]) (awake_funB _) (fun v h' hv => ?_)
    obtain ⟨rfl, rfl⟩ := hv
    simp (disch := omega) only [go_sem]
  | false =>
    obtain ⟨g1, g2⟩ := greatB_false hg
    simp (disch := omega) only [go_sem]
    refine condS_if (fun c2 => ?_) (fun c2 => ?_)
    · simp (disch := omega) only [go_sem, a6r2]
      refine WO.fun (vs := []) (by simp (disch := omega) only [go_sem]) (awake_funB _) (fun v h' hv => ?_)
      obtain ⟨rfl, rfl⟩ := hv
      simp (disch := omega) only [go_sem]
    simp (disch := omega) only [go_sem, a6r3]
    refine WO.fun (vs := [slv n0 false files, .int .i64 cap]) (by simp (disch := omega) only [go_sem]) (newD_fun hQ files n0 cap _ h0l hs.2) (fun v hA hv => ?_)
    rcases hv with ⟨rfl, hno⟩ | ⟨hyes, d, y0, ids, file, rfl, hD0, q1, q2, q3, q4, q5, q6⟩
    · simp (disch := omega) only [go_sem]
      refine WO.fun (vs := [slv n0 false files, .int .i64 cap]) (by simp (disch := omega) only [go_sem]) (newRR_fun hP files n0 cap _ h0l hs.2) (fun v hB hv => ?_)
      obtain ⟨hv, -⟩ := hv
      rcases hv with ⟨rfl, -⟩ | ⟨hy, -⟩
      rotate_left
      · exact absurd hy hno
      simp (disch := omega) only [go_sem]
      simp (disch := omega) only [go_sem, a6r4]
      simp (disch := omega) only [go_sem, a6r5]
      refine WO.fun (vs := []) (by simp (disch := omega) only [go_sem]) (awake_funB _) (fun v h' hv => ?_)
      obtain ⟨rfl, rfl⟩ := hv
      simp (disch := omega) only [go_sem]
    simp (disch := omega) only [go_sem]
    refine WO.fun (vs := [slv n0 false files, .int .i64 cap]) (by simp (disch := omega) only [go_sem]) (newRR_fun hP files n0 cap hA h0l hs.2) (fun v hB hv => ?_)
    obtain ⟨hv, hxB⟩ := hv
    rcases hv with ⟨-, hno⟩ | ⟨-, r0, rfl, hX0, hro⟩
    · exact absurd hyes hno
    obtain ⟨x, hx⟩ : ∃ x, hA.next = x := ⟨_, rfl⟩
    rw [hx] at hX0 hro ⊢
    have B0 : Both hB d x { filesS cap files ids file with sure := (files.map (·.name)).zip ids } y0 (newRS cap files) r0 0 :=
      ⟨hD0.ext (fun o ho => hxB.2 o (hD0.lt o ho)) hxB.1, hX0, ⟨fun ho => by have := hD0.lt x ho; omega, fun o ho h2 => by have := hD0.lt o h2; have := hro o ho; omega⟩, new_rel q1 hD0.ok.ad q2 hyes, new_bndB q1 q2 q3 ⟨q4, q5⟩ hs.2, ⟨⟨by simp [newRS], by simp [newRS]⟩, by simp [newRS], by simp [newRS]⟩⟩
    simp (disch := omega) only [go_sem]
    simp (disch := omega) only [go_sem, a6r4]
    simp (disch := omega) only [go_sem, a6r6]
    refine Wp_loop (fun z : Nat × Nat × Heap × DSt × Lay × RSt × RLay => z.2.1 ≤ l.length ∧ Both z.2.2.1 d x z.2.2.2.1 z.2.2.2.2.1 z.2.2.2.2.2.1 z.2.2.2.2.2.2 z.2.1)
      (fun z => { fr := [(2, slv n2 false l), (3, strv name), (9, .ptr d 0), (10, .ptr x 0), (11, .int .i64 z.2.1)], st := z.1, h := z.2.2.1 }) (fun z => l.length - z.2.1) (0, 0, hB, _, y0, _, r0) rfl ⟨Nat.zero_le _, B0⟩ ?_
    rintro ⟨t, k, hh, σ, y, ρ, r⟩ ⟨i1, B⟩
    simp only at i1 B
    simp (disch := omega) only [go_sem, a6l0, a6r7]
    refine condS_if (fun hk => ?_) (fun hk => ?_)
    · have hk' : k < l.length := by omega
      have ham : l.getD k default ∈ l := by
        rw [List.getD_eq_getElem?_getD, List.getElem?_eq_getElem hk']
        exact List.getElem_mem hk'
      have haw := hw _ ham
      have hab := g2 _ ham
      simp (disch := omega) only [go_sem, a6r8]
      generalize l.getD k default = a at haw hab ham ⊢
      refine WO.fun (vs := [.ptr d 0, .ptr x 0, .agg (Enc.cells a)]) (by simp (disch := omega) only [go_sem]) (do_both hR a haw hab.2.2.1 ⟨hab.1, hab.2.1⟩ hh d x σ y ρ r k (by omega) B) (fun v h1 hv => ?_)
      obtain ⟨rfl, σ1, y1, ρ1, r1, B1⟩ := hv
      simp (disch := omega) only [go_sem]
      refine WO.fun (vs := [.ptr d 0, .ptr x 0]) (by simp (disch := omega) only [go_sem]) (alike_fun hT rfl h1 d x σ1 y1 ρ1 r1 (k + 1) (by omega) B1) (fun v h2 hv => ?_)
      obtain ⟨rfl, hx2⟩ := hv
      have B2 := B1.ext hx2
      have hO := B2.disk.ok
      have hrk := B2.rel.rok hO B2.bnd (by omega) B2.rb
      simp (disch := omega) only [go_sem]
      simp (disch := omega) only [go_sem, a6r10]
      refine WO.fun (vs := [.ptr d 0, strv name]) (by simp (disch := omega) only [go_sem]) (readD_fun hP name h2 d σ1 y1 B2.disk (fun f hf => by have := B2.bnd.fl f hf; omega)) (fun v h3 hv => ?_)
      obtain ⟨w, rfl, hbt, hx3⟩ := hv
      have B3 := B2.ext hx3
      have wev := hbt.ev
      have wdt := hbt.dt
      simp (disch := omega) only [go_sem, wev, wdt]
      simp (disch := omega) only [go_sem, a6r11, wev, wdt]
      refine WO.fun (vs := [.ptr x 0, strv name]) (by simp (disch := omega) only [go_sem]) (readR_fun hP name h3 x ρ1 r1 B3.ref hrk.idx (by have := hrk.nl; omega) (by have := hrk.fl; omega)) (fun v h4 hv => ?_)
      obtain ⟨⟨w2, rfl, hh2⟩, rfl⟩ := hv
      have w2ev := hh2.ev
      have w2dt := hh2.dt
      have hrd := B3.rel.read hO name
      rw [hrd] at hh2 ⊢
      obtain ⟨m1, z1⟩ := hbt.frz
      obtain ⟨m2, f2, z2⟩ := hh2.frz
      have hbl : ((readS σ1 name).1.getD []).length ≤ 1000000000 := by
        unfold readS
        split
        · simp
        · cases hq : nget name σ1.names with
          | none => simp
          | some f =>
            have := (B3.bnd.fl f (hO.names _ (nget_mem hq))).2
            simp only [Option.getD_some]
            omega
      simp (disch := omega) only [go_sem, wev, wdt, w2ev, w2dt]
      simp (disch := omega) only [go_sem, a6r12, wev, wdt, w2ev, w2dt]
      refine WO.den (k := 1) (vs := [w, w2]) rfl (by simp (disch := omega) only [go_sem, wev, wdt, w2ev, w2dt]) (R := fun v => v = .bool true) ?_ (fun v hv => by subst hv; rfl) (fun v hv => ?_)
      · simp only [lent_11, List.map_cons, List.map_nil, z1, z2]
        exact (same_den (P := PB) rfl _ _ m1 false m2 f2 (by omega) (by omega)).mono (fun v h => by rw [h]; simp)
      subst hv
      simp (disch := omega) only [go_sem]
      refine WO.fun (vs := [strv name]) (by simp (disch := omega) only [go_sem]) (name_funD hP name h4 hnl) (fun v h5 hv => ?_)
      obtain ⟨rfl, hx5⟩ := hv
      have B5 := B3.ext hx5
      simp (disch := omega) only [go_sem]
      refine WO.den (k := 1) (vs := [strv name]) rfl (by simp (disch := omega) only [go_sem]) (R := fun v => v = .bool (nameL name)) ?_ (fun v hv => by subst hv; rfl) (fun v hv => ?_)
      · simp only [lent_11, List.map_cons, List.map_nil, frz_str]
        exact nameR_exact hP name hnl
      subst hv
      have e1 : same 0 (.bool (nameL name)) (.bool (nameL name)) = some true := by cases nameL name <;> rfl
      simp (disch := omega) only [go_sem, e1]
      simp (disch := omega) only [go_sem, a6r14]
      exact ⟨(t, k + 1, h5, σ1, y1, ρ1, r1), ⟨by simp only; omega, B5⟩, by simp only; omega, rfl⟩
    · simp (disch := omega) only [go_sem, a6r15]
      refine WO.fun (vs := []) (by simp (disch := omega) only [go_sem]) (awake_funB _) (fun v h' hv => ?_)
      obtain ⟨rfl, rfl⟩ := hv
      simp (disch := omega) only [go_sem]
end Go.Am.Dk
