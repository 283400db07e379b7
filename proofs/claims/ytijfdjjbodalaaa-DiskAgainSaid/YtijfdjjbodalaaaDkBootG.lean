/- Boot is told. -/
import Derived.Test.YtijfdjjbodalaaaDkInj
set_option linter.unusedSimpArgs false
set_option linter.unusedVariables false
namespace Go.Am.Dk
open Go.Am
set_option maxRecDepth 20000
set_option maxHeartbeats 1000000
variable {P : Prog}
theorem DiskAt.files {h : Heap} {d : Nat} {σ : DSt} {y : Lay} {g : Nat → DFile} {b : Nat → AV} (a : DiskAt h d σ y) (hg : ∀ f ∈ σ.all, g f = σ.file f) (hb : ∀ f ∈ σ.all, b f = y.bv f) : DiskAt h d { σ with file := g } { y with bv := b } := by
  refine { ok := ⟨a.ok.names, a.ok.sure, a.ok.waits, a.ok.nd, a.ok.sd, a.ok.ad⟩, disk := a.disk, names := a.names, sure := a.sure, all := a.all, waits := a.waits, cell := fun f hf => ?_, bytes := fun f hf => ?_, mm := a.mm, bb := fun f hf f' hf' hn o h1 => ?_, ab := fun f hf o h1 => ?_, wb := fun f hf o h1 => ?_, aw := a.aw, lt := fun o h1 => ?_ }
  · show h.get f = some (.cells [b f, .int .i64 (g f).sure])
    rw [hg f hf, hb f hf]
    exact a.cell f hf
  · show PreC h (b f) (g f).b
    rw [hg f hf, hb f hf]
    exact a.bytes f hf
  · show rowOf (b f') ≠ some o
    have h1 : rowOf (b f) = some o := h1
    rw [hb f hf] at h1
    rw [hb f' hf']
    exact a.bb f hf f' hf' hn o h1
  · show rowOf (b f) ≠ some o
    rw [hb f hf]
    exact a.ab f hf o h1
  · show rowOf (b f) ≠ some o
    rw [hb f hf]
    exact a.wb f hf o h1
  · refine a.lt o ?_
    rcases h1 with h1 | h1 | h1 | h1 | h1 | ⟨f, hf, h1⟩
    · exact Or.inl h1
    · exact Or.inr (Or.inl h1)
    · exact Or.inr (Or.inr (Or.inl h1))
    · exact Or.inr (Or.inr (Or.inr (Or.inl h1)))
    · exact Or.inr (Or.inr (Or.inr (Or.inr (Or.inl h1))))
    · refine Or.inr (Or.inr (Or.inr (Or.inr (Or.inr ⟨f, hf, ?_⟩))))
      have h1 : o = f ∨ rowOf (b f) = some o := h1
      rw [hb f hf] at h1
      exact h1
theorem own_congr {d : Nat} {σ : DSt} {y : Lay} {g : Nat → DFile} {b : Nat → AV} (hb : ∀ f ∈ σ.all, b f = y.bv f) (o : Nat) : Own d { σ with file := g } { y with bv := b } o ↔ Own d σ y o := by
  unfold Own
  simp only
  constructor
  · rintro (h1 | h1 | h1 | h1 | h1 | ⟨f, hf, h1⟩)
    · exact Or.inl h1
    · exact Or.inr (Or.inl h1)
    · exact Or.inr (Or.inr (Or.inl h1))
    · exact Or.inr (Or.inr (Or.inr (Or.inl h1)))
    · exact Or.inr (Or.inr (Or.inr (Or.inr (Or.inl h1))))
    · rw [hb f hf] at h1; exact Or.inr (Or.inr (Or.inr (Or.inr (Or.inr ⟨f, hf, h1⟩))))
  · rintro (h1 | h1 | h1 | h1 | h1 | ⟨f, hf, h1⟩)
    · exact Or.inl h1
    · exact Or.inr (Or.inl h1)
    · exact Or.inr (Or.inr (Or.inl h1))
    · exact Or.inr (Or.inr (Or.inr (Or.inl h1)))
    · exact Or.inr (Or.inr (Or.inr (Or.inr (Or.inl h1))))
    · rw [← hb f hf] at h1; exact Or.inr (Or.inr (Or.inr (Or.inr (Or.inr ⟨f, hf, h1⟩))))
theorem cutN_congr {keep : List Int} {all : List Nat} {file g : Nat → DFile} (hg : ∀ f ∈ all, g f = file f) : ∀ k, k ≤ all.length → (∀ f ∈ all, (cutN keep all g k).1 f = (cutN keep all file k).1 f) ∧ (cutN keep all g k).2 = (cutN keep all file k).2
  | 0, _ => ⟨hg, rfl⟩
  | k + 1, hk => by
    obtain ⟨h1, h2⟩ := cutN_congr (keep := keep) hg k (by omega)
    have hm : all.getD k 0 ∈ all := by
      rw [List.getD_eq_getElem?_getD, List.getElem?_eq_getElem (show k < all.length by omega)]
      exact List.getElem_mem _
    simp only [cutN, h1 _ hm, h2, and_true]
    intro f hf
    split
    · rfl
    · exact h1 f hf
def BootGood (d : Nat) (turns : Int) (kv : AV) (h : Heap) (r : Int × Heap) : Prop :=
  (∃ σ y y' keep n full, kv = slv n full keep ∧ DiskAt h d σ y ∧ r.1 = (bootR σ turns keep).1 ∧ Step h r.2 d σ y (bootR σ turns keep).2 y') ∧ FunX PU 21 [.ptr d 0, .int .i64 turns, kv] h (fun v2 h2 => v2 = .int .i64 r.1 ∧ SubH r.2 h2)
open Classical in
noncomputable def bootF : List AV → Heap → Option (AV × Heap)
  | [.ptr d 0, .int .i64 turns, kv], h => if ex : ∃ r, BootGood d turns kv h r then some (.int .i64 ex.choose.1, ex.choose.2) else none
  | _, _ => none
theorem boot_told (args : List AV) (h : Heap) (v : AV) (h' : Heap) (hF : bootF args h = some (v, h')) : FunX PU 21 args h (fun v2 h2 => v2 = v ∧ SubH h' h2) := by
  unfold bootF at hF
  split at hF
  · split at hF
    · rename_i ex
      simp only [Option.some.injEq, Prod.mk.injEq] at hF
      obtain ⟨rfl, rfl⟩ := hF
      exact ex.choose_spec.2
    · simp at hF
  · simp at hF
theorem boot_sim : CallSim L (onF 21 bootF) := onF_sim (PA := PU) allFn mixed code_sim prim0_sim boot_told
theorem bootF_eq {h : Heap} {d : Nat} {σ : DSt} {y : Lay} (hD : DiskAt h d σ y) (turns : Int) (keep : List Int) (n full : Bool) (hall : σ.all.length ≤ 1000000000) (hw : σ.waits.length ≤ 1000000000) (hsu : ∀ f ∈ σ.all, (σ.file f).sure ≤ (σ.file f).b.length ∧ (σ.file f).b.length ≤ 1000000000000) (hk : keep.length ≤ 9223372036854775807 ∧ ∀ z ∈ keep, -9223372036854775808 ≤ z ∧ z ≤ 9223372036854775807) :
    ∃ H y', bootF [.ptr d 0, .int .i64 turns, slv n full keep] h = some (.int .i64 (bootR σ turns keep).1, H) ∧ Step h H d σ y (bootR σ turns keep).2 y' := by
  have ex0 : ∃ H y', Step h H d σ y (bootR σ turns keep).2 y' ∧ FunX PU 21 [.ptr d 0, .int .i64 turns, slv n full keep] h (fun v2 h2 => v2 = .int .i64 (bootR σ turns keep).1 ∧ SubH H h2) := by
    cases hdd : σ.dead with
    | true =>
      have e : bootR σ turns keep = (0, bootS σ turns keep) := by unfold bootR; rw [hdd]; rfl
      rw [e]
      exact boot_x hD turns keep n full hdd hall hw hsu hk
    | false =>
      have e : bootR σ turns keep = (1, σ) := by unfold bootR; rw [hdd]; rfl
      rw [e]
      exact ⟨h, y, Step.refl hD, boot_on hD turns _ hdd⟩
  obtain ⟨H0, y0, hs0, hf0⟩ := ex0
  have ex : ∃ r, BootGood d turns (slv n full keep) h r := ⟨((bootR σ turns keep).1, H0), ⟨σ, y, y0, keep, n, full, rfl, hD, rfl, hs0⟩, hf0⟩
  obtain ⟨σ', y1, y2, keep', n', full', e, hD', hr1, hst⟩ := ex.choose_spec.1
  have ek : keep = keep' := slv_inj e
  subst ek
  obtain ⟨e1, e2, e3⟩ := hD.inj hD'
  obtain ⟨g, hg⟩ : ∃ g, σ'.file = g := ⟨_, rfl⟩
  obtain ⟨b, hb⟩ : ∃ b, y1.bv = b := ⟨_, rfl⟩
  rw [hg] at e1 e3
  rw [hb] at e2 e3
  rw [e1, e2] at hst
  rw [e1] at hr1
  have hr2 : (bootR { σ with file := g } turns keep).1 = (bootR σ turns keep).1 := by unfold bootR; simp only; split <;> rfl
  refine ⟨ex.choose.2, y2, by simp only [bootF, dif_pos ex, hr1, hr2], ?_⟩
  have fil : ∀ f ∈ (bootR { σ with file := g } turns keep).2.all, (bootR σ turns keep).2.file f = (bootR { σ with file := g } turns keep).2.file f := fun f hf => by
    unfold bootR at hf ⊢
    simp only at hf ⊢
    split at hf
    · rename_i hd
      rw [if_pos hd, if_pos hd]
      exact ((cutN_congr (keep := keep) (fun f hf => (e3 f hf).1) σ.all.length (Nat.le_refl _)).1 f (List.mem_filter.1 hf).1).symm
    · rename_i hd
      rw [if_neg hd, if_neg hd]
      exact (e3 f hf).1.symm
  have at' : DiskAt ex.choose.2 d { (bootR { σ with file := g } turns keep).2 with file := (bootR σ turns keep).2.file } { y2 with bv := y2.bv } := hst.at'.files fil (fun _ _ => rfl)
  have eq : ({ (bootR { σ with file := g } turns keep).2 with file := (bootR σ turns keep).2.file } : DSt) = (bootR σ turns keep).2 := by
    unfold bootR
    simp only
    split <;> rfl
  rw [eq] at at'
  refine ⟨at', ⟨hst.frm.1, fun o h1 h2 => hst.frm.2 o h1 (fun h3 => h2 ((own_congr (fun f hf => (e3 f hf).2) o).1 h3))⟩, fun o ho => ?_⟩
  have ho' : Own d (bootR { σ with file := g } turns keep).2 y2 o := by
    rw [← eq] at ho
    exact ho
  rcases hst.own o ho' with h1 | h1
  · exact Or.inl ((own_congr (fun f hf => (e3 f hf).2) o).1 h1)
  · exact Or.inr h1
end Go.Am.Dk
