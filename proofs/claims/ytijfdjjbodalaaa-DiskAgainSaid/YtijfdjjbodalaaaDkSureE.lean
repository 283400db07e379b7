/- The program of the laws with power failures: awake, Used and Boot are told. -/
import Derived.Test.YtijfdjjbodalaaaDkSureD
set_option linter.unusedSimpArgs false
set_option linter.unusedVariables false
namespace Go.Am.Dk
open Go.Am
set_option maxRecDepth 20000
set_option maxHeartbeats 1000000
def codeS : Nat → Option AFn := fun n => bif Nat.beq n 8 || Nat.beq n 33 || Nat.beq n 21 || Nat.beq n 24 then none else code n
noncomputable def primS : Nat → List AV → Heap → Option (AV × Heap) := orP (primOn 8 awakeF) (orP (onF 33 usedF) (orP (onF 21 bootF) prim0))
theorem codeS_sim : ∀ n fn, codeS n = some fn → FnSim L n fn := fun n fn h => by
  unfold codeS at h
  cases hb : Nat.beq n 8 || Nat.beq n 33 || Nat.beq n 21 || Nat.beq n 24 <;> rw [hb] at h
  · exact code_sim n fn h
  · simp at h
theorem primS_sim : CallSim L primS := orP_sim (primOn_sim awake_ok) (orP_sim used_sim (orP_sim boot_sim prim0_sim))
noncomputable def PS : Prog := { fn := codeS, prim := primS, pure := pures }
theorem PS_code (n : Nat) (h8 : n ≠ 8) (h33 : n ≠ 33) (h21 : n ≠ 21) (h24 : n ≠ 24) : PS.fn n = code n := by
  show codeS n = code n
  unfold codeS
  simp only [nbeq, h8, h33, h21, h24, decide_false, Bool.or_false, cond_false]
theorem PS_Q : DkQ PS := by
  have hp : ∀ n, Nat.beq n 8 = false → Nat.beq n 33 = false → Nat.beq n 21 = false → ∀ args h, PS.prim n args h = prim0 n args h := fun n h1 h2 h3 args h => by
    show primS n args h = _
    simp only [primS, orP, primOn, onF, h1, h2, h3, cond_false]
  refine ⟨⟨fun n h8 h33 h21 h24 => PS_code n h8 h33 h21 h24, rfl, fun args h r e => ?_, fun args h r e => ?_, fun args h r e => ?_⟩, rfl, fun args h r e => ?_⟩
  · rw [hp 63 rfl rfl rfl]; exact e
  · rw [hp 61 rfl rfl rfl]; exact e
  · rw [hp 36 rfl rfl rfl]; exact e
  · show primS 33 args h = _
    have b1 : Nat.beq 33 8 = false := rfl
    have b2 : Nat.beq 33 33 = true := rfl
    simp only [primS, orP, primOn, onF, b1, b2, cond_false, cond_true, e]
theorem PS_boot {args : List AV} {h : Heap} {r : AV × Heap} (e : bootF args h = some r) : PS.prim 21 args h = some r := by
  show primS 21 args h = _
  have b1 : Nat.beq 21 8 = false := rfl
  have b2 : Nat.beq 21 33 = false := rfl
  have b3 : Nat.beq 21 21 = true := rfl
  simp only [primS, orP, primOn, onF, b1, b2, b3, cond_false, cond_true, e]
theorem awake_funS (h : Heap) : Fun PS 8 [] h (fun v h' => v = .bool true ∧ h' = h) := by
  refine Fun.prim (v := .bool true) (h' := h) rfl rfl ?_ ⟨rfl, rfl⟩
  rfl
theorem boot_funR {P : Prog} (hn : P.fn 21 = none) (hp : P.pure 21 = 0) (hb : ∀ args h r, bootF args h = some r → P.prim 21 args h = some r) {h : Heap} {d : Nat} {σ : DSt} {y : Lay} (hD : DiskAt h d σ y) (turns : Int) (keep : List Int) (n full : Bool) (hall : σ.all.length ≤ 1000000000) (hw : σ.waits.length ≤ 1000000000) (hsu : ∀ f ∈ σ.all, (σ.file f).sure ≤ (σ.file f).b.length ∧ (σ.file f).b.length ≤ 1000000000000) (hk : keep.length ≤ 9223372036854775807 ∧ ∀ z ∈ keep, -9223372036854775808 ≤ z ∧ z ≤ 9223372036854775807) :
    Fun P 21 [.ptr d 0, .int .i64 turns, slv n full keep] h (fun v h' => v = .int .i64 (bootR σ turns keep).1 ∧ ∃ y', Step h h' d σ y (bootR σ turns keep).2 y') := by
  obtain ⟨H, y', e, hst⟩ := bootF_eq hD turns keep n full hall hw hsu hk
  exact Fun.prim hn hp (hb _ _ _ e) ⟨rfl, y', hst⟩
theorem boot_funS {h : Heap} {d : Nat} {σ : DSt} {y : Lay} (hD : DiskAt h d σ y) (turns : Int) (keep : List Int) (n full : Bool) (hdd : σ.dead = true) (hall : σ.all.length ≤ 1000000000) (hw : σ.waits.length ≤ 1000000000) (hsu : ∀ f ∈ σ.all, (σ.file f).sure ≤ (σ.file f).b.length ∧ (σ.file f).b.length ≤ 1000000000000) (hk : keep.length ≤ 9223372036854775807 ∧ ∀ z ∈ keep, -9223372036854775808 ≤ z ∧ z ≤ 9223372036854775807) :
    Fun PS 21 [.ptr d 0, .int .i64 turns, slv n full keep] h (fun v h' => v = .int .i64 0 ∧ ∃ y', Step h h' d σ y (bootS σ turns keep) y') := by
  have := boot_funR (P := PS) rfl rfl (fun _ _ _ e => PS_boot e) hD turns keep n full hall hw hsu hk
  have e : bootR σ turns keep = (0, bootS σ turns keep) := by unfold bootR; rw [hdd]; rfl
  rw [e] at this
  exact this
end Go.Am.Dk
