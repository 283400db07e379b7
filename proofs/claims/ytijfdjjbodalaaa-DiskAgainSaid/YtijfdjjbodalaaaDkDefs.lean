/- The disk's laws: the program that is run on the abstract machine; awake; great. -/
import Derived.Test.YtijfdjjbodalaaaDkCode
import Derived.Test.YtijfdjjbodalaaaDkAtom
import Derived.Test.YtijfdjjbodalaaaDkClone
import Derived.Test.YtijfdjjbodalaaaAmAll4
set_option linter.unusedSimpArgs false
set_option linter.unusedVariables false
namespace Go.Am.Dk
open Go.Am Go.Proofs
set_option maxRecDepth 100000
theorem load_ok : LoadOk L 61 := fun w b off n hc => load_walk w b off n hc
theorem add_ok : AddOk L 63 := fun w b off n d v hv hc hf => add_walk w b off n d v hv hc hf
theorem clone_ok : CloneOk L 36 := ⟨fun w => clone_walk_nil w, fun w b es ck h => clone_walk b es ck w h⟩
def prim0 : Nat → List AV → Heap → Option (AV × Heap) := orP (loadOn 61) (orP (addOn 63) (cloneOn 36))
theorem prim0_sim : CallSim L prim0 := orP_sim (loadOn_sim load_ok) (orP_sim (addOn_sim add_ok) (cloneOn_sim clone_ok))
def P0 : Prog := { fn := code, prim := prim0, pure := pures }
theorem awake_run : ∃ h', call P0 1000 8 [] h0 = some (.bool true, h') := by
  have : (match call P0 1000 8 [] h0 with | some (.bool true, _) => true | _ => false) = true := by decide +kernel
  split at this
  · rename_i h' he; exact ⟨h', he⟩
  · simp at this
def awakeF : List AV → Option AV
  | [] => some (.bool true)
  | _ => none
theorem awake_ok : PrimOk L 8 awakeF := by
  intro args v hv g w vals _ ha
  cases args with
  | cons _ _ => simp [awakeF] at hv
  | nil =>
    simp only [awakeF, Option.some.injEq] at hv
    subst hv
    obtain ⟨h', hr⟩ := awake_run
    obtain ⟨hsz, -⟩ := ha
    have hz : vals = #[] := by simpa using hsz
    subst hz
    refine (law_true (PA := P0) (vals := #[]) (W := w) allFn mixed code_sim prim0_sim hr argsR_nil).mono ?_
    rintro e w' ⟨rfl, hb⟩
    exact ⟨_, rfl, hb, fun g' _ => .bool _⟩
def code1 : Nat → Option AFn := fun n => bif Nat.beq n 8 then none else code n
def prim1 : Nat → List AV → Heap → Option (AV × Heap) := orP (primOn 8 awakeF) prim0
theorem code1_sim : ∀ n fn, code1 n = some fn → FnSim L n fn := fun n fn h => by
  unfold code1 at h
  cases hb : Nat.beq n 8 <;> rw [hb] at h
  · exact code_sim n fn h
  · simp at h
theorem prim1_sim : CallSim L prim1 := orP_sim (primOn_sim awake_ok) prim0_sim
end Go.Am.Dk
