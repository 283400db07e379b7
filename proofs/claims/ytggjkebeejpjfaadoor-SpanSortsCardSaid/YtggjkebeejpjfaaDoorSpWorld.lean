/- What the five rows share: a world that lays bytes.ErrTooLarge; the arguments as plain data; from a law's plain answer to its row. -/
import Derived.Test.YtggjkebeejpjfaaDoorSpE
import Derived.Test.YtggjkebeejpjfaaDoorAmAll4
import Derived.Test.YtggjkebeejpjfaaDoorCards
import Derived.Test.YtggjkebeejpjfaaDoorTie
import Derived.ProofKit
import Derived.OpenShut
import Derived.Deep.DeepHandedRow
import Derived.Deep.DeepWitnessRowRef
import Derived.LaidLaws
set_option linter.unusedSimpArgs false
set_option linter.unusedVariables false
namespace Go.Proofs.YtggjkebeejpjfaaDoor
open Go.ChangeShapes Go.WideShapes Go.ChangeAt Go.RowKit Go.Am Go.Am.Sp

theorem own : ownKnob Tryd.prog.godebug = none := by kernel_rfl
theorem laidOut : laidOutB Tryd.prog = true := by kernel_rfl
abbrev tooLarge : ByteArray := { data := #[98, 121, 116, 101, 115, 46, 66, 117, 102, 102, 101, 114, 58, 32, 116, 111, 111, 32, 108, 97, 114, 103, 101] }
noncomputable def low : Nat := (World.holding Tryd.prog default ⟨#[], #[], []⟩).heap.size
/-- A world that lays the variable. -/
noncomputable def laidWorld (os : Os) : World :=
  let w0 := World.holding Tryd.prog os ⟨#[.cells #[.string tooLarge] 83], #[], []⟩
  { w0 with heap := w0.heap.modify 0 fun
      | .cells _ t frozen => .cells #[.iface 66 (.pointer (some ⟨low, 0, none⟩))] t frozen
      | o => o }
def laidList : List (String × DataW Unit) := [("bytes.ErrTooLarge", Rows.laid_bytes_ErrTooLarge)]
theorem laid_met (os : Os) (args : Array Value) : laidMet Tryd.prog laidList ((laidWorld os).forCall (fun _ _ => 0) ⟨#[], args, []⟩).memory :=
  laidMet_of_run' 8 (by kernel_rfl) (by kernel_rfl)
noncomputable def PA : Prog := { fn := code, prim := primOn 11 applyF, pure := pures }
theorem spA : SpA PA := ⟨⟨rfl, fun _ _ => rfl⟩, rfl⟩
theorem said_calls' {P : Prog} (hP : SpA P) {f : Nat} {args : List AV} {vals : Array Value} {W : World} (h : Fun P f args h0 (fun v _ => v = .bool true)) (ha : ArgsR L (gh0 W) W args vals) :
    Calls Tryd.prog (L.fn f) vals W (fun e W' => e = .returned (.bool true) ∧ Below W.heap.size W W') := by
  obtain ⟨n, v, h', h1, h2⟩ := h
  subst h2
  exact law_true allFn mixed (by rw [hP.fn]; exact code_sim) (by rw [hP.prim]; exact primOn_sim apply_ok) h1 ha
theorem said_calls {f : Nat} {args : List AV} {vals : Array Value} {W : World} (h : Fun PA f args h0 (fun v _ => v = .bool true)) (ha : ArgsR L (gh0 W) W args vals) :
    Calls Tryd.prog (L.fn f) vals W (fun e W' => e = .returned (.bool true) ∧ Below W.heap.size W W') := said_calls' spA h ha
/-- The same program, with span.Back run among the caller's rows. -/
noncomputable def PN : Prog := { fn := code, prim := primOn 11 applyF, pure := fun n => bif Nat.beq n 17 then 0 else pures n }
theorem spN : SpA PN := ⟨⟨rfl, fun n h => by show (bif Nat.beq n 17 then 0 else pures n) = pures n; rw [nbeq, decide_eq_false h]; rfl⟩, rfl⟩
theorem offs36 : offsOk Tryd.prog 0 (Tryd.prog.cellsOf 36) [⟨"From", 3, 0, false, "", "", 0⟩, ⟨"To", 3, 1, false, "", "", 8⟩, ⟨"Text", 9, 2, false, "", "", 16⟩] = true := by kernel_rfl
theorem cells5 : Tryd.prog.cellsOf 5 = 1 := by kernel_rfl
theorem cells36 : Tryd.prog.cellsOf 36 = 3 := by kernel_rfl
theorem ok22 : Tryd.prog.readableRec 22 = true ∧ 22 < Tryd.prog.types.size := ⟨by kernel_rfl, of_decide_eq_true (by kernel_rfl)⟩
theorem ok23 : Tryd.prog.readableRec 23 = true ∧ 23 < Tryd.prog.types.size := ⟨by kernel_rfl, of_decide_eq_true (by kernel_rfl)⟩
section
variable {H : Type} {enc : TypeId × Value → H} {W : World} {spare : Nat → Bool} {held : Bool} {v : Value} {d : DataW H} {p : List MemPlace} {base : Nat}
theorem arg22 (h : DataW.Trod enc Tryd.prog W 0 spare held 22 v d p) (hv : Value.okWide Tryd.prog W .any base 22 v) :
    ∃ (n : Bool) (b : List UInt8), VR L (gh0 W) W (slv n false b) v ∧ b.length ≤ 9223372036854775807 := by
  obtain ⟨⟨n, b⟩, h1, h2, -⟩ := arg_one (L := L) (t := 22) (base := base) (c := fun x : Bool × List UInt8 => slv x.1 false x.2) h (fun fs e => by cases Tryd.underlying22.symm.trans e) (fun n e' e => by cases Tryd.underlying22.symm.trans e) hv
    (fun f => reads_sl Tryd.underlying22 cells5 (by decide) (reads_u8 Tryd.underlying5) f)
  exact ⟨n, b, h1, h2⟩
theorem arg23 (h : DataW.Trod enc Tryd.prog W 0 spare held 23 v d p) (hv : Value.okWide Tryd.prog W .any base 23 v) :
    ∃ (n : Bool) (l : List Edit), VR L (gh0 W) W (slv n false l) v ∧ l.length ≤ 9223372036854775807 ∧ ∀ e ∈ l, (-9223372036854775808 ≤ e.f ∧ e.f ≤ 9223372036854775807) ∧ (-9223372036854775808 ≤ e.t ∧ e.t ≤ 9223372036854775807) ∧ e.x.length ≤ 9223372036854775807 := by
  obtain ⟨⟨n, l⟩, h1, h2, h3⟩ := arg_one (L := L) (t := 23) (base := base) (c := fun x : Bool × List Edit => slv x.1 false x.2) h (fun fs e => by cases Tryd.underlying23.symm.trans e) (fun n e' e => by cases Tryd.underlying23.symm.trans e) hv
    (fun f => reads_sl Tryd.underlying23 cells36 (by decide) (reads_edit Tryd.underlying36 rfl offs36 rfl rfl rfl Tryd.underlying3 Tryd.underlying9) f)
  exact ⟨n, l, h1, h2, h3⟩
end
end Go.Proofs.YtggjkebeejpjfaaDoor
