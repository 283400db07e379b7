/- What the disk's rows share: the arguments as plain data; from a law's plain answer to its row. -/
import Derived.Test.YtijfdjjbodalaaaDkDefs
import Derived.Test.YtijfdjjbodalaaaAmAll4
import Derived.Test.YtijfdjjbodalaaaRows
import Derived.ProofKit
import Derived.OpenShut
set_option linter.unusedSimpArgs false
set_option linter.unusedVariables false
namespace Go.Proofs.Ytijfdjjbodalaaa
open Go.ChangeShapes Go.WideShapes Go.ChangeAt Go.RowKit Go.Am Go.Am.Dk
set_option maxRecDepth 100000
theorem own : ownKnob Try.prog.godebug = none := by kernel_rfl
theorem laidOut : laidOutB Try.prog = true := by kernel_rfl
theorem said_calls {P : Prog} (hf : P.fn = code1) (hp : P.prim = prim1) {f : Nat} {args : List AV} {vals : Array Value} {W : World} (h : Fun P f args h0 (fun v _ => v = .bool true)) (ha : ArgsR L (gh0 W) W args vals) :
    Calls Try.prog (L.fn f) vals W (fun e W' => e = .returned (.bool true) ∧ Below W.heap.size W W') := by
  obtain ⟨n, v, h', h1, h2⟩ := h
  subst h2
  exact law_true allFn mixed (by rw [hf]; exact code1_sim) (by rw [hp]; exact prim1_sim) h1 ha
abbrev actFs : Array Field := #[⟨"Kind", 3, 0, false, "", "", 0⟩, ⟨"Name", 9, 1, false, "", "", 8⟩, ⟨"To", 9, 2, false, "", "", 24⟩, ⟨"B", 22, 3, false, "", "", 40⟩, ⟨"N", 3, 4, false, "", "", 64⟩, ⟨"E", 30, 5, false, "", "", 72⟩, ⟨"Keep", 36, 6, false, "", "", 80⟩]
theorem u41 : Try.prog.underlying 41 = some (.struct actFs) := by kernel_rfl
theorem offs41 : offsOk Try.prog 0 (Try.prog.cellsOf 41) actFs.toList = true := by kernel_rfl
theorem u3 : Try.prog.underlying 3 = some (.int .i64) := by kernel_rfl
theorem u4 : Try.prog.underlying 4 = some .bool := by kernel_rfl
theorem u5 : Try.prog.underlying 5 = some (.int .u8) := by kernel_rfl
theorem u9 : Try.prog.underlying 9 = some .string := by kernel_rfl
theorem u22 : Try.prog.underlying 22 = some (.slice 5) := by kernel_rfl
theorem u30 : Try.prog.underlying 30 = some (.int .i64) := by kernel_rfl
theorem u36 : Try.prog.underlying 36 = some (.slice 3) := by kernel_rfl
theorem c3 : Try.prog.cellsOf 3 = 1 := by kernel_rfl
theorem c5 : Try.prog.cellsOf 5 = 1 := by kernel_rfl
theorem c41 : Try.prog.cellsOf 41 = 7 := by kernel_rfl
theorem ok22 : Try.prog.readableRec 22 = true ∧ 22 < Try.prog.types.size := ⟨by kernel_rfl, of_decide_eq_true (by kernel_rfl)⟩
theorem ok41 : Try.prog.readableRec 41 = true ∧ 41 < Try.prog.types.size := ⟨by kernel_rfl, of_decide_eq_true (by kernel_rfl)⟩
section
variable {H : Type} {enc : TypeId × Value → H} {W : World} {spare : Nat → Bool} {held : Bool} {v : Value} {d : DataW H} {p : List MemPlace} {base : Nat}
theorem arg22 (h : DataW.Trod enc Try.prog W 0 spare held 22 v d p) (hv : Value.okWide Try.prog W .any base 22 v) :
    ∃ (n : Bool) (b : List UInt8), VR L (gh0 W) W (slv n false b) v ∧ b.length ≤ 9223372036854775807 := by
  obtain ⟨⟨n, b⟩, h1, h2, -⟩ := arg_one (L := L) (t := 22) (base := base) (c := fun x : Bool × List UInt8 => slv x.1 false x.2) h (fun fs e => by cases u22.symm.trans e) (fun n e' e => by cases u22.symm.trans e) hv
    (fun f => reads_sl u22 c5 (by decide) (reads_u8 u5) f)
  exact ⟨n, b, h1, h2⟩
theorem reads41 (f : Nat) : ReadsAs enc Try.prog W spare held 41 (Enc.cells (α := DAct)) ActWf f :=
  reads_act u41 rfl offs41 rfl rfl rfl rfl rfl rfl rfl u3 u30 u9 u22 u5 c5 u36 c3 f
theorem arg41 (h : DataW.Trod enc Try.prog W 0 spare held 41 v d p) (hv : Value.okWide Try.prog W .any base 41 v) :
    ∃ a : DAct, VR L (gh0 W) W (.agg (Enc.cells a)) v ∧ ActWf a := by
  obtain ⟨a, h1, h2⟩ := arg_agg (L := L) (t := 41) (base := base) (c := Enc.cells (α := DAct)) h u41 hv (fun f => reads41 f)
  exact ⟨a, h1, h2⟩
end
end Go.Proofs.Ytijfdjjbodalaaa
