/- DiskPlays: whatever is done with any disk, each call answers, and the disk shows, what the document says: the law answers true, whatever files, capacity, acts and name it is given. -/
import Derived.Test.YtijfdjjbodalaaaDkAll1
import Derived.Test.YtijfdjjbodalaaaDkAll4
import Derived.Carry
set_option linter.unusedSimpArgs false
set_option linter.unusedVariables false
namespace Go.Proofs.Ytijfdjjbodalaaa.diskPlays
open Go.ChangeShapes Go.WideShapes Go.ChangeAt Go.RowKit Go.Am Go.Am.Dk
set_option maxRecDepth 100000
theorem said_callsB {args : List AV} {vals : Array Value} {W : World} (h : Fun PB 6 args h0 (fun v _ => v = .bool true)) (ha : ArgsR L (gh0 W) W args vals) :
    Calls Try.prog (L.fn 6) vals W (fun e W' => e = .returned (.bool true) ∧ Below W.heap.size W W') := by
  obtain ⟨n, v, h', h1, h2⟩ := h
  subst h2
  exact law_true (PA := PB) allFn mixed codeB_sim primB_sim h1 ha
abbrev fileFs : Array Field := #[⟨"Name", 9, 0, false, "", "", 0⟩, ⟨"Data", 22, 1, false, "", "", 16⟩]
theorem u28 : Try.prog.underlying 28 = some (.struct fileFs) := by kernel_rfl
theorem offs28 : offsOk Try.prog 0 (Try.prog.cellsOf 28) fileFs.toList = true := by kernel_rfl
theorem u29 : Try.prog.underlying 29 = some (.slice 28) := by kernel_rfl
theorem c28 : Try.prog.cellsOf 28 = 2 := by kernel_rfl
theorem ok29 : Try.prog.readableRec 29 = true ∧ 29 < Try.prog.types.size := ⟨by kernel_rfl, of_decide_eq_true (by kernel_rfl)⟩
theorem u35 : Try.prog.underlying 35 = some (.slice 41) := by kernel_rfl
theorem ok35 : Try.prog.readableRec 35 = true ∧ 35 < Try.prog.types.size := ⟨by kernel_rfl, of_decide_eq_true (by kernel_rfl)⟩
theorem ok9 : Try.prog.readableRec 9 = true ∧ 9 < Try.prog.types.size := ⟨by kernel_rfl, of_decide_eq_true (by kernel_rfl)⟩
theorem ok3 : Try.prog.readableRec 3 = true ∧ 3 < Try.prog.types.size := ⟨by kernel_rfl, of_decide_eq_true (by kernel_rfl)⟩
section
variable {H : Type} {enc : TypeId × Value → H} {W : World} {spare : Nat → Bool} {held : Bool} {v : Value} {d : DataW H} {p : List MemPlace} {base : Nat}
theorem arg29 (h : DataW.Trod enc Try.prog W 0 spare held 29 v d p) (hv : Value.okWide Try.prog W .any base 29 v) :
    ∃ (n : Bool) (b : List FileV), VR L (gh0 W) W (slv n false b) v ∧ b.length ≤ 9223372036854775807 ∧ ∀ a ∈ b, FileWf a := by
  obtain ⟨⟨n, b⟩, h1, h2, h3⟩ := arg_one (L := L) (t := 29) (base := base) (c := fun x : Bool × List FileV => slv x.1 false x.2) h (fun fs e => by cases u29.symm.trans e) (fun n e' e => by cases u29.symm.trans e) hv
    (fun f => reads_sl u29 c28 (by decide) (fun f => reads_file u28 rfl offs28 rfl rfl u9 u22 u5 c5 f) f)
  exact ⟨n, b, h1, h2, h3⟩
theorem arg35 (h : DataW.Trod enc Try.prog W 0 spare held 35 v d p) (hv : Value.okWide Try.prog W .any base 35 v) :
    ∃ (n : Bool) (b : List DAct), VR L (gh0 W) W (slv n false b) v ∧ b.length ≤ 9223372036854775807 ∧ ∀ a ∈ b, ActWf a := by
  obtain ⟨⟨n, b⟩, h1, h2, h3⟩ := arg_one (L := L) (t := 35) (base := base) (c := fun x : Bool × List DAct => slv x.1 false x.2) h (fun fs e => by cases u35.symm.trans e) (fun n e' e => by cases u35.symm.trans e) hv
    (fun f => reads_sl u35 c41 (by decide) (fun f => reads41 f) f)
  exact ⟨n, b, h1, h2, h3⟩
theorem arg9 (h : DataW.Trod enc Try.prog W 0 spare held 9 v d p) (hv : Value.okWide Try.prog W .any base 9 v) :
    ∃ b : List UInt8, VR L (gh0 W) W (strv b) v ∧ b.length ≤ 9223372036854775807 := by
  obtain ⟨b, h1, h2⟩ := arg_one (L := L) (t := 9) (base := base) (c := fun x : List UInt8 => strv x) h (fun fs e => by cases u9.symm.trans e) (fun n e' e => by cases u9.symm.trans e) hv
    (fun f => reads_str u9 f)
  exact ⟨b, h1, h2⟩
theorem arg3 (h : DataW.Trod enc Try.prog W 0 spare held 3 v d p) (hv : Value.okWide Try.prog W .any base 3 v) :
    ∃ n : Int, VR L (gh0 W) W (.int .i64 n) v := by
  obtain ⟨n, h1, -⟩ := arg_one (L := L) (t := 3) (base := base) (c := fun n : Int => .int .i64 n) h (fun fs e => by cases u3.symm.trans e) (fun n e' e => by cases u3.symm.trans e) hv
    (fun f => reads_int u3 f)
  exact ⟨n, h1⟩
end
set_option maxRecDepth 100000 in
theorem contract (H : Type) (enc : TypeId × Value → H) (W : World) (base : Nat) (args : Array Value) (ds gs : List (DataW H)) (before : List MemPlace)
    (hval0 : ∀ (j : Nat) t v, Try.f6.params[j]? = some t → args[j]? = some v → Value.okWide Try.prog W .any base t v)
    (hW : DataW.Whole enc Try.prog Try.f6.params.toList Rows.diskPlaysSpec.vars false W args.toList ds gs before) :
    Calls Try.prog 6 args W fun e W' => ∃ v, e = .returned v ∧ Rows.diskPlaysSpec.post enc Try.prog Try.f6 false true false false W args v W' := by
  have hW' := hW
  have hval := hval0
  obtain ⟨p, q, hA0, hV, rfl, hfz, hnd⟩ := hW
  have hA : DataW.TrodAll enc Try.prog W 0 (fun _ => true) true Try.f6.params.toList args.toList ds p := hA0
  rw [Try.params6] at hA hval
  obtain ⟨v0, v1, v2, v3, d0, d1, d2, d3, p0, p1, p2, p3, rfl, rfl, rfl, h0, h1, h2, h3⟩ := trodAll_four hA
  obtain ⟨rfl, rfl⟩ := trodVars_none hV
  obtain ⟨n0, a, r0, ha, ha2⟩ := arg29 h0 (hval 0 29 v0 rfl rfl)
  obtain ⟨n1, r1⟩ := arg3 h1 (hval 1 3 v1 rfl rfl)
  obtain ⟨n2, b, r2, hb, hb2⟩ := arg35 h2 (hval 2 35 v2 rfl rfl)
  obtain ⟨c, r3, hc⟩ := arg9 h3 (hval 3 9 v3 rfl rfl)
  refine (said_callsB (plays_fun a n1 b c n0 n2 ha ha2 hb hb2 hc) (argsR_cons (vs := [v1, v2, v3]) r0 (argsR_cons (vs := [v2, v3]) r1 (argsR_cons (vs := [v3]) r2 (argsR_cons (vs := []) r3 argsR_nil))))).mono fun e W' ⟨e1, hbw⟩ => ?_
  exact ⟨_, e1, law_post (tb := 4) laidOut rfl (by kernel_rfl) u4 (by rw [Try.params6]; intro t ht; simp at ht; rcases ht with rfl | rfl | rfl | rfl <;> first | exact ok29 | exact ok35 | exact ok3 | exact ok9) rfl hW' hbw⟩
set_option maxRecDepth 100000 in
theorem lifted (os : Os) (started : os.Started) (H : Type) (enc : TypeId × Value → H) :
    ReturnsInHanded {} Try.checked os 6 .any (Rows.diskPlaysSpec.pre6 enc Try.prog Try.f6 Rows.diskPlaysRow.domain false) (Rows.diskPlaysSpec.post enc Try.prog Try.f6 false true false false) := by
  refine returnsInHanded_of_change (C := Try.checked) own started (by kernel_rfl) Try.func6
    (ChangeSpec.witness6 (enc := enc) (C := Try.checked) false ⟨#[], #[.slice none 0 0, .int .i64 0, .slice none 0 0, .string ⟨#[]⟩], []⟩ 8 (by kernel_rfl) (by kernel_rfl) (by kernel_rfl) (by kernel_rfl)) ?_
  intro W base args ds gs before hval0 hW hcnd _
  exact contract H enc W base args ds gs before hval0 hW
theorem said : Rows.DiskPlaysSaid :=
  OpenClaim.holds_of_wide 6 Try.f6 rfl rfl rfl rfl rfl rfl rfl ⟨rfl, rfl, rfl, rfl, rfl⟩ rfl rfl rfl rfl rfl (by kernel_rfl) Try.func6 (by kernel_rfl)
    (of_decide_eq_true (by kernel_rfl)) (by unfold Func.isWrapper; first | (rw [if_pos (by decide +kernel)]; kernel_rfl) | (rw [if_neg (by decide +kernel)]; exact ⟨rfl, rfl⟩))
    (fun os started H enc _ => lifted os started H enc)
#print axioms said
end Go.Proofs.Ytijfdjjbodalaaa.diskPlays
