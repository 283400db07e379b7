/- EffectMore: one more effect in the row that a function declares leaves it kept by that function: the law answers true, whatever program and number it is given. -/
import Derived.Test.YtpcopgdkcoiljaaDkAll2
import Derived.Test.YtpcopgdkcoiljaaDkAll6
set_option linter.unusedSimpArgs false
set_option linter.unusedVariables false
namespace Go.Proofs.Ytpcopgdkcoiljaa.effectMore
open Go.ChangeShapes Go.WideShapes Go.ChangeAt Go.RowKit Go.Am Go.Am.Ef
set_option maxRecDepth 100000
theorem ok3 : Try.prog.readableRec 3 = true ∧ 3 < Try.prog.types.size := ⟨by kernel_rfl, of_decide_eq_true (by kernel_rfl)⟩
theorem arg3 {H : Type} {enc : TypeId × Value → H} {W : World} {spare : Nat → Bool} {held : Bool} {v : Value} {d : DataW H} {p : List MemPlace} {base : Nat} (h : DataW.Trod enc Try.prog W 0 spare held 3 v d p) (hv : Value.okWide Try.prog W .any base 3 v) :
  ∃ n : Int, VR L (gh0 W) W (.int .i64 n) v := by
 obtain ⟨n, h1, -⟩ := arg_one (L := L) (t := 3) (base := base) (c := fun n : Int => .int .i64 n) h (fun fs e => by cases progT.i.symm.trans e) (fun n e' e => by cases progT.i.symm.trans e) hv
  (fun f => reads_int progT.i f)
 exact ⟨n, h1⟩
theorem said_calls6 {f : Nat} {args : List AV} {vals : Array Value} {W : World} (h : Fun P6 f args h0 (fun v _ => v = .bool true)) (ha : ArgsR L (gh0 W) W args vals) :
  Calls Try.prog (L.fn f) vals W (fun e W' => e = .returned (.bool true) ∧ Below W.heap.size W W') := by
 obtain ⟨n, v, h', h1, h2⟩ := h
 subst h2
 exact law_true (PA := P6) allFn mixed codeE_sim P6_prim h1 ha
theorem contract (H : Type) (enc : TypeId × Value → H) (W : World) (base : Nat) (args : Array Value) (ds gs : List (DataW H)) (before : List MemPlace)
  (hval0 : ∀ (j : Nat) t v, Try.f6.params[j]? = some t → args[j]? = some v → Value.okWide Try.prog W .any base t v)
  (hW : DataW.Whole enc Try.prog Try.f6.params.toList Rows.effectMoreSpec.vars false W args.toList ds gs before) :
  Calls Try.prog 6 args W fun e W' => ∃ v, e = .returned v ∧ Rows.effectMoreSpec.post enc Try.prog Try.f6 false true false false W args v W' := by
 have hW' := hW
 have hval := hval0
 obtain ⟨p, q, hA0, hV, rfl, hfz, hnd⟩ := hW
 have hA : DataW.TrodAll enc Try.prog W 0 (fun _ => true) true Try.f6.params.toList args.toList ds p := hA0
 rw [Try.params6] at hA hval
 obtain ⟨v0, v1, d0, d1, p0, p1, rfl, rfl, rfl, h0, h1⟩ := trodAll_two hA
 obtain ⟨rfl, rfl⟩ := trodVars_none hV
 obtain ⟨a, r0, ha⟩ := arg25 h0 (hval 0 25 v0 rfl rfl)
 obtain ⟨n1, r1⟩ := arg3 h1 (hval 1 3 v1 rfl rfl)
 refine (said_calls6 (f := 6) (effectMore_fun a ha n1 _) (argsR_cons (vs := [v1]) r0 (argsR_cons (vs := []) r1 argsR_nil))).mono fun e W' ⟨e1, hbw⟩ => ?_
 exact ⟨_, e1, law_post (tb := 4) laidOut rfl (by kernel_rfl) u4 (by rw [Try.params6]; intro t ht; simp at ht; rcases ht with rfl | rfl <;> first | exact ok25 | exact ok3) rfl hW' hbw⟩
theorem lifted (os : Os) (started : os.Started) (H : Type) (enc : TypeId × Value → H) :
  ReturnsInHanded {} Try.checked os 6 .any (Rows.effectMoreSpec.pre6 enc Try.prog Try.f6 Rows.effectMoreRow.domain false) (Rows.effectMoreSpec.post enc Try.prog Try.f6 false true false false) := by
 refine returnsInHanded_of_change (C := Try.checked) own started (by kernel_rfl) Try.func6
  (ChangeSpec.witness6 (enc := enc) (C := Try.checked) false ⟨#[], #[.agg #[.slice none 0 0, .slice none 0 0], .int .i64 0], []⟩ 8 (by kernel_rfl) (by kernel_rfl) (by kernel_rfl) (by kernel_rfl)) ?_
 intro W base args ds gs before hval0 hW hcnd _
 exact contract H enc W base args ds gs before hval0 hW
theorem said : Rows.EffectMoreSaid :=
 OpenClaim.holds_of_wide 6 Try.f6 rfl rfl rfl rfl rfl rfl rfl ⟨rfl, rfl, rfl, rfl, rfl⟩ rfl rfl rfl rfl rfl (by kernel_rfl) Try.func6 (by kernel_rfl)
  (of_decide_eq_true (by kernel_rfl)) (by unfold Func.isWrapper; first | (rw [if_pos (by decide +kernel)]; kernel_rfl) | (rw [if_neg (by decide +kernel)]; exact ⟨rfl, rfl⟩))
  (fun os started H enc _ => lifted os started H enc)
#print axioms said
end Go.Proofs.Ytpcopgdkcoiljaa.effectMore
