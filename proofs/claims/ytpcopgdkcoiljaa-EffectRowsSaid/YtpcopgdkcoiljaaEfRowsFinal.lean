/- EffectRows: any program's calls and groups are what the document says: the law answers true, whatever program it is given. -/
import Derived.Test.YtpcopgdkcoiljaaDkAll2
import Derived.Test.YtpcopgdkcoiljaaDkAll7
set_option linter.unusedSimpArgs false
set_option linter.unusedVariables false
namespace Go.Proofs.Ytpcopgdkcoiljaa.effectRows
open Go.ChangeShapes Go.WideShapes Go.ChangeAt Go.RowKit Go.Am Go.Am.Ef
set_option maxRecDepth 100000
theorem ok36 : Try.prog.readableRec 36 = true ∧ 36 < Try.prog.types.size:=⟨by kernel_rfl,of_decide_eq_true (by kernel_rfl)⟩
theorem arg36 {H : Type} {enc : TypeId × Value → H} {W : World} {spare : Nat → Bool} {held : Bool} {v : Value} {d : DataW H} {p : List MemPlace} {base : Nat} (h : DataW.Trod enc Try.prog W 0 spare held 36 v d p) (hv : Value.okWide Try.prog W .any base 36 v) :
  ∃ (n : Bool) (l : List NameV),VR L (gh0 W) W (slv n false l) v ∧ Len l.length:=by
 obtain ⟨⟨n,l⟩,h1,h2, -⟩:=arg_one (L:=L) (t:=36) (base:=base) (c:=fun x : Bool × List NameV => slv x.1 false x.2) h (fun fs e => by cases progT.names.symm.trans e) (fun n e' e => by cases progT.names.symm.trans e) hv
  (fun f => reads_sl progT.names progT.nameC (by decide) (fun f => reads_nameV progT f) f)
 exact ⟨n,l,h1,h2⟩
theorem contract (H : Type) (enc : TypeId × Value → H) (W : World) (base : Nat) (args : Array Value) (ds gs : List (DataW H)) (before : List MemPlace)
  (hval0 : ∀ (j : Nat) t v,Try.f4.params[j]? = some t → args[j]? = some v → Value.okWide Try.prog W .any base t v)
  (hW : DataW.Whole enc Try.prog Try.f4.params.toList Rows.effectRowsSpec.vars false W args.toList ds gs before) :
  Calls Try.prog 4 args W fun e W' => ∃ v,e = .returned v ∧ Rows.effectRowsSpec.post enc Try.prog Try.f4 false true false false W args v W':=by
 have hW':=hW
 have hval:=hval0
 obtain ⟨p,q,hA0,hV,rfl,hfz,hnd⟩:=hW
 have hA : DataW.TrodAll enc Try.prog W 0 (fun _ => true) true Try.f4.params.toList args.toList ds p:=hA0
 rw [Try.params4] at hA hval
 obtain ⟨v0,v1,d0,d1,p0,p1,rfl,rfl,rfl,h0,h1⟩:=trodAll_two hA
 obtain ⟨rfl,rfl⟩:=trodVars_none hV
 obtain ⟨a,r0,ha⟩:=arg25 h0 (hval 0 25 v0 rfl rfl)
 obtain ⟨n1,l,r1,hl⟩:=arg36 h1 (hval 1 36 v1 rfl rfl)
 refine (said_calls (f:=4) (effectRows_fun PE_ok a ha n1 false l hl _) (argsR_cons (vs:=[v1]) r0 (argsR_cons (vs:=[]) r1 argsR_nil))).mono fun e W' ⟨e1,hbw⟩ => ?_
 exact ⟨_,e1,law_post (tb:=4) laidOut rfl (by kernel_rfl) u4 (by rw [Try.params4]; intro t ht; simp at ht; rcases ht with rfl | rfl <;> first | exact ok25 | exact ok36) rfl hW' hbw⟩
theorem lifted (os : Os) (started : os.Started) (H : Type) (enc : TypeId × Value → H) :
  ReturnsInHanded {} Try.checked os 4 .any (Rows.effectRowsSpec.pre6 enc Try.prog Try.f4 Rows.effectRowsRow.domain false) (Rows.effectRowsSpec.post enc Try.prog Try.f4 false true false false):=by
 refine returnsInHanded_of_change (C:=Try.checked) own started (by kernel_rfl) Try.func4
  (ChangeSpec.witness6 (enc:=enc) (C:=Try.checked) false ⟨#[], #[.agg #[.slice none 0 0, .slice none 0 0], .slice none 0 0],[]⟩ 8 (by kernel_rfl) (by kernel_rfl) (by kernel_rfl) (by kernel_rfl)) ?_
 intro W base args ds gs before hval0 hW hcnd _
 exact contract H enc W base args ds gs before hval0 hW
theorem said : Rows.EffectRowsSaid :=
 OpenClaim.holds_of_wide 4 Try.f4 rfl rfl rfl rfl rfl rfl rfl ⟨rfl,rfl,rfl,rfl,rfl⟩ rfl rfl rfl rfl rfl (by kernel_rfl) Try.func4 (by kernel_rfl)
  (of_decide_eq_true (by kernel_rfl)) (by unfold Func.isWrapper; first | (rw [if_pos (by decide +kernel)]; kernel_rfl) | (rw [if_neg (by decide +kernel)]; exact ⟨rfl,rfl⟩))
  (fun os started H enc _ => lifted os started H enc)
#print axioms said
end Go.Proofs.Ytpcopgdkcoiljaa.effectRows
