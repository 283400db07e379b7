/- EffectLeast: any program's calls and groups are what the document says: the law answers true, whatever program it is given. -/
import Derived.Test.YtpcopgdkcoiljaaDkAll2
import Derived.Test.YtpcopgdkcoiljaaDkAll6
set_option linter.unusedSimpArgs false
set_option linter.unusedVariables false
namespace Go.Proofs.Ytpcopgdkcoiljaa.effectLeast
open Go.ChangeShapes Go.WideShapes Go.ChangeAt Go.RowKit Go.Am Go.Am.Ef
set_option maxRecDepth 100000
theorem contract (H : Type) (enc : TypeId × Value → H) (W : World) (base : Nat) (args : Array Value) (ds gs : List (DataW H)) (before : List MemPlace)
  (hval0 : ∀ (j : Nat) t v, Try.f5.params[j]? = some t → args[j]? = some v → Value.okWide Try.prog W .any base t v)
  (hW : DataW.Whole enc Try.prog Try.f5.params.toList Rows.effectLeastSpec.vars false W args.toList ds gs before) :
  Calls Try.prog 5 args W fun e W' => ∃ v, e = .returned v ∧ Rows.effectLeastSpec.post enc Try.prog Try.f5 false true false false W args v W' := by
 have hW' := hW
 have hval := hval0
 obtain ⟨p, q, hA0, hV, rfl, hfz, hnd⟩ := hW
 have hA : DataW.TrodAll enc Try.prog W 0 (fun _ => true) true Try.f5.params.toList args.toList ds p := hA0
 rw [Try.params5] at hA hval
 obtain ⟨v0, d0, rfl, rfl, h0⟩ := trodAll_one hA
 obtain ⟨rfl, rfl⟩ := trodVars_none hV
 obtain ⟨a, r0, ha⟩ := arg25 h0 (hval 0 25 v0 rfl rfl)
 refine (said_calls (f := 5) (effectLeast_fun PE_ok a ha _) (argsR_cons (vs := []) r0 argsR_nil)).mono fun e W' ⟨e1, hbw⟩ => ?_
 exact ⟨_, e1, law_post (tb := 4) laidOut rfl (by kernel_rfl) u4 (by rw [Try.params5]; intro t ht; simp at ht; subst ht; exact ok25) rfl hW' hbw⟩
theorem lifted (os : Os) (started : os.Started) (H : Type) (enc : TypeId × Value → H) :
  ReturnsInHanded {} Try.checked os 5 .any (Rows.effectLeastSpec.pre6 enc Try.prog Try.f5 Rows.effectLeastRow.domain false) (Rows.effectLeastSpec.post enc Try.prog Try.f5 false true false false) := by
 refine returnsInHanded_of_change (C := Try.checked) own started (by kernel_rfl) Try.func5
  (ChangeSpec.witness6 (enc := enc) (C := Try.checked) false ⟨#[], #[.agg #[.slice none 0 0, .slice none 0 0]], []⟩ 8 (by kernel_rfl) (by kernel_rfl) (by kernel_rfl) (by kernel_rfl)) ?_
 intro W base args ds gs before hval0 hW hcnd _
 exact contract H enc W base args ds gs before hval0 hW
theorem said : Rows.EffectLeastSaid :=
 OpenClaim.holds_of_wide 5 Try.f5 rfl rfl rfl rfl rfl rfl rfl ⟨rfl, rfl, rfl, rfl, rfl⟩ rfl rfl rfl rfl rfl (by kernel_rfl) Try.func5 (by kernel_rfl)
  (of_decide_eq_true (by kernel_rfl)) (by unfold Func.isWrapper; first | (rw [if_pos (by decide +kernel)]; kernel_rfl) | (rw [if_neg (by decide +kernel)]; exact ⟨rfl, rfl⟩))
  (fun os started H enc _ => lifted os started H enc)
#print axioms said
end Go.Proofs.Ytpcopgdkcoiljaa.effectLeast
