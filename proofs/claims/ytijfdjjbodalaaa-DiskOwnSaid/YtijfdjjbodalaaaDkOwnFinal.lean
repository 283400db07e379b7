/- DiskOwn: what is handed to a disk, and what it answers, is memory of its own: the law answers true, whatever bytes it is given. -/
import Derived.Test.YtijfdjjbodalaaaDkWorld
import Derived.Test.YtijfdjjbodalaaaDkOwn
set_option linter.unusedSimpArgs false
set_option linter.unusedVariables false
namespace Go.Proofs.Ytijfdjjbodalaaa.diskOwn
open Go.ChangeShapes Go.WideShapes Go.ChangeAt Go.RowKit Go.Am Go.Am.Dk
theorem said_callsO {args : List AV} {vals : Array Value} {W : World} (h : Fun PO 3 args h0 (fun v _ => v = .bool true)) (ha : ArgsR L (gh0 W) W args vals) :
    Calls Try.prog (L.fn 3) vals W (fun e W' => e = .returned (.bool true) ∧ Below W.heap.size W W') := by
  obtain ⟨n, v, h', h1, h2⟩ := h
  subst h2
  exact law_true (PA := PO) allFn mixed code2_sim prim2_sim h1 ha
set_option maxRecDepth 100000 in
theorem contract (H : Type) (enc : TypeId × Value → H) (W : World) (base : Nat) (args : Array Value) (ds gs : List (DataW H)) (before : List MemPlace)
    (hval0 : ∀ (j : Nat) t v, Try.f3.params[j]? = some t → args[j]? = some v → Value.okWide Try.prog W .any base t v)
    (hW : DataW.Whole enc Try.prog Try.f3.params.toList Rows.diskOwnSpec.vars false W args.toList ds gs before) :
    Calls Try.prog 3 args W fun e W' => ∃ v, e = .returned v ∧ Rows.diskOwnSpec.post enc Try.prog Try.f3 false true false false W args v W' := by
  have hW' := hW
  have hval := hval0
  obtain ⟨p, q, hA0, hV, rfl, hfz, hnd⟩ := hW
  have hA : DataW.TrodAll enc Try.prog W 0 (fun _ => true) true Try.f3.params.toList args.toList ds p := hA0
  rw [Try.params3] at hA hval
  obtain ⟨v0, v1, d0, d1, p0, p1, rfl, rfl, rfl, h0, h1⟩ := trodAll_two hA
  obtain ⟨rfl, rfl⟩ := trodVars_none hV
  obtain ⟨n0, a, r0, ha⟩ := arg22 h0 (hval 0 22 v0 rfl rfl)
  obtain ⟨n1, b, r1, hb⟩ := arg22 h1 (hval 1 22 v1 rfl rfl)
  refine (said_callsO (own_fun a b n0 n1 ha hb) (argsR_cons (vs := [v1]) r0 (argsR_cons (vs := []) r1 argsR_nil))).mono fun e W' ⟨e1, hbw⟩ => ?_
  exact ⟨_, e1, law_post (tb := 4) laidOut rfl (by kernel_rfl) u4 (by rw [Try.params3]; intro t ht; simp at ht; subst ht; exact ok22) rfl hW' hbw⟩

set_option maxRecDepth 100000 in
theorem lifted (os : Os) (started : os.Started) (H : Type) (enc : TypeId × Value → H) :
    ReturnsInHanded {} Try.checked os 3 .any (Rows.diskOwnSpec.pre6 enc Try.prog Try.f3 Rows.diskOwnRow.domain false) (Rows.diskOwnSpec.post enc Try.prog Try.f3 false true false false) := by
  refine returnsInHanded_of_change (C := Try.checked) own started (by kernel_rfl) Try.func3
    (ChangeSpec.witness6 (enc := enc) (C := Try.checked) false ⟨#[], #[.slice none 0 0, .slice none 0 0], []⟩ 8 (by kernel_rfl) (by kernel_rfl) (by kernel_rfl) (by kernel_rfl)) ?_
  intro W base args ds gs before hval0 hW hcnd _
  exact contract H enc W base args ds gs before hval0 hW

theorem said : Rows.DiskOwnSaid :=
  OpenClaim.holds_of_wide 3 Try.f3 rfl rfl rfl rfl rfl rfl rfl ⟨rfl, rfl, rfl, rfl, rfl⟩ rfl rfl rfl rfl rfl (by kernel_rfl) Try.func3 (by kernel_rfl)
    (of_decide_eq_true (by kernel_rfl)) (by unfold Func.isWrapper; first | (rw [if_pos (by decide +kernel)]; kernel_rfl) | (rw [if_neg (by decide +kernel)]; exact ⟨rfl, rfl⟩))
    (fun os started H enc _ => lifted os started H enc)
#print axioms said
end Go.Proofs.Ytijfdjjbodalaaa.diskOwn
