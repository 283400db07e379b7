/-
  NARROWER THAN 'FOR EVERY INPUT', by the rows' own cells (each row's printed sentence says how): EffectGroups: loops · EffectRows: loops · EffectLeast: loops · EffectMore: loops · EffectOne: loops.
  DERIVED. THE GIVEN ROWS OF THIS SEAT. 5 by the template 'for every input the law returns true; each argument reads behind the call as it read before'; 0 by the template 'total and deterministic' (their statements: YtpcopgdkcoiljaaTotals.lean).
  GIVEN WITH THE SEED: the statements are not yours to turn. If you find one false, say at which input.
  Laid BY PROGRAM, IN A SANDBOX (cutbox-rows.mjs): the forced cells as the released guide's own fill.sh prints them over the translation d6e2e433fea61861… (all of the seat's roots in one cut). By AI agents, Wed Nov 11 2026. No macro, syntax, notation, axiom, sorry.
-/
import Derived.Test.YtpcopgdkcoiljaaChecked
import GoSem.Claim
import GoSem.ClaimJoined
import GoSem.ClaimMapViews
import Derived.JoinedTies
import Derived.KernelRfl
namespace Go.Proofs.Ytpcopgdkcoiljaa
/- THE CELL 'sum', in the pinned program and in every row, IS THE sha256 OF THE DUMP (.gsa) THAT YtpcopgdkcoiljaaProg.lean LOADS. Nothing in Lean hashes anything: it is a label: what it is worth is what the hold of that sum in a sandbox is worth. -/
noncomputable def Try.pinned : Pinned := { name := "ytpcopgdkcoiljaa", sum := "d6e2e433fea61861ac058826c91129c9751fc35254dfd7d18fef4ce115b76b97", checked := Try.checked }
namespace Rows
def none {H : Type} : Left H := { results := [], args := [] }

/-- 'blazonlaw24.EffectGroups': WHATEVER THE INPUT: true; the input reads as it did. -/
def effectGroupsSpec : ChangeSpec := { name := "effectGroups", fn := fun _ => fun
  | [d] => { results := [.lit (.bool true)], args := [d] }
  | _ => none }
def effectGroupsRow : OpenClaim := { program := "ytpcopgdkcoiljaa", sum := "d6e2e433fea61861ac058826c91129c9751fc35254dfd7d18fef4ce115b76b97", func := "blazon/blazonlaw24.EffectGroups", spec := "effectGroups", unfollowed := true, recurses := true, loops := true, apart := false }
def EffectGroupsSaid : Prop := effectGroupsRow.holds Try.pinned (OpenSpec.ofChange effectGroupsSpec)

/-- ITS FALSE NEIGHBOUR: 'it returns false'. Refute it at one input. -/
def effectGroupsWrong : ChangeSpec := { name := "effectGroups", fn := fun _ => fun
  | [d] => { results := [.lit (.bool false)], args := [d] }
  | _ => none }
def EffectGroupsWrongFalsely : Prop := effectGroupsRow.holds Try.pinned (OpenSpec.ofChange effectGroupsWrong)

/-- 'blazonlaw24.EffectRows': WHATEVER THE INPUT: true; the input reads as it did. -/
def effectRowsSpec : ChangeSpec := { name := "effectRows", fn := fun _ => fun
  | [d1, d2] => { results := [.lit (.bool true)], args := [d1, d2] }
  | _ => none }
def effectRowsRow : OpenClaim := { program := "ytpcopgdkcoiljaa", sum := "d6e2e433fea61861ac058826c91129c9751fc35254dfd7d18fef4ce115b76b97", func := "blazon/blazonlaw24.EffectRows", spec := "effectRows", unfollowed := true, recurses := true, loops := true, apart := false }
def EffectRowsSaid : Prop := effectRowsRow.holds Try.pinned (OpenSpec.ofChange effectRowsSpec)

/-- ITS FALSE NEIGHBOUR: 'it returns false'. Refute it at one input. -/
def effectRowsWrong : ChangeSpec := { name := "effectRows", fn := fun _ => fun
  | [d1, d2] => { results := [.lit (.bool false)], args := [d1, d2] }
  | _ => none }
def EffectRowsWrongFalsely : Prop := effectRowsRow.holds Try.pinned (OpenSpec.ofChange effectRowsWrong)

/-- 'blazonlaw24.EffectLeast': WHATEVER THE INPUT: true; the input reads as it did. -/
def effectLeastSpec : ChangeSpec := { name := "effectLeast", fn := fun _ => fun
  | [d] => { results := [.lit (.bool true)], args := [d] }
  | _ => none }
def effectLeastRow : OpenClaim := { program := "ytpcopgdkcoiljaa", sum := "d6e2e433fea61861ac058826c91129c9751fc35254dfd7d18fef4ce115b76b97", func := "blazon/blazonlaw24.EffectLeast", spec := "effectLeast", unfollowed := true, recurses := true, loops := true, apart := false }
def EffectLeastSaid : Prop := effectLeastRow.holds Try.pinned (OpenSpec.ofChange effectLeastSpec)

/-- ITS FALSE NEIGHBOUR: 'it returns false'. Refute it at one input. -/
def effectLeastWrong : ChangeSpec := { name := "effectLeast", fn := fun _ => fun
  | [d] => { results := [.lit (.bool false)], args := [d] }
  | _ => none }
def EffectLeastWrongFalsely : Prop := effectLeastRow.holds Try.pinned (OpenSpec.ofChange effectLeastWrong)

/-- 'blazonlaw24.EffectMore': WHATEVER THE INPUT: true; the input reads as it did. -/
def effectMoreSpec : ChangeSpec := { name := "effectMore", fn := fun _ => fun
  | [d1, d2] => { results := [.lit (.bool true)], args := [d1, d2] }
  | _ => none }
def effectMoreRow : OpenClaim := { program := "ytpcopgdkcoiljaa", sum := "d6e2e433fea61861ac058826c91129c9751fc35254dfd7d18fef4ce115b76b97", func := "blazon/blazonlaw24.EffectMore", spec := "effectMore", unfollowed := true, recurses := true, loops := true, apart := false }
def EffectMoreSaid : Prop := effectMoreRow.holds Try.pinned (OpenSpec.ofChange effectMoreSpec)

/-- ITS FALSE NEIGHBOUR: 'it returns false'. Refute it at one input. -/
def effectMoreWrong : ChangeSpec := { name := "effectMore", fn := fun _ => fun
  | [d1, d2] => { results := [.lit (.bool false)], args := [d1, d2] }
  | _ => none }
def EffectMoreWrongFalsely : Prop := effectMoreRow.holds Try.pinned (OpenSpec.ofChange effectMoreWrong)

/-- 'blazonlaw24.EffectOne': WHATEVER THE INPUT: true; the input reads as it did. -/
def effectOneSpec : ChangeSpec := { name := "effectOne", fn := fun _ => fun
  | [d] => { results := [.lit (.bool true)], args := [d] }
  | _ => none }
def effectOneRow : OpenClaim := { program := "ytpcopgdkcoiljaa", sum := "d6e2e433fea61861ac058826c91129c9751fc35254dfd7d18fef4ce115b76b97", func := "blazon/blazonlaw24.EffectOne", spec := "effectOne", unfollowed := true, recurses := true, loops := true, apart := false }
def EffectOneSaid : Prop := effectOneRow.holds Try.pinned (OpenSpec.ofChange effectOneSpec)

/-- ITS FALSE NEIGHBOUR: 'it returns false'. Refute it at one input. -/
def effectOneWrong : ChangeSpec := { name := "effectOne", fn := fun _ => fun
  | [d] => { results := [.lit (.bool false)], args := [d] }
  | _ => none }
def EffectOneWrongFalsely : Prop := effectOneRow.holds Try.pinned (OpenSpec.ofChange effectOneWrong)

/- THE SECOND FORM. 'bulk': how many values and letters a reading holds, each counted each time it is reached (what is shared counts as often as it is met; a slice's spare places count too). A statement '..UptoSaid' is the law's where the arguments, and the package variables that the reading takes, are together of bulk at most 1048576: NARROWER than '..Said'. Prove '..Said' where nothing that the law and all that it calls make is longer than what came in: it says more and counts as full. Else prove '..UptoSaid'. A law counts once. -/
mutual
def uptoBulk {H : Type} : DataW H → Nat
  | .lit (.string bytes) => bytes.length + 1
  | .lit _ => 1
  | .nil => 1
  | .ptr d => uptoBulk d + 1
  | .slice elems spare => uptoBulkAll elems + uptoBulkAll spare + 1
  | .agg parts => uptoBulkAll parts + 1
  | .iface _ d => uptoBulk d + 1
  | .map entries => uptoBulkEntries entries + 1
  | .held _ => 1
def uptoBulkAll {H : Type} : List (DataW H) → Nat
  | [] => 0
  | d :: r => uptoBulk d + uptoBulkAll r
def uptoBulkEntries {H : Type} : List (Lit × DataW H) → Nat
  | [] => 0
  | x :: r => uptoBulkEntry x + uptoBulkEntries r
def uptoBulkEntry {H : Type} : Lit × DataW H → Nat
  | (.string bytes, d) => bytes.length + uptoBulk d + 1
  | (_, d) => uptoBulk d + 1
 end
def uptoSmall : (H : Type) → List (DataW H) → Bool := fun _ ds => decide (uptoBulkAll ds ≤ 1048576)
def OpenSpec.upto (s : _root_.Go.ChangeSpec) : _root_.Go.OpenSpec := { _root_.Go.OpenSpec.ofChange s with cond := some uptoSmall }

/-- 'blazonlaw24.EffectGroups', WHERE WHAT IT READS IS OF BULK AT MOST 1048576: true; the input reads as it did. -/
def effectGroupsUptoRow : OpenClaim := { program := "ytpcopgdkcoiljaa", sum := "d6e2e433fea61861ac058826c91129c9751fc35254dfd7d18fef4ce115b76b97", func := "blazon/blazonlaw24.EffectGroups", spec := "effectGroups", unfollowed := true, recurses := true, loops := true, apart := false, narrowed := true }
def EffectGroupsUptoSaid : Prop := effectGroupsUptoRow.holds Try.pinned (OpenSpec.upto effectGroupsSpec)

/-- 'blazonlaw24.EffectRows', WHERE WHAT IT READS IS OF BULK AT MOST 1048576: true; the input reads as it did. -/
def effectRowsUptoRow : OpenClaim := { program := "ytpcopgdkcoiljaa", sum := "d6e2e433fea61861ac058826c91129c9751fc35254dfd7d18fef4ce115b76b97", func := "blazon/blazonlaw24.EffectRows", spec := "effectRows", unfollowed := true, recurses := true, loops := true, apart := false, narrowed := true }
def EffectRowsUptoSaid : Prop := effectRowsUptoRow.holds Try.pinned (OpenSpec.upto effectRowsSpec)

/-- 'blazonlaw24.EffectLeast', WHERE WHAT IT READS IS OF BULK AT MOST 1048576: true; the input reads as it did. -/
def effectLeastUptoRow : OpenClaim := { program := "ytpcopgdkcoiljaa", sum := "d6e2e433fea61861ac058826c91129c9751fc35254dfd7d18fef4ce115b76b97", func := "blazon/blazonlaw24.EffectLeast", spec := "effectLeast", unfollowed := true, recurses := true, loops := true, apart := false, narrowed := true }
def EffectLeastUptoSaid : Prop := effectLeastUptoRow.holds Try.pinned (OpenSpec.upto effectLeastSpec)

/-- 'blazonlaw24.EffectMore', WHERE WHAT IT READS IS OF BULK AT MOST 1048576: true; the input reads as it did. -/
def effectMoreUptoRow : OpenClaim := { program := "ytpcopgdkcoiljaa", sum := "d6e2e433fea61861ac058826c91129c9751fc35254dfd7d18fef4ce115b76b97", func := "blazon/blazonlaw24.EffectMore", spec := "effectMore", unfollowed := true, recurses := true, loops := true, apart := false, narrowed := true }
def EffectMoreUptoSaid : Prop := effectMoreUptoRow.holds Try.pinned (OpenSpec.upto effectMoreSpec)

/-- 'blazonlaw24.EffectOne', WHERE WHAT IT READS IS OF BULK AT MOST 1048576: true; the input reads as it did. -/
def effectOneUptoRow : OpenClaim := { program := "ytpcopgdkcoiljaa", sum := "d6e2e433fea61861ac058826c91129c9751fc35254dfd7d18fef4ce115b76b97", func := "blazon/blazonlaw24.EffectOne", spec := "effectOne", unfollowed := true, recurses := true, loops := true, apart := false, narrowed := true }
def EffectOneUptoSaid : Prop := effectOneUptoRow.holds Try.pinned (OpenSpec.upto effectOneSpec)

end Rows
end Go.Proofs.Ytpcopgdkcoiljaa
