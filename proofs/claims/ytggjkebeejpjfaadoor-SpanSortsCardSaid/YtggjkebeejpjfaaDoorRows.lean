/-
  NARROWER THAN 'FOR EVERY INPUT', by the rows' own cells (each row's printed sentence says how): SpanApplies: laid · SpanPlaces: laid · SpanBacks: laid · SpanNone: laid · SpanSorts: laid.
  DERIVED. THE GIVEN ROWS OF THIS SEAT. 5 by the template 'for every input the law returns true; each argument reads behind the call as it read before'; 0 by the template 'total and deterministic' (their statements: YtggjkebeejpjfaaDoorTotals.lean).
  GIVEN WITH THE SEED: the statements are not yours to turn. If you find one false, say at which input.
  Laid BY PROGRAM, IN A SANDBOX (cutbox-rows.mjs): the forced cells as the released guide's own fill.sh prints them over the translation f7071be22719a18f… (all of the seat's roots in one cut). By AI agents, Wed Nov 11 2026. No macro, syntax, notation, axiom, sorry.
-/
import Derived.Test.YtggjkebeejpjfaaDoorChecked
import GoSem.Claim
import GoSem.ClaimJoined
import GoSem.ClaimMapViews
import Derived.JoinedTies
import Derived.KernelRfl
namespace Go.Proofs.YtggjkebeejpjfaaDoor
/- THE CELL 'sum', in the pinned program and in every row, IS THE sha256 OF THE DUMP (.gsa) THAT YtggjkebeejpjfaaDoorProg.lean LOADS. Nothing in Lean hashes anything: it is a label: what it is worth is what the hold of that sum in a sandbox is worth. -/
noncomputable def Tryd.pinned : Pinned := { name := "ytggjkebeejpjfaadoor", sum := "f7071be22719a18ff041b3bad70909fd8d3692be2d2b29dc76210e52bc0fa1d2", checked := Tryd.checked }
namespace Rows
def none {H : Type} : Left H := { results := [], args := [] }

/- WHAT THE LISTED PACKAGE-LEVEL VARIABLES READ AS WHEN THE CALL BEGINS. Each datum BY PROGRAM (the guide's laid-datum.mjs) off the statement by which the dump's own 'gosem.cut.vars' lays the variable. In a bare row this is a premise. The card (YtggjkebeejpjfaaDoorCards.lean) ties it to the program's text. -/
def laid_bytes_ErrTooLarge {H : Type} : DataW H := .iface "*errors.errorString" (.ptr (.agg [.lit (.string [98, 121, 116, 101, 115, 46, 66, 117, 102, 102, 101, 114, 58, 32, 116, 111, 111, 32, 108, 97, 114, 103, 101])]))

/-- 'blazonlaw07.SpanApplies': WHATEVER THE INPUT: true; the input reads as it did. -/
def spanAppliesSpec : ChangeSpec := { name := "spanApplies", fn := fun _ => fun
  | [d1, d2] => { results := [.lit (.bool true)], args := [d1, d2] }
  | _ => none }
def spanAppliesRow : OpenClaim := { program := "ytggjkebeejpjfaadoor", sum := "f7071be22719a18ff041b3bad70909fd8d3692be2d2b29dc76210e52bc0fa1d2", func := "blazon/blazonlaw07.SpanApplies", spec := "spanApplies", named := ["bytes.ErrTooLarge"], apart := false, laid := [("bytes.ErrTooLarge", laid_bytes_ErrTooLarge)] }
def SpanAppliesSaid : Prop := spanAppliesRow.holds Tryd.pinned (OpenSpec.ofChange spanAppliesSpec)

/-- ITS FALSE NEIGHBOUR: 'it returns false'. Refute it at one input. -/
def spanAppliesWrong : ChangeSpec := { name := "spanApplies", fn := fun _ => fun
  | [d1, d2] => { results := [.lit (.bool false)], args := [d1, d2] }
  | _ => none }
def SpanAppliesWrongFalsely : Prop := spanAppliesRow.holds Tryd.pinned (OpenSpec.ofChange spanAppliesWrong)

/-- 'blazonlaw07.SpanPlaces': WHATEVER THE INPUT: true; the input reads as it did. -/
def spanPlacesSpec : ChangeSpec := { name := "spanPlaces", fn := fun _ => fun
  | [d1, d2] => { results := [.lit (.bool true)], args := [d1, d2] }
  | _ => none }
def spanPlacesRow : OpenClaim := { program := "ytggjkebeejpjfaadoor", sum := "f7071be22719a18ff041b3bad70909fd8d3692be2d2b29dc76210e52bc0fa1d2", func := "blazon/blazonlaw07.SpanPlaces", spec := "spanPlaces", named := ["bytes.ErrTooLarge"], apart := false, laid := [("bytes.ErrTooLarge", laid_bytes_ErrTooLarge)] }
def SpanPlacesSaid : Prop := spanPlacesRow.holds Tryd.pinned (OpenSpec.ofChange spanPlacesSpec)

/-- ITS FALSE NEIGHBOUR: 'it returns false'. Refute it at one input. -/
def spanPlacesWrong : ChangeSpec := { name := "spanPlaces", fn := fun _ => fun
  | [d1, d2] => { results := [.lit (.bool false)], args := [d1, d2] }
  | _ => none }
def SpanPlacesWrongFalsely : Prop := spanPlacesRow.holds Tryd.pinned (OpenSpec.ofChange spanPlacesWrong)

/-- 'blazonlaw07.SpanBacks': WHATEVER THE INPUT: true; the input reads as it did. -/
def spanBacksSpec : ChangeSpec := { name := "spanBacks", fn := fun _ => fun
  | [d1, d2] => { results := [.lit (.bool true)], args := [d1, d2] }
  | _ => none }
def spanBacksRow : OpenClaim := { program := "ytggjkebeejpjfaadoor", sum := "f7071be22719a18ff041b3bad70909fd8d3692be2d2b29dc76210e52bc0fa1d2", func := "blazon/blazonlaw07.SpanBacks", spec := "spanBacks", named := ["bytes.ErrTooLarge"], apart := false, laid := [("bytes.ErrTooLarge", laid_bytes_ErrTooLarge)] }
def SpanBacksSaid : Prop := spanBacksRow.holds Tryd.pinned (OpenSpec.ofChange spanBacksSpec)

/-- ITS FALSE NEIGHBOUR: 'it returns false'. Refute it at one input. -/
def spanBacksWrong : ChangeSpec := { name := "spanBacks", fn := fun _ => fun
  | [d1, d2] => { results := [.lit (.bool false)], args := [d1, d2] }
  | _ => none }
def SpanBacksWrongFalsely : Prop := spanBacksRow.holds Tryd.pinned (OpenSpec.ofChange spanBacksWrong)

/-- 'blazonlaw07.SpanNone': WHATEVER THE INPUT: true; the input reads as it did. -/
def spanNoneSpec : ChangeSpec := { name := "spanNone", fn := fun _ => fun
  | [d1, d2] => { results := [.lit (.bool true)], args := [d1, d2] }
  | _ => none }
def spanNoneRow : OpenClaim := { program := "ytggjkebeejpjfaadoor", sum := "f7071be22719a18ff041b3bad70909fd8d3692be2d2b29dc76210e52bc0fa1d2", func := "blazon/blazonlaw07.SpanNone", spec := "spanNone", named := ["bytes.ErrTooLarge"], apart := false, laid := [("bytes.ErrTooLarge", laid_bytes_ErrTooLarge)] }
def SpanNoneSaid : Prop := spanNoneRow.holds Tryd.pinned (OpenSpec.ofChange spanNoneSpec)

/-- ITS FALSE NEIGHBOUR: 'it returns false'. Refute it at one input. -/
def spanNoneWrong : ChangeSpec := { name := "spanNone", fn := fun _ => fun
  | [d1, d2] => { results := [.lit (.bool false)], args := [d1, d2] }
  | _ => none }
def SpanNoneWrongFalsely : Prop := spanNoneRow.holds Tryd.pinned (OpenSpec.ofChange spanNoneWrong)

/-- 'blazonlaw07.SpanSorts': WHATEVER THE INPUT: true; the input reads as it did. -/
def spanSortsSpec : ChangeSpec := { name := "spanSorts", fn := fun _ => fun
  | [d] => { results := [.lit (.bool true)], args := [d] }
  | _ => none }
def spanSortsRow : OpenClaim := { program := "ytggjkebeejpjfaadoor", sum := "f7071be22719a18ff041b3bad70909fd8d3692be2d2b29dc76210e52bc0fa1d2", func := "blazon/blazonlaw07.SpanSorts", spec := "spanSorts", unfollowed := true, recurses := true, named := ["bytes.ErrTooLarge"], apart := false, laid := [("bytes.ErrTooLarge", laid_bytes_ErrTooLarge)] }
def SpanSortsSaid : Prop := spanSortsRow.holds Tryd.pinned (OpenSpec.ofChange spanSortsSpec)

/-- ITS FALSE NEIGHBOUR: 'it returns false'. Refute it at one input. -/
def spanSortsWrong : ChangeSpec := { name := "spanSorts", fn := fun _ => fun
  | [d] => { results := [.lit (.bool false)], args := [d] }
  | _ => none }
def SpanSortsWrongFalsely : Prop := spanSortsRow.holds Tryd.pinned (OpenSpec.ofChange spanSortsWrong)

/- THE SECOND FORM. 'bulk': how many values and letters a reading holds, each counted each time it is reached (what is shared counts as often as it is met; a slice's spare places count too). A statement '..UptoSaid' is the law's where the arguments, and the package variables that the reading takes, are together of bulk at most 1048576: NARROWER than '..Said'. Prove '..Said' where nothing that the law and all that it calls make is longer than what came in: it says more and counts as full. Else prove '..UptoSaid'. A law counts once. -/
mutual
def uptoBulk {H : Type} : DataW H → Nat
  | .lit (.string bytes) => bytes.length + 1
  | .lit _ => 1
  | .nil => 1
  | .ptr d => uptoBulk d + 1
  | .slice elems spare => uptoBulkAll elems + uptoBulkAll spare + 1
  | .agg parts => uptoBulkAll parts + 1
  | .iface _ d => uptoBulk d + 1
  | .map entries => uptoBulkEntries entries + 1
  | .held _ => 1
def uptoBulkAll {H : Type} : List (DataW H) → Nat
  | [] => 0
  | d :: r => uptoBulk d + uptoBulkAll r
def uptoBulkEntries {H : Type} : List (Lit × DataW H) → Nat
  | [] => 0
  | x :: r => uptoBulkEntry x + uptoBulkEntries r
def uptoBulkEntry {H : Type} : Lit × DataW H → Nat
  | (.string bytes, d) => bytes.length + uptoBulk d + 1
  | (_, d) => uptoBulk d + 1
 end
def uptoSmall : (H : Type) → List (DataW H) → Bool := fun _ ds => decide (uptoBulkAll ds ≤ 1048576)
def OpenSpec.upto (s : _root_.Go.ChangeSpec) : _root_.Go.OpenSpec := { _root_.Go.OpenSpec.ofChange s with cond := some uptoSmall }

/-- 'blazonlaw07.SpanApplies', WHERE WHAT IT READS IS OF BULK AT MOST 1048576: true; the input reads as it did. -/
def spanAppliesUptoRow : OpenClaim := { program := "ytggjkebeejpjfaadoor", sum := "f7071be22719a18ff041b3bad70909fd8d3692be2d2b29dc76210e52bc0fa1d2", func := "blazon/blazonlaw07.SpanApplies", spec := "spanApplies", named := ["bytes.ErrTooLarge"], apart := false, laid := [("bytes.ErrTooLarge", laid_bytes_ErrTooLarge)], narrowed := true }
def SpanAppliesUptoSaid : Prop := spanAppliesUptoRow.holds Tryd.pinned (OpenSpec.upto spanAppliesSpec)

/-- 'blazonlaw07.SpanPlaces', WHERE WHAT IT READS IS OF BULK AT MOST 1048576: true; the input reads as it did. -/
def spanPlacesUptoRow : OpenClaim := { program := "ytggjkebeejpjfaadoor", sum := "f7071be22719a18ff041b3bad70909fd8d3692be2d2b29dc76210e52bc0fa1d2", func := "blazon/blazonlaw07.SpanPlaces", spec := "spanPlaces", named := ["bytes.ErrTooLarge"], apart := false, laid := [("bytes.ErrTooLarge", laid_bytes_ErrTooLarge)], narrowed := true }
def SpanPlacesUptoSaid : Prop := spanPlacesUptoRow.holds Tryd.pinned (OpenSpec.upto spanPlacesSpec)

/-- 'blazonlaw07.SpanBacks', WHERE WHAT IT READS IS OF BULK AT MOST 1048576: true; the input reads as it did. -/
def spanBacksUptoRow : OpenClaim := { program := "ytggjkebeejpjfaadoor", sum := "f7071be22719a18ff041b3bad70909fd8d3692be2d2b29dc76210e52bc0fa1d2", func := "blazon/blazonlaw07.SpanBacks", spec := "spanBacks", named := ["bytes.ErrTooLarge"], apart := false, laid := [("bytes.ErrTooLarge", laid_bytes_ErrTooLarge)], narrowed := true }
def SpanBacksUptoSaid : Prop := spanBacksUptoRow.holds Tryd.pinned (OpenSpec.upto spanBacksSpec)

/-- 'blazonlaw07.SpanNone', WHERE WHAT IT READS IS OF BULK AT MOST 1048576: true; the input reads as it did. -/
def spanNoneUptoRow : OpenClaim := { program := "ytggjkebeejpjfaadoor", sum := "f7071be22719a18ff041b3bad70909fd8d3692be2d2b29dc76210e52bc0fa1d2", func := "blazon/blazonlaw07.SpanNone", spec := "spanNone", named := ["bytes.ErrTooLarge"], apart := false, laid := [("bytes.ErrTooLarge", laid_bytes_ErrTooLarge)], narrowed := true }
def SpanNoneUptoSaid : Prop := spanNoneUptoRow.holds Tryd.pinned (OpenSpec.upto spanNoneSpec)

/-- 'blazonlaw07.SpanSorts', WHERE WHAT IT READS IS OF BULK AT MOST 1048576: true; the input reads as it did. -/
def spanSortsUptoRow : OpenClaim := { program := "ytggjkebeejpjfaadoor", sum := "f7071be22719a18ff041b3bad70909fd8d3692be2d2b29dc76210e52bc0fa1d2", func := "blazon/blazonlaw07.SpanSorts", spec := "spanSorts", unfollowed := true, recurses := true, named := ["bytes.ErrTooLarge"], apart := false, laid := [("bytes.ErrTooLarge", laid_bytes_ErrTooLarge)], narrowed := true }
def SpanSortsUptoSaid : Prop := spanSortsUptoRow.holds Tryd.pinned (OpenSpec.upto spanSortsSpec)

end Rows
end Go.Proofs.YtggjkebeejpjfaaDoor
