/-
  DERIVED. GIVEN WITH THE SEED: THE CARDS: each row of YtggjkebeejpjfaaDoorRows.lean that lists a variable, with what it lists TIED to the program's text (the seventh form; the later family's looks); each row that meets fmt, with fmt's text TOLD by the authors' own Lean function (tested against real Go, not proved from fmt's source: count such statements apart). THE CARD IS WHAT COUNTS. Prove the row's statement (the work); the ties are given (YtggjkebeejpjfaaDoorTie.lean); close each card by the builder's one call (the guide's Derived/Test/ToyasCard.lean, 'card_holds'). Laid BY PROGRAM, IN A SANDBOX (cutbox-door.mjs). By AI agents, Wed Nov 11 2026. No macro, syntax, notation, axiom, sorry.
-/
import Derived.Test.YtggjkebeejpjfaaDoorRows
import GoSem.ClaimSeven
namespace Go.Proofs.YtggjkebeejpjfaaDoor
namespace Rows

/-- THE TIED CARD OF 'blazonlaw07.SpanApplies'. -/
def spanAppliesCard : Claim7 := { stood := { row := spanAppliesRow, standIns := [], harness := (true, "5b7e8d2231cb4327b03cee12cfed9434284f2b698b9fa8bc80643134b968eb27"), looks := false }, kinds := [], alts := [], laidByText := true, laidKinds := [.sentinel], laidTests := true, laidLooks := .later }
def SpanAppliesCardSaid : Prop := Claim7.holds Tryd.pinned (.plain (OpenSpec.ofChange spanAppliesSpec)) spanAppliesCard

/-- THE TIED CARD OF 'blazonlaw07.SpanPlaces'. -/
def spanPlacesCard : Claim7 := { stood := { row := spanPlacesRow, standIns := [], harness := (true, "5b7e8d2231cb4327b03cee12cfed9434284f2b698b9fa8bc80643134b968eb27"), looks := false }, kinds := [], alts := [], laidByText := true, laidKinds := [.sentinel], laidTests := true, laidLooks := .later }
def SpanPlacesCardSaid : Prop := Claim7.holds Tryd.pinned (.plain (OpenSpec.ofChange spanPlacesSpec)) spanPlacesCard

/-- THE TIED CARD OF 'blazonlaw07.SpanBacks'. -/
def spanBacksCard : Claim7 := { stood := { row := spanBacksRow, standIns := [], harness := (true, "5b7e8d2231cb4327b03cee12cfed9434284f2b698b9fa8bc80643134b968eb27"), looks := false }, kinds := [], alts := [], laidByText := true, laidKinds := [.sentinel], laidTests := true, laidLooks := .later }
def SpanBacksCardSaid : Prop := Claim7.holds Tryd.pinned (.plain (OpenSpec.ofChange spanBacksSpec)) spanBacksCard

/-- THE TIED CARD OF 'blazonlaw07.SpanNone'. -/
def spanNoneCard : Claim7 := { stood := { row := spanNoneRow, standIns := [], harness := (true, "5b7e8d2231cb4327b03cee12cfed9434284f2b698b9fa8bc80643134b968eb27"), looks := false }, kinds := [], alts := [], laidByText := true, laidKinds := [.sentinel], laidTests := true, laidLooks := .later }
def SpanNoneCardSaid : Prop := Claim7.holds Tryd.pinned (.plain (OpenSpec.ofChange spanNoneSpec)) spanNoneCard

/-- THE TIED CARD OF 'blazonlaw07.SpanSorts'. -/
def spanSortsCard : Claim7 := { stood := { row := spanSortsRow, standIns := [], harness := (true, "5b7e8d2231cb4327b03cee12cfed9434284f2b698b9fa8bc80643134b968eb27"), looks := false }, kinds := [], alts := [], laidByText := true, laidKinds := [.sentinel], laidTests := true, laidLooks := .later }
def SpanSortsCardSaid : Prop := Claim7.holds Tryd.pinned (.plain (OpenSpec.ofChange spanSortsSpec)) spanSortsCard

/-- THE SECOND FORM's CARD OF 'blazonlaw07.SpanApplies'. -/
def spanAppliesUptoCard : Claim7 := { stood := { row := spanAppliesUptoRow, standIns := [], harness := (true, "5b7e8d2231cb4327b03cee12cfed9434284f2b698b9fa8bc80643134b968eb27"), looks := false }, kinds := [], alts := [], laidByText := true, laidKinds := [.sentinel], laidTests := true, laidLooks := .later }
def SpanAppliesUptoCardSaid : Prop := Claim7.holds Tryd.pinned (.plain (OpenSpec.upto spanAppliesSpec)) spanAppliesUptoCard

/-- THE SECOND FORM's CARD OF 'blazonlaw07.SpanPlaces'. -/
def spanPlacesUptoCard : Claim7 := { stood := { row := spanPlacesUptoRow, standIns := [], harness := (true, "5b7e8d2231cb4327b03cee12cfed9434284f2b698b9fa8bc80643134b968eb27"), looks := false }, kinds := [], alts := [], laidByText := true, laidKinds := [.sentinel], laidTests := true, laidLooks := .later }
def SpanPlacesUptoCardSaid : Prop := Claim7.holds Tryd.pinned (.plain (OpenSpec.upto spanPlacesSpec)) spanPlacesUptoCard

/-- THE SECOND FORM's CARD OF 'blazonlaw07.SpanBacks'. -/
def spanBacksUptoCard : Claim7 := { stood := { row := spanBacksUptoRow, standIns := [], harness := (true, "5b7e8d2231cb4327b03cee12cfed9434284f2b698b9fa8bc80643134b968eb27"), looks := false }, kinds := [], alts := [], laidByText := true, laidKinds := [.sentinel], laidTests := true, laidLooks := .later }
def SpanBacksUptoCardSaid : Prop := Claim7.holds Tryd.pinned (.plain (OpenSpec.upto spanBacksSpec)) spanBacksUptoCard

/-- THE SECOND FORM's CARD OF 'blazonlaw07.SpanNone'. -/
def spanNoneUptoCard : Claim7 := { stood := { row := spanNoneUptoRow, standIns := [], harness := (true, "5b7e8d2231cb4327b03cee12cfed9434284f2b698b9fa8bc80643134b968eb27"), looks := false }, kinds := [], alts := [], laidByText := true, laidKinds := [.sentinel], laidTests := true, laidLooks := .later }
def SpanNoneUptoCardSaid : Prop := Claim7.holds Tryd.pinned (.plain (OpenSpec.upto spanNoneSpec)) spanNoneUptoCard

/-- THE SECOND FORM's CARD OF 'blazonlaw07.SpanSorts'. -/
def spanSortsUptoCard : Claim7 := { stood := { row := spanSortsUptoRow, standIns := [], harness := (true, "5b7e8d2231cb4327b03cee12cfed9434284f2b698b9fa8bc80643134b968eb27"), looks := false }, kinds := [], alts := [], laidByText := true, laidKinds := [.sentinel], laidTests := true, laidLooks := .later }
def SpanSortsUptoCardSaid : Prop := Claim7.holds Tryd.pinned (.plain (OpenSpec.upto spanSortsSpec)) spanSortsUptoCard
end Rows
end Go.Proofs.YtggjkebeejpjfaaDoor
