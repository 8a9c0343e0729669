/-
  DERIVED. GIVEN WITH THE SEED: THE CARDS: each row of YtjphpblangeblaaDoorRows.lean that lists a variable, with what it lists TIED to the program's text (the seventh form; the later family's looks); each row that meets fmt, with fmt's text TOLD by the authors' own Lean function (tested against real Go, not proved from fmt's source: count such statements apart). THE CARD IS WHAT COUNTS. Prove the row's statement (the work); the ties are given (YtjphpblangeblaaDoorTie.lean); close each card by the builder's one call (the guide's Derived/Test/ToyasCard.lean, 'card_holds'). Laid BY PROGRAM, IN A SANDBOX (cutbox-door.mjs). By AI agents, Wed Nov 11 2026. No macro, syntax, notation, axiom, sorry.
-/
import Derived.Test.YtjphpblangeblaaDoorRows
import GoSem.ClaimSeven
namespace Go.Proofs.YtjphpblangeblaaDoor
namespace Rows

/-- THE TIED CARD OF 'mandolinelaw40.RingOwns'. -/
def ringOwnsCard : Claim7 := { stood := { row := ringOwnsRow, standIns := [], harness := (true, "f25db59162bb2dff9a310e2feadd97d1f849da4a043b31ef728f80208c111928"), looks := false }, kinds := [], alts := [], laidByText := true, laidKinds := [.data, .data, .data], laidTests := true, laidLooks := .later }
def RingOwnsCardSaid : Prop := Claim7.holds Tryd.pinned (.plain (OpenSpec.ofChange ringOwnsSpec)) ringOwnsCard

/-- THE TIED CARD OF 'mandolinelaw40.RingMore'. -/
def ringMoreCard : Claim7 := { stood := { row := ringMoreRow, standIns := [], harness := (true, "f25db59162bb2dff9a310e2feadd97d1f849da4a043b31ef728f80208c111928"), looks := false }, kinds := [], alts := [], laidByText := true, laidKinds := [.data, .data, .data], laidTests := true, laidLooks := .later }
def RingMoreCardSaid : Prop := Claim7.holds Tryd.pinned (.plain (OpenSpec.ofChange ringMoreSpec)) ringMoreCard

/-- THE TIED CARD OF 'mandolinelaw40.RingOrder'. -/
def ringOrderCard : Claim7 := { stood := { row := ringOrderRow, standIns := [], harness := (true, "f25db59162bb2dff9a310e2feadd97d1f849da4a043b31ef728f80208c111928"), looks := false }, kinds := [], alts := [], laidByText := true, laidKinds := [.data, .data, .data], laidTests := true, laidLooks := .later }
def RingOrderCardSaid : Prop := Claim7.holds Tryd.pinned (.plain (OpenSpec.ofChange ringOrderSpec)) ringOrderCard

/-- THE TIED CARD OF 'mandolinelaw40.RingPlays'. -/
def ringPlaysCard : Claim7 := { stood := { row := ringPlaysRow, standIns := [], harness := (true, "f25db59162bb2dff9a310e2feadd97d1f849da4a043b31ef728f80208c111928"), looks := false }, kinds := [], alts := [], laidByText := true, laidKinds := [.data, .data, .data], laidTests := true, laidLooks := .later }
def RingPlaysCardSaid : Prop := Claim7.holds Tryd.pinned (.plain (OpenSpec.ofChange ringPlaysSpec)) ringPlaysCard

/-- THE TIED CARD OF 'mandolinelaw40.RingLess'. -/
def ringLessCard : Claim7 := { stood := { row := ringLessRow, standIns := [], harness := (true, "f25db59162bb2dff9a310e2feadd97d1f849da4a043b31ef728f80208c111928"), looks := false }, kinds := [], alts := [], laidByText := true, laidKinds := [.data, .data, .data], laidTests := true, laidLooks := .later }
def RingLessCardSaid : Prop := Claim7.holds Tryd.pinned (.plain (OpenSpec.ofChange ringLessSpec)) ringLessCard

/-- THE TIED CARD OF 'mandolinelaw40.RingAll'. -/
def ringAllCard : Claim7 := { stood := { row := ringAllRow, standIns := [], harness := (true, "f25db59162bb2dff9a310e2feadd97d1f849da4a043b31ef728f80208c111928"), looks := false }, kinds := [], alts := [], laidByText := true, laidKinds := [.data, .data, .data], laidTests := true, laidLooks := .later }
def RingAllCardSaid : Prop := Claim7.holds Tryd.pinned (.plain (OpenSpec.ofChange ringAllSpec)) ringAllCard

/-- THE SECOND FORM's CARD OF 'mandolinelaw40.RingOwns'. -/
def ringOwnsUptoCard : Claim7 := { stood := { row := ringOwnsUptoRow, standIns := [], harness := (true, "f25db59162bb2dff9a310e2feadd97d1f849da4a043b31ef728f80208c111928"), looks := false }, kinds := [], alts := [], laidByText := true, laidKinds := [.data, .data, .data], laidTests := true, laidLooks := .later }
def RingOwnsUptoCardSaid : Prop := Claim7.holds Tryd.pinned (.plain (OpenSpec.upto ringOwnsSpec)) ringOwnsUptoCard

/-- THE SECOND FORM's CARD OF 'mandolinelaw40.RingMore'. -/
def ringMoreUptoCard : Claim7 := { stood := { row := ringMoreUptoRow, standIns := [], harness := (true, "f25db59162bb2dff9a310e2feadd97d1f849da4a043b31ef728f80208c111928"), looks := false }, kinds := [], alts := [], laidByText := true, laidKinds := [.data, .data, .data], laidTests := true, laidLooks := .later }
def RingMoreUptoCardSaid : Prop := Claim7.holds Tryd.pinned (.plain (OpenSpec.upto ringMoreSpec)) ringMoreUptoCard

/-- THE SECOND FORM's CARD OF 'mandolinelaw40.RingOrder'. -/
def ringOrderUptoCard : Claim7 := { stood := { row := ringOrderUptoRow, standIns := [], harness := (true, "f25db59162bb2dff9a310e2feadd97d1f849da4a043b31ef728f80208c111928"), looks := false }, kinds := [], alts := [], laidByText := true, laidKinds := [.data, .data, .data], laidTests := true, laidLooks := .later }
def RingOrderUptoCardSaid : Prop := Claim7.holds Tryd.pinned (.plain (OpenSpec.upto ringOrderSpec)) ringOrderUptoCard

/-- THE SECOND FORM's CARD OF 'mandolinelaw40.RingPlays'. -/
def ringPlaysUptoCard : Claim7 := { stood := { row := ringPlaysUptoRow, standIns := [], harness := (true, "f25db59162bb2dff9a310e2feadd97d1f849da4a043b31ef728f80208c111928"), looks := false }, kinds := [], alts := [], laidByText := true, laidKinds := [.data, .data, .data], laidTests := true, laidLooks := .later }
def RingPlaysUptoCardSaid : Prop := Claim7.holds Tryd.pinned (.plain (OpenSpec.upto ringPlaysSpec)) ringPlaysUptoCard

/-- THE SECOND FORM's CARD OF 'mandolinelaw40.RingLess'. -/
def ringLessUptoCard : Claim7 := { stood := { row := ringLessUptoRow, standIns := [], harness := (true, "f25db59162bb2dff9a310e2feadd97d1f849da4a043b31ef728f80208c111928"), looks := false }, kinds := [], alts := [], laidByText := true, laidKinds := [.data, .data, .data], laidTests := true, laidLooks := .later }
def RingLessUptoCardSaid : Prop := Claim7.holds Tryd.pinned (.plain (OpenSpec.upto ringLessSpec)) ringLessUptoCard

/-- THE SECOND FORM's CARD OF 'mandolinelaw40.RingAll'. -/
def ringAllUptoCard : Claim7 := { stood := { row := ringAllUptoRow, standIns := [], harness := (true, "f25db59162bb2dff9a310e2feadd97d1f849da4a043b31ef728f80208c111928"), looks := false }, kinds := [], alts := [], laidByText := true, laidKinds := [.data, .data, .data], laidTests := true, laidLooks := .later }
def RingAllUptoCardSaid : Prop := Claim7.holds Tryd.pinned (.plain (OpenSpec.upto ringAllSpec)) ringAllUptoCard
end Rows
end Go.Proofs.YtjphpblangeblaaDoor
