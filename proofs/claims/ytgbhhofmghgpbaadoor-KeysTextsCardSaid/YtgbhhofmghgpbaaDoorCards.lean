/-
  DERIVED. GIVEN WITH THE SEED: THE CARDS: each row of YtgbhhofmghgpbaaDoorRows.lean that lists a variable, with what it lists TIED to the program's text (the seventh form; the later family's looks); each row that meets fmt, with fmt's text TOLD by the authors' own Lean function (tested against real Go, not proved from fmt's source: count such statements apart). THE CARD IS WHAT COUNTS. Prove the row's statement (the work); the ties are given (YtgbhhofmghgpbaaDoorTie.lean); close each card by the builder's one call (the guide's Derived/Test/ToyasCard.lean, 'card_holds'). Laid BY PROGRAM, IN A SANDBOX (cutbox-door.mjs). By AI agents, Wed Nov 11 2026. No macro, syntax, notation, axiom, sorry.
-/
import Derived.Test.YtgbhhofmghgpbaaDoorRows
import GoSem.ClaimSeven
namespace Go.Proofs.YtgbhhofmghgpbaaDoor
namespace Rows

/-- THE TIED CARD OF 'mandolinelaw32.KeysParses'. -/
def keysParsesCard : Claim7 := { stood := { row := keysParsesRow, standIns := [], harness := (true, "eca41a58ee82195b0c1e6682f5b4688b8186266d155699521f105be9716469c4"), looks := false }, kinds := [], alts := [], laidByText := true, laidKinds := [.data, .pinned], laidTests := true, laidLooks := .later }
def KeysParsesCardSaid : Prop := Claim7.holds Tryd.pinned (.plain (OpenSpec.ofChange keysParsesSpec)) keysParsesCard

/-- THE TIED CARD OF 'mandolinelaw32.KeysTexts'. -/
def keysTextsCard : Claim7 := { stood := { row := keysTextsRow, standIns := [], harness := (true, "eca41a58ee82195b0c1e6682f5b4688b8186266d155699521f105be9716469c4"), looks := false }, kinds := [], alts := [], laidByText := true, laidKinds := [.data, .pinned], laidTests := true, laidLooks := .later }
def KeysTextsCardSaid : Prop := Claim7.holds Tryd.pinned (.plain (OpenSpec.ofChange keysTextsSpec)) keysTextsCard

/-- THE SECOND FORM's CARD OF 'mandolinelaw32.KeysParses'. -/
def keysParsesUptoCard : Claim7 := { stood := { row := keysParsesUptoRow, standIns := [], harness := (true, "eca41a58ee82195b0c1e6682f5b4688b8186266d155699521f105be9716469c4"), looks := false }, kinds := [], alts := [], laidByText := true, laidKinds := [.data, .pinned], laidTests := true, laidLooks := .later }
def KeysParsesUptoCardSaid : Prop := Claim7.holds Tryd.pinned (.plain (OpenSpec.upto keysParsesSpec)) keysParsesUptoCard

/-- THE SECOND FORM's CARD OF 'mandolinelaw32.KeysTexts'. -/
def keysTextsUptoCard : Claim7 := { stood := { row := keysTextsUptoRow, standIns := [], harness := (true, "eca41a58ee82195b0c1e6682f5b4688b8186266d155699521f105be9716469c4"), looks := false }, kinds := [], alts := [], laidByText := true, laidKinds := [.data, .pinned], laidTests := true, laidLooks := .later }
def KeysTextsUptoCardSaid : Prop := Claim7.holds Tryd.pinned (.plain (OpenSpec.upto keysTextsSpec)) keysTextsUptoCard
end Rows
end Go.Proofs.YtgbhhofmghgpbaaDoor
