/-
  DERIVED. GIVEN WITH THE SEED: THE CARDS: each row of YtlddpdlebdjniaaDoorRows.lean that lists a variable, with what it lists TIED to the program's text (the seventh form; the later family's looks); each row that meets fmt, with fmt's text TOLD by the authors' own Lean function (tested against real Go, not proved from fmt's source: count such statements apart). THE CARD IS WHAT COUNTS. Prove the row's statement (the work); the ties are given (YtlddpdlebdjniaaDoorTie.lean); close each card by the builder's one call (the guide's Derived/Test/ToyasCard.lean, 'card_holds'). Laid BY PROGRAM, IN A SANDBOX (cutbox-door.mjs). By AI agents, Wed Nov 11 2026. No macro, syntax, notation, axiom, sorry.
-/
import Derived.Test.YtlddpdlebdjniaaDoorRows
import GoSem.ClaimSeven
namespace Go.Proofs.YtlddpdlebdjniaaDoor
namespace Rows

/-- THE TIED CARD OF 'mandolinelaw54.StatsTexts'. -/
def statsTextsCard : Claim7 := { stood := { row := statsTextsRow, standIns := [], harness := (true, "fc40d27769e305b9b5ca0f76c1fbc36678f0963b557793325eabeb545bfa39fe"), looks := false }, kinds := [], alts := [], laidByText := true, laidKinds := [.data, .data, .data], laidTests := true, laidLooks := .later }
def StatsTextsCardSaid : Prop := Claim7.holds Tryd.pinned (.plain (OpenSpec.ofChange statsTextsSpec)) statsTextsCard

/-- THE SECOND FORM's CARD OF 'mandolinelaw54.StatsTexts'. -/
def statsTextsUptoCard : Claim7 := { stood := { row := statsTextsUptoRow, standIns := [], harness := (true, "fc40d27769e305b9b5ca0f76c1fbc36678f0963b557793325eabeb545bfa39fe"), looks := false }, kinds := [], alts := [], laidByText := true, laidKinds := [.data, .data, .data], laidTests := true, laidLooks := .later }
def StatsTextsUptoCardSaid : Prop := Claim7.holds Tryd.pinned (.plain (OpenSpec.upto statsTextsSpec)) statsTextsUptoCard
end Rows
end Go.Proofs.YtlddpdlebdjniaaDoor
