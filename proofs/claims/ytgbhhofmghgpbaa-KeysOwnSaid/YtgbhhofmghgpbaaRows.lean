/-
  No cell of these rows narrows 'for every input' (looked for: loops, veiled, ifaces, maps, wideKeys, modest, calm, conditions, laid).
  DERIVED. THE GIVEN ROWS OF THIS SEAT. 4 by the template 'for every input the law returns true; each argument reads behind the call as it read before'; 0 by the template 'total and deterministic' (their statements: YtgbhhofmghgpbaaTotals.lean).
  GIVEN WITH THE SEED: the statements are not yours to turn. If you find one false, say at which input.
  Laid BY PROGRAM, IN A SANDBOX (cutbox-rows.mjs): the forced cells as the released guide's own fill.sh prints them over the translation d845a95e8b831c58… (all of the seat's roots in one cut). By AI agents, Wed Nov 11 2026. No macro, syntax, notation, axiom, sorry.
-/
import Derived.Test.YtgbhhofmghgpbaaChecked
import GoSem.Claim
import GoSem.ClaimJoined
import GoSem.ClaimMapViews
import Derived.JoinedTies
import Derived.KernelRfl
namespace Go.Proofs.Ytgbhhofmghgpbaa
/- THE CELL 'sum', in the pinned program and in every row, IS THE sha256 OF THE DUMP (.gsa) THAT YtgbhhofmghgpbaaProg.lean LOADS. Nothing in Lean hashes anything: it is a label: what it is worth is what the hold of that sum in a sandbox is worth. -/
noncomputable def Try.pinned : Pinned := { name := "ytgbhhofmghgpbaa", sum := "d845a95e8b831c58d5e6620f3c6a2c648f9dcdd3696d11e7e57b48e3065cb54e", checked := Try.checked }
namespace Rows
def none {H : Type} : Left H := { results := [], args := [] }

/-- 'mandolinelaw32.KeysMore': WHATEVER THE INPUT: true; the input reads as it did. -/
def keysMoreSpec : ChangeSpec := { name := "keysMore", fn := fun _ => fun
  | [d1, d2, d3] => { results := [.lit (.bool true)], args := [d1, d2, d3] }
  | _ => none }
def keysMoreRow : OpenClaim := { program := "ytgbhhofmghgpbaa", sum := "d845a95e8b831c58d5e6620f3c6a2c648f9dcdd3696d11e7e57b48e3065cb54e", func := "mandoline/mandolinelaw32.KeysMore", spec := "keysMore", unfollowed := true, recurses := true, apart := false }
def KeysMoreSaid : Prop := keysMoreRow.holds Try.pinned (OpenSpec.ofChange keysMoreSpec)

/-- ITS FALSE NEIGHBOUR: 'it returns false'. Refute it at one input. -/
def keysMoreWrong : ChangeSpec := { name := "keysMore", fn := fun _ => fun
  | [d1, d2, d3] => { results := [.lit (.bool false)], args := [d1, d2, d3] }
  | _ => none }
def KeysMoreWrongFalsely : Prop := keysMoreRow.holds Try.pinned (OpenSpec.ofChange keysMoreWrong)

/-- 'mandolinelaw32.KeysPlays': WHATEVER THE INPUT: true; the input reads as it did. -/
def keysPlaysSpec : ChangeSpec := { name := "keysPlays", fn := fun _ => fun
  | [d] => { results := [.lit (.bool true)], args := [d] }
  | _ => none }
def keysPlaysRow : OpenClaim := { program := "ytgbhhofmghgpbaa", sum := "d845a95e8b831c58d5e6620f3c6a2c648f9dcdd3696d11e7e57b48e3065cb54e", func := "mandoline/mandolinelaw32.KeysPlays", spec := "keysPlays", unfollowed := true, recurses := true, apart := false }
def KeysPlaysSaid : Prop := keysPlaysRow.holds Try.pinned (OpenSpec.ofChange keysPlaysSpec)

/-- ITS FALSE NEIGHBOUR: 'it returns false'. Refute it at one input. -/
def keysPlaysWrong : ChangeSpec := { name := "keysPlays", fn := fun _ => fun
  | [d] => { results := [.lit (.bool false)], args := [d] }
  | _ => none }
def KeysPlaysWrongFalsely : Prop := keysPlaysRow.holds Try.pinned (OpenSpec.ofChange keysPlaysWrong)

/-- 'mandolinelaw32.KeysBoth': WHATEVER THE INPUT: true; the input reads as it did. -/
def keysBothSpec : ChangeSpec := { name := "keysBoth", fn := fun _ => fun
  | [d] => { results := [.lit (.bool true)], args := [d] }
  | _ => none }
def keysBothRow : OpenClaim := { program := "ytgbhhofmghgpbaa", sum := "d845a95e8b831c58d5e6620f3c6a2c648f9dcdd3696d11e7e57b48e3065cb54e", func := "mandoline/mandolinelaw32.KeysBoth", spec := "keysBoth", unfollowed := true, recurses := true, apart := false }
def KeysBothSaid : Prop := keysBothRow.holds Try.pinned (OpenSpec.ofChange keysBothSpec)

/-- ITS FALSE NEIGHBOUR: 'it returns false'. Refute it at one input. -/
def keysBothWrong : ChangeSpec := { name := "keysBoth", fn := fun _ => fun
  | [d] => { results := [.lit (.bool false)], args := [d] }
  | _ => none }
def KeysBothWrongFalsely : Prop := keysBothRow.holds Try.pinned (OpenSpec.ofChange keysBothWrong)

/-- 'mandolinelaw32.KeysOwn': WHATEVER THE INPUT: true; the input reads as it did. -/
def keysOwnSpec : ChangeSpec := { name := "keysOwn", fn := fun _ => fun
  | [d1, d2] => { results := [.lit (.bool true)], args := [d1, d2] }
  | _ => none }
def keysOwnRow : OpenClaim := { program := "ytgbhhofmghgpbaa", sum := "d845a95e8b831c58d5e6620f3c6a2c648f9dcdd3696d11e7e57b48e3065cb54e", func := "mandoline/mandolinelaw32.KeysOwn", spec := "keysOwn", unfollowed := true, recurses := true, apart := false }
def KeysOwnSaid : Prop := keysOwnRow.holds Try.pinned (OpenSpec.ofChange keysOwnSpec)

/-- ITS FALSE NEIGHBOUR: 'it returns false'. Refute it at one input. -/
def keysOwnWrong : ChangeSpec := { name := "keysOwn", fn := fun _ => fun
  | [d1, d2] => { results := [.lit (.bool false)], args := [d1, d2] }
  | _ => none }
def KeysOwnWrongFalsely : Prop := keysOwnRow.holds Try.pinned (OpenSpec.ofChange keysOwnWrong)

/- THE SECOND FORM. 'bulk': how many values and letters a reading holds, each counted each time it is reached (what is shared counts as often as it is met; a slice's spare places count too). A statement '..UptoSaid' is the law's where the arguments, and the package variables that the reading takes, are together of bulk at most 1048576: NARROWER than '..Said'. Prove '..Said' where nothing that the law and all that it calls make is longer than what came in: it says more and counts as full. Else prove '..UptoSaid'. A law counts once. -/
mutual
def uptoBulk {H : Type} : DataW H → Nat
  | .lit (.string bytes) => bytes.length + 1
  | .lit _ => 1
  | .nil => 1
  | .ptr d => uptoBulk d + 1
  | .slice elems spare => uptoBulkAll elems + uptoBulkAll spare + 1
  | .agg parts => uptoBulkAll parts + 1
  | .iface _ d => uptoBulk d + 1
  | .map entries => uptoBulkEntries entries + 1
  | .held _ => 1
def uptoBulkAll {H : Type} : List (DataW H) → Nat
  | [] => 0
  | d :: r => uptoBulk d + uptoBulkAll r
def uptoBulkEntries {H : Type} : List (Lit × DataW H) → Nat
  | [] => 0
  | x :: r => uptoBulkEntry x + uptoBulkEntries r
def uptoBulkEntry {H : Type} : Lit × DataW H → Nat
  | (.string bytes, d) => bytes.length + uptoBulk d + 1
  | (_, d) => uptoBulk d + 1
 end
def uptoSmall : (H : Type) → List (DataW H) → Bool := fun _ ds => decide (uptoBulkAll ds ≤ 1048576)
def OpenSpec.upto (s : _root_.Go.ChangeSpec) : _root_.Go.OpenSpec := { _root_.Go.OpenSpec.ofChange s with cond := some uptoSmall }

/-- 'mandolinelaw32.KeysMore', WHERE WHAT IT READS IS OF BULK AT MOST 1048576: true; the input reads as it did. -/
def keysMoreUptoRow : OpenClaim := { program := "ytgbhhofmghgpbaa", sum := "d845a95e8b831c58d5e6620f3c6a2c648f9dcdd3696d11e7e57b48e3065cb54e", func := "mandoline/mandolinelaw32.KeysMore", spec := "keysMore", unfollowed := true, recurses := true, apart := false, narrowed := true }
def KeysMoreUptoSaid : Prop := keysMoreUptoRow.holds Try.pinned (OpenSpec.upto keysMoreSpec)

/-- 'mandolinelaw32.KeysPlays', WHERE WHAT IT READS IS OF BULK AT MOST 1048576: true; the input reads as it did. -/
def keysPlaysUptoRow : OpenClaim := { program := "ytgbhhofmghgpbaa", sum := "d845a95e8b831c58d5e6620f3c6a2c648f9dcdd3696d11e7e57b48e3065cb54e", func := "mandoline/mandolinelaw32.KeysPlays", spec := "keysPlays", unfollowed := true, recurses := true, apart := false, narrowed := true }
def KeysPlaysUptoSaid : Prop := keysPlaysUptoRow.holds Try.pinned (OpenSpec.upto keysPlaysSpec)

/-- 'mandolinelaw32.KeysBoth', WHERE WHAT IT READS IS OF BULK AT MOST 1048576: true; the input reads as it did. -/
def keysBothUptoRow : OpenClaim := { program := "ytgbhhofmghgpbaa", sum := "d845a95e8b831c58d5e6620f3c6a2c648f9dcdd3696d11e7e57b48e3065cb54e", func := "mandoline/mandolinelaw32.KeysBoth", spec := "keysBoth", unfollowed := true, recurses := true, apart := false, narrowed := true }
def KeysBothUptoSaid : Prop := keysBothUptoRow.holds Try.pinned (OpenSpec.upto keysBothSpec)

/-- 'mandolinelaw32.KeysOwn', WHERE WHAT IT READS IS OF BULK AT MOST 1048576: true; the input reads as it did. -/
def keysOwnUptoRow : OpenClaim := { program := "ytgbhhofmghgpbaa", sum := "d845a95e8b831c58d5e6620f3c6a2c648f9dcdd3696d11e7e57b48e3065cb54e", func := "mandoline/mandolinelaw32.KeysOwn", spec := "keysOwn", unfollowed := true, recurses := true, apart := false, narrowed := true }
def KeysOwnUptoSaid : Prop := keysOwnUptoRow.holds Try.pinned (OpenSpec.upto keysOwnSpec)

end Rows
end Go.Proofs.Ytgbhhofmghgpbaa
