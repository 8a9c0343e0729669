/-
  No cell of these rows narrows 'for every input' (looked for: loops, veiled, ifaces, maps, wideKeys, modest, calm, conditions, laid).
  DERIVED. THE GIVEN ROWS OF THIS SEAT. 7 by the template 'for every input the law returns true; each argument reads behind the call as it read before'; 0 by the template 'total and deterministic' (their statements: YtpangoddbfiagaaTotals.lean).
  GIVEN WITH THE SEED: the statements are not yours to turn. If you find one false, say at which input.
  Laid BY PROGRAM, IN A SANDBOX (cutbox-rows.mjs): the forced cells as the released guide's own fill.sh prints them over the translation 2ac15807ccbe9dd5… (all of the seat's roots in one cut). By AI agents, Wed Nov 11 2026. No macro, syntax, notation, axiom, sorry.
-/
import Derived.Test.YtpangoddbfiagaaChecked
import GoSem.Claim
import GoSem.ClaimJoined
import GoSem.ClaimMapViews
import Derived.JoinedTies
import Derived.KernelRfl
namespace Go.Proofs.Ytpangoddbfiagaa
/- THE CELL 'sum', in the pinned program and in every row, IS THE sha256 OF THE DUMP (.gsa) THAT YtpangoddbfiagaaProg.lean LOADS. Nothing in Lean hashes anything: it is a label: what it is worth is what the hold of that sum in a sandbox is worth. -/
noncomputable def Try.pinned : Pinned := { name := "ytpangoddbfiagaa", sum := "2ac15807ccbe9dd532760335db2ef09c94d984854a15f0f17435bf10fdb8831e", checked := Try.checked }
namespace Rows
def none {H : Type} : Left H := { results := [], args := [] }

/-- 'mandolinelaw41.OriginBytes': WHATEVER THE INPUT: true; the input reads as it did. -/
def originBytesSpec : ChangeSpec := { name := "originBytes", fn := fun _ => fun
  | [d1, d2, d3] => { results := [.lit (.bool true)], args := [d1, d2, d3] }
  | _ => none }
def originBytesRow : OpenClaim := { program := "ytpangoddbfiagaa", sum := "2ac15807ccbe9dd532760335db2ef09c94d984854a15f0f17435bf10fdb8831e", func := "mandoline/mandolinelaw41.OriginBytes", spec := "originBytes", unfollowed := true, recurses := true, apart := false }
def OriginBytesSaid : Prop := originBytesRow.holds Try.pinned (OpenSpec.ofChange originBytesSpec)

/-- ITS FALSE NEIGHBOUR: 'it returns false'. Refute it at one input. -/
def originBytesWrong : ChangeSpec := { name := "originBytes", fn := fun _ => fun
  | [d1, d2, d3] => { results := [.lit (.bool false)], args := [d1, d2, d3] }
  | _ => none }
def OriginBytesWrongFalsely : Prop := originBytesRow.holds Try.pinned (OpenSpec.ofChange originBytesWrong)

/-- 'mandolinelaw41.OriginGrows': WHATEVER THE INPUT: true; the input reads as it did. -/
def originGrowsSpec : ChangeSpec := { name := "originGrows", fn := fun _ => fun
  | [d1, d2, d3] => { results := [.lit (.bool true)], args := [d1, d2, d3] }
  | _ => none }
def originGrowsRow : OpenClaim := { program := "ytpangoddbfiagaa", sum := "2ac15807ccbe9dd532760335db2ef09c94d984854a15f0f17435bf10fdb8831e", func := "mandoline/mandolinelaw41.OriginGrows", spec := "originGrows", unfollowed := true, recurses := true, apart := false }
def OriginGrowsSaid : Prop := originGrowsRow.holds Try.pinned (OpenSpec.ofChange originGrowsSpec)

/-- ITS FALSE NEIGHBOUR: 'it returns false'. Refute it at one input. -/
def originGrowsWrong : ChangeSpec := { name := "originGrows", fn := fun _ => fun
  | [d1, d2, d3] => { results := [.lit (.bool false)], args := [d1, d2, d3] }
  | _ => none }
def OriginGrowsWrongFalsely : Prop := originGrowsRow.holds Try.pinned (OpenSpec.ofChange originGrowsWrong)

/-- 'mandolinelaw41.OriginSets': WHATEVER THE INPUT: true; the input reads as it did. -/
def originSetsSpec : ChangeSpec := { name := "originSets", fn := fun _ => fun
  | [d] => { results := [.lit (.bool true)], args := [d] }
  | _ => none }
def originSetsRow : OpenClaim := { program := "ytpangoddbfiagaa", sum := "2ac15807ccbe9dd532760335db2ef09c94d984854a15f0f17435bf10fdb8831e", func := "mandoline/mandolinelaw41.OriginSets", spec := "originSets", unfollowed := true, recurses := true, apart := false }
def OriginSetsSaid : Prop := originSetsRow.holds Try.pinned (OpenSpec.ofChange originSetsSpec)

/-- ITS FALSE NEIGHBOUR: 'it returns false'. Refute it at one input. -/
def originSetsWrong : ChangeSpec := { name := "originSets", fn := fun _ => fun
  | [d] => { results := [.lit (.bool false)], args := [d] }
  | _ => none }
def OriginSetsWrongFalsely : Prop := originSetsRow.holds Try.pinned (OpenSpec.ofChange originSetsWrong)

/-- 'mandolinelaw41.OriginAsks': WHATEVER THE INPUT: true; the input reads as it did. -/
def originAsksSpec : ChangeSpec := { name := "originAsks", fn := fun _ => fun
  | [d1, d2] => { results := [.lit (.bool true)], args := [d1, d2] }
  | _ => none }
def originAsksRow : OpenClaim := { program := "ytpangoddbfiagaa", sum := "2ac15807ccbe9dd532760335db2ef09c94d984854a15f0f17435bf10fdb8831e", func := "mandoline/mandolinelaw41.OriginAsks", spec := "originAsks", unfollowed := true, recurses := true, apart := false }
def OriginAsksSaid : Prop := originAsksRow.holds Try.pinned (OpenSpec.ofChange originAsksSpec)

/-- ITS FALSE NEIGHBOUR: 'it returns false'. Refute it at one input. -/
def originAsksWrong : ChangeSpec := { name := "originAsks", fn := fun _ => fun
  | [d1, d2] => { results := [.lit (.bool false)], args := [d1, d2] }
  | _ => none }
def OriginAsksWrongFalsely : Prop := originAsksRow.holds Try.pinned (OpenSpec.ofChange originAsksWrong)

/-- 'mandolinelaw41.OriginStreams': WHATEVER THE INPUT: true; the input reads as it did. -/
def originStreamsSpec : ChangeSpec := { name := "originStreams", fn := fun _ => fun
  | [d] => { results := [.lit (.bool true)], args := [d] }
  | _ => none }
def originStreamsRow : OpenClaim := { program := "ytpangoddbfiagaa", sum := "2ac15807ccbe9dd532760335db2ef09c94d984854a15f0f17435bf10fdb8831e", func := "mandoline/mandolinelaw41.OriginStreams", spec := "originStreams", unfollowed := true, recurses := true, apart := false }
def OriginStreamsSaid : Prop := originStreamsRow.holds Try.pinned (OpenSpec.ofChange originStreamsSpec)

/-- ITS FALSE NEIGHBOUR: 'it returns false'. Refute it at one input. -/
def originStreamsWrong : ChangeSpec := { name := "originStreams", fn := fun _ => fun
  | [d] => { results := [.lit (.bool false)], args := [d] }
  | _ => none }
def OriginStreamsWrongFalsely : Prop := originStreamsRow.holds Try.pinned (OpenSpec.ofChange originStreamsWrong)

/-- 'mandolinelaw41.OriginTags': WHATEVER THE INPUT: true; the input reads as it did. -/
def originTagsSpec : ChangeSpec := { name := "originTags", fn := fun _ => fun
  | [d] => { results := [.lit (.bool true)], args := [d] }
  | _ => none }
def originTagsRow : OpenClaim := { program := "ytpangoddbfiagaa", sum := "2ac15807ccbe9dd532760335db2ef09c94d984854a15f0f17435bf10fdb8831e", func := "mandoline/mandolinelaw41.OriginTags", spec := "originTags", unfollowed := true, recurses := true, apart := false }
def OriginTagsSaid : Prop := originTagsRow.holds Try.pinned (OpenSpec.ofChange originTagsSpec)

/-- ITS FALSE NEIGHBOUR: 'it returns false'. Refute it at one input. -/
def originTagsWrong : ChangeSpec := { name := "originTags", fn := fun _ => fun
  | [d] => { results := [.lit (.bool false)], args := [d] }
  | _ => none }
def OriginTagsWrongFalsely : Prop := originTagsRow.holds Try.pinned (OpenSpec.ofChange originTagsWrong)

/-- 'mandolinelaw41.OriginRefused': WHATEVER THE INPUT: true; the input reads as it did. -/
def originRefusedSpec : ChangeSpec := { name := "originRefused", fn := fun _ => fun
  | [d1, d2] => { results := [.lit (.bool true)], args := [d1, d2] }
  | _ => none }
def originRefusedRow : OpenClaim := { program := "ytpangoddbfiagaa", sum := "2ac15807ccbe9dd532760335db2ef09c94d984854a15f0f17435bf10fdb8831e", func := "mandoline/mandolinelaw41.OriginRefused", spec := "originRefused", unfollowed := true, recurses := true, apart := false }
def OriginRefusedSaid : Prop := originRefusedRow.holds Try.pinned (OpenSpec.ofChange originRefusedSpec)

/-- ITS FALSE NEIGHBOUR: 'it returns false'. Refute it at one input. -/
def originRefusedWrong : ChangeSpec := { name := "originRefused", fn := fun _ => fun
  | [d1, d2] => { results := [.lit (.bool false)], args := [d1, d2] }
  | _ => none }
def OriginRefusedWrongFalsely : Prop := originRefusedRow.holds Try.pinned (OpenSpec.ofChange originRefusedWrong)

/- THE SECOND FORM. 'bulk': how many values and letters a reading holds, each counted each time it is reached (what is shared counts as often as it is met; a slice's spare places count too). A statement '..UptoSaid' is the law's where the arguments, and the package variables that the reading takes, are together of bulk at most 1048576: NARROWER than '..Said'. Prove '..Said' where nothing that the law and all that it calls make is longer than what came in: it says more and counts as full. Else prove '..UptoSaid'. A law counts once. -/
mutual
def uptoBulk {H : Type} : DataW H → Nat
  | .lit (.string bytes) => bytes.length + 1
  | .lit _ => 1
  | .nil => 1
  | .ptr d => uptoBulk d + 1
  | .slice elems spare => uptoBulkAll elems + uptoBulkAll spare + 1
  | .agg parts => uptoBulkAll parts + 1
  | .iface _ d => uptoBulk d + 1
  | .map entries => uptoBulkEntries entries + 1
  | .held _ => 1
def uptoBulkAll {H : Type} : List (DataW H) → Nat
  | [] => 0
  | d :: r => uptoBulk d + uptoBulkAll r
def uptoBulkEntries {H : Type} : List (Lit × DataW H) → Nat
  | [] => 0
  | x :: r => uptoBulkEntry x + uptoBulkEntries r
def uptoBulkEntry {H : Type} : Lit × DataW H → Nat
  | (.string bytes, d) => bytes.length + uptoBulk d + 1
  | (_, d) => uptoBulk d + 1
 end
def uptoSmall : (H : Type) → List (DataW H) → Bool := fun _ ds => decide (uptoBulkAll ds ≤ 1048576)
def OpenSpec.upto (s : _root_.Go.ChangeSpec) : _root_.Go.OpenSpec := { _root_.Go.OpenSpec.ofChange s with cond := some uptoSmall }

/-- 'mandolinelaw41.OriginBytes', WHERE WHAT IT READS IS OF BULK AT MOST 1048576: true; the input reads as it did. -/
def originBytesUptoRow : OpenClaim := { program := "ytpangoddbfiagaa", sum := "2ac15807ccbe9dd532760335db2ef09c94d984854a15f0f17435bf10fdb8831e", func := "mandoline/mandolinelaw41.OriginBytes", spec := "originBytes", unfollowed := true, recurses := true, apart := false, narrowed := true }
def OriginBytesUptoSaid : Prop := originBytesUptoRow.holds Try.pinned (OpenSpec.upto originBytesSpec)

/-- 'mandolinelaw41.OriginGrows', WHERE WHAT IT READS IS OF BULK AT MOST 1048576: true; the input reads as it did. -/
def originGrowsUptoRow : OpenClaim := { program := "ytpangoddbfiagaa", sum := "2ac15807ccbe9dd532760335db2ef09c94d984854a15f0f17435bf10fdb8831e", func := "mandoline/mandolinelaw41.OriginGrows", spec := "originGrows", unfollowed := true, recurses := true, apart := false, narrowed := true }
def OriginGrowsUptoSaid : Prop := originGrowsUptoRow.holds Try.pinned (OpenSpec.upto originGrowsSpec)

/-- 'mandolinelaw41.OriginSets', WHERE WHAT IT READS IS OF BULK AT MOST 1048576: true; the input reads as it did. -/
def originSetsUptoRow : OpenClaim := { program := "ytpangoddbfiagaa", sum := "2ac15807ccbe9dd532760335db2ef09c94d984854a15f0f17435bf10fdb8831e", func := "mandoline/mandolinelaw41.OriginSets", spec := "originSets", unfollowed := true, recurses := true, apart := false, narrowed := true }
def OriginSetsUptoSaid : Prop := originSetsUptoRow.holds Try.pinned (OpenSpec.upto originSetsSpec)

/-- 'mandolinelaw41.OriginAsks', WHERE WHAT IT READS IS OF BULK AT MOST 1048576: true; the input reads as it did. -/
def originAsksUptoRow : OpenClaim := { program := "ytpangoddbfiagaa", sum := "2ac15807ccbe9dd532760335db2ef09c94d984854a15f0f17435bf10fdb8831e", func := "mandoline/mandolinelaw41.OriginAsks", spec := "originAsks", unfollowed := true, recurses := true, apart := false, narrowed := true }
def OriginAsksUptoSaid : Prop := originAsksUptoRow.holds Try.pinned (OpenSpec.upto originAsksSpec)

/-- 'mandolinelaw41.OriginStreams', WHERE WHAT IT READS IS OF BULK AT MOST 1048576: true; the input reads as it did. -/
def originStreamsUptoRow : OpenClaim := { program := "ytpangoddbfiagaa", sum := "2ac15807ccbe9dd532760335db2ef09c94d984854a15f0f17435bf10fdb8831e", func := "mandoline/mandolinelaw41.OriginStreams", spec := "originStreams", unfollowed := true, recurses := true, apart := false, narrowed := true }
def OriginStreamsUptoSaid : Prop := originStreamsUptoRow.holds Try.pinned (OpenSpec.upto originStreamsSpec)

/-- 'mandolinelaw41.OriginTags', WHERE WHAT IT READS IS OF BULK AT MOST 1048576: true; the input reads as it did. -/
def originTagsUptoRow : OpenClaim := { program := "ytpangoddbfiagaa", sum := "2ac15807ccbe9dd532760335db2ef09c94d984854a15f0f17435bf10fdb8831e", func := "mandoline/mandolinelaw41.OriginTags", spec := "originTags", unfollowed := true, recurses := true, apart := false, narrowed := true }
def OriginTagsUptoSaid : Prop := originTagsUptoRow.holds Try.pinned (OpenSpec.upto originTagsSpec)

/-- 'mandolinelaw41.OriginRefused', WHERE WHAT IT READS IS OF BULK AT MOST 1048576: true; the input reads as it did. -/
def originRefusedUptoRow : OpenClaim := { program := "ytpangoddbfiagaa", sum := "2ac15807ccbe9dd532760335db2ef09c94d984854a15f0f17435bf10fdb8831e", func := "mandoline/mandolinelaw41.OriginRefused", spec := "originRefused", unfollowed := true, recurses := true, apart := false, narrowed := true }
def OriginRefusedUptoSaid : Prop := originRefusedUptoRow.holds Try.pinned (OpenSpec.upto originRefusedSpec)

end Rows
end Go.Proofs.Ytpangoddbfiagaa
