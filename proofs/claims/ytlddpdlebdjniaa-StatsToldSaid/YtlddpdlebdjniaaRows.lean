/-
  No cell of these rows narrows 'for every input' (looked for: loops, veiled, ifaces, maps, wideKeys, modest, calm, conditions, laid).
  DERIVED. THE GIVEN ROWS OF THIS SEAT. 4 by the template 'for every input the law returns true; each argument reads behind the call as it read before'; 0 by the template 'total and deterministic' (their statements: YtlddpdlebdjniaaTotals.lean).
  GIVEN WITH THE SEED: the statements are not yours to turn. If you find one false, say at which input.
  Laid BY PROGRAM, IN A SANDBOX (cutbox-rows.mjs): the forced cells as the released guide's own fill.sh prints them over the translation a39a860d334ed729… (all of the seat's roots in one cut). By AI agents, Wed Nov 11 2026. No macro, syntax, notation, axiom, sorry.
-/
import Derived.Test.YtlddpdlebdjniaaChecked
import GoSem.Claim
import GoSem.ClaimJoined
import GoSem.ClaimMapViews
import Derived.JoinedTies
import Derived.KernelRfl
namespace Go.Proofs.Ytlddpdlebdjniaa
/- THE CELL 'sum', in the pinned program and in every row, IS THE sha256 OF THE DUMP (.gsa) THAT YtlddpdlebdjniaaProg.lean LOADS. Nothing in Lean hashes anything: it is a label: what it is worth is what the hold of that sum in a sandbox is worth. -/
noncomputable def Try.pinned : Pinned := { name := "ytlddpdlebdjniaa", sum := "a39a860d334ed729ae67e22bc10a59c73035526bf0d98f2855a0cd2d2ef18b5f", checked := Try.checked }
namespace Rows
def none {H : Type} : Left H := { results := [], args := [] }

/-- 'mandolinelaw54.StatsMore': WHATEVER THE INPUT: true; the input reads as it did. -/
def statsMoreSpec : ChangeSpec := { name := "statsMore", fn := fun _ => fun
  | [d1, d2, d3] => { results := [.lit (.bool true)], args := [d1, d2, d3] }
  | _ => none }
def statsMoreRow : OpenClaim := { program := "ytlddpdlebdjniaa", sum := "a39a860d334ed729ae67e22bc10a59c73035526bf0d98f2855a0cd2d2ef18b5f", func := "mandoline/mandolinelaw54.StatsMore", spec := "statsMore", unfollowed := true, recurses := true, plainKeys := false, apart := false }
def StatsMoreSaid : Prop := statsMoreRow.holds Try.pinned (OpenSpec.ofChange statsMoreSpec)

/-- ITS FALSE NEIGHBOUR: 'it returns false'. Refute it at one input. -/
def statsMoreWrong : ChangeSpec := { name := "statsMore", fn := fun _ => fun
  | [d1, d2, d3] => { results := [.lit (.bool false)], args := [d1, d2, d3] }
  | _ => none }
def StatsMoreWrongFalsely : Prop := statsMoreRow.holds Try.pinned (OpenSpec.ofChange statsMoreWrong)

/-- 'mandolinelaw54.StatsAdds': WHATEVER THE INPUT: true; the input reads as it did. -/
def statsAddsSpec : ChangeSpec := { name := "statsAdds", fn := fun _ => fun
  | [d1, d2] => { results := [.lit (.bool true)], args := [d1, d2] }
  | _ => none }
def statsAddsRow : OpenClaim := { program := "ytlddpdlebdjniaa", sum := "a39a860d334ed729ae67e22bc10a59c73035526bf0d98f2855a0cd2d2ef18b5f", func := "mandoline/mandolinelaw54.StatsAdds", spec := "statsAdds", unfollowed := true, recurses := true, plainKeys := false, apart := false }
def StatsAddsSaid : Prop := statsAddsRow.holds Try.pinned (OpenSpec.ofChange statsAddsSpec)

/-- ITS FALSE NEIGHBOUR: 'it returns false'. Refute it at one input. -/
def statsAddsWrong : ChangeSpec := { name := "statsAdds", fn := fun _ => fun
  | [d1, d2] => { results := [.lit (.bool false)], args := [d1, d2] }
  | _ => none }
def StatsAddsWrongFalsely : Prop := statsAddsRow.holds Try.pinned (OpenSpec.ofChange statsAddsWrong)

/-- 'mandolinelaw54.StatsNodes': WHATEVER THE INPUT: true; the input reads as it did. -/
def statsNodesSpec : ChangeSpec := { name := "statsNodes", fn := fun _ => fun
  | [d1, d2] => { results := [.lit (.bool true)], args := [d1, d2] }
  | _ => none }
def statsNodesRow : OpenClaim := { program := "ytlddpdlebdjniaa", sum := "a39a860d334ed729ae67e22bc10a59c73035526bf0d98f2855a0cd2d2ef18b5f", func := "mandoline/mandolinelaw54.StatsNodes", spec := "statsNodes", unfollowed := true, recurses := true, plainKeys := false, apart := false }
def StatsNodesSaid : Prop := statsNodesRow.holds Try.pinned (OpenSpec.ofChange statsNodesSpec)

/-- ITS FALSE NEIGHBOUR: 'it returns false'. Refute it at one input. -/
def statsNodesWrong : ChangeSpec := { name := "statsNodes", fn := fun _ => fun
  | [d1, d2] => { results := [.lit (.bool false)], args := [d1, d2] }
  | _ => none }
def StatsNodesWrongFalsely : Prop := statsNodesRow.holds Try.pinned (OpenSpec.ofChange statsNodesWrong)

/-- 'mandolinelaw54.StatsTold': WHATEVER THE INPUT: true; the input reads as it did. -/
def statsToldSpec : ChangeSpec := { name := "statsTold", fn := fun _ => fun
  | [d] => { results := [.lit (.bool true)], args := [d] }
  | _ => none }
def statsToldRow : OpenClaim := { program := "ytlddpdlebdjniaa", sum := "a39a860d334ed729ae67e22bc10a59c73035526bf0d98f2855a0cd2d2ef18b5f", func := "mandoline/mandolinelaw54.StatsTold", spec := "statsTold", unfollowed := true, recurses := true, plainKeys := false, apart := false }
def StatsToldSaid : Prop := statsToldRow.holds Try.pinned (OpenSpec.ofChange statsToldSpec)

/-- ITS FALSE NEIGHBOUR: 'it returns false'. Refute it at one input. -/
def statsToldWrong : ChangeSpec := { name := "statsTold", fn := fun _ => fun
  | [d] => { results := [.lit (.bool false)], args := [d] }
  | _ => none }
def StatsToldWrongFalsely : Prop := statsToldRow.holds Try.pinned (OpenSpec.ofChange statsToldWrong)

/- THE SECOND FORM. 'bulk': how many values and letters a reading holds, each counted each time it is reached (what is shared counts as often as it is met; a slice's spare places count too). A statement '..UptoSaid' is the law's where the arguments, and the package variables that the reading takes, are together of bulk at most 1048576: NARROWER than '..Said'. Prove '..Said' where nothing that the law and all that it calls make is longer than what came in: it says more and counts as full. Else prove '..UptoSaid'. A law counts once. -/
mutual
def uptoBulk {H : Type} : DataW H → Nat
  | .lit (.string bytes) => bytes.length + 1
  | .lit _ => 1
  | .nil => 1
  | .ptr d => uptoBulk d + 1
  | .slice elems spare => uptoBulkAll elems + uptoBulkAll spare + 1
  | .agg parts => uptoBulkAll parts + 1
  | .iface _ d => uptoBulk d + 1
  | .map entries => uptoBulkEntries entries + 1
  | .held _ => 1
def uptoBulkAll {H : Type} : List (DataW H) → Nat
  | [] => 0
  | d :: r => uptoBulk d + uptoBulkAll r
def uptoBulkEntries {H : Type} : List (Lit × DataW H) → Nat
  | [] => 0
  | x :: r => uptoBulkEntry x + uptoBulkEntries r
def uptoBulkEntry {H : Type} : Lit × DataW H → Nat
  | (.string bytes, d) => bytes.length + uptoBulk d + 1
  | (_, d) => uptoBulk d + 1
 end
def uptoSmall : (H : Type) → List (DataW H) → Bool := fun _ ds => decide (uptoBulkAll ds ≤ 1048576)
def OpenSpec.upto (s : _root_.Go.ChangeSpec) : _root_.Go.OpenSpec := { _root_.Go.OpenSpec.ofChange s with cond := some uptoSmall }

/-- 'mandolinelaw54.StatsMore', WHERE WHAT IT READS IS OF BULK AT MOST 1048576: true; the input reads as it did. -/
def statsMoreUptoRow : OpenClaim := { program := "ytlddpdlebdjniaa", sum := "a39a860d334ed729ae67e22bc10a59c73035526bf0d98f2855a0cd2d2ef18b5f", func := "mandoline/mandolinelaw54.StatsMore", spec := "statsMore", unfollowed := true, recurses := true, plainKeys := false, apart := false, narrowed := true }
def StatsMoreUptoSaid : Prop := statsMoreUptoRow.holds Try.pinned (OpenSpec.upto statsMoreSpec)

/-- 'mandolinelaw54.StatsAdds', WHERE WHAT IT READS IS OF BULK AT MOST 1048576: true; the input reads as it did. -/
def statsAddsUptoRow : OpenClaim := { program := "ytlddpdlebdjniaa", sum := "a39a860d334ed729ae67e22bc10a59c73035526bf0d98f2855a0cd2d2ef18b5f", func := "mandoline/mandolinelaw54.StatsAdds", spec := "statsAdds", unfollowed := true, recurses := true, plainKeys := false, apart := false, narrowed := true }
def StatsAddsUptoSaid : Prop := statsAddsUptoRow.holds Try.pinned (OpenSpec.upto statsAddsSpec)

/-- 'mandolinelaw54.StatsNodes', WHERE WHAT IT READS IS OF BULK AT MOST 1048576: true; the input reads as it did. -/
def statsNodesUptoRow : OpenClaim := { program := "ytlddpdlebdjniaa", sum := "a39a860d334ed729ae67e22bc10a59c73035526bf0d98f2855a0cd2d2ef18b5f", func := "mandoline/mandolinelaw54.StatsNodes", spec := "statsNodes", unfollowed := true, recurses := true, plainKeys := false, apart := false, narrowed := true }
def StatsNodesUptoSaid : Prop := statsNodesUptoRow.holds Try.pinned (OpenSpec.upto statsNodesSpec)

/-- 'mandolinelaw54.StatsTold', WHERE WHAT IT READS IS OF BULK AT MOST 1048576: true; the input reads as it did. -/
def statsToldUptoRow : OpenClaim := { program := "ytlddpdlebdjniaa", sum := "a39a860d334ed729ae67e22bc10a59c73035526bf0d98f2855a0cd2d2ef18b5f", func := "mandoline/mandolinelaw54.StatsTold", spec := "statsTold", unfollowed := true, recurses := true, plainKeys := false, apart := false, narrowed := true }
def StatsToldUptoSaid : Prop := statsToldUptoRow.holds Try.pinned (OpenSpec.upto statsToldSpec)

end Rows
end Go.Proofs.Ytlddpdlebdjniaa
