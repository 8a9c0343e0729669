/-
  No cell of these rows narrows 'for every input' (looked for: loops, veiled, ifaces, maps, wideKeys, modest, calm, conditions, laid).
  DERIVED. THE GIVEN ROWS OF THIS SEAT. 6 by the template 'for every input the law returns true; each argument reads behind the call as it read before'; 0 by the template 'total and deterministic' (their statements: YtjcpmfioppopcaaTotals.lean).
  GIVEN WITH THE SEED: the statements are not yours to turn. If you find one false, say at which input.
  Laid BY PROGRAM, IN A SANDBOX (cutbox-rows.mjs): the forced cells as the released guide's own fill.sh prints them over the translation e1d4b9fa84d64cee… (all of the seat's roots in one cut). By AI agents, Wed Nov 11 2026. No macro, syntax, notation, axiom, sorry.
-/
import Derived.Test.YtjcpmfioppopcaaChecked
import GoSem.Claim
import GoSem.ClaimJoined
import GoSem.ClaimMapViews
import Derived.JoinedTies
import Derived.KernelRfl
namespace Go.Proofs.Ytjcpmfioppopcaa
/- THE CELL 'sum', in the pinned program and in every row, IS THE sha256 OF THE DUMP (.gsa) THAT YtjcpmfioppopcaaProg.lean LOADS. Nothing in Lean hashes anything: it is a label: what it is worth is what the hold of that sum in a sandbox is worth. -/
noncomputable def Try.pinned : Pinned := { name := "ytjcpmfioppopcaa", sum := "e1d4b9fa84d64ceeb710e4bd4c09b0d7d059eb8de0ced31623b41f3af4d7e3b1", checked := Try.checked }
namespace Rows
def none {H : Type} : Left H := { results := [], args := [] }

/-- 'mandolinelaw30.BudgetMakes': WHATEVER THE INPUT: true; the input reads as it did. -/
def budgetMakesSpec : ChangeSpec := { name := "budgetMakes", fn := fun _ => fun
  | [d1, d2, d3] => { results := [.lit (.bool true)], args := [d1, d2, d3] }
  | _ => none }
def budgetMakesRow : OpenClaim := { program := "ytjcpmfioppopcaa", sum := "e1d4b9fa84d64ceeb710e4bd4c09b0d7d059eb8de0ced31623b41f3af4d7e3b1", func := "mandoline/mandolinelaw30.BudgetMakes", spec := "budgetMakes", unfollowed := true, recurses := true, apart := false }
def BudgetMakesSaid : Prop := budgetMakesRow.holds Try.pinned (OpenSpec.ofChange budgetMakesSpec)

/-- ITS FALSE NEIGHBOUR: 'it returns false'. Refute it at one input. -/
def budgetMakesWrong : ChangeSpec := { name := "budgetMakes", fn := fun _ => fun
  | [d1, d2, d3] => { results := [.lit (.bool false)], args := [d1, d2, d3] }
  | _ => none }
def BudgetMakesWrongFalsely : Prop := budgetMakesRow.holds Try.pinned (OpenSpec.ofChange budgetMakesWrong)

/-- 'mandolinelaw30.BudgetPlays': WHATEVER THE INPUT: true; the input reads as it did. -/
def budgetPlaysSpec : ChangeSpec := { name := "budgetPlays", fn := fun _ => fun
  | [d1, d2, d3] => { results := [.lit (.bool true)], args := [d1, d2, d3] }
  | _ => none }
def budgetPlaysRow : OpenClaim := { program := "ytjcpmfioppopcaa", sum := "e1d4b9fa84d64ceeb710e4bd4c09b0d7d059eb8de0ced31623b41f3af4d7e3b1", func := "mandoline/mandolinelaw30.BudgetPlays", spec := "budgetPlays", unfollowed := true, recurses := true, apart := false }
def BudgetPlaysSaid : Prop := budgetPlaysRow.holds Try.pinned (OpenSpec.ofChange budgetPlaysSpec)

/-- ITS FALSE NEIGHBOUR: 'it returns false'. Refute it at one input. -/
def budgetPlaysWrong : ChangeSpec := { name := "budgetPlays", fn := fun _ => fun
  | [d1, d2, d3] => { results := [.lit (.bool false)], args := [d1, d2, d3] }
  | _ => none }
def BudgetPlaysWrongFalsely : Prop := budgetPlaysRow.holds Try.pinned (OpenSpec.ofChange budgetPlaysWrong)

/-- 'mandolinelaw30.BudgetHolds': WHATEVER THE INPUT: true; the input reads as it did. -/
def budgetHoldsSpec : ChangeSpec := { name := "budgetHolds", fn := fun _ => fun
  | [d1, d2] => { results := [.lit (.bool true)], args := [d1, d2] }
  | _ => none }
def budgetHoldsRow : OpenClaim := { program := "ytjcpmfioppopcaa", sum := "e1d4b9fa84d64ceeb710e4bd4c09b0d7d059eb8de0ced31623b41f3af4d7e3b1", func := "mandoline/mandolinelaw30.BudgetHolds", spec := "budgetHolds", unfollowed := true, recurses := true, apart := false }
def BudgetHoldsSaid : Prop := budgetHoldsRow.holds Try.pinned (OpenSpec.ofChange budgetHoldsSpec)

/-- ITS FALSE NEIGHBOUR: 'it returns false'. Refute it at one input. -/
def budgetHoldsWrong : ChangeSpec := { name := "budgetHolds", fn := fun _ => fun
  | [d1, d2] => { results := [.lit (.bool false)], args := [d1, d2] }
  | _ => none }
def BudgetHoldsWrongFalsely : Prop := budgetHoldsRow.holds Try.pinned (OpenSpec.ofChange budgetHoldsWrong)

/-- 'mandolinelaw30.BudgetBack': WHATEVER THE INPUT: true; the input reads as it did. -/
def budgetBackSpec : ChangeSpec := { name := "budgetBack", fn := fun _ => fun
  | [d1, d2, d3] => { results := [.lit (.bool true)], args := [d1, d2, d3] }
  | _ => none }
def budgetBackRow : OpenClaim := { program := "ytjcpmfioppopcaa", sum := "e1d4b9fa84d64ceeb710e4bd4c09b0d7d059eb8de0ced31623b41f3af4d7e3b1", func := "mandoline/mandolinelaw30.BudgetBack", spec := "budgetBack", unfollowed := true, recurses := true, apart := false }
def BudgetBackSaid : Prop := budgetBackRow.holds Try.pinned (OpenSpec.ofChange budgetBackSpec)

/-- ITS FALSE NEIGHBOUR: 'it returns false'. Refute it at one input. -/
def budgetBackWrong : ChangeSpec := { name := "budgetBack", fn := fun _ => fun
  | [d1, d2, d3] => { results := [.lit (.bool false)], args := [d1, d2, d3] }
  | _ => none }
def BudgetBackWrongFalsely : Prop := budgetBackRow.holds Try.pinned (OpenSpec.ofChange budgetBackWrong)

/-- 'mandolinelaw30.BudgetOver': WHATEVER THE INPUT: true; the input reads as it did. -/
def budgetOverSpec : ChangeSpec := { name := "budgetOver", fn := fun _ => fun
  | [d1, d2, d3] => { results := [.lit (.bool true)], args := [d1, d2, d3] }
  | _ => none }
def budgetOverRow : OpenClaim := { program := "ytjcpmfioppopcaa", sum := "e1d4b9fa84d64ceeb710e4bd4c09b0d7d059eb8de0ced31623b41f3af4d7e3b1", func := "mandoline/mandolinelaw30.BudgetOver", spec := "budgetOver", unfollowed := true, recurses := true, apart := false }
def BudgetOverSaid : Prop := budgetOverRow.holds Try.pinned (OpenSpec.ofChange budgetOverSpec)

/-- ITS FALSE NEIGHBOUR: 'it returns false'. Refute it at one input. -/
def budgetOverWrong : ChangeSpec := { name := "budgetOver", fn := fun _ => fun
  | [d1, d2, d3] => { results := [.lit (.bool false)], args := [d1, d2, d3] }
  | _ => none }
def BudgetOverWrongFalsely : Prop := budgetOverRow.holds Try.pinned (OpenSpec.ofChange budgetOverWrong)

/-- 'mandolinelaw30.BudgetNil': WHATEVER THE INPUT: true; the input reads as it did. -/
def budgetNilSpec : ChangeSpec := { name := "budgetNil", fn := fun _ => fun
  | [d1, d2] => { results := [.lit (.bool true)], args := [d1, d2] }
  | _ => none }
def budgetNilRow : OpenClaim := { program := "ytjcpmfioppopcaa", sum := "e1d4b9fa84d64ceeb710e4bd4c09b0d7d059eb8de0ced31623b41f3af4d7e3b1", func := "mandoline/mandolinelaw30.BudgetNil", spec := "budgetNil", unfollowed := true, recurses := true, apart := false }
def BudgetNilSaid : Prop := budgetNilRow.holds Try.pinned (OpenSpec.ofChange budgetNilSpec)

/-- ITS FALSE NEIGHBOUR: 'it returns false'. Refute it at one input. -/
def budgetNilWrong : ChangeSpec := { name := "budgetNil", fn := fun _ => fun
  | [d1, d2] => { results := [.lit (.bool false)], args := [d1, d2] }
  | _ => none }
def BudgetNilWrongFalsely : Prop := budgetNilRow.holds Try.pinned (OpenSpec.ofChange budgetNilWrong)

/- THE SECOND FORM. 'bulk': how many values and letters a reading holds, each counted each time it is reached (what is shared counts as often as it is met; a slice's spare places count too). A statement '..UptoSaid' is the law's where the arguments, and the package variables that the reading takes, are together of bulk at most 1048576: NARROWER than '..Said'. Prove '..Said' where nothing that the law and all that it calls make is longer than what came in: it says more and counts as full. Else prove '..UptoSaid'. A law counts once. -/
mutual
def uptoBulk {H : Type} : DataW H → Nat
  | .lit (.string bytes) => bytes.length + 1
  | .lit _ => 1
  | .nil => 1
  | .ptr d => uptoBulk d + 1
  | .slice elems spare => uptoBulkAll elems + uptoBulkAll spare + 1
  | .agg parts => uptoBulkAll parts + 1
  | .iface _ d => uptoBulk d + 1
  | .map entries => uptoBulkEntries entries + 1
  | .held _ => 1
def uptoBulkAll {H : Type} : List (DataW H) → Nat
  | [] => 0
  | d :: r => uptoBulk d + uptoBulkAll r
def uptoBulkEntries {H : Type} : List (Lit × DataW H) → Nat
  | [] => 0
  | x :: r => uptoBulkEntry x + uptoBulkEntries r
def uptoBulkEntry {H : Type} : Lit × DataW H → Nat
  | (.string bytes, d) => bytes.length + uptoBulk d + 1
  | (_, d) => uptoBulk d + 1
 end
def uptoSmall : (H : Type) → List (DataW H) → Bool := fun _ ds => decide (uptoBulkAll ds ≤ 1048576)
def OpenSpec.upto (s : _root_.Go.ChangeSpec) : _root_.Go.OpenSpec := { _root_.Go.OpenSpec.ofChange s with cond := some uptoSmall }

/-- 'mandolinelaw30.BudgetMakes', WHERE WHAT IT READS IS OF BULK AT MOST 1048576: true; the input reads as it did. -/
def budgetMakesUptoRow : OpenClaim := { program := "ytjcpmfioppopcaa", sum := "e1d4b9fa84d64ceeb710e4bd4c09b0d7d059eb8de0ced31623b41f3af4d7e3b1", func := "mandoline/mandolinelaw30.BudgetMakes", spec := "budgetMakes", unfollowed := true, recurses := true, apart := false, narrowed := true }
def BudgetMakesUptoSaid : Prop := budgetMakesUptoRow.holds Try.pinned (OpenSpec.upto budgetMakesSpec)

/-- 'mandolinelaw30.BudgetPlays', WHERE WHAT IT READS IS OF BULK AT MOST 1048576: true; the input reads as it did. -/
def budgetPlaysUptoRow : OpenClaim := { program := "ytjcpmfioppopcaa", sum := "e1d4b9fa84d64ceeb710e4bd4c09b0d7d059eb8de0ced31623b41f3af4d7e3b1", func := "mandoline/mandolinelaw30.BudgetPlays", spec := "budgetPlays", unfollowed := true, recurses := true, apart := false, narrowed := true }
def BudgetPlaysUptoSaid : Prop := budgetPlaysUptoRow.holds Try.pinned (OpenSpec.upto budgetPlaysSpec)

/-- 'mandolinelaw30.BudgetHolds', WHERE WHAT IT READS IS OF BULK AT MOST 1048576: true; the input reads as it did. -/
def budgetHoldsUptoRow : OpenClaim := { program := "ytjcpmfioppopcaa", sum := "e1d4b9fa84d64ceeb710e4bd4c09b0d7d059eb8de0ced31623b41f3af4d7e3b1", func := "mandoline/mandolinelaw30.BudgetHolds", spec := "budgetHolds", unfollowed := true, recurses := true, apart := false, narrowed := true }
def BudgetHoldsUptoSaid : Prop := budgetHoldsUptoRow.holds Try.pinned (OpenSpec.upto budgetHoldsSpec)

/-- 'mandolinelaw30.BudgetBack', WHERE WHAT IT READS IS OF BULK AT MOST 1048576: true; the input reads as it did. -/
def budgetBackUptoRow : OpenClaim := { program := "ytjcpmfioppopcaa", sum := "e1d4b9fa84d64ceeb710e4bd4c09b0d7d059eb8de0ced31623b41f3af4d7e3b1", func := "mandoline/mandolinelaw30.BudgetBack", spec := "budgetBack", unfollowed := true, recurses := true, apart := false, narrowed := true }
def BudgetBackUptoSaid : Prop := budgetBackUptoRow.holds Try.pinned (OpenSpec.upto budgetBackSpec)

/-- 'mandolinelaw30.BudgetOver', WHERE WHAT IT READS IS OF BULK AT MOST 1048576: true; the input reads as it did. -/
def budgetOverUptoRow : OpenClaim := { program := "ytjcpmfioppopcaa", sum := "e1d4b9fa84d64ceeb710e4bd4c09b0d7d059eb8de0ced31623b41f3af4d7e3b1", func := "mandoline/mandolinelaw30.BudgetOver", spec := "budgetOver", unfollowed := true, recurses := true, apart := false, narrowed := true }
def BudgetOverUptoSaid : Prop := budgetOverUptoRow.holds Try.pinned (OpenSpec.upto budgetOverSpec)

/-- 'mandolinelaw30.BudgetNil', WHERE WHAT IT READS IS OF BULK AT MOST 1048576: true; the input reads as it did. -/
def budgetNilUptoRow : OpenClaim := { program := "ytjcpmfioppopcaa", sum := "e1d4b9fa84d64ceeb710e4bd4c09b0d7d059eb8de0ced31623b41f3af4d7e3b1", func := "mandoline/mandolinelaw30.BudgetNil", spec := "budgetNil", unfollowed := true, recurses := true, apart := false, narrowed := true }
def BudgetNilUptoSaid : Prop := budgetNilUptoRow.holds Try.pinned (OpenSpec.upto budgetNilSpec)

end Rows
end Go.Proofs.Ytjcpmfioppopcaa
