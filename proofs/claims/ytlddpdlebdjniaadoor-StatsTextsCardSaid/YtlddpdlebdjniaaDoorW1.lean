/- The example's slice literal. -/
import Derived.Test.YtlddpdlebdjniaaDoorWakes0
import Derived.Great.BuildSlice
namespace Go.Proofs.YtlddpdlebdjniaaDoor
set_option linter.unusedSimpArgs false
open Go.RowKit Go.Maps Go.ChangeMaps Go.Sort Go.Shelf
set_option linter.unusedVariables false
theorem info46 : (Tryd.prog.info? 53).map (fun i => (i.zero, i.size, i.bytes)) = some (some (.agg Z46), 57, ((Tryd.prog.info? 53).map (·.bytes)).getD 0) := by kernel_rfl
/-- Seven events as a slice literal. -/
theorem wpList_build7 {ops : Array Oper} {rest : List Oper} {o : Oper} {a : Act} {w : World} {Q : Exit → Act → World → Prop} (hg : o.guard = none) (p0 p1 p2 p3 p4 p5 p6 : Operand) (ho : o.op = .buildSlice 54 7 #[(0, p0), (1, p1), (2, p2), (3, p3), (4, p4), (5, p5), (6, p6)])
    (l0 l1 l2 l3 l4 l5 l6 : List Value) (h0 : a.eval p0 = .agg l0.toArray) (h1 : a.eval p1 = .agg l1.toArray) (h2 : a.eval p2 = .agg l2.toArray) (h3 : a.eval p3 = .agg l3.toArray) (h4 : a.eval p4 = .agg l4.toArray) (h5 : a.eval p5 = .agg l5.toArray) (h6 : a.eval p6 = .agg l6.toArray)
    (hl : ∀ l ∈ [l0, l1, l2, l3, l4, l5, l6], l.length = 57) (N : Nat) (hN : w.heap.size = N)
    (h : wpList Tryd.prog ops Q rest (a.put o.dst (.slice (some ⟨N, 0, none⟩) 7 7)) (w.alloc (.cells [l0, l1, l2, l3, l4, l5, l6].flatten.toArray 53))) : wpList Tryd.prog ops Q (o :: rest) a w := by
  subst hN
  obtain ⟨i46, hi, hz, hs, _⟩ := info_parts info46
  refine wpList_buildSlice hg 54 53 7 _ ho _ i46 (.agg Z46) Tryd.underlying54 hi hz (by rw [hs]; decide) (by rw [hs]; decide) ?_ h
  rw [hs]
  have hp : (#[(0, p0), (1, p1), (2, p2), (3, p3), (4, p4), (5, p5), (6, p6)].map fun (x : Nat × Operand) => (x.1, a.eval x.2)).toList = (([.agg l0.toArray, .agg l1.toArray, .agg l2.toArray, .agg l3.toArray, .agg l4.toArray, .agg l5.toArray, .agg l6.toArray] : List Value).zipIdx 0).map fun x => (x.2, x.1) := by
    simp [h0, h1, h2, h3, h4, h5, h6]
  have := Great.fill_whole (s := 57) (by decide) [.agg l0.toArray, .agg l1.toArray, .agg l2.toArray, .agg l3.toArray, .agg l4.toArray, .agg l5.toArray, .agg l6.toArray] ((Array.range (7 * 57)).map ((Value.agg Z46).cells[· % (Value.agg Z46).cells.size]!)) (by
    intro v hv
    simp at hv
    rcases hv with rfl | rfl | rfl | rfl | rfl | rfl | rfl <;> simp [Value.cells] <;> exact hl _ (by simp)) (by simp)
  have e : ([.agg l0.toArray, .agg l1.toArray, .agg l2.toArray, .agg l3.toArray, .agg l4.toArray, .agg l5.toArray, .agg l6.toArray] : List Value).flatMap (fun v => v.cells.toList) = [l0, l1, l2, l3, l4, l5, l6].flatten := by simp [Value.cells]
  rw [e] at this
  have hp2 : (Array.map (fun (x : Nat × Operand) => match x with | (i, x) => (i, a.eval x)) #[(0, p0), (1, p1), (2, p2), (3, p3), (4, p4), (5, p5), (6, p6)]).toList = (([.agg l0.toArray, .agg l1.toArray, .agg l2.toArray, .agg l3.toArray, .agg l4.toArray, .agg l5.toArray, .agg l6.toArray] : List Value).zipIdx 0).map fun x => (x.2, x.1) := hp
  rw [hp2]
  exact this
end Go.Proofs.YtlddpdlebdjniaaDoor
