/- Sums: of, back, Add and the reference's Add, walked (printed by gen_sums.py). -/
import Derived.Test.YtlddpdlebdjniaaDoorProg
import Derived.Test.YtlddpdlebdjniaaDoorKit
import Derived.Test.YtlddpdlebdjniaaDoorSeg
import Derived.Test.YtlddpdlebdjniaaDoorSegR
import Derived.WalkKit
import Derived.WalkSpells
import Derived.WalkLawsBesides
import Derived.Deep.QuietTactic
import Derived.BigQuiet
import Derived.BigRegion
import Derived.Lib.Hide
import Derived.Laws.Rows
namespace Go.Proofs.YtlddpdlebdjniaaDoor
set_option linter.unusedSimpArgs false
open Go.RowKit
set_option linter.unusedVariables false

theorem alloc_ext (W : World) (o : Obj) : Ext W (W.alloc o) := Ext.alloc (Ext.refl _) _
theorem heap_alloc3_new (w : World) (A B C : Obj) : (((w.alloc A).alloc B).alloc C).heap[w.heap.size + 2]? = some C := by
  have h := heap_alloc2_new (w.alloc A) B C
  have e : (w.alloc A).heap.size = w.heap.size + 1 := by simp
  rw [e] at h; exact h
set_option maxRecDepth 100000 in
set_option maxHeartbeats 2000000 in
theorem of_any (a0 a1 a2 a3 a4 a5 a6 a7 a8 a9 a10 a11 : Int) (w : World) : Calls Tryd.prog 6 #[.agg #[.int .i64 a0, .int .i64 a1, .int .i64 a2, .int .i64 a3, .int .i64 a4, .int .i64 a5, .int .i64 a6, .int .i64 a7, .int .i64 a8, .int .i64 a9, .int .i64 a10, .int .i64 a11]] w fun e w' => e = .returned (.agg #[.int .i64 a0, .int .i64 a1, .int .i64 a2, .int .i64 a3, .int .i64 a4, .int .i64 a5, .int .i64 a6, .int .i64 a7, .int .i64 a8, .int .i64 a9, .int .i64 a10, .int .i64 a11]) ∧ Ext w w' := by
  go_enter Tryd.func6, Tryd.ntmps6
  go_wp2
  exact bodyPost_ret (results_cell_row rfl _ _ (w.heap.size + 1) 26 _ (0, 0) _ rfl (heap_alloc2_new w _ _) Tryd.underlying26 rfl (by kernel_rfl)) rfl ⟨rfl, (alloc_ext _ _).trans (alloc_ext _ _)⟩
end Go.Proofs.YtlddpdlebdjniaaDoor
