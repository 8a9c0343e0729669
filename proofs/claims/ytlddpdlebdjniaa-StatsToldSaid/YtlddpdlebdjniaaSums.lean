/- Sums: of, back, Add and the reference's Add, walked (printed by gen_sums.py). -/
import Derived.Test.YtlddpdlebdjniaaProg
import Derived.Test.YtlddpdlebdjniaaKit
import Derived.Test.YtlddpdlebdjniaaSeg
import Derived.Test.YtlddpdlebdjniaaSegR
import Derived.WalkKit
import Derived.WalkSpells
import Derived.WalkLawsBesides
import Derived.Deep.QuietTactic
import Derived.BigQuiet
import Derived.BigRegion
import Derived.Lib.Hide
import Derived.Laws.Rows
namespace Go.Proofs.Ytlddpdlebdjniaa
open Go.RowKit
set_option linter.unusedVariables false

theorem alloc_ext (W : World) (o : Obj) : Ext W (W.alloc o) := Ext.alloc (Ext.refl _) _
theorem heap_alloc3_new (w : World) (A B C : Obj) : (((w.alloc A).alloc B).alloc C).heap[w.heap.size + 2]? = some C := by
  have h := heap_alloc2_new (w.alloc A) B C
  have e : (w.alloc A).heap.size = w.heap.size + 1 := by simp
  rw [e] at h; exact h
set_option maxRecDepth 100000 in
set_option maxHeartbeats 2000000 in
theorem of_any (a0 a1 a2 a3 a4 a5 a6 a7 a8 a9 a10 a11 : Int) (w : World) : Calls Try.prog 12 #[.agg #[.int .i64 a0, .int .i64 a1, .int .i64 a2, .int .i64 a3, .int .i64 a4, .int .i64 a5, .int .i64 a6, .int .i64 a7, .int .i64 a8, .int .i64 a9, .int .i64 a10, .int .i64 a11]] w fun e w' => e = .returned (.agg #[.int .i64 a0, .int .i64 a1, .int .i64 a2, .int .i64 a3, .int .i64 a4, .int .i64 a5, .int .i64 a6, .int .i64 a7, .int .i64 a8, .int .i64 a9, .int .i64 a10, .int .i64 a11]) ∧ Ext w w' := by
  go_enter Try.func12, Try.ntmps12
  go_wp2
  exact bodyPost_ret (results_cell_row rfl _ _ (w.heap.size + 1) 50 _ (0, 0) _ rfl (heap_alloc2_new w _ _) Try.underlying50 rfl (by kernel_rfl)) rfl ⟨rfl, (alloc_ext _ _).trans (alloc_ext _ _)⟩
set_option maxRecDepth 100000 in
set_option maxHeartbeats 2000000 in
theorem back_any (a0 a1 a2 a3 a4 a5 a6 a7 a8 a9 a10 a11 : Int) (w : World) : Calls Try.prog 10 #[.agg #[.int .i64 a0, .int .i64 a1, .int .i64 a2, .int .i64 a3, .int .i64 a4, .int .i64 a5, .int .i64 a6, .int .i64 a7, .int .i64 a8, .int .i64 a9, .int .i64 a10, .int .i64 a11]] w fun e w' => e = .returned (.agg #[.int .i64 a0, .int .i64 a1, .int .i64 a2, .int .i64 a3, .int .i64 a4, .int .i64 a5, .int .i64 a6, .int .i64 a7, .int .i64 a8, .int .i64 a9, .int .i64 a10, .int .i64 a11]) ∧ Ext w w' := by
  go_enter Try.func10, Try.ntmps10
  go_wp2
  exact bodyPost_ret (results_cell_row rfl _ _ (w.heap.size + 1) 53 _ (0, 0) _ rfl (heap_alloc2_new w _ _) Try.underlying53 rfl (by kernel_rfl)) rfl ⟨rfl, (alloc_ext _ _).trans (alloc_ext _ _)⟩
set_option maxRecDepth 100000 in
set_option maxHeartbeats 4000000 in
theorem add_any (a0 a1 a2 a3 a4 a5 a6 a7 a8 a9 a10 a11 b0 b1 b2 b3 b4 b5 b6 b7 b8 b9 b10 b11 : Int) (w : World) : Calls Try.prog 11 #[.agg #[.int .i64 a0, .int .i64 a1, .int .i64 a2, .int .i64 a3, .int .i64 a4, .int .i64 a5, .int .i64 a6, .int .i64 a7, .int .i64 a8, .int .i64 a9, .int .i64 a10, .int .i64 a11], .agg #[.int .i64 b0, .int .i64 b1, .int .i64 b2, .int .i64 b3, .int .i64 b4, .int .i64 b5, .int .i64 b6, .int .i64 b7, .int .i64 b8, .int .i64 b9, .int .i64 b10, .int .i64 b11]] w fun e w' => e = .returned (.agg #[.int .i64 (wrap64 (a0 + b0)), .int .i64 (wrap64 (a1 + b1)), .int .i64 (wrap64 (a2 + b2)), .int .i64 (wrap64 (a3 + b3)), .int .i64 (wrap64 (a4 + b4)), .int .i64 (wrap64 (a5 + b5)), .int .i64 (wrap64 (a6 + b6)), .int .i64 (wrap64 (a7 + b7)), .int .i64 (wrap64 (a8 + b8)), .int .i64 (wrap64 (a9 + b9)), .int .i64 (wrap64 (a10 + b10)), .int .i64 (wrap64 (a11 + b11))]) ∧ Ext w w' := by
  go_enter Try.func11, Try.ntmps11
  go_wp2
  exact bodyPost_ret (results_cell_row rfl _ _ (w.heap.size + 2) 50 _ (0, 0) _ rfl (heap_alloc3_new w _ _ _) Try.underlying50 rfl (by kernel_rfl)) rfl ⟨rfl, (alloc_ext _ _).trans ((alloc_ext _ _).trans (alloc_ext _ _))⟩
set_option maxRecDepth 100000 in
set_option maxHeartbeats 4000000 in
theorem radd_any (a0 a1 a2 a3 a4 a5 a6 a7 a8 a9 a10 a11 b0 b1 b2 b3 b4 b5 b6 b7 b8 b9 b10 b11 : Int) (w : World) : Calls Try.prog 13 #[.agg #[.int .i64 a0, .int .i64 a1, .int .i64 a2, .int .i64 a3, .int .i64 a4, .int .i64 a5, .int .i64 a6, .int .i64 a7, .int .i64 a8, .int .i64 a9, .int .i64 a10, .int .i64 a11], .agg #[.int .i64 b0, .int .i64 b1, .int .i64 b2, .int .i64 b3, .int .i64 b4, .int .i64 b5, .int .i64 b6, .int .i64 b7, .int .i64 b8, .int .i64 b9, .int .i64 b10, .int .i64 b11]] w fun e w' => e = .returned (.agg #[.int .i64 (wrap64 (a0 + b0)), .int .i64 (wrap64 (a1 + b1)), .int .i64 (wrap64 (a2 + b2)), .int .i64 (wrap64 (a3 + b3)), .int .i64 (wrap64 (a4 + b4)), .int .i64 (wrap64 (a5 + b5)), .int .i64 (wrap64 (a6 + b6)), .int .i64 (wrap64 (a7 + b7)), .int .i64 (wrap64 (a8 + b8)), .int .i64 (wrap64 (a9 + b9)), .int .i64 (wrap64 (a10 + b10)), .int .i64 (wrap64 (a11 + b11))]) ∧ Ext w w' := by
  go_enter Try.func13, Try.ntmps13
  go_wp2
  exact bodyPost_ret (results_cell_row rfl _ _ (w.heap.size + 2) 53 _ (0, 0) _ rfl (heap_alloc3_new w _ _ _) Try.underlying53 rfl (by kernel_rfl)) rfl ⟨rfl, (alloc_ext _ _).trans ((alloc_ext _ _).trans (alloc_ext _ _))⟩
end Go.Proofs.Ytlddpdlebdjniaa
