/- The program's atomics and its Once, each a contract; one goroutine. -/
import Derived.Test.YteeeabmfebofiaaSeg
import Derived.Test.YteeeabmfebofiaaKit
import Derived.Test.YteeeabmfebofiaaRows
import Derived.Test.YteeeabmfebofiaaLocks
import Derived.Conc.RwLoneW
import Derived.Laws.LoneSync
import Derived.RegionCalls
import Derived.Defers
namespace Go.Proofs.Yteeeabmfebofiaa
open Go.RowKit
set_option linter.unusedVariables false

set_option maxHeartbeats 1000000 in
theorem aload (a : Addr) (c : Int) (w : World) (h : w.cell? a = some (.int .i64 c)) :
    Calls Try.prog 25 #[.pointer (some a)] w fun e w' => e = .returned (.int .i64 c) ∧ w = w' := by
  have hl := run_call_load (P := Try.prog) Try.func37 (by kernel_rfl) (by kernel_rfl) (by kernel_rfl) .i64 (by kernel_rfl) h
  go_enter Try.func25, Try.ntmps25
  go_wp2
  go_ret
  exact ⟨rfl, rfl⟩

set_option maxHeartbeats 1000000 in
theorem acas_hit (a : Addr) (c d : Int) (w : World) (h : w.cell? a = some (.int .i64 c)) (hz : w.frozen? a = false) :
    Calls Try.prog 26 #[.pointer (some a), .int .i64 c, .int .i64 d] w fun e w' => e = .returned (.bool true) ∧ w' = w.setCell a (.int .i64 d) := by
  have hl := run_call_cas_hit (P := Try.prog) Try.func38 (by kernel_rfl) (by kernel_rfl) (by kernel_rfl) .i64 (by kernel_rfl) (y := d) h hz
  go_enter Try.func26, Try.ntmps26
  go_wp2
  go_ret
  exact ⟨rfl, rfl⟩

set_option maxHeartbeats 1000000 in
theorem acas_miss (a : Addr) (x c d : Int) (w : World) (h : w.cell? a = some (.int .i64 x)) (hne : x ≠ c) (hz : w.frozen? a = false) :
    Calls Try.prog 26 #[.pointer (some a), .int .i64 c, .int .i64 d] w fun e w' => e = .returned (.bool false) ∧ w = w' := by
  have hl := run_call_cas_miss (P := Try.prog) Try.func38 (by kernel_rfl) (by kernel_rfl) (by kernel_rfl) .i64 (by kernel_rfl) (y := d) h hz hne
  go_enter Try.func26, Try.ntmps26
  go_wp2
  go_ret
  exact ⟨rfl, rfl⟩

set_option maxHeartbeats 1000000 in
theorem aadd (a : Addr) (c d s : Int) (w : World) (h : w.cell? a = some (.int .i64 c)) (hz : w.frozen? a = false) (hs : IntKind.i64.wrap (c + d) = s) :
    Calls Try.prog 41 #[.pointer (some a), .int .i64 d] w fun e w' => e = .returned (.int .i64 s) ∧ w' = w.setCell a (.int .i64 s) := by
  have hl := run_call_add (P := Try.prog) Try.func60 (by kernel_rfl) (by kernel_rfl) (by kernel_rfl) .i64 (by kernel_rfl) (y := d) (s := s) h hz (by simp [go_sem, hs])
  go_enter Try.func41, Try.ntmps41
  go_wp2
  go_ret
  exact ⟨rfl, rfl⟩
end Go.Proofs.Yteeeabmfebofiaa
