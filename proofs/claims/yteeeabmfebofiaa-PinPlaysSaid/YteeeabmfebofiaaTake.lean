/- Take and Shut of Pins. -/
import Derived.Test.YteeeabmfebofiaaPins
namespace Go.Proofs.Yteeeabmfebofiaa
open Go.RowKit Go.ChangeMaps Go.Maps
set_option linter.unusedVariables false

def newPin (b : Nat) (k : Int) (g : Nat) : Array Value := #[.pointer (some ⟨b, 0, none⟩), .int .i64 k, .pointer (some ⟨g, 0, none⟩), .int .u32 0, .int .i32 0, .int .u32 0]

set_option maxRecDepth 100000 in
set_option maxHeartbeats 2000000 in
theorem take1_ok (w : World) (b g pbx kbx hbx : Nat) (k c : Int) (hc : c ≠ -1) (hb1 : 0 ≤ c) (hb2 : c ≤ 100000) (hg : w.heap[g]? = some (.cells #[.int .i64 c] 87 (0, 0)))
    (h1 : w.heap[pbx]? = some (.cells #[.pointer (some ⟨b, 0, none⟩)] 23 (0, 0))) (h2 : w.heap[kbx]? = some (.cells #[.int .i64 k] 2 (0, 0))) (h3 : w.heap[hbx]? = some (.cells #[.pointer none] 26 (0, 0))) :
    Calls Try.prog 24 #[.pointer (some ⟨g, 0, none⟩), .pointer (some ⟨pbx, 0, none⟩), .pointer (some ⟨kbx, 0, none⟩), .pointer (some ⟨hbx, 0, none⟩)] w fun e w' => e = .returned (.tuple #[]) ∧
      w' = ((w.setCell ⟨g, 0, none⟩ (.int .i64 (c + 1))).setCell ⟨hbx, 0, none⟩ (.pointer (some ⟨w.heap.size, 0, none⟩))).alloc (.cells (newPin b k g) 78) := by
  have gc : w.cell? ⟨g, 0, none⟩ = some (.int .i64 c) := blk_cell hg 0
  have gz := blk_free hg 0
  have ew : IntKind.i64.wrap (c + 1) = c + 1 := IntWalk.i64_in _ (by omega)
  have d1 : decide (c = -1) = false := by simp; exact hc
  have n1 : pbx ≠ g := fun e => by rw [e, hg] at h1; injection h1 with h1; injection h1 with _ h1; exact absurd h1 (by decide)
  have n2 : kbx ≠ g := fun e => by rw [e, hg] at h2; injection h2 with h2; injection h2 with _ h2; exact absurd h2 (by decide)
  have n3 : hbx ≠ g := fun e => by rw [e, hg] at h3; injection h3 with h3; injection h3 with _ h3; exact absurd h3 (by decide)
  obtain ⟨w1, hw1⟩ : ∃ w1, w1 = w.setCell ⟨g, 0, none⟩ (.int .i64 (c + 1)) := ⟨_, rfl⟩
  have f1 := blk_far h1 (p := ⟨g, 0, none⟩) n1 (.int .i64 (c + 1))
  have f2 := blk_far h2 (p := ⟨g, 0, none⟩) n2 (.int .i64 (c + 1))
  have f3 := blk_far h3 (p := ⟨g, 0, none⟩) n3 (.int .i64 (c + 1))
  rw [← hw1] at f1 f2 f3
  have a1 : w1.cell? ⟨pbx, 0, none⟩ = some (.pointer (some ⟨b, 0, none⟩)) := blk_cell f1 0
  have a2 : w1.cell? ⟨kbx, 0, none⟩ = some (.int .i64 k) := blk_cell f2 0
  have a3 : w1.cell? ⟨hbx, 0, none⟩ = some (.pointer none) := blk_cell f3 0
  have z3 := blk_free f3 0
  have l3 : hbx < w1.heap.size := blk_lt f3
  have hsz : w1.heap.size = w.heap.size := by rw [hw1]; simp
  have HW1 := Lib.hid hw1; have HSZ := Lib.hid hsz
  clear hw1 hsz f1 f2 f3 hg h1 h2 h3
  go_enter Try.func24, Try.ntmps24
  go_wp2_with (go_at_call 25; refine (aload _ _ _ gc).mono ?_; rintro e w' ⟨rfl, rfl⟩)
  refine wp_loop_rounds 1 ?_
  rw [rounds_succ]
  go_wp2_with (go_at_call 26; refine (acas_hit _ _ _ _ gc gz).mono ?_; rintro e w' ⟨rfl, rfl⟩; rw [← HW1.out])
  first | (refine bodyPost_ret (results_none rfl _ _ _) rfl ?_) | (simp only [Exit.inBlock, Exit.then]; refine bodyPost_ret (results_none rfl _ _ _) rfl ?_)
  rw [← HSZ.out, ← HW1.out]
  exact ⟨rfl, rfl⟩
set_option maxRecDepth 100000 in
set_option maxHeartbeats 2000000 in
theorem take1_shut (w : World) (g : Nat) (p1 p2 p3 : Value) (hg : w.heap[g]? = some (.cells #[.int .i64 (-1)] 87 (0, 0))) :
    Calls Try.prog 24 #[.pointer (some ⟨g, 0, none⟩), p1, p2, p3] w fun e w' => e = .returned (.tuple #[]) ∧ w' = w := by
  have gc : w.cell? ⟨g, 0, none⟩ = some (.int .i64 (-1)) := blk_cell hg 0
  clear hg
  go_enter Try.func24, Try.ntmps24
  go_wp2_with (go_at_call 25; refine (aload _ _ _ gc).mono ?_; rintro e w' ⟨rfl, rfl⟩)
  refine wp_loop_rounds 1 ?_
  rw [rounds_succ]
  go_wp2
  go_end0
  exact ⟨rfl, rfl⟩

set_option maxRecDepth 100000 in
set_option maxHeartbeats 2000000 in
/-- The closure of Shut: at 0 the count is shut. -/
theorem shut1_zero (w : World) (g dbx : Nat) (hg : w.heap[g]? = some (.cells #[.int .i64 0] 87 (0, 0))) (hd : w.heap[dbx]? = some (.cells #[.bool false] 4 (0, 0))) :
    Calls Try.prog 32 #[.pointer (some ⟨g, 0, none⟩), .pointer (some ⟨dbx, 0, none⟩)] w fun e w' => e = .returned (.tuple #[]) ∧ w' = (w.setCell ⟨g, 0, none⟩ (.int .i64 (-1))).setCell ⟨dbx, 0, none⟩ (.bool true) := by
  have gc : w.cell? ⟨g, 0, none⟩ = some (.int .i64 0) := blk_cell hg 0
  have gz := blk_free hg 0
  have n1 : dbx ≠ g := fun e => by rw [e, hg] at hd; injection hd with hd; injection hd with _ hd; exact absurd hd (by decide)
  obtain ⟨w1, hw1⟩ : ∃ w1, w1 = w.setCell ⟨g, 0, none⟩ (.int .i64 (-1)) := ⟨_, rfl⟩
  have f1 := blk_far hd (p := ⟨g, 0, none⟩) n1 (.int .i64 (-1))
  rw [← hw1] at f1
  have a1 : w1.cell? ⟨dbx, 0, none⟩ = some (.bool false) := blk_cell f1 0
  have z1 := blk_free f1 0
  have HW1 := Lib.hid hw1
  clear hw1 f1 hg hd
  go_enter Try.func32, Try.ntmps32
  go_wp2_with (go_at_call 26; refine (acas_hit _ _ _ _ gc gz).mono ?_; rintro e w' ⟨rfl, rfl⟩; rw [← HW1.out])
  go_end0
  rw [← HW1.out]
  exact ⟨rfl, rfl⟩

set_option maxRecDepth 100000 in
set_option maxHeartbeats 2000000 in
/-- .. elsewhere nothing turns but what is told. -/
theorem shut1_else (w : World) (g dbx : Nat) (c : Int) (hc : c ≠ 0) (hg : w.heap[g]? = some (.cells #[.int .i64 c] 87 (0, 0))) (hd : w.heap[dbx]? = some (.cells #[.bool false] 4 (0, 0))) :
    Calls Try.prog 32 #[.pointer (some ⟨g, 0, none⟩), .pointer (some ⟨dbx, 0, none⟩)] w fun e w' => e = .returned (.tuple #[]) ∧ w' = w.setCell ⟨dbx, 0, none⟩ (.bool (decide (c = -1))) := by
  have gc : w.cell? ⟨g, 0, none⟩ = some (.int .i64 c) := blk_cell hg 0
  have gz := blk_free hg 0
  have a1 : w.cell? ⟨dbx, 0, none⟩ = some (.bool false) := blk_cell hd 0
  have z1 := blk_free hd 0
  clear hg hd
  go_enter Try.func32, Try.ntmps32
  go_wp2_with (first | (go_at_call 26; refine (acas_miss _ c _ _ _ gc hc gz).mono ?_; rintro e w' ⟨rfl, rfl⟩) | (go_at_call 25; refine (aload _ _ _ gc).mono ?_; rintro e w' ⟨rfl, rfl⟩))
  go_end0
  exact ⟨rfl, by first | rfl | simp⟩
end Go.Proofs.Yteeeabmfebofiaa
