/- (*Sum).count, walked (printed by gen_count.py). -/
import Derived.Test.YtlddpdlebdjniaaDoorEvs
namespace Go.Proofs.YtlddpdlebdjniaaDoor
set_option linter.unusedSimpArgs false
open Go.RowKit
set_option linter.unusedVariables false

def sumA (s : Nat → Int) : Array Value := #[.int .i64 (s 0), .int .i64 (s 1), .int .i64 (s 2), .int .i64 (s 3), .int .i64 (s 4), .int .i64 (s 5), .int .i64 (s 6), .int .i64 (s 7), .int .i64 (s 8), .int .i64 (s 9), .int .i64 (s 10), .int .i64 (s 11)]
def bump (s : Nat → Int) (i : Nat) (n : Int) : Nat → Int := fun j => if j = i then s j + n else s j
theorem sumA_bump (s : Nat → Int) (i : Nat) (hi : i < 12) (n : Int) : (sumA s).setIfInBounds i (.int .i64 (s i + n)) = sumA (bump s i n) := by
  match i, hi with
  | 0, _ => simp [sumA, bump]
  | 1, _ => simp [sumA, bump]
  | 2, _ => simp [sumA, bump]
  | 3, _ => simp [sumA, bump]
  | 4, _ => simp [sumA, bump]
  | 5, _ => simp [sumA, bump]
  | 6, _ => simp [sumA, bump]
  | 7, _ => simp [sumA, bump]
  | 8, _ => simp [sumA, bump]
  | 9, _ => simp [sumA, bump]
  | 10, _ => simp [sumA, bump]
  | 11, _ => simp [sumA, bump]
/-- Which number an event adds to, and how much. -/
def cnt (e : Ev) : Option (Nat × Nat) :=
  if e.kind = 6 ∧ e.who < 1000 then some (0, 1)
  else if e.kind = 10 ∧ e.who < 1000 ∧ e.whole = true then some (1, 1)
  else if e.kind = 10 ∧ e.who < 1000 then some (2, 1)
  else if e.kind = 7 ∧ e.who < 1000 then some (3, 1)
  else if e.kind = 9 ∧ e.who < 1000 then some (4, e.nb)
  else if e.kind = 11 then some (7, 1)
  else if e.kind = 13 then some (5, e.nb)
  else if e.kind = 14 ∧ e.whole = false then some (8, 1)
  else if e.kind = 15 then some (9, 1)
  else if e.kind = 5 then some (10, 1)
  else if e.kind = 16 then some (11, 1)
  else none
def cntS (s : Nat → Int) (e : Ev) : Nat → Int := match cnt e with
  | some (i, n) => bump s i n
  | none => s
structure SumAt (w : World) (g : Nat) (s : Nat → Int) : Prop where
  blk : w.heap[g]? = some (.cells (sumA s) 26 (0, 0))
theorem grown_set_alloc {w : World} {g : Nat} (o : Obj) (i : Nat) (u : Value) : w.grownBy ((w.setCell ⟨g, i, none⟩ u).alloc o) (some g) := grown_trans (grown_setCell ⟨rfl, rfl, rfl, Nat.le_refl _, fun _ _ _ => rfl⟩ (.inl rfl) u) (World.grownBy_alloc _ o (some g))
theorem grown_drew {w w' : World} {row : Option Nat} (h : w.grownBy w' row) : w.grownBy w'.drew row := ⟨h.os, h.tape, h.output, h.size, h.block⟩
set_option maxRecDepth 100000 in
set_option maxHeartbeats 4000000 in
theorem count_ask (w : World) (cs : Array Value) (kd nd wh : Int) (wl : Bool) (nb : Nat) (ob : Bs) (hE : EvC cs ⟨6, nd, wh, wl, nb, ob⟩) (g : Nat) (s : Nat → Int) (hs : SumAt w g s) (hb : ∀ j, 0 ≤ s j ∧ s j ≤ 1000000000000000) (hw : wh < 1000) :
    Calls Tryd.prog 24 #[.pointer (some ⟨g, 0, none⟩), .agg cs] w fun e w' => e = .returned (.tuple #[]) ∧ SumAt w' g (cntS s ⟨6, nd, wh, wl, nb, ob⟩) ∧ w.grownBy w' (some g) := by
  have hc : cntS s ⟨6, nd, wh, wl, nb, ob⟩ = bump s 0 1 := by simp [cntS, cnt, hw]
  rw [hc]
  have h0 : cs[0]? = some (.int .i64 6) := hE.kind
  have h3 : cs[3]? = some (.int .i64 wh) := hE.who
  obtain ⟨Ab, cb, h53⟩ := hE.bytes
  have h56 : cs[56]? = some (.bool wl) := hE.whole
  have hnb := hE.nbl
  dsimp only at h53 hnb
  have hgs : g < w.heap.size := blk_lt hs.blk
  have hb1 : (w.alloc (.cells cs 53)).heap[g]? = some (.cells (sumA s) 26 (0, 0)) := (alloc_ext w _).heap hs.blk
  have hci : (w.alloc (.cells cs 53)).cell? ⟨g, 0, none⟩ = some (.int .i64 (s 0)) := blk_cell hb1 0
  have hfi := blk_free hb1 0
  obtain ⟨b1, b2⟩ := hb 0
  have E : Hid (SumAt ((w.setCell ⟨g, 0, none⟩ (.int .i64 (s 0 + 1))).alloc (.cells cs 53)) g (bump s 0 1)) := Lib.hid ⟨(alloc_ext _ _).heap (by rw [blk_set hs.blk, sumA_bump s 0 (by decide)])⟩
  have HB1 := Lib.hid hb1
  clear hc hs hb hE hb1
  go_enter Tryd.func24, Tryd.ntmps24
  go_wp2
  go_end0
  exact ⟨rfl, E.out, grown_set_alloc _ _ _⟩
set_option maxRecDepth 100000 in
set_option maxHeartbeats 4000000 in
theorem count_asko (w : World) (cs : Array Value) (kd nd wh : Int) (wl : Bool) (nb : Nat) (ob : Bs) (hE : EvC cs ⟨6, nd, wh, wl, nb, ob⟩) (g : Nat) (s : Nat → Int) (hs : SumAt w g s) (hb : ∀ j, 0 ≤ s j ∧ s j ≤ 1000000000000000) (hw : ¬ wh < 1000) :
    Calls Tryd.prog 24 #[.pointer (some ⟨g, 0, none⟩), .agg cs] w fun e w' => e = .returned (.tuple #[]) ∧ SumAt w' g (cntS s ⟨6, nd, wh, wl, nb, ob⟩) ∧ w.grownBy w' (some g) := by
  have hc : cntS s ⟨6, nd, wh, wl, nb, ob⟩ = s := by simp [cntS, cnt, hw]
  rw [hc]
  have h0 : cs[0]? = some (.int .i64 6) := hE.kind
  have h3 : cs[3]? = some (.int .i64 wh) := hE.who
  obtain ⟨Ab, cb, h53⟩ := hE.bytes
  have h56 : cs[56]? = some (.bool wl) := hE.whole
  have hnb := hE.nbl
  dsimp only at h53 hnb
  have hgs : g < w.heap.size := blk_lt hs.blk
  have hb1 : (w.alloc (.cells cs 53)).heap[g]? = some (.cells (sumA s) 26 (0, 0)) := (alloc_ext w _).heap hs.blk
  have hwd : decide (wh < 1000) = false := decide_eq_false hw
  have E : Hid (SumAt (w.alloc (.cells cs 53)) g s) := Lib.hid ⟨hb1⟩
  clear hc hs hb hE hb1
  go_enter Tryd.func24, Tryd.ntmps24
  go_wp2
  go_end0
  exact ⟨rfl, E.out, World.grownBy_alloc w _ _⟩
set_option maxRecDepth 100000 in
set_option maxHeartbeats 4000000 in
theorem count_end1 (w : World) (cs : Array Value) (kd nd wh : Int) (wl : Bool) (nb : Nat) (ob : Bs) (hE : EvC cs ⟨10, nd, wh, true, nb, ob⟩) (g : Nat) (s : Nat → Int) (hs : SumAt w g s) (hb : ∀ j, 0 ≤ s j ∧ s j ≤ 1000000000000000) (hw : wh < 1000) :
    Calls Tryd.prog 24 #[.pointer (some ⟨g, 0, none⟩), .agg cs] w fun e w' => e = .returned (.tuple #[]) ∧ SumAt w' g (cntS s ⟨10, nd, wh, true, nb, ob⟩) ∧ w.grownBy w' (some g) := by
  have hc : cntS s ⟨10, nd, wh, true, nb, ob⟩ = bump s 1 1 := by simp [cntS, cnt, hw]
  rw [hc]
  have h0 : cs[0]? = some (.int .i64 10) := hE.kind
  have h3 : cs[3]? = some (.int .i64 wh) := hE.who
  obtain ⟨Ab, cb, h53⟩ := hE.bytes
  have h56 : cs[56]? = some (.bool true) := hE.whole
  have hnb := hE.nbl
  dsimp only at h53 hnb
  have hgs : g < w.heap.size := blk_lt hs.blk
  have hb1 : (w.alloc (.cells cs 53)).heap[g]? = some (.cells (sumA s) 26 (0, 0)) := (alloc_ext w _).heap hs.blk
  have hci : (w.alloc (.cells cs 53)).cell? ⟨g, 1, none⟩ = some (.int .i64 (s 1)) := blk_cell hb1 1
  have hfi := blk_free hb1 1
  obtain ⟨b1, b2⟩ := hb 1
  have E : Hid (SumAt ((w.setCell ⟨g, 1, none⟩ (.int .i64 (s 1 + 1))).alloc (.cells cs 53)) g (bump s 1 1)) := Lib.hid ⟨(alloc_ext _ _).heap (by rw [blk_set hs.blk, sumA_bump s 1 (by decide)])⟩
  have HB1 := Lib.hid hb1
  clear hc hs hb hE hb1
  go_enter Tryd.func24, Tryd.ntmps24
  go_wp2
  go_end0
  exact ⟨rfl, E.out, grown_set_alloc _ _ _⟩
set_option maxRecDepth 100000 in
set_option maxHeartbeats 4000000 in
theorem count_end2 (w : World) (cs : Array Value) (kd nd wh : Int) (wl : Bool) (nb : Nat) (ob : Bs) (hE : EvC cs ⟨10, nd, wh, false, nb, ob⟩) (g : Nat) (s : Nat → Int) (hs : SumAt w g s) (hb : ∀ j, 0 ≤ s j ∧ s j ≤ 1000000000000000) (hw : wh < 1000) :
    Calls Tryd.prog 24 #[.pointer (some ⟨g, 0, none⟩), .agg cs] w fun e w' => e = .returned (.tuple #[]) ∧ SumAt w' g (cntS s ⟨10, nd, wh, false, nb, ob⟩) ∧ w.grownBy w' (some g) := by
  have hc : cntS s ⟨10, nd, wh, false, nb, ob⟩ = bump s 2 1 := by simp [cntS, cnt, hw]
  rw [hc]
  have h0 : cs[0]? = some (.int .i64 10) := hE.kind
  have h3 : cs[3]? = some (.int .i64 wh) := hE.who
  obtain ⟨Ab, cb, h53⟩ := hE.bytes
  have h56 : cs[56]? = some (.bool false) := hE.whole
  have hnb := hE.nbl
  dsimp only at h53 hnb
  have hgs : g < w.heap.size := blk_lt hs.blk
  have hb1 : (w.alloc (.cells cs 53)).heap[g]? = some (.cells (sumA s) 26 (0, 0)) := (alloc_ext w _).heap hs.blk
  have hci : (w.alloc (.cells cs 53)).cell? ⟨g, 2, none⟩ = some (.int .i64 (s 2)) := blk_cell hb1 2
  have hfi := blk_free hb1 2
  obtain ⟨b1, b2⟩ := hb 2
  have E : Hid (SumAt ((w.setCell ⟨g, 2, none⟩ (.int .i64 (s 2 + 1))).alloc (.cells cs 53)) g (bump s 2 1)) := Lib.hid ⟨(alloc_ext _ _).heap (by rw [blk_set hs.blk, sumA_bump s 2 (by decide)])⟩
  have HB1 := Lib.hid hb1
  clear hc hs hb hE hb1
  go_enter Tryd.func24, Tryd.ntmps24
  go_wp2
  go_end0
  exact ⟨rfl, E.out, grown_set_alloc _ _ _⟩
set_option maxRecDepth 100000 in
set_option maxHeartbeats 4000000 in
theorem count_endo (w : World) (cs : Array Value) (kd nd wh : Int) (wl : Bool) (nb : Nat) (ob : Bs) (hE : EvC cs ⟨10, nd, wh, wl, nb, ob⟩) (g : Nat) (s : Nat → Int) (hs : SumAt w g s) (hb : ∀ j, 0 ≤ s j ∧ s j ≤ 1000000000000000) (hw : ¬ wh < 1000) :
    Calls Tryd.prog 24 #[.pointer (some ⟨g, 0, none⟩), .agg cs] w fun e w' => e = .returned (.tuple #[]) ∧ SumAt w' g (cntS s ⟨10, nd, wh, wl, nb, ob⟩) ∧ w.grownBy w' (some g) := by
  have hc : cntS s ⟨10, nd, wh, wl, nb, ob⟩ = s := by simp [cntS, cnt, hw]
  rw [hc]
  have h0 : cs[0]? = some (.int .i64 10) := hE.kind
  have h3 : cs[3]? = some (.int .i64 wh) := hE.who
  obtain ⟨Ab, cb, h53⟩ := hE.bytes
  have h56 : cs[56]? = some (.bool wl) := hE.whole
  have hnb := hE.nbl
  dsimp only at h53 hnb
  have hgs : g < w.heap.size := blk_lt hs.blk
  have hb1 : (w.alloc (.cells cs 53)).heap[g]? = some (.cells (sumA s) 26 (0, 0)) := (alloc_ext w _).heap hs.blk
  have hwd : decide (wh < 1000) = false := decide_eq_false hw
  have E : Hid (SumAt (w.alloc (.cells cs 53)) g s) := Lib.hid ⟨hb1⟩
  clear hc hs hb hE hb1
  go_enter Tryd.func24, Tryd.ntmps24
  go_wp2
  go_end0
  exact ⟨rfl, E.out, World.grownBy_alloc w _ _⟩
set_option maxRecDepth 100000 in
set_option maxHeartbeats 4000000 in
theorem count_left (w : World) (cs : Array Value) (kd nd wh : Int) (wl : Bool) (nb : Nat) (ob : Bs) (hE : EvC cs ⟨7, nd, wh, wl, nb, ob⟩) (g : Nat) (s : Nat → Int) (hs : SumAt w g s) (hb : ∀ j, 0 ≤ s j ∧ s j ≤ 1000000000000000) (hw : wh < 1000) :
    Calls Tryd.prog 24 #[.pointer (some ⟨g, 0, none⟩), .agg cs] w fun e w' => e = .returned (.tuple #[]) ∧ SumAt w' g (cntS s ⟨7, nd, wh, wl, nb, ob⟩) ∧ w.grownBy w' (some g) := by
  have hc : cntS s ⟨7, nd, wh, wl, nb, ob⟩ = bump s 3 1 := by simp [cntS, cnt, hw]
  rw [hc]
  have h0 : cs[0]? = some (.int .i64 7) := hE.kind
  have h3 : cs[3]? = some (.int .i64 wh) := hE.who
  obtain ⟨Ab, cb, h53⟩ := hE.bytes
  have h56 : cs[56]? = some (.bool wl) := hE.whole
  have hnb := hE.nbl
  dsimp only at h53 hnb
  have hgs : g < w.heap.size := blk_lt hs.blk
  have hb1 : (w.alloc (.cells cs 53)).heap[g]? = some (.cells (sumA s) 26 (0, 0)) := (alloc_ext w _).heap hs.blk
  have hci : (w.alloc (.cells cs 53)).cell? ⟨g, 3, none⟩ = some (.int .i64 (s 3)) := blk_cell hb1 3
  have hfi := blk_free hb1 3
  obtain ⟨b1, b2⟩ := hb 3
  have E : Hid (SumAt ((w.setCell ⟨g, 3, none⟩ (.int .i64 (s 3 + 1))).alloc (.cells cs 53)) g (bump s 3 1)) := Lib.hid ⟨(alloc_ext _ _).heap (by rw [blk_set hs.blk, sumA_bump s 3 (by decide)])⟩
  have HB1 := Lib.hid hb1
  clear hc hs hb hE hb1
  go_enter Tryd.func24, Tryd.ntmps24
  go_wp2
  go_end0
  exact ⟨rfl, E.out, grown_set_alloc _ _ _⟩
set_option maxRecDepth 100000 in
set_option maxHeartbeats 4000000 in
theorem count_lefto (w : World) (cs : Array Value) (kd nd wh : Int) (wl : Bool) (nb : Nat) (ob : Bs) (hE : EvC cs ⟨7, nd, wh, wl, nb, ob⟩) (g : Nat) (s : Nat → Int) (hs : SumAt w g s) (hb : ∀ j, 0 ≤ s j ∧ s j ≤ 1000000000000000) (hw : ¬ wh < 1000) :
    Calls Tryd.prog 24 #[.pointer (some ⟨g, 0, none⟩), .agg cs] w fun e w' => e = .returned (.tuple #[]) ∧ SumAt w' g (cntS s ⟨7, nd, wh, wl, nb, ob⟩) ∧ w.grownBy w' (some g) := by
  have hc : cntS s ⟨7, nd, wh, wl, nb, ob⟩ = s := by simp [cntS, cnt, hw]
  rw [hc]
  have h0 : cs[0]? = some (.int .i64 7) := hE.kind
  have h3 : cs[3]? = some (.int .i64 wh) := hE.who
  obtain ⟨Ab, cb, h53⟩ := hE.bytes
  have h56 : cs[56]? = some (.bool wl) := hE.whole
  have hnb := hE.nbl
  dsimp only at h53 hnb
  have hgs : g < w.heap.size := blk_lt hs.blk
  have hb1 : (w.alloc (.cells cs 53)).heap[g]? = some (.cells (sumA s) 26 (0, 0)) := (alloc_ext w _).heap hs.blk
  have hwd : decide (wh < 1000) = false := decide_eq_false hw
  have E : Hid (SumAt (w.alloc (.cells cs 53)) g s) := Lib.hid ⟨hb1⟩
  clear hc hs hb hE hb1
  go_enter Tryd.func24, Tryd.ntmps24
  go_wp2
  go_end0
  exact ⟨rfl, E.out, World.grownBy_alloc w _ _⟩
set_option maxRecDepth 100000 in
set_option maxHeartbeats 4000000 in
theorem count_body (w : World) (cs : Array Value) (kd nd wh : Int) (wl : Bool) (nb : Nat) (ob : Bs) (hE : EvC cs ⟨9, nd, wh, wl, nb, ob⟩) (g : Nat) (s : Nat → Int) (hs : SumAt w g s) (hb : ∀ j, 0 ≤ s j ∧ s j ≤ 1000000000000000) (hw : wh < 1000) :
    Calls Tryd.prog 24 #[.pointer (some ⟨g, 0, none⟩), .agg cs] w fun e w' => e = .returned (.tuple #[]) ∧ SumAt w' g (cntS s ⟨9, nd, wh, wl, nb, ob⟩) ∧ w.grownBy w' (some g) := by
  have hc : cntS s ⟨9, nd, wh, wl, nb, ob⟩ = bump s 4 nb := by simp [cntS, cnt, hw]
  rw [hc]
  have h0 : cs[0]? = some (.int .i64 9) := hE.kind
  have h3 : cs[3]? = some (.int .i64 wh) := hE.who
  obtain ⟨Ab, cb, h53⟩ := hE.bytes
  have h56 : cs[56]? = some (.bool wl) := hE.whole
  have hnb := hE.nbl
  dsimp only at h53 hnb
  have hgs : g < w.heap.size := blk_lt hs.blk
  have hb1 : (w.alloc (.cells cs 53)).heap[g]? = some (.cells (sumA s) 26 (0, 0)) := (alloc_ext w _).heap hs.blk
  have hci : (w.alloc (.cells cs 53)).cell? ⟨g, 4, none⟩ = some (.int .i64 (s 4)) := blk_cell hb1 4
  have hfi := blk_free hb1 4
  obtain ⟨b1, b2⟩ := hb 4
  have E : Hid (SumAt ((w.setCell ⟨g, 4, none⟩ (.int .i64 (s 4 + nb))).alloc (.cells cs 53)) g (bump s 4 nb)) := Lib.hid ⟨(alloc_ext _ _).heap (by rw [blk_set hs.blk, sumA_bump s 4 (by decide)])⟩
  have HB1 := Lib.hid hb1
  clear hc hs hb hE hb1
  go_enter Tryd.func24, Tryd.ntmps24
  go_wp2_with fail
  refine wp_region_segs [] [.inl [0, 1, 2, 3, 4, 5, 6, 7, 8, 9], .inr (.inr 10)] (by kernel_rfl) (by kernel_rfl) (fun c a d v w h => by cases d <;> exact h) ?_
  have G1 : ∀ x : Grow [] (w.alloc (.cells cs 53)).drew, x.v.cell? ⟨g, 4, none⟩ = some (.int .i64 (s 4)) := fun x => x.ext.cell (a := (w.alloc (.cells cs 53)).drew) hci (by simp)
  have G2 : ∀ x : Grow [] (w.alloc (.cells cs 53)).drew, x.v.cell? ⟨w.heap.size, 53, none⟩ = some (.slice Ab nb cb) := fun x => x.ext.cell (a := (w.alloc (.cells cs 53)).drew) ((blk_cell (heap_alloc_new w _) 53).trans h53) (by simp)
  have ew : IntKind.i64.wrap (s 4 + nb) = s 4 + nb := IntWalk.i64_in _ (by omega)
  (rw [wpSegs_inl]; simp only [pickOps, List.map_cons, List.map_nil, List.getD_cons_succ, List.getD_cons_zero]; (repeat (go_big_quiet_step (fail))); refine wpQuiet_nil ?_)
  clear G1 G2
  (rw [wpSegs_last]; simp only [pickOps, List.map_cons, List.map_nil, List.getD_cons_succ, List.getD_cons_zero]; go_wp2_with (fail))
  rw [wpSegs_nil]
  go_wp2
  go_end0
  exact ⟨rfl, ⟨E.out.blk⟩, grown_drew (grown_set_alloc _ _ _)⟩
set_option maxRecDepth 100000 in
set_option maxHeartbeats 4000000 in
theorem count_bodyo (w : World) (cs : Array Value) (kd nd wh : Int) (wl : Bool) (nb : Nat) (ob : Bs) (hE : EvC cs ⟨9, nd, wh, wl, nb, ob⟩) (g : Nat) (s : Nat → Int) (hs : SumAt w g s) (hb : ∀ j, 0 ≤ s j ∧ s j ≤ 1000000000000000) (hw : ¬ wh < 1000) :
    Calls Tryd.prog 24 #[.pointer (some ⟨g, 0, none⟩), .agg cs] w fun e w' => e = .returned (.tuple #[]) ∧ SumAt w' g (cntS s ⟨9, nd, wh, wl, nb, ob⟩) ∧ w.grownBy w' (some g) := by
  have hc : cntS s ⟨9, nd, wh, wl, nb, ob⟩ = s := by simp [cntS, cnt, hw]
  rw [hc]
  have h0 : cs[0]? = some (.int .i64 9) := hE.kind
  have h3 : cs[3]? = some (.int .i64 wh) := hE.who
  obtain ⟨Ab, cb, h53⟩ := hE.bytes
  have h56 : cs[56]? = some (.bool wl) := hE.whole
  have hnb := hE.nbl
  dsimp only at h53 hnb
  have hgs : g < w.heap.size := blk_lt hs.blk
  have hb1 : (w.alloc (.cells cs 53)).heap[g]? = some (.cells (sumA s) 26 (0, 0)) := (alloc_ext w _).heap hs.blk
  have hwd : decide (wh < 1000) = false := decide_eq_false hw
  have E : Hid (SumAt (w.alloc (.cells cs 53)) g s) := Lib.hid ⟨hb1⟩
  clear hc hs hb hE hb1
  go_enter Tryd.func24, Tryd.ntmps24
  go_wp2
  go_end0
  exact ⟨rfl, E.out, World.grownBy_alloc w _ _⟩
set_option maxRecDepth 100000 in
set_option maxHeartbeats 4000000 in
theorem count_fetch (w : World) (cs : Array Value) (kd nd wh : Int) (wl : Bool) (nb : Nat) (ob : Bs) (hE : EvC cs ⟨11, nd, wh, wl, nb, ob⟩) (g : Nat) (s : Nat → Int) (hs : SumAt w g s) (hb : ∀ j, 0 ≤ s j ∧ s j ≤ 1000000000000000) :
    Calls Tryd.prog 24 #[.pointer (some ⟨g, 0, none⟩), .agg cs] w fun e w' => e = .returned (.tuple #[]) ∧ SumAt w' g (cntS s ⟨11, nd, wh, wl, nb, ob⟩) ∧ w.grownBy w' (some g) := by
  have hc : cntS s ⟨11, nd, wh, wl, nb, ob⟩ = bump s 7 1 := by simp [cntS, cnt]
  rw [hc]
  have h0 : cs[0]? = some (.int .i64 11) := hE.kind
  have h3 : cs[3]? = some (.int .i64 wh) := hE.who
  obtain ⟨Ab, cb, h53⟩ := hE.bytes
  have h56 : cs[56]? = some (.bool wl) := hE.whole
  have hnb := hE.nbl
  dsimp only at h53 hnb
  have hgs : g < w.heap.size := blk_lt hs.blk
  have hb1 : (w.alloc (.cells cs 53)).heap[g]? = some (.cells (sumA s) 26 (0, 0)) := (alloc_ext w _).heap hs.blk
  have hci : (w.alloc (.cells cs 53)).cell? ⟨g, 7, none⟩ = some (.int .i64 (s 7)) := blk_cell hb1 7
  have hfi := blk_free hb1 7
  obtain ⟨b1, b2⟩ := hb 7
  have E : Hid (SumAt ((w.setCell ⟨g, 7, none⟩ (.int .i64 (s 7 + 1))).alloc (.cells cs 53)) g (bump s 7 1)) := Lib.hid ⟨(alloc_ext _ _).heap (by rw [blk_set hs.blk, sumA_bump s 7 (by decide)])⟩
  have HB1 := Lib.hid hb1
  clear hc hs hb hE hb1
  go_enter Tryd.func24, Tryd.ntmps24
  go_wp2
  go_end0
  exact ⟨rfl, E.out, grown_set_alloc _ _ _⟩
set_option maxRecDepth 100000 in
set_option maxHeartbeats 4000000 in
theorem count_data (w : World) (cs : Array Value) (kd nd wh : Int) (wl : Bool) (nb : Nat) (ob : Bs) (hE : EvC cs ⟨13, nd, wh, wl, nb, ob⟩) (g : Nat) (s : Nat → Int) (hs : SumAt w g s) (hb : ∀ j, 0 ≤ s j ∧ s j ≤ 1000000000000000) :
    Calls Tryd.prog 24 #[.pointer (some ⟨g, 0, none⟩), .agg cs] w fun e w' => e = .returned (.tuple #[]) ∧ SumAt w' g (cntS s ⟨13, nd, wh, wl, nb, ob⟩) ∧ w.grownBy w' (some g) := by
  have hc : cntS s ⟨13, nd, wh, wl, nb, ob⟩ = bump s 5 nb := by simp [cntS, cnt]
  rw [hc]
  have h0 : cs[0]? = some (.int .i64 13) := hE.kind
  have h3 : cs[3]? = some (.int .i64 wh) := hE.who
  obtain ⟨Ab, cb, h53⟩ := hE.bytes
  have h56 : cs[56]? = some (.bool wl) := hE.whole
  have hnb := hE.nbl
  dsimp only at h53 hnb
  have hgs : g < w.heap.size := blk_lt hs.blk
  have hb1 : (w.alloc (.cells cs 53)).heap[g]? = some (.cells (sumA s) 26 (0, 0)) := (alloc_ext w _).heap hs.blk
  have hci : (w.alloc (.cells cs 53)).cell? ⟨g, 5, none⟩ = some (.int .i64 (s 5)) := blk_cell hb1 5
  have hfi := blk_free hb1 5
  obtain ⟨b1, b2⟩ := hb 5
  have E : Hid (SumAt ((w.setCell ⟨g, 5, none⟩ (.int .i64 (s 5 + nb))).alloc (.cells cs 53)) g (bump s 5 nb)) := Lib.hid ⟨(alloc_ext _ _).heap (by rw [blk_set hs.blk, sumA_bump s 5 (by decide)])⟩
  have HB1 := Lib.hid hb1
  clear hc hs hb hE hb1
  go_enter Tryd.func24, Tryd.ntmps24
  go_wp2_with fail
  refine wp_region_segs [] [.inl [0, 1, 2, 3, 4, 5, 6, 7, 8, 9], .inr (.inr 10)] (by kernel_rfl) (by kernel_rfl) (fun c a d v w h => by cases d <;> exact h) ?_
  have G1 : ∀ x : Grow [] (w.alloc (.cells cs 53)).drew, x.v.cell? ⟨g, 5, none⟩ = some (.int .i64 (s 5)) := fun x => x.ext.cell (a := (w.alloc (.cells cs 53)).drew) hci (by simp)
  have G2 : ∀ x : Grow [] (w.alloc (.cells cs 53)).drew, x.v.cell? ⟨w.heap.size, 53, none⟩ = some (.slice Ab nb cb) := fun x => x.ext.cell (a := (w.alloc (.cells cs 53)).drew) ((blk_cell (heap_alloc_new w _) 53).trans h53) (by simp)
  have ew : IntKind.i64.wrap (s 5 + nb) = s 5 + nb := IntWalk.i64_in _ (by omega)
  (rw [wpSegs_inl]; simp only [pickOps, List.map_cons, List.map_nil, List.getD_cons_succ, List.getD_cons_zero]; (repeat (go_big_quiet_step (fail))); refine wpQuiet_nil ?_)
  clear G1 G2
  (rw [wpSegs_last]; simp only [pickOps, List.map_cons, List.map_nil, List.getD_cons_succ, List.getD_cons_zero]; go_wp2_with (fail))
  rw [wpSegs_nil]
  go_wp2
  go_end0
  exact ⟨rfl, ⟨E.out.blk⟩, grown_drew (grown_set_alloc _ _ _)⟩
set_option maxRecDepth 100000 in
set_option maxHeartbeats 4000000 in
theorem count_close (w : World) (cs : Array Value) (kd nd wh : Int) (wl : Bool) (nb : Nat) (ob : Bs) (hE : EvC cs ⟨14, nd, wh, false, nb, ob⟩) (g : Nat) (s : Nat → Int) (hs : SumAt w g s) (hb : ∀ j, 0 ≤ s j ∧ s j ≤ 1000000000000000) :
    Calls Tryd.prog 24 #[.pointer (some ⟨g, 0, none⟩), .agg cs] w fun e w' => e = .returned (.tuple #[]) ∧ SumAt w' g (cntS s ⟨14, nd, wh, false, nb, ob⟩) ∧ w.grownBy w' (some g) := by
  have hc : cntS s ⟨14, nd, wh, false, nb, ob⟩ = bump s 8 1 := by simp [cntS, cnt]
  rw [hc]
  have h0 : cs[0]? = some (.int .i64 14) := hE.kind
  have h3 : cs[3]? = some (.int .i64 wh) := hE.who
  obtain ⟨Ab, cb, h53⟩ := hE.bytes
  have h56 : cs[56]? = some (.bool false) := hE.whole
  have hnb := hE.nbl
  dsimp only at h53 hnb
  have hgs : g < w.heap.size := blk_lt hs.blk
  have hb1 : (w.alloc (.cells cs 53)).heap[g]? = some (.cells (sumA s) 26 (0, 0)) := (alloc_ext w _).heap hs.blk
  have hci : (w.alloc (.cells cs 53)).cell? ⟨g, 8, none⟩ = some (.int .i64 (s 8)) := blk_cell hb1 8
  have hfi := blk_free hb1 8
  obtain ⟨b1, b2⟩ := hb 8
  have E : Hid (SumAt ((w.setCell ⟨g, 8, none⟩ (.int .i64 (s 8 + 1))).alloc (.cells cs 53)) g (bump s 8 1)) := Lib.hid ⟨(alloc_ext _ _).heap (by rw [blk_set hs.blk, sumA_bump s 8 (by decide)])⟩
  have HB1 := Lib.hid hb1
  clear hc hs hb hE hb1
  go_enter Tryd.func24, Tryd.ntmps24
  go_wp2
  go_end0
  exact ⟨rfl, E.out, grown_set_alloc _ _ _⟩
set_option maxRecDepth 100000 in
set_option maxHeartbeats 4000000 in
theorem count_closeo (w : World) (cs : Array Value) (kd nd wh : Int) (wl : Bool) (nb : Nat) (ob : Bs) (hE : EvC cs ⟨14, nd, wh, true, nb, ob⟩) (g : Nat) (s : Nat → Int) (hs : SumAt w g s) (hb : ∀ j, 0 ≤ s j ∧ s j ≤ 1000000000000000) :
    Calls Tryd.prog 24 #[.pointer (some ⟨g, 0, none⟩), .agg cs] w fun e w' => e = .returned (.tuple #[]) ∧ SumAt w' g (cntS s ⟨14, nd, wh, true, nb, ob⟩) ∧ w.grownBy w' (some g) := by
  have hc : cntS s ⟨14, nd, wh, true, nb, ob⟩ = s := by simp [cntS, cnt]
  rw [hc]
  have h0 : cs[0]? = some (.int .i64 14) := hE.kind
  have h3 : cs[3]? = some (.int .i64 wh) := hE.who
  obtain ⟨Ab, cb, h53⟩ := hE.bytes
  have h56 : cs[56]? = some (.bool true) := hE.whole
  have hnb := hE.nbl
  dsimp only at h53 hnb
  have hgs : g < w.heap.size := blk_lt hs.blk
  have hb1 : (w.alloc (.cells cs 53)).heap[g]? = some (.cells (sumA s) 26 (0, 0)) := (alloc_ext w _).heap hs.blk
  have E : Hid (SumAt (w.alloc (.cells cs 53)) g s) := Lib.hid ⟨hb1⟩
  clear hc hs hb hE hb1
  go_enter Tryd.func24, Tryd.ntmps24
  go_wp2
  go_end0
  exact ⟨rfl, E.out, World.grownBy_alloc w _ _⟩
set_option maxRecDepth 100000 in
set_option maxHeartbeats 4000000 in
theorem count_stop (w : World) (cs : Array Value) (kd nd wh : Int) (wl : Bool) (nb : Nat) (ob : Bs) (hE : EvC cs ⟨15, nd, wh, wl, nb, ob⟩) (g : Nat) (s : Nat → Int) (hs : SumAt w g s) (hb : ∀ j, 0 ≤ s j ∧ s j ≤ 1000000000000000) :
    Calls Tryd.prog 24 #[.pointer (some ⟨g, 0, none⟩), .agg cs] w fun e w' => e = .returned (.tuple #[]) ∧ SumAt w' g (cntS s ⟨15, nd, wh, wl, nb, ob⟩) ∧ w.grownBy w' (some g) := by
  have hc : cntS s ⟨15, nd, wh, wl, nb, ob⟩ = bump s 9 1 := by simp [cntS, cnt]
  rw [hc]
  have h0 : cs[0]? = some (.int .i64 15) := hE.kind
  have h3 : cs[3]? = some (.int .i64 wh) := hE.who
  obtain ⟨Ab, cb, h53⟩ := hE.bytes
  have h56 : cs[56]? = some (.bool wl) := hE.whole
  have hnb := hE.nbl
  dsimp only at h53 hnb
  have hgs : g < w.heap.size := blk_lt hs.blk
  have hb1 : (w.alloc (.cells cs 53)).heap[g]? = some (.cells (sumA s) 26 (0, 0)) := (alloc_ext w _).heap hs.blk
  have hci : (w.alloc (.cells cs 53)).cell? ⟨g, 9, none⟩ = some (.int .i64 (s 9)) := blk_cell hb1 9
  have hfi := blk_free hb1 9
  obtain ⟨b1, b2⟩ := hb 9
  have E : Hid (SumAt ((w.setCell ⟨g, 9, none⟩ (.int .i64 (s 9 + 1))).alloc (.cells cs 53)) g (bump s 9 1)) := Lib.hid ⟨(alloc_ext _ _).heap (by rw [blk_set hs.blk, sumA_bump s 9 (by decide)])⟩
  have HB1 := Lib.hid hb1
  clear hc hs hb hE hb1
  go_enter Tryd.func24, Tryd.ntmps24
  go_wp2
  go_end0
  exact ⟨rfl, E.out, grown_set_alloc _ _ _⟩
set_option maxRecDepth 100000 in
set_option maxHeartbeats 4000000 in
theorem count_purge (w : World) (cs : Array Value) (kd nd wh : Int) (wl : Bool) (nb : Nat) (ob : Bs) (hE : EvC cs ⟨5, nd, wh, wl, nb, ob⟩) (g : Nat) (s : Nat → Int) (hs : SumAt w g s) (hb : ∀ j, 0 ≤ s j ∧ s j ≤ 1000000000000000) :
    Calls Tryd.prog 24 #[.pointer (some ⟨g, 0, none⟩), .agg cs] w fun e w' => e = .returned (.tuple #[]) ∧ SumAt w' g (cntS s ⟨5, nd, wh, wl, nb, ob⟩) ∧ w.grownBy w' (some g) := by
  have hc : cntS s ⟨5, nd, wh, wl, nb, ob⟩ = bump s 10 1 := by simp [cntS, cnt]
  rw [hc]
  have h0 : cs[0]? = some (.int .i64 5) := hE.kind
  have h3 : cs[3]? = some (.int .i64 wh) := hE.who
  obtain ⟨Ab, cb, h53⟩ := hE.bytes
  have h56 : cs[56]? = some (.bool wl) := hE.whole
  have hnb := hE.nbl
  dsimp only at h53 hnb
  have hgs : g < w.heap.size := blk_lt hs.blk
  have hb1 : (w.alloc (.cells cs 53)).heap[g]? = some (.cells (sumA s) 26 (0, 0)) := (alloc_ext w _).heap hs.blk
  have hci : (w.alloc (.cells cs 53)).cell? ⟨g, 10, none⟩ = some (.int .i64 (s 10)) := blk_cell hb1 10
  have hfi := blk_free hb1 10
  obtain ⟨b1, b2⟩ := hb 10
  have E : Hid (SumAt ((w.setCell ⟨g, 10, none⟩ (.int .i64 (s 10 + 1))).alloc (.cells cs 53)) g (bump s 10 1)) := Lib.hid ⟨(alloc_ext _ _).heap (by rw [blk_set hs.blk, sumA_bump s 10 (by decide)])⟩
  have HB1 := Lib.hid hb1
  clear hc hs hb hE hb1
  go_enter Tryd.func24, Tryd.ntmps24
  go_wp2
  go_end0
  exact ⟨rfl, E.out, grown_set_alloc _ _ _⟩
set_option maxRecDepth 100000 in
set_option maxHeartbeats 4000000 in
theorem count_crash (w : World) (cs : Array Value) (kd nd wh : Int) (wl : Bool) (nb : Nat) (ob : Bs) (hE : EvC cs ⟨16, nd, wh, wl, nb, ob⟩) (g : Nat) (s : Nat → Int) (hs : SumAt w g s) (hb : ∀ j, 0 ≤ s j ∧ s j ≤ 1000000000000000) :
    Calls Tryd.prog 24 #[.pointer (some ⟨g, 0, none⟩), .agg cs] w fun e w' => e = .returned (.tuple #[]) ∧ SumAt w' g (cntS s ⟨16, nd, wh, wl, nb, ob⟩) ∧ w.grownBy w' (some g) := by
  have hc : cntS s ⟨16, nd, wh, wl, nb, ob⟩ = bump s 11 1 := by simp [cntS, cnt]
  rw [hc]
  have h0 : cs[0]? = some (.int .i64 16) := hE.kind
  have h3 : cs[3]? = some (.int .i64 wh) := hE.who
  obtain ⟨Ab, cb, h53⟩ := hE.bytes
  have h56 : cs[56]? = some (.bool wl) := hE.whole
  have hnb := hE.nbl
  dsimp only at h53 hnb
  have hgs : g < w.heap.size := blk_lt hs.blk
  have hb1 : (w.alloc (.cells cs 53)).heap[g]? = some (.cells (sumA s) 26 (0, 0)) := (alloc_ext w _).heap hs.blk
  have hci : (w.alloc (.cells cs 53)).cell? ⟨g, 11, none⟩ = some (.int .i64 (s 11)) := blk_cell hb1 11
  have hfi := blk_free hb1 11
  obtain ⟨b1, b2⟩ := hb 11
  have E : Hid (SumAt ((w.setCell ⟨g, 11, none⟩ (.int .i64 (s 11 + 1))).alloc (.cells cs 53)) g (bump s 11 1)) := Lib.hid ⟨(alloc_ext _ _).heap (by rw [blk_set hs.blk, sumA_bump s 11 (by decide)])⟩
  have HB1 := Lib.hid hb1
  clear hc hs hb hE hb1
  go_enter Tryd.func24, Tryd.ntmps24
  go_wp2
  go_end0
  exact ⟨rfl, E.out, grown_set_alloc _ _ _⟩
set_option maxRecDepth 100000 in
set_option maxHeartbeats 4000000 in
theorem count_other (w : World) (cs : Array Value) (kd nd wh : Int) (wl : Bool) (nb : Nat) (ob : Bs) (hE : EvC cs ⟨kd, nd, wh, wl, nb, ob⟩) (g : Nat) (s : Nat → Int) (hs : SumAt w g s) (hb : ∀ j, 0 ≤ s j ∧ s j ≤ 1000000000000000) (hk : kd ≠ 5 ∧ kd ≠ 6 ∧ kd ≠ 7 ∧ kd ≠ 9 ∧ kd ≠ 10 ∧ kd ≠ 11 ∧ kd ≠ 13 ∧ kd ≠ 14 ∧ kd ≠ 15 ∧ kd ≠ 16) :
    Calls Tryd.prog 24 #[.pointer (some ⟨g, 0, none⟩), .agg cs] w fun e w' => e = .returned (.tuple #[]) ∧ SumAt w' g (cntS s ⟨kd, nd, wh, wl, nb, ob⟩) ∧ w.grownBy w' (some g) := by
  have hc : cntS s ⟨kd, nd, wh, wl, nb, ob⟩ = s := by simp [cntS, cnt, hk]
  rw [hc]
  have h0 : cs[0]? = some (.int .i64 kd) := hE.kind
  have h3 : cs[3]? = some (.int .i64 wh) := hE.who
  obtain ⟨Ab, cb, h53⟩ := hE.bytes
  have h56 : cs[56]? = some (.bool wl) := hE.whole
  have hnb := hE.nbl
  dsimp only at h53 hnb
  have hgs : g < w.heap.size := blk_lt hs.blk
  have hb1 : (w.alloc (.cells cs 53)).heap[g]? = some (.cells (sumA s) 26 (0, 0)) := (alloc_ext w _).heap hs.blk
  obtain ⟨n5, n6, n7, n9, n10, n11, n13, n14, n15, n16⟩ := hk
  have e5 : (kd == 5) = false := by simpa using n5
  have e6 : (kd == 6) = false := by simpa using n6
  have e7 : (kd == 7) = false := by simpa using n7
  have e9 : (kd == 9) = false := by simpa using n9
  have e10 : (kd == 10) = false := by simpa using n10
  have e11 : (kd == 11) = false := by simpa using n11
  have e13 : (kd == 13) = false := by simpa using n13
  have e14 : (kd == 14) = false := by simpa using n14
  have e15 : (kd == 15) = false := by simpa using n15
  have e16 : (kd == 16) = false := by simpa using n16
  clear n5 n6 n7 n9 n10 n11 n13 n14 n15 n16
  have E : Hid (SumAt (w.alloc (.cells cs 53)) g s) := Lib.hid ⟨hb1⟩
  clear hc hs hb hE hb1
  go_enter Tryd.func24, Tryd.ntmps24
  go_wp2
  go_end0
  exact ⟨rfl, E.out, World.grownBy_alloc w _ _⟩
theorem count_any (w : World) (cs : Array Value) (e : Ev) (hE : EvC cs e) (g : Nat) (s : Nat → Int) (hs : SumAt w g s) (hb : ∀ j, 0 ≤ s j ∧ s j ≤ 1000000000000000) :
    Calls Tryd.prog 24 #[.pointer (some ⟨g, 0, none⟩), .agg cs] w fun x w' => x = .returned (.tuple #[]) ∧ SumAt w' g (cntS s e) ∧ w.grownBy w' (some g) := by
  obtain ⟨kd, nd, wh, wl, nb, ob⟩ := e
  by_cases h6 : kd = 6
  · subst h6
    by_cases hw : wh < 1000
    · exact count_ask w cs 0 nd wh wl nb ob hE g s hs hb hw
    · exact count_asko w cs 0 nd wh wl nb ob hE g s hs hb hw
  by_cases h7 : kd = 7
  · subst h7
    by_cases hw : wh < 1000
    · exact count_left w cs 0 nd wh wl nb ob hE g s hs hb hw
    · exact count_lefto w cs 0 nd wh wl nb ob hE g s hs hb hw
  by_cases h9 : kd = 9
  · subst h9
    by_cases hw : wh < 1000
    · exact count_body w cs 0 nd wh wl nb ob hE g s hs hb hw
    · exact count_bodyo w cs 0 nd wh wl nb ob hE g s hs hb hw
  by_cases h10 : kd = 10
  · subst h10
    by_cases hw : wh < 1000
    · cases wl
      · exact count_end2 w cs 0 nd wh true nb ob hE g s hs hb hw
      · exact count_end1 w cs 0 nd wh true nb ob hE g s hs hb hw
    · exact count_endo w cs 0 nd wh wl nb ob hE g s hs hb hw
  by_cases h14 : kd = 14
  · subst h14
    cases wl
    · exact count_close w cs 0 nd wh true nb ob hE g s hs hb
    · exact count_closeo w cs 0 nd wh true nb ob hE g s hs hb
  by_cases h11 : kd = 11
  · subst h11
    exact count_fetch w cs 0 nd wh wl nb ob hE g s hs hb
  by_cases h13 : kd = 13
  · subst h13
    exact count_data w cs 0 nd wh wl nb ob hE g s hs hb
  by_cases h15 : kd = 15
  · subst h15
    exact count_stop w cs 0 nd wh wl nb ob hE g s hs hb
  by_cases h5 : kd = 5
  · subst h5
    exact count_purge w cs 0 nd wh wl nb ob hE g s hs hb
  by_cases h16 : kd = 16
  · subst h16
    exact count_crash w cs 0 nd wh wl nb ob hE g s hs hb
  exact count_other w cs kd nd wh wl nb ob hE g s hs hb ⟨h5, h6, h7, h9, h10, h11, h13, h14, h15, h16⟩
end Go.Proofs.YtlddpdlebdjniaaDoor
