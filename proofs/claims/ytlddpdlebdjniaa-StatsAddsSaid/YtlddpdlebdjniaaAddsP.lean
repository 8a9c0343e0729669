/- Proved: StatsAdds, for every input: any two sums as one are what the document says, whichever stands first (printed by gen_adds.py). -/
import Derived.Test.YtlddpdlebdjniaaArgs
namespace Go.Proofs.Ytlddpdlebdjniaa
open Go.ChangeShapes Go.WideShapes Go.ChangeAt Go.RowKit Go.Deep Go.Joins
open Go.Maps Go.ChangeMaps
set_option linter.unusedVariables false

set_option maxRecDepth 100000 in
set_option maxHeartbeats 8000000 in
theorem adds_walk (a0 a1 a2 a3 a4 a5 a6 a7 a8 a9 a10 a11 b0 b1 b2 b3 b4 b5 b6 b7 b8 b9 b10 b11 : Int) (w : World) :
    Calls Try.prog 4 #[.agg #[.int .i64 a0, .int .i64 a1, .int .i64 a2, .int .i64 a3, .int .i64 a4, .int .i64 a5, .int .i64 a6, .int .i64 a7, .int .i64 a8, .int .i64 a9, .int .i64 a10, .int .i64 a11], .agg #[.int .i64 b0, .int .i64 b1, .int .i64 b2, .int .i64 b3, .int .i64 b4, .int .i64 b5, .int .i64 b6, .int .i64 b7, .int .i64 b8, .int .i64 b9, .int .i64 b10, .int .i64 b11]] w fun e w' => e = .returned (.bool true) ∧ Ext w w' := by
  obtain ⟨W, hW⟩ : ∃ W, W = (w.alloc (.cells #[.int .i64 a0, .int .i64 a1, .int .i64 a2, .int .i64 a3, .int .i64 a4, .int .i64 a5, .int .i64 a6, .int .i64 a7, .int .i64 a8, .int .i64 a9, .int .i64 a10, .int .i64 a11] 53)).alloc (.cells #[.int .i64 b0, .int .i64 b1, .int .i64 b2, .int .i64 b3, .int .i64 b4, .int .i64 b5, .int .i64 b6, .int .i64 b7, .int .i64 b8, .int .i64 b9, .int .i64 b10, .int .i64 b11] 53) := ⟨_, rfl⟩
  have hx : Ext w W := by rw [hW]; exact (alloc_ext _ _).trans (alloc_ext _ _)
  have hb := heap_new2 w (.cells #[.int .i64 a0, .int .i64 a1, .int .i64 a2, .int .i64 a3, .int .i64 a4, .int .i64 a5, .int .i64 a6, .int .i64 a7, .int .i64 a8, .int .i64 a9, .int .i64 a10, .int .i64 a11] 53) (.cells #[.int .i64 b0, .int .i64 b1, .int .i64 b2, .int .i64 b3, .int .i64 b4, .int .i64 b5, .int .i64 b6, .int .i64 b7, .int .i64 b8, .int .i64 b9, .int .i64 b10, .int .i64 b11] 53)
  rw [← hW] at hb
  have HW := Lib.hid hW; have HX := Lib.hid hx; have HB := Lib.hid hb
  clear hW hx hb
  go_enter Try.func4, Try.ntmps4
  go_wp2_with (go_at_call 7; rw [← HW.out]; refine (wakes_any _).mono ?_; rintro e w1 ⟨rfl, x1⟩; refine stop_of ?_)
  unfold Stop
  have HB1 := Lib.hid (And.intro (x1.heap HB.out.1) (x1.heap HB.out.2)); have HX1 := Lib.hid (HX.out.trans x1)
  clear x1
  go_wp2_with fail
  refine wp_region_segs [] [.inl [0, 2, 6, 7], .inr (.inl 1), .inr (.inl 3), .inr (.inl 4), .inr (.inl 5), .inr (.inl 8), .inl [9, 10, 11, 13, 16, 18], .inr (.inl 12), .inr (.inl 14), .inr (.inl 15), .inr (.inl 17), .inr (.inl 19), .inr (.inl 20), .inl [21, 22, 23]] (by kernel_rfl) (by kernel_rfl) (fun c a d v w h => by cases d <;> exact h) ?_
  have GA0 : ∀ x : Grow [] w1.drew, x.v.cell? ⟨w.heap.size, 0, none⟩ = some (.int .i64 a0) := fun x => x.ext.cell (a := w1.drew) (blk_cell HB1.out.1 0) (by simp)
  have GB0 : ∀ x : Grow [] w1.drew, x.v.cell? ⟨w.heap.size + 1, 0, none⟩ = some (.int .i64 b0) := fun x => x.ext.cell (a := w1.drew) (blk_cell HB1.out.2 0) (by simp)
  have GA1 : ∀ x : Grow [] w1.drew, x.v.cell? ⟨w.heap.size, 1, none⟩ = some (.int .i64 a1) := fun x => x.ext.cell (a := w1.drew) (blk_cell HB1.out.1 1) (by simp)
  have GB1 : ∀ x : Grow [] w1.drew, x.v.cell? ⟨w.heap.size + 1, 1, none⟩ = some (.int .i64 b1) := fun x => x.ext.cell (a := w1.drew) (blk_cell HB1.out.2 1) (by simp)
  have GA2 : ∀ x : Grow [] w1.drew, x.v.cell? ⟨w.heap.size, 2, none⟩ = some (.int .i64 a2) := fun x => x.ext.cell (a := w1.drew) (blk_cell HB1.out.1 2) (by simp)
  have GB2 : ∀ x : Grow [] w1.drew, x.v.cell? ⟨w.heap.size + 1, 2, none⟩ = some (.int .i64 b2) := fun x => x.ext.cell (a := w1.drew) (blk_cell HB1.out.2 2) (by simp)
  have GA3 : ∀ x : Grow [] w1.drew, x.v.cell? ⟨w.heap.size, 3, none⟩ = some (.int .i64 a3) := fun x => x.ext.cell (a := w1.drew) (blk_cell HB1.out.1 3) (by simp)
  have GB3 : ∀ x : Grow [] w1.drew, x.v.cell? ⟨w.heap.size + 1, 3, none⟩ = some (.int .i64 b3) := fun x => x.ext.cell (a := w1.drew) (blk_cell HB1.out.2 3) (by simp)
  have GA4 : ∀ x : Grow [] w1.drew, x.v.cell? ⟨w.heap.size, 4, none⟩ = some (.int .i64 a4) := fun x => x.ext.cell (a := w1.drew) (blk_cell HB1.out.1 4) (by simp)
  have GB4 : ∀ x : Grow [] w1.drew, x.v.cell? ⟨w.heap.size + 1, 4, none⟩ = some (.int .i64 b4) := fun x => x.ext.cell (a := w1.drew) (blk_cell HB1.out.2 4) (by simp)
  have GA5 : ∀ x : Grow [] w1.drew, x.v.cell? ⟨w.heap.size, 5, none⟩ = some (.int .i64 a5) := fun x => x.ext.cell (a := w1.drew) (blk_cell HB1.out.1 5) (by simp)
  have GB5 : ∀ x : Grow [] w1.drew, x.v.cell? ⟨w.heap.size + 1, 5, none⟩ = some (.int .i64 b5) := fun x => x.ext.cell (a := w1.drew) (blk_cell HB1.out.2 5) (by simp)
  have GA6 : ∀ x : Grow [] w1.drew, x.v.cell? ⟨w.heap.size, 6, none⟩ = some (.int .i64 a6) := fun x => x.ext.cell (a := w1.drew) (blk_cell HB1.out.1 6) (by simp)
  have GB6 : ∀ x : Grow [] w1.drew, x.v.cell? ⟨w.heap.size + 1, 6, none⟩ = some (.int .i64 b6) := fun x => x.ext.cell (a := w1.drew) (blk_cell HB1.out.2 6) (by simp)
  have GA7 : ∀ x : Grow [] w1.drew, x.v.cell? ⟨w.heap.size, 7, none⟩ = some (.int .i64 a7) := fun x => x.ext.cell (a := w1.drew) (blk_cell HB1.out.1 7) (by simp)
  have GB7 : ∀ x : Grow [] w1.drew, x.v.cell? ⟨w.heap.size + 1, 7, none⟩ = some (.int .i64 b7) := fun x => x.ext.cell (a := w1.drew) (blk_cell HB1.out.2 7) (by simp)
  have GA8 : ∀ x : Grow [] w1.drew, x.v.cell? ⟨w.heap.size, 8, none⟩ = some (.int .i64 a8) := fun x => x.ext.cell (a := w1.drew) (blk_cell HB1.out.1 8) (by simp)
  have GB8 : ∀ x : Grow [] w1.drew, x.v.cell? ⟨w.heap.size + 1, 8, none⟩ = some (.int .i64 b8) := fun x => x.ext.cell (a := w1.drew) (blk_cell HB1.out.2 8) (by simp)
  have GA9 : ∀ x : Grow [] w1.drew, x.v.cell? ⟨w.heap.size, 9, none⟩ = some (.int .i64 a9) := fun x => x.ext.cell (a := w1.drew) (blk_cell HB1.out.1 9) (by simp)
  have GB9 : ∀ x : Grow [] w1.drew, x.v.cell? ⟨w.heap.size + 1, 9, none⟩ = some (.int .i64 b9) := fun x => x.ext.cell (a := w1.drew) (blk_cell HB1.out.2 9) (by simp)
  have GA10 : ∀ x : Grow [] w1.drew, x.v.cell? ⟨w.heap.size, 10, none⟩ = some (.int .i64 a10) := fun x => x.ext.cell (a := w1.drew) (blk_cell HB1.out.1 10) (by simp)
  have GB10 : ∀ x : Grow [] w1.drew, x.v.cell? ⟨w.heap.size + 1, 10, none⟩ = some (.int .i64 b10) := fun x => x.ext.cell (a := w1.drew) (blk_cell HB1.out.2 10) (by simp)
  have GA11 : ∀ x : Grow [] w1.drew, x.v.cell? ⟨w.heap.size, 11, none⟩ = some (.int .i64 a11) := fun x => x.ext.cell (a := w1.drew) (blk_cell HB1.out.1 11) (by simp)
  have GB11 : ∀ x : Grow [] w1.drew, x.v.cell? ⟨w.heap.size + 1, 11, none⟩ = some (.int .i64 b11) := fun x => x.ext.cell (a := w1.drew) (blk_cell HB1.out.2 11) (by simp)
  (rw [wpSegs_inl]; simp only [pickOps, List.map_cons, List.map_nil, List.getD_cons_succ, List.getD_cons_zero]; (repeat (go_big_quiet_step (fail))); refine wpQuiet_nil ?_)
  clear GA0 GB0 GA1 GB1 GA2 GB2 GA3 GB3 GA4 GB4 GA5 GB5 GA6 GB6 GA7 GB7 GA8 GB8 GA9 GB9 GA10 GB10 GA11 GB11
  (rw [wpSegs_grow]; simp only [pickOps, List.map_cons, List.map_nil, List.getD_cons_succ, List.getD_cons_zero]; go_wp2_with ((go_at_call 12; refine (of_any a0 a1 a2 a3 a4 a5 a6 a7 a8 a9 a10 a11 _).mono ?_; rintro e u1 ⟨rfl, xu1⟩)))
  refine ⟨.of xu1 _, ?_⟩
  (rw [wpSegs_grow]; simp only [pickOps, List.map_cons, List.map_nil, List.getD_cons_succ, List.getD_cons_zero]; go_wp2_with ((go_at_call 12; refine (of_any b0 b1 b2 b3 b4 b5 b6 b7 b8 b9 b10 b11 _).mono ?_; rintro e u2 ⟨rfl, xu2⟩)))
  refine ⟨.of xu2 _, ?_⟩
  (rw [wpSegs_grow]; simp only [pickOps, List.map_cons, List.map_nil, List.getD_cons_succ, List.getD_cons_zero]; go_wp2_with ((go_at_call 11; refine (add_any a0 a1 a2 a3 a4 a5 a6 a7 a8 a9 a10 a11 b0 b1 b2 b3 b4 b5 b6 b7 b8 b9 b10 b11 _).mono ?_; rintro e u3 ⟨rfl, xu3⟩)))
  refine ⟨.of xu3 _, ?_⟩
  (rw [wpSegs_grow]; simp only [pickOps, List.map_cons, List.map_nil, List.getD_cons_succ, List.getD_cons_zero]; go_wp2_with ((go_at_call 10; refine (back_any (wrap64 (a0 + b0)) (wrap64 (a1 + b1)) (wrap64 (a2 + b2)) (wrap64 (a3 + b3)) (wrap64 (a4 + b4)) (wrap64 (a5 + b5)) (wrap64 (a6 + b6)) (wrap64 (a7 + b7)) (wrap64 (a8 + b8)) (wrap64 (a9 + b9)) (wrap64 (a10 + b10)) (wrap64 (a11 + b11)) _).mono ?_; rintro e u4 ⟨rfl, xu4⟩)))
  refine ⟨.of xu4 _, ?_⟩
  (rw [wpSegs_grow]; simp only [pickOps, List.map_cons, List.map_nil, List.getD_cons_succ, List.getD_cons_zero]; go_wp2_with ((go_at_call 13; refine (radd_any a0 a1 a2 a3 a4 a5 a6 a7 a8 a9 a10 a11 b0 b1 b2 b3 b4 b5 b6 b7 b8 b9 b10 b11 _).mono ?_; rintro e u5 ⟨rfl, xu5⟩)))
  refine ⟨.of xu5 _, ?_⟩
  have xu : Ext w1 u5 := (Ext.drew (Ext.refl w1)).trans (xu1.trans (xu2.trans (xu3.trans (xu4.trans xu5))))
  have XU := Lib.hid xu
  clear xu xu1 xu2 xu3 xu4 xu5
  have GA0 : ∀ x : Grow [] u5, x.v.cell? ⟨w.heap.size, 0, none⟩ = some (.int .i64 a0) := fun x => x.ext.cell (a := u5) (blk_cell (XU.out.heap HB1.out.1) 0) (by simp)
  have GB0 : ∀ x : Grow [] u5, x.v.cell? ⟨w.heap.size + 1, 0, none⟩ = some (.int .i64 b0) := fun x => x.ext.cell (a := u5) (blk_cell (XU.out.heap HB1.out.2) 0) (by simp)
  have GA1 : ∀ x : Grow [] u5, x.v.cell? ⟨w.heap.size, 1, none⟩ = some (.int .i64 a1) := fun x => x.ext.cell (a := u5) (blk_cell (XU.out.heap HB1.out.1) 1) (by simp)
  have GB1 : ∀ x : Grow [] u5, x.v.cell? ⟨w.heap.size + 1, 1, none⟩ = some (.int .i64 b1) := fun x => x.ext.cell (a := u5) (blk_cell (XU.out.heap HB1.out.2) 1) (by simp)
  have GA2 : ∀ x : Grow [] u5, x.v.cell? ⟨w.heap.size, 2, none⟩ = some (.int .i64 a2) := fun x => x.ext.cell (a := u5) (blk_cell (XU.out.heap HB1.out.1) 2) (by simp)
  have GB2 : ∀ x : Grow [] u5, x.v.cell? ⟨w.heap.size + 1, 2, none⟩ = some (.int .i64 b2) := fun x => x.ext.cell (a := u5) (blk_cell (XU.out.heap HB1.out.2) 2) (by simp)
  have GA3 : ∀ x : Grow [] u5, x.v.cell? ⟨w.heap.size, 3, none⟩ = some (.int .i64 a3) := fun x => x.ext.cell (a := u5) (blk_cell (XU.out.heap HB1.out.1) 3) (by simp)
  have GB3 : ∀ x : Grow [] u5, x.v.cell? ⟨w.heap.size + 1, 3, none⟩ = some (.int .i64 b3) := fun x => x.ext.cell (a := u5) (blk_cell (XU.out.heap HB1.out.2) 3) (by simp)
  have GA4 : ∀ x : Grow [] u5, x.v.cell? ⟨w.heap.size, 4, none⟩ = some (.int .i64 a4) := fun x => x.ext.cell (a := u5) (blk_cell (XU.out.heap HB1.out.1) 4) (by simp)
  have GB4 : ∀ x : Grow [] u5, x.v.cell? ⟨w.heap.size + 1, 4, none⟩ = some (.int .i64 b4) := fun x => x.ext.cell (a := u5) (blk_cell (XU.out.heap HB1.out.2) 4) (by simp)
  have GA5 : ∀ x : Grow [] u5, x.v.cell? ⟨w.heap.size, 5, none⟩ = some (.int .i64 a5) := fun x => x.ext.cell (a := u5) (blk_cell (XU.out.heap HB1.out.1) 5) (by simp)
  have GB5 : ∀ x : Grow [] u5, x.v.cell? ⟨w.heap.size + 1, 5, none⟩ = some (.int .i64 b5) := fun x => x.ext.cell (a := u5) (blk_cell (XU.out.heap HB1.out.2) 5) (by simp)
  have GA6 : ∀ x : Grow [] u5, x.v.cell? ⟨w.heap.size, 6, none⟩ = some (.int .i64 a6) := fun x => x.ext.cell (a := u5) (blk_cell (XU.out.heap HB1.out.1) 6) (by simp)
  have GB6 : ∀ x : Grow [] u5, x.v.cell? ⟨w.heap.size + 1, 6, none⟩ = some (.int .i64 b6) := fun x => x.ext.cell (a := u5) (blk_cell (XU.out.heap HB1.out.2) 6) (by simp)
  have GA7 : ∀ x : Grow [] u5, x.v.cell? ⟨w.heap.size, 7, none⟩ = some (.int .i64 a7) := fun x => x.ext.cell (a := u5) (blk_cell (XU.out.heap HB1.out.1) 7) (by simp)
  have GB7 : ∀ x : Grow [] u5, x.v.cell? ⟨w.heap.size + 1, 7, none⟩ = some (.int .i64 b7) := fun x => x.ext.cell (a := u5) (blk_cell (XU.out.heap HB1.out.2) 7) (by simp)
  have GA8 : ∀ x : Grow [] u5, x.v.cell? ⟨w.heap.size, 8, none⟩ = some (.int .i64 a8) := fun x => x.ext.cell (a := u5) (blk_cell (XU.out.heap HB1.out.1) 8) (by simp)
  have GB8 : ∀ x : Grow [] u5, x.v.cell? ⟨w.heap.size + 1, 8, none⟩ = some (.int .i64 b8) := fun x => x.ext.cell (a := u5) (blk_cell (XU.out.heap HB1.out.2) 8) (by simp)
  have GA9 : ∀ x : Grow [] u5, x.v.cell? ⟨w.heap.size, 9, none⟩ = some (.int .i64 a9) := fun x => x.ext.cell (a := u5) (blk_cell (XU.out.heap HB1.out.1) 9) (by simp)
  have GB9 : ∀ x : Grow [] u5, x.v.cell? ⟨w.heap.size + 1, 9, none⟩ = some (.int .i64 b9) := fun x => x.ext.cell (a := u5) (blk_cell (XU.out.heap HB1.out.2) 9) (by simp)
  have GA10 : ∀ x : Grow [] u5, x.v.cell? ⟨w.heap.size, 10, none⟩ = some (.int .i64 a10) := fun x => x.ext.cell (a := u5) (blk_cell (XU.out.heap HB1.out.1) 10) (by simp)
  have GB10 : ∀ x : Grow [] u5, x.v.cell? ⟨w.heap.size + 1, 10, none⟩ = some (.int .i64 b10) := fun x => x.ext.cell (a := u5) (blk_cell (XU.out.heap HB1.out.2) 10) (by simp)
  have GA11 : ∀ x : Grow [] u5, x.v.cell? ⟨w.heap.size, 11, none⟩ = some (.int .i64 a11) := fun x => x.ext.cell (a := u5) (blk_cell (XU.out.heap HB1.out.1) 11) (by simp)
  have GB11 : ∀ x : Grow [] u5, x.v.cell? ⟨w.heap.size + 1, 11, none⟩ = some (.int .i64 b11) := fun x => x.ext.cell (a := u5) (blk_cell (XU.out.heap HB1.out.2) 11) (by simp)
  (rw [wpSegs_inl]; simp only [pickOps, List.map_cons, List.map_nil, List.getD_cons_succ, List.getD_cons_zero]; (repeat (go_big_quiet_step (fail))); refine wpQuiet_nil ?_)
  clear GA0 GB0 GA1 GB1 GA2 GB2 GA3 GB3 GA4 GB4 GA5 GB5 GA6 GB6 GA7 GB7 GA8 GB8 GA9 GB9 GA10 GB10 GA11 GB11
  (rw [wpSegs_grow]; simp only [pickOps, List.map_cons, List.map_nil, List.getD_cons_succ, List.getD_cons_zero]; go_wp2_with ((go_at_call 12; refine (of_any a0 a1 a2 a3 a4 a5 a6 a7 a8 a9 a10 a11 _).mono ?_; rintro e v1 ⟨rfl, xv1⟩)))
  refine ⟨.of xv1 _, ?_⟩
  (rw [wpSegs_grow]; simp only [pickOps, List.map_cons, List.map_nil, List.getD_cons_succ, List.getD_cons_zero]; go_wp2_with ((go_at_call 12; refine (of_any b0 b1 b2 b3 b4 b5 b6 b7 b8 b9 b10 b11 _).mono ?_; rintro e v2 ⟨rfl, xv2⟩)))
  refine ⟨.of xv2 _, ?_⟩
  (rw [wpSegs_grow]; simp only [pickOps, List.map_cons, List.map_nil, List.getD_cons_succ, List.getD_cons_zero]; go_wp2_with ((go_at_call 11; refine (add_any a0 a1 a2 a3 a4 a5 a6 a7 a8 a9 a10 a11 b0 b1 b2 b3 b4 b5 b6 b7 b8 b9 b10 b11 _).mono ?_; rintro e v3 ⟨rfl, xv3⟩)))
  refine ⟨.of xv3 _, ?_⟩
  (rw [wpSegs_grow]; simp only [pickOps, List.map_cons, List.map_nil, List.getD_cons_succ, List.getD_cons_zero]; go_wp2_with ((go_at_call 12; refine (of_any b0 b1 b2 b3 b4 b5 b6 b7 b8 b9 b10 b11 _).mono ?_; rintro e v4 ⟨rfl, xv4⟩)))
  refine ⟨.of xv4 _, ?_⟩
  (rw [wpSegs_grow]; simp only [pickOps, List.map_cons, List.map_nil, List.getD_cons_succ, List.getD_cons_zero]; go_wp2_with ((go_at_call 12; refine (of_any a0 a1 a2 a3 a4 a5 a6 a7 a8 a9 a10 a11 _).mono ?_; rintro e v5 ⟨rfl, xv5⟩)))
  refine ⟨.of xv5 _, ?_⟩
  have h6 := fun W => add_any b0 b1 b2 b3 b4 b5 b6 b7 b8 b9 b10 b11 a0 a1 a2 a3 a4 a5 a6 a7 a8 a9 a10 a11 W
  simp only [Int.add_comm b0 a0, Int.add_comm b1 a1, Int.add_comm b2 a2, Int.add_comm b3 a3, Int.add_comm b4 a4, Int.add_comm b5 a5, Int.add_comm b6 a6, Int.add_comm b7 a7, Int.add_comm b8 a8, Int.add_comm b9 a9, Int.add_comm b10 a10, Int.add_comm b11 a11] at h6
  (rw [wpSegs_grow]; simp only [pickOps, List.map_cons, List.map_nil, List.getD_cons_succ, List.getD_cons_zero]; go_wp2_with ((go_at_call 11; refine (h6 _).mono ?_; rintro e v6 ⟨rfl, xv6⟩)))
  refine ⟨.of xv6 _, ?_⟩
  have xv : Ext w v6 := HX1.out.trans (XU.out.trans (xv1.trans (xv2.trans (xv3.trans (xv4.trans (xv5.trans xv6))))))
  have XV := Lib.hid xv
  clear xv xv1 xv2 xv3 xv4 xv5 xv6 h6
  (rw [wpSegs_inl]; simp only [pickOps, List.map_cons, List.map_nil, List.getD_cons_succ, List.getD_cons_zero]; (repeat (go_big_quiet_step (fail))); refine wpQuiet_nil ?_)
  rw [wpSegs_nil]
  go_wp2
  go_ret
  exact ⟨rfl, XV.out⟩
set_option maxRecDepth 100000 in
theorem statsAdds_lifted (os : Os) (started : os.Started) (H : Type) (enc : TypeId × Value → H) :
    ReturnsInHanded {} Try.checked os 4 .any (Rows.statsAddsSpec.pre6 enc Try.prog Try.f4 Rows.statsAddsRow.domain false) (Rows.statsAddsSpec.post enc Try.prog Try.f4 false true false false) := by
  refine returnsInHanded_of_change (C := Try.checked) own started (by kernel_rfl) Try.func4
    (ChangeSpec.witness6 (enc := enc) (C := Try.checked) false ⟨#[], #[.agg #[.int .i64 0, .int .i64 0, .int .i64 0, .int .i64 0, .int .i64 0, .int .i64 0, .int .i64 0, .int .i64 0, .int .i64 0, .int .i64 0, .int .i64 0, .int .i64 0], .agg #[.int .i64 0, .int .i64 0, .int .i64 0, .int .i64 0, .int .i64 0, .int .i64 0, .int .i64 0, .int .i64 0, .int .i64 0, .int .i64 0, .int .i64 0, .int .i64 0]], []⟩ 8 (by kernel_rfl) (by kernel_rfl) (by kernel_rfl) (by kernel_rfl)) ?_
  intro W base args ds gs before hval0 hW hcnd _
  have hval : ∀ (j : Nat) t v, Try.f4.params[j]? = some t → args[j]? = some v → Value.okWide Try.prog W .any base t v := hval0
  have hW' := hW
  obtain ⟨p, q, hA0, hV, rfl, hfz, hnd⟩ := hW
  have hA : DataW.TrodAll enc Try.prog W 0 (fun _ => true) true Try.f4.params.toList args.toList ds p := hA0
  rw [Try.params4] at hA hval
  obtain ⟨v0, vs0, d0, ds0, p0, q0, hargs, rfl, rfl, h0, r0⟩ := trodAll_cons hA
  obtain ⟨v1, vs1, d1, ds1, p1, q1, rfl, rfl, rfl, h1, r1⟩ := trodAll_cons r0
  obtain ⟨rfl, rfl, rfl⟩ := trodAll_nil r1
  obtain rfl : args = #[v0, v1] := by cases args; simp_all
  obtain ⟨rfl, rfl⟩ := trodVars_none hV
  have lt0 : ∀ x ∈ p0, x.block < W.heap.size := by obtain ⟨m, hm⟩ := h0; exact DataW.trod_lt m _ _ _ hm
  have t0 := fun W' (bel : Below W.heap.size W W') => Below.trod laidOut (by kernel_rfl) (of_decide_eq_true (by kernel_rfl)) h0 bel lt0
  have lt1 : ∀ x ∈ p1, x.block < W.heap.size := by obtain ⟨m, hm⟩ := h1; exact DataW.trod_lt m _ _ _ hm
  have t1 := fun W' (bel : Below W.heap.size W W') => Below.trod laidOut (by kernel_rfl) (of_decide_eq_true (by kernel_rfl)) h1 bel lt1
  obtain ⟨a0_0, a0_1, a0_2, a0_3, a0_4, a0_5, a0_6, a0_7, a0_8, a0_9, a0_10, a0_11, rfl⟩ := sum_open (hval 0 53 v0 rfl rfl) h0
  obtain ⟨a1_0, a1_1, a1_2, a1_3, a1_4, a1_5, a1_6, a1_7, a1_8, a1_9, a1_10, a1_11, rfl⟩ := sum_open (hval 1 53 v1 rfl rfl) h1
  clear hA0 hval0
  refine (adds_walk a0_0 a0_1 a0_2 a0_3 a0_4 a0_5 a0_6 a0_7 a0_8 a0_9 a0_10 a0_11 a1_0 a1_1 a1_2 a1_3 a1_4 a1_5 a1_6 a1_7 a1_8 a1_9 a1_10 a1_11 W  ).mono fun e W' ⟨he, bel⟩ => ?_
  subst he
  exact ⟨_, rfl, _, _, _, [], _, [], hW', trodAll_mk1 (shut_bool Try.underlying4 _), (trodAll_cons_mk (t0 W' bel) (trodAll_cons_mk (t1 W' bel) trodAll_mk0)), rfl, bel.frame _, fun h => by cases h⟩

/-- The statement. -/
theorem StatsAdds_proved : Rows.StatsAddsSaid :=
  OpenClaim.holds_of_wide 4 Try.f4 rfl rfl rfl rfl rfl rfl rfl ⟨rfl, rfl, rfl, rfl, rfl⟩ rfl rfl rfl rfl rfl (by kernel_rfl) Try.func4 (by kernel_rfl)
    (of_decide_eq_true (by kernel_rfl)) (by unfold Func.isWrapper; first | (rw [if_pos (by decide +kernel)]; kernel_rfl) | (rw [if_neg (by decide +kernel)]; exact ⟨rfl, rfl⟩))
    (fun os started H enc _ => statsAdds_lifted os started H enc)
#print axioms StatsAdds_proved
end Go.Proofs.Ytlddpdlebdjniaa
