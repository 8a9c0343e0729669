/- The reference's Add, Less, Over, Fits, New, walked. -/
import Derived.Test.YtjcpmfioppopcaaTen
import Derived.Test.YtjcpmfioppopcaaSeg
namespace Go.Proofs.Ytjcpmfioppopcaa
open Go.RowKit
set_option linter.unusedVariables false

theorem LinesAt.slice {w : World} {s : Value} {L : List Ln} (h : LinesAt w s L) : ∃ A c, s = .slice A L.length c := own_slice h
theorem LinesAt.alloc {w : World} {s : Value} {L : List Ln} (h : LinesAt w s L) (o : Obj) : LinesAt (w.alloc o) s L := World.ownsRow.alloc h o
theorem Ext.lines {a b : World} (h : Ext a b) {s : Value} {L : List Ln} (hl : LinesAt a s L) : LinesAt b s L := hl.below h

/-- The world behind the head of a function that boxes a book and makes room for one. -/
def twoW (w : World) (x y z : Value) : World := (w.alloc (.cells #[x, y, z] 32)).alloc (.cells #[.int .i64 0, .int .i64 0, .slice none 0 0] 32)
theorem twoW_facts (w : World) (x y z : Value) : Ext w (twoW w x y z) ∧ (twoW w x y z).heap[w.heap.size]? = some (.cells #[x, y, z] 32 (0, 0)) ∧ (twoW w x y z).heap[w.heap.size + 1]? = some (.cells #[.int .i64 0, .int .i64 0, .slice none 0 0] 32 (0, 0)) :=
  ⟨((Below.refl _ _).alloc (Nat.le_refl _) _).alloc (by simp) _, heap_new2 w _ _⟩

/-- What is stored into the second block is read again from there; the lines stay. -/
theorem two_store {w W w1 : World} {z : Value} {s' : Value} {L : List Ln} (hE : Ext w W) (hsz : w.heap.size + 1 < W.heap.size) (hx : Ext W w1) (hl : LinesAt w1 s' L) (hb : w1.heap[w.heap.size + 1]? = some (.cells #[.int .i64 0, .int .i64 0, z] 32 (0, 0))) {u0 u1 u2 : Value} :
    LinesAt (((w1.setCell ⟨w.heap.size + 1, 0, none⟩ u0).setCell ⟨w.heap.size + 1, 1, none⟩ u1).setCell ⟨w.heap.size + 1, 2, none⟩ u2) s' L ∧ Below w.heap.size w (((w1.setCell ⟨w.heap.size + 1, 0, none⟩ u0).setCell ⟨w.heap.size + 1, 1, none⟩ u1).setCell ⟨w.heap.size + 1, 2, none⟩ u2) := by
  have hne : s'.ownBlock ≠ some (w.heap.size + 1) := by
    rcases hl.2 with ⟨rfl, _⟩ | ⟨g, cap, cur, rfl, _, hg, _⟩
    · simp [Value.ownBlock]
    · intro he
      simp [Value.ownBlock] at he
      rw [he, hb] at hg
      injection hg with hg
      injection hg with _ ht
      exact absurd ht (by decide)
  refine ⟨?_, (((Below.trans hE (Below.mono hx hE.size)).setCell (by simp) _).setCell (by simp) _).setCell (by simp) _⟩
  have hg : w1.grownBy (((w1.setCell ⟨w.heap.size + 1, 0, none⟩ u0).setCell ⟨w.heap.size + 1, 1, none⟩ u1).setCell ⟨w.heap.size + 1, 2, none⟩ u2) (some (w.heap.size + 1)) :=
    grown_setCell (p := ⟨w.heap.size + 1, 2, none⟩) (grown_setCell (p := ⟨w.heap.size + 1, 1, none⟩) (grown_setCell (p := ⟨w.heap.size + 1, 0, none⟩) (World.grownBy.refl w1 _) (.inl rfl) u0) (.inl rfl) u1) (.inl rfl) u2
  exact World.ownsRow.kept hl hg (.inr hne)

set_option maxRecDepth 100000 in
set_option maxHeartbeats 2000000 in
theorem radd_arg (L : List Ln) (s : Value) (t : Bs) (all share n : Int) (w : World) (hL : LinesAt w s L) (hA : asksB t n = false) :
    Calls Try.prog 21 #[.agg #[.int .i64 all, .int .i64 share, s], .string ⟨t.toArray⟩, .int .i64 n] w fun e w' => ∃ s', e = .returned (.tuple #[.agg #[.int .i64 all, .int .i64 share, s'], .int .i64 1]) ∧ LinesAt w' s' L ∧ Below w.heap.size w w' := by
  obtain ⟨A, c, rfl⟩ := hL.slice
  have hbel : Below w.heap.size w ((w.alloc (.cells #[.int .i64 all, .int .i64 share, .slice A L.length c] 32)).alloc (.cells #[.int .i64 all, .int .i64 share, .slice A L.length c] 32)) := ((Below.refl _ _).alloc (Nat.le_refl _) _).alloc (by simp) _
  have hl2 := (hL.alloc (.cells #[.int .i64 all, .int .i64 share, .slice A L.length c] 32)).alloc (.cells #[.int .i64 all, .int .i64 share, .slice A L.length c] 32)
  have HL := Lib.hid hl2; clear hl2
  by_cases h1 : t.length ≤ 200
  · have h2 : okN n = false := by simpa [asksB, h1] using hA
    have hlt : decide (200 < (t.length : Int)) = false := by simp; omega
    go_enter Try.func21, Try.ntmps21
    go_wp2_with (go_at_call 31; refine (number_any _ _).mono ?_; rintro e w' ⟨rfl, rfl⟩)
    exact bodyPost_ret (v := .tuple #[.agg #[.int .i64 all, .int .i64 share, .slice A L.length c], .int .i64 1]) (by simp [results, Try.results21, go_sem]) rfl ⟨_, rfl, HL.out, hbel⟩
  · have hlt : decide (200 < (t.length : Int)) = true := by simp; omega
    go_enter Try.func21, Try.ntmps21
    go_wp2
    exact bodyPost_ret (v := .tuple #[.agg #[.int .i64 all, .int .i64 share, .slice A L.length c], .int .i64 1]) (by simp [results, Try.results21, go_sem]) rfl ⟨_, rfl, HL.out, hbel⟩

set_option maxRecDepth 100000 in
set_option maxHeartbeats 4000000 in
theorem radd_ok (L : List Ln) (s : Value) (t : Bs) (all share n : Int) (w : World) (hL : LinesAt w s L) (hlen : L.length ≤ 1000) (hI : Inv all share L) (hA : asksB t n = true) (hr : ¬ share - rOf L t < n) (hs : ¬ all - rSum L < n) :
    Calls Try.prog 21 #[.agg #[.int .i64 all, .int .i64 share, s], .string ⟨t.toArray⟩, .int .i64 n] w fun e w' => ∃ s', e = .returned (.tuple #[.agg #[.int .i64 all, .int .i64 share, s'], .int .i64 0]) ∧ LinesAt w' s' (rWith L t (rOf L t + n)) ∧ Below w.heap.size w w' := by
  obtain ⟨A, c, rfl⟩ := hL.slice
  obtain ⟨⟨n0, n1⟩, tl⟩ := (asks_iff t n).1 hA
  have hok : okN n = true := by simp [okN, n0, n1]
  have hlt : decide (200 < (t.length : Int)) = false := by simp; omega
  have b1 := hI.of0 t; have b2 := hI.ofs t; have b3 := hI.sum0; have b4 := hI.sum; have b5 := hI.s0; have b6 := hI.s1; have b7 := hI.r1
  have hv : ∀ x ∈ L, 0 ≤ x.2 := fun x hx => (hI.val x hx).1
  have HV := Lib.hid hv; clear hv
  have hdec : decide (share - rOf L t < n) = false := by simpa using hr
  have hdec2 : decide (all - rSum L < n) = false := by simpa using hs
  obtain ⟨W, hW⟩ : ∃ W, W = (w.alloc (.cells #[.int .i64 all, .int .i64 share, .slice A L.length c] 32)).alloc (.cells #[.int .i64 0, .int .i64 0, .slice none 0 0] 32) := ⟨_, rfl⟩
  have hf := twoW_facts w (.int .i64 all) (.int .i64 share) (.slice A L.length c)
  unfold twoW at hf
  rw [← hW] at hf
  obtain ⟨hE, hw0, hw1⟩ := hf
  have a0 : W.cell? ⟨w.heap.size, 0, none⟩ = some (.int .i64 all) := blk_cell hw0 0
  have a1 : W.cell? ⟨w.heap.size, 1, none⟩ = some (.int .i64 share) := blk_cell hw0 1
  have a2 : W.cell? ⟨w.heap.size, 2, none⟩ = some (.slice A L.length c) := blk_cell hw0 2
  have hLW := hE.lines hL
  have HW := Lib.hid hW; have Hw0 := Lib.hid hw0; have Hw1 := Lib.hid hw1; clear hw0 hw1 hW
  go_enter Try.func21, Try.ntmps21
  go_wp2_with (go_at_call 31; refine (number_any _ _).mono ?_; rintro e w' ⟨rfl, rfl⟩)
  rw [← HW.out]
  have G0 : ∀ x : Grow [] W, x.v.cell? ⟨w.heap.size, 0, none⟩ = some (.int .i64 all) := fun x => x.ext.cell a0 (by simp)
  have G1 : ∀ x : Grow [] W, x.v.cell? ⟨w.heap.size, 1, none⟩ = some (.int .i64 share) := fun x => x.ext.cell a1 (by simp)
  have G2 : ∀ x : Grow [] W, x.v.cell? ⟨w.heap.size, 2, none⟩ = some (.slice A L.length c) := fun x => x.ext.cell a2 (by simp)
  have e9 : IntKind.i64.wrap (share - rOf L t) = share - rOf L t := IntWalk.i64_in _ (by omega)
  have e8 : IntKind.i64.wrap (all - rSum L) = all - rSum L := IntWalk.i64_in _ (by omega)
  (refine wp_region_grow (by kernel_rfl) (by kernel_rfl) ?_; (repeat (go_big_quiet_step ((first | (go_at_call 32; exact Calls.inGrow (rof_any L _ t all share _ ((Grow.ext _).ext.lines hLW) hlen)) | (go_at_call 34; exact Calls.inGrow (rsum_any L _ all share _ ((Grow.ext _).ext.lines hLW) hlen HV.out (by omega))))))); refine wpQuiet_nil ?_)
  clear G0 G1 G2
  intro w1 hx1
  have c0 := hx1.cell a0; have c1 := hx1.cell a1; have c2 := hx1.cell a2
  have hLw1 := hx1.drew.lines hLW
  have hB1 := hx1.heap Hw1.out
  have HB1 := Lib.hid hB1; clear hB1
  go_wp2
  refine wp_region_segs [w.heap.size + 1] [.inl [0, 1, 2, 3, 5], .inr (.inl 4), .inl [6], .inr (.inl 7), .inr (.inl 8), .inl [9]] (by kernel_rfl) (by kernel_rfl) (fun c a d v w h => by cases d <;> exact h) ?_
  have G0 : ∀ x : Grow [w.heap.size + 1] w1.drew, x.v.cell? ⟨w.heap.size, 0, none⟩ = some (.int .i64 all) := fun x => x.ext.cell c0 (by simp)
  have G1 : ∀ x : Grow [w.heap.size + 1] w1.drew, x.v.cell? ⟨w.heap.size, 1, none⟩ = some (.int .i64 share) := fun x => x.ext.cell c1 (by simp)
  have G2 : ∀ x : Grow [w.heap.size + 1] w1.drew, x.v.cell? ⟨w.heap.size, 2, none⟩ = some (.slice A L.length c) := fun x => x.ext.cell c2 (by simp)
  (rw [wpSegs_inl]; simp only [pickOps, List.map_cons, List.map_nil, List.getD_cons_succ, List.getD_cons_zero]; (repeat (go_big_quiet_step (fail))); refine wpQuiet_nil ?_)
  clear G0 G1 G2
  (rw [wpSegs_grow]; simp only [pickOps, List.map_cons, List.map_nil, List.getD_cons_succ, List.getD_cons_zero]; go_wp2_with ((go_at_call 32; refine (rof_any L _ t all share _ hLw1 hlen).mono ?_; rintro e w2 ⟨rfl, hx2⟩)))
  refine ⟨.of hx2 _, ?_⟩
  (rw [wpSegs_inl]; simp only [pickOps, List.map_cons, List.map_nil, List.getD_cons_succ, List.getD_cons_zero]; (repeat (go_big_quiet_step (fail))); refine wpQuiet_nil ?_)
  have hE2 : Ext W w2 := hx1.drew.trans hx2
  (rw [wpSegs_grow]; simp only [pickOps, List.map_cons, List.map_nil, List.getD_cons_succ, List.getD_cons_zero]; go_wp2_with ((go_at_call 33; refine (rwith_any L _ t all share _ _ (hE2.lines hLW) hlen).mono ?_; rintro e w3 ⟨s', rfl, hl3, hx3⟩)))
  refine ⟨.of hx3 _, ?_⟩
  have hE3 : Ext W w3 := hE2.trans hx3
  have p1 := hE3.heap Hw1.out
  have g0 : w3.cell? ⟨w.heap.size + 1, 0, none⟩ = some (.int .i64 0) := blk_cell p1 0
  have g1 : w3.cell? ⟨w.heap.size + 1, 1, none⟩ = some (.int .i64 0) := blk_cell p1 1
  have g2 : w3.cell? ⟨w.heap.size + 1, 2, none⟩ = some (.slice none 0 0) := blk_cell p1 2
  have f0 := blk_free p1 0; have f1 := blk_free p1 1; have f2 := blk_free p1 2
  have hfin := fun u0 u1 u2 => two_store (u0 := u0) (u1 := u1) (u2 := u2) hE (blk_lt Hw1.out) hE3 hl3 p1
  have HF := Lib.hid hfin
  obtain ⟨A3, c3, rfl⟩ := hl3.slice
  clear hfin p1
  (rw [wpSegs_grow]; simp only [pickOps, List.map_cons, List.map_nil, List.getD_cons_succ, List.getD_cons_zero]; go_wp2_with (fail))
  refine ⟨(((ExtB.refl _ _).setCell (.inl (by simp)) _).setCell (.inl (by simp)) _).setCell (.inl (by simp)) _, ?_⟩
  (rw [wpSegs_inl]; simp only [pickOps, List.map_cons, List.map_nil, List.getD_cons_succ, List.getD_cons_zero]; (repeat (go_big_quiet_step (fail))); refine wpQuiet_nil ?_)
  rw [wpSegs_nil]
  go_wp2
  exact bodyPost_ret (v := .tuple #[.agg #[.int .i64 all, .int .i64 share, .slice A3 _ c3], .int .i64 0]) (by simp [results, Try.results21, go_sem, g0, g1, g2]) rfl ⟨_, rfl, (HF.out _ _ _).1, (HF.out _ _ _).2⟩

set_option maxRecDepth 100000 in
set_option maxHeartbeats 4000000 in
theorem radd_room1 (L : List Ln) (s : Value) (t : Bs) (all share n : Int) (w : World) (hL : LinesAt w s L) (hlen : L.length ≤ 1000) (hI : Inv all share L) (hA : asksB t n = true) (hr : share - rOf L t < n) :
    Calls Try.prog 21 #[.agg #[.int .i64 all, .int .i64 share, s], .string ⟨t.toArray⟩, .int .i64 n] w fun e w' => ∃ s', e = .returned (.tuple #[.agg #[.int .i64 all, .int .i64 share, s'], .int .i64 5]) ∧ LinesAt w' s' L ∧ Below w.heap.size w w' := by
  obtain ⟨A, c, rfl⟩ := hL.slice
  obtain ⟨⟨n0, n1⟩, tl⟩ := (asks_iff t n).1 hA
  have hok : okN n = true := by simp [okN, n0, n1]
  have hlt : decide (200 < (t.length : Int)) = false := by simp; omega
  have b1 := hI.of0 t; have b2 := hI.ofs t; have b3 := hI.sum0; have b4 := hI.sum; have b5 := hI.s0; have b6 := hI.s1; have b7 := hI.r1
  have hv : ∀ x ∈ L, 0 ≤ x.2 := fun x hx => (hI.val x hx).1
  have HV := Lib.hid hv; clear hv
  have hdec : decide (share - rOf L t < n) = true := by simpa using hr
  obtain ⟨W, hW⟩ : ∃ W, W = (w.alloc (.cells #[.int .i64 all, .int .i64 share, .slice A L.length c] 32)).alloc (.cells #[.int .i64 0, .int .i64 0, .slice none 0 0] 32) := ⟨_, rfl⟩
  have hf := twoW_facts w (.int .i64 all) (.int .i64 share) (.slice A L.length c)
  unfold twoW at hf
  rw [← hW] at hf
  obtain ⟨hE, hw0, hw1⟩ := hf
  have a0 : W.cell? ⟨w.heap.size, 0, none⟩ = some (.int .i64 all) := blk_cell hw0 0
  have a1 : W.cell? ⟨w.heap.size, 1, none⟩ = some (.int .i64 share) := blk_cell hw0 1
  have a2 : W.cell? ⟨w.heap.size, 2, none⟩ = some (.slice A L.length c) := blk_cell hw0 2
  have hLW := hE.lines hL
  have HW := Lib.hid hW; have Hw0 := Lib.hid hw0; have Hw1 := Lib.hid hw1; clear hw0 hw1 hW
  go_enter Try.func21, Try.ntmps21
  go_wp2_with (go_at_call 31; refine (number_any _ _).mono ?_; rintro e w' ⟨rfl, rfl⟩)
  rw [← HW.out]
  have G0 : ∀ x : Grow [] W, x.v.cell? ⟨w.heap.size, 0, none⟩ = some (.int .i64 all) := fun x => x.ext.cell a0 (by simp)
  have G1 : ∀ x : Grow [] W, x.v.cell? ⟨w.heap.size, 1, none⟩ = some (.int .i64 share) := fun x => x.ext.cell a1 (by simp)
  have G2 : ∀ x : Grow [] W, x.v.cell? ⟨w.heap.size, 2, none⟩ = some (.slice A L.length c) := fun x => x.ext.cell a2 (by simp)
  have e9 : IntKind.i64.wrap (share - rOf L t) = share - rOf L t := IntWalk.i64_in _ (by omega)
  have e8 : IntKind.i64.wrap (all - rSum L) = all - rSum L := IntWalk.i64_in _ (by omega)
  (refine wp_region_grow (by kernel_rfl) (by kernel_rfl) ?_; (repeat (go_big_quiet_step ((first | (go_at_call 32; exact Calls.inGrow (rof_any L _ t all share _ ((Grow.ext _).ext.lines hLW) hlen)) | (go_at_call 34; exact Calls.inGrow (rsum_any L _ all share _ ((Grow.ext _).ext.lines hLW) hlen HV.out (by omega))))))); refine wpQuiet_nil ?_)
  clear G0 G1 G2
  intro w1 hx1
  have c0 := hx1.cell a0; have c1 := hx1.cell a1; have c2 := hx1.cell a2
  have p1 := hx1.heap Hw1.out
  have g0 : w1.cell? ⟨w.heap.size + 1, 0, none⟩ = some (.int .i64 0) := blk_cell p1 0
  have g1 : w1.cell? ⟨w.heap.size + 1, 1, none⟩ = some (.int .i64 0) := blk_cell p1 1
  have g2 : w1.cell? ⟨w.heap.size + 1, 2, none⟩ = some (.slice none 0 0) := blk_cell p1 2
  have f0 := blk_free p1 0; have f1 := blk_free p1 1; have f2 := blk_free p1 2
  have hfin := fun u0 u1 u2 => two_store (u0 := u0) (u1 := u1) (u2 := u2) hE (blk_lt Hw1.out) hx1 (hx1.lines hLW) p1
  have HF := Lib.hid hfin
  clear hfin p1
  go_wp2
  exact bodyPost_ret (v := .tuple #[.agg #[.int .i64 all, .int .i64 share, .slice A L.length c], .int .i64 5]) (by simp [results, Try.results21, go_sem, g0, g1, g2]) rfl ⟨_, rfl, (HF.out _ _ _).1, (HF.out _ _ _).2⟩

set_option maxRecDepth 100000 in
set_option maxHeartbeats 4000000 in
theorem radd_room2 (L : List Ln) (s : Value) (t : Bs) (all share n : Int) (w : World) (hL : LinesAt w s L) (hlen : L.length ≤ 1000) (hI : Inv all share L) (hA : asksB t n = true) (hr : ¬ share - rOf L t < n) (hs : all - rSum L < n) :
    Calls Try.prog 21 #[.agg #[.int .i64 all, .int .i64 share, s], .string ⟨t.toArray⟩, .int .i64 n] w fun e w' => ∃ s', e = .returned (.tuple #[.agg #[.int .i64 all, .int .i64 share, s'], .int .i64 5]) ∧ LinesAt w' s' L ∧ Below w.heap.size w w' := by
  obtain ⟨A, c, rfl⟩ := hL.slice
  obtain ⟨⟨n0, n1⟩, tl⟩ := (asks_iff t n).1 hA
  have hok : okN n = true := by simp [okN, n0, n1]
  have hlt : decide (200 < (t.length : Int)) = false := by simp; omega
  have b1 := hI.of0 t; have b2 := hI.ofs t; have b3 := hI.sum0; have b4 := hI.sum; have b5 := hI.s0; have b6 := hI.s1; have b7 := hI.r1
  have hv : ∀ x ∈ L, 0 ≤ x.2 := fun x hx => (hI.val x hx).1
  have HV := Lib.hid hv; clear hv
  have hdec : decide (share - rOf L t < n) = false := by simpa using hr
  have hdec2 : decide (all - rSum L < n) = true := by simpa using hs
  obtain ⟨W, hW⟩ : ∃ W, W = (w.alloc (.cells #[.int .i64 all, .int .i64 share, .slice A L.length c] 32)).alloc (.cells #[.int .i64 0, .int .i64 0, .slice none 0 0] 32) := ⟨_, rfl⟩
  have hf := twoW_facts w (.int .i64 all) (.int .i64 share) (.slice A L.length c)
  unfold twoW at hf
  rw [← hW] at hf
  obtain ⟨hE, hw0, hw1⟩ := hf
  have a0 : W.cell? ⟨w.heap.size, 0, none⟩ = some (.int .i64 all) := blk_cell hw0 0
  have a1 : W.cell? ⟨w.heap.size, 1, none⟩ = some (.int .i64 share) := blk_cell hw0 1
  have a2 : W.cell? ⟨w.heap.size, 2, none⟩ = some (.slice A L.length c) := blk_cell hw0 2
  have hLW := hE.lines hL
  have HW := Lib.hid hW; have Hw0 := Lib.hid hw0; have Hw1 := Lib.hid hw1; clear hw0 hw1 hW
  go_enter Try.func21, Try.ntmps21
  go_wp2_with (go_at_call 31; refine (number_any _ _).mono ?_; rintro e w' ⟨rfl, rfl⟩)
  rw [← HW.out]
  have G0 : ∀ x : Grow [] W, x.v.cell? ⟨w.heap.size, 0, none⟩ = some (.int .i64 all) := fun x => x.ext.cell a0 (by simp)
  have G1 : ∀ x : Grow [] W, x.v.cell? ⟨w.heap.size, 1, none⟩ = some (.int .i64 share) := fun x => x.ext.cell a1 (by simp)
  have G2 : ∀ x : Grow [] W, x.v.cell? ⟨w.heap.size, 2, none⟩ = some (.slice A L.length c) := fun x => x.ext.cell a2 (by simp)
  have e9 : IntKind.i64.wrap (share - rOf L t) = share - rOf L t := IntWalk.i64_in _ (by omega)
  have e8 : IntKind.i64.wrap (all - rSum L) = all - rSum L := IntWalk.i64_in _ (by omega)
  (refine wp_region_grow (by kernel_rfl) (by kernel_rfl) ?_; (repeat (go_big_quiet_step ((first | (go_at_call 32; exact Calls.inGrow (rof_any L _ t all share _ ((Grow.ext _).ext.lines hLW) hlen)) | (go_at_call 34; exact Calls.inGrow (rsum_any L _ all share _ ((Grow.ext _).ext.lines hLW) hlen HV.out (by omega))))))); refine wpQuiet_nil ?_)
  clear G0 G1 G2
  intro w1 hx1
  have c0 := hx1.cell a0; have c1 := hx1.cell a1; have c2 := hx1.cell a2
  have p1 := hx1.heap Hw1.out
  have g0 : w1.cell? ⟨w.heap.size + 1, 0, none⟩ = some (.int .i64 0) := blk_cell p1 0
  have g1 : w1.cell? ⟨w.heap.size + 1, 1, none⟩ = some (.int .i64 0) := blk_cell p1 1
  have g2 : w1.cell? ⟨w.heap.size + 1, 2, none⟩ = some (.slice none 0 0) := blk_cell p1 2
  have f0 := blk_free p1 0; have f1 := blk_free p1 1; have f2 := blk_free p1 2
  have hfin := fun u0 u1 u2 => two_store (u0 := u0) (u1 := u1) (u2 := u2) hE (blk_lt Hw1.out) hx1 (hx1.lines hLW) p1
  have HF := Lib.hid hfin
  clear hfin p1
  go_wp2
  exact bodyPost_ret (v := .tuple #[.agg #[.int .i64 all, .int .i64 share, .slice A L.length c], .int .i64 5]) (by simp [results, Try.results21, go_sem, g0, g1, g2]) rfl ⟨_, rfl, (HF.out _ _ _).1, (HF.out _ _ _).2⟩

theorem radd_any (L : List Ln) (s : Value) (t : Bs) (all share n : Int) (w : World) (hL : LinesAt w s L) (hlen : L.length ≤ 1000) (hI : Inv all share L) :
    Calls Try.prog 21 #[.agg #[.int .i64 all, .int .i64 share, s], .string ⟨t.toArray⟩, .int .i64 n] w fun e w' => ∃ s', e = .returned (.tuple #[.agg #[.int .i64 all, .int .i64 share, s'], .int .i64 (addE all share L t n)]) ∧ LinesAt w' s' (addL all share L t n) ∧ Below w.heap.size w w' := by
  cases hA : asksB t n
  · have e1 : addE all share L t n = 1 := by simp [addE, hA]
    have e2 : addL all share L t n = L := by simp [addL, e1]
    rw [e1, e2]; exact radd_arg L s t all share n w hL hA
  · by_cases h1 : share - rOf L t < n
    · have e1 : addE all share L t n = 5 := by unfold addE; rw [hA, if_neg (by simp), if_pos (by omega)]
      have e2 : addL all share L t n = L := by simp [addL, e1]
      rw [e1, e2]; exact radd_room1 L s t all share n w hL hlen hI hA h1
    · by_cases h2 : all - rSum L < n
      · have e1 : addE all share L t n = 5 := by unfold addE; rw [hA, if_neg (by simp), if_pos (by omega)]
        have e2 : addL all share L t n = L := by simp [addL, e1]
        rw [e1, e2]; exact radd_room2 L s t all share n w hL hlen hI hA h1 h2
      · have e1 : addE all share L t n = 0 := by unfold addE; rw [hA, if_neg (by simp), if_neg (by omega)]
        have e2 : addL all share L t n = rWith L t (rOf L t + n) := by simp [addL, e1]
        rw [e1, e2]; exact radd_ok L s t all share n w hL hlen hI hA h1 h2

set_option maxRecDepth 100000 in
set_option maxHeartbeats 2000000 in
theorem rless_arg (L : List Ln) (s : Value) (t : Bs) (all share n : Int) (w : World) (hL : LinesAt w s L) (hA : asksB t n = false) :
    Calls Try.prog 20 #[.agg #[.int .i64 all, .int .i64 share, s], .string ⟨t.toArray⟩, .int .i64 n] w fun e w' => ∃ s', e = .returned (.tuple #[.agg #[.int .i64 all, .int .i64 share, s'], .int .i64 1]) ∧ LinesAt w' s' L ∧ Below w.heap.size w w' := by
  obtain ⟨A, c, rfl⟩ := hL.slice
  have hbel : Below w.heap.size w ((w.alloc (.cells #[.int .i64 all, .int .i64 share, .slice A L.length c] 32)).alloc (.cells #[.int .i64 all, .int .i64 share, .slice A L.length c] 32)) := ((Below.refl _ _).alloc (Nat.le_refl _) _).alloc (by simp) _
  have hl2 := (hL.alloc (.cells #[.int .i64 all, .int .i64 share, .slice A L.length c] 32)).alloc (.cells #[.int .i64 all, .int .i64 share, .slice A L.length c] 32)
  have HL := Lib.hid hl2; clear hl2
  by_cases h1 : t.length ≤ 200
  · have h2 : okN n = false := by simpa [asksB, h1] using hA
    have hlt : decide (200 < (t.length : Int)) = false := by simp; omega
    go_enter Try.func20, Try.ntmps20
    go_wp2_with (go_at_call 31; refine (number_any _ _).mono ?_; rintro e w' ⟨rfl, rfl⟩)
    exact bodyPost_ret (v := .tuple #[.agg #[.int .i64 all, .int .i64 share, .slice A L.length c], .int .i64 1]) (by simp [results, Try.results20, go_sem]) rfl ⟨_, rfl, HL.out, hbel⟩
  · have hlt : decide (200 < (t.length : Int)) = true := by simp; omega
    go_enter Try.func20, Try.ntmps20
    go_wp2
    exact bodyPost_ret (v := .tuple #[.agg #[.int .i64 all, .int .i64 share, .slice A L.length c], .int .i64 1]) (by simp [results, Try.results20, go_sem]) rfl ⟨_, rfl, HL.out, hbel⟩

set_option maxRecDepth 100000 in
set_option maxHeartbeats 4000000 in
theorem rless_many (L : List Ln) (s : Value) (t : Bs) (all share n : Int) (w : World) (hL : LinesAt w s L) (hlen : L.length ≤ 1000) (hI : Inv all share L) (hA : asksB t n = true) (hr : rOf L t < n) :
    Calls Try.prog 20 #[.agg #[.int .i64 all, .int .i64 share, s], .string ⟨t.toArray⟩, .int .i64 n] w fun e w' => ∃ s', e = .returned (.tuple #[.agg #[.int .i64 all, .int .i64 share, s'], .int .i64 4]) ∧ LinesAt w' s' L ∧ Below w.heap.size w w' := by
  obtain ⟨A, c, rfl⟩ := hL.slice
  obtain ⟨⟨n0, n1⟩, tl⟩ := (asks_iff t n).1 hA
  have hok : okN n = true := by simp [okN, n0, n1]
  have hlt : decide (200 < (t.length : Int)) = false := by simp; omega
  have b1 := hI.of0 t; have b2 := hI.ofs t; have b3 := hI.sum0; have b4 := hI.sum; have b5 := hI.s0; have b6 := hI.s1; have b7 := hI.r1
  have hv : ∀ x ∈ L, 0 ≤ x.2 := fun x hx => (hI.val x hx).1
  have HV := Lib.hid hv; clear hv
  have hdec : decide (rOf L t < n) = true := by simpa using hr
  obtain ⟨W, hW⟩ : ∃ W, W = (w.alloc (.cells #[.int .i64 all, .int .i64 share, .slice A L.length c] 32)).alloc (.cells #[.int .i64 0, .int .i64 0, .slice none 0 0] 32) := ⟨_, rfl⟩
  have hf := twoW_facts w (.int .i64 all) (.int .i64 share) (.slice A L.length c)
  unfold twoW at hf
  rw [← hW] at hf
  obtain ⟨hE, hw0, hw1⟩ := hf
  have a0 : W.cell? ⟨w.heap.size, 0, none⟩ = some (.int .i64 all) := blk_cell hw0 0
  have a1 : W.cell? ⟨w.heap.size, 1, none⟩ = some (.int .i64 share) := blk_cell hw0 1
  have a2 : W.cell? ⟨w.heap.size, 2, none⟩ = some (.slice A L.length c) := blk_cell hw0 2
  have hLW := hE.lines hL
  have HW := Lib.hid hW; have Hw0 := Lib.hid hw0; have Hw1 := Lib.hid hw1; clear hw0 hw1 hW
  go_enter Try.func20, Try.ntmps20
  have hfW : ∀ w1, Ext W w1 → w1.cell? ⟨w.heap.size, 0, none⟩ = some (.int .i64 all) ∧ w1.cell? ⟨w.heap.size, 1, none⟩ = some (.int .i64 share) ∧ w1.cell? ⟨w.heap.size, 2, none⟩ = some (.slice A L.length c) := fun w1 h => ⟨h.cell a0, h.cell a1, h.cell a2⟩
  have HFW := Lib.hid hfW; clear hfW
  go_wp2_with (first | (go_at_call 31; refine (number_any _ _).mono ?_; rintro e w' ⟨rfl, rfl⟩) | fail)
  rw [← HW.out]
  refine (rof_any L _ t all share _ hLW hlen).mono ?_
  rintro e w1 ⟨rfl, hx1⟩
  obtain ⟨c0, c1, c2⟩ := HFW.out w1 hx1
  replace hx1 : Ext W w1 := hx1
  have p1 := hx1.heap Hw1.out
  have g0 : w1.cell? ⟨w.heap.size + 1, 0, none⟩ = some (.int .i64 0) := blk_cell p1 0
  have g1 : w1.cell? ⟨w.heap.size + 1, 1, none⟩ = some (.int .i64 0) := blk_cell p1 1
  have g2 : w1.cell? ⟨w.heap.size + 1, 2, none⟩ = some (.slice none 0 0) := blk_cell p1 2
  have f0 := blk_free p1 0; have f1 := blk_free p1 1; have f2 := blk_free p1 2
  have hfin := fun u0 u1 u2 => two_store (u0 := u0) (u1 := u1) (u2 := u2) hE (blk_lt Hw1.out) hx1 (hx1.lines hLW) p1
  have HF := Lib.hid hfin
  clear hfin p1
  go_wp2
  exact bodyPost_ret (v := .tuple #[.agg #[.int .i64 all, .int .i64 share, .slice A L.length c], .int .i64 4]) (by simp [results, Try.results20, go_sem, g0, g1, g2]) rfl ⟨_, rfl, (HF.out _ _ _).1, (HF.out _ _ _).2⟩

set_option maxRecDepth 100000 in
set_option maxHeartbeats 4000000 in
theorem rless_ok (L : List Ln) (s : Value) (t : Bs) (all share n : Int) (w : World) (hL : LinesAt w s L) (hlen : L.length ≤ 1000) (hI : Inv all share L) (hA : asksB t n = true) (hr : ¬ rOf L t < n) :
    Calls Try.prog 20 #[.agg #[.int .i64 all, .int .i64 share, s], .string ⟨t.toArray⟩, .int .i64 n] w fun e w' => ∃ s', e = .returned (.tuple #[.agg #[.int .i64 all, .int .i64 share, s'], .int .i64 0]) ∧ LinesAt w' s' (rWith L t (rOf L t - n)) ∧ Below w.heap.size w w' := by
  obtain ⟨A, c, rfl⟩ := hL.slice
  obtain ⟨⟨n0, n1⟩, tl⟩ := (asks_iff t n).1 hA
  have hok : okN n = true := by simp [okN, n0, n1]
  have hlt : decide (200 < (t.length : Int)) = false := by simp; omega
  have b1 := hI.of0 t; have b2 := hI.ofs t; have b3 := hI.sum0; have b4 := hI.sum; have b5 := hI.s0; have b6 := hI.s1; have b7 := hI.r1
  have hv : ∀ x ∈ L, 0 ≤ x.2 := fun x hx => (hI.val x hx).1
  have HV := Lib.hid hv; clear hv
  have hdec : decide (rOf L t < n) = false := by simpa using hr
  obtain ⟨W, hW⟩ : ∃ W, W = (w.alloc (.cells #[.int .i64 all, .int .i64 share, .slice A L.length c] 32)).alloc (.cells #[.int .i64 0, .int .i64 0, .slice none 0 0] 32) := ⟨_, rfl⟩
  have hf := twoW_facts w (.int .i64 all) (.int .i64 share) (.slice A L.length c)
  unfold twoW at hf
  rw [← hW] at hf
  obtain ⟨hE, hw0, hw1⟩ := hf
  have a0 : W.cell? ⟨w.heap.size, 0, none⟩ = some (.int .i64 all) := blk_cell hw0 0
  have a1 : W.cell? ⟨w.heap.size, 1, none⟩ = some (.int .i64 share) := blk_cell hw0 1
  have a2 : W.cell? ⟨w.heap.size, 2, none⟩ = some (.slice A L.length c) := blk_cell hw0 2
  have hLW := hE.lines hL
  have HW := Lib.hid hW; have Hw0 := Lib.hid hw0; have Hw1 := Lib.hid hw1; clear hw0 hw1 hW
  go_enter Try.func20, Try.ntmps20
  have hfW : ∀ w1, Ext W w1 → w1.cell? ⟨w.heap.size, 0, none⟩ = some (.int .i64 all) ∧ w1.cell? ⟨w.heap.size, 1, none⟩ = some (.int .i64 share) ∧ w1.cell? ⟨w.heap.size, 2, none⟩ = some (.slice A L.length c) := fun w1 h => ⟨h.cell a0, h.cell a1, h.cell a2⟩
  have HFW := Lib.hid hfW; clear hfW
  go_wp2_with (first | (go_at_call 31; refine (number_any _ _).mono ?_; rintro e w' ⟨rfl, rfl⟩) | fail)
  rw [← HW.out]
  refine (rof_any L _ t all share _ hLW hlen).mono ?_
  rintro e w1 ⟨rfl, hx1⟩
  obtain ⟨c0, c1, c2⟩ := HFW.out w1 hx1
  replace hx1 : Ext W w1 := hx1
  have hLw1 := hx1.drew.lines hLW
  have hB1 := hx1.heap Hw1.out
  have HB1 := Lib.hid hB1; clear hB1
  go_wp2
  refine wp_region_segs [w.heap.size + 1] [.inl [0, 1, 2, 3, 5], .inr (.inl 4), .inl [6], .inr (.inl 7), .inr (.inl 8), .inl [9]] (by kernel_rfl) (by kernel_rfl) (fun c a d v w h => by cases d <;> exact h) ?_
  have G0 : ∀ x : Grow [w.heap.size + 1] w1.drew, x.v.cell? ⟨w.heap.size, 0, none⟩ = some (.int .i64 all) := fun x => x.ext.cell c0 (by simp)
  have G1 : ∀ x : Grow [w.heap.size + 1] w1.drew, x.v.cell? ⟨w.heap.size, 1, none⟩ = some (.int .i64 share) := fun x => x.ext.cell c1 (by simp)
  have G2 : ∀ x : Grow [w.heap.size + 1] w1.drew, x.v.cell? ⟨w.heap.size, 2, none⟩ = some (.slice A L.length c) := fun x => x.ext.cell c2 (by simp)
  (rw [wpSegs_inl]; simp only [pickOps, List.map_cons, List.map_nil, List.getD_cons_succ, List.getD_cons_zero]; (repeat (go_big_quiet_step (fail))); refine wpQuiet_nil ?_)
  clear G0 G1 G2
  (rw [wpSegs_grow]; simp only [pickOps, List.map_cons, List.map_nil, List.getD_cons_succ, List.getD_cons_zero]; go_wp2_with ((go_at_call 32; refine (rof_any L _ t all share _ hLw1 hlen).mono ?_; rintro e w2 ⟨rfl, hx2⟩)))
  refine ⟨.of hx2 _, ?_⟩
  (rw [wpSegs_inl]; simp only [pickOps, List.map_cons, List.map_nil, List.getD_cons_succ, List.getD_cons_zero]; (repeat (go_big_quiet_step (fail))); refine wpQuiet_nil ?_)
  have hE2 : Ext W w2 := hx1.drew.trans hx2
  (rw [wpSegs_grow]; simp only [pickOps, List.map_cons, List.map_nil, List.getD_cons_succ, List.getD_cons_zero]; go_wp2_with ((go_at_call 33; refine (rwith_any L _ t all share _ _ (hE2.lines hLW) hlen).mono ?_; rintro e w3 ⟨s', rfl, hl3, hx3⟩)))
  refine ⟨.of hx3 _, ?_⟩
  have hE3 : Ext W w3 := hE2.trans hx3
  have p1 := hE3.heap Hw1.out
  have g0 : w3.cell? ⟨w.heap.size + 1, 0, none⟩ = some (.int .i64 0) := blk_cell p1 0
  have g1 : w3.cell? ⟨w.heap.size + 1, 1, none⟩ = some (.int .i64 0) := blk_cell p1 1
  have g2 : w3.cell? ⟨w.heap.size + 1, 2, none⟩ = some (.slice none 0 0) := blk_cell p1 2
  have f0 := blk_free p1 0; have f1 := blk_free p1 1; have f2 := blk_free p1 2
  have hfin := fun u0 u1 u2 => two_store (u0 := u0) (u1 := u1) (u2 := u2) hE (blk_lt Hw1.out) hE3 hl3 p1
  have HF := Lib.hid hfin
  obtain ⟨A3, c3, rfl⟩ := hl3.slice
  clear hfin p1
  (rw [wpSegs_grow]; simp only [pickOps, List.map_cons, List.map_nil, List.getD_cons_succ, List.getD_cons_zero]; go_wp2_with (fail))
  refine ⟨(((ExtB.refl _ _).setCell (.inl (by simp)) _).setCell (.inl (by simp)) _).setCell (.inl (by simp)) _, ?_⟩
  (rw [wpSegs_inl]; simp only [pickOps, List.map_cons, List.map_nil, List.getD_cons_succ, List.getD_cons_zero]; (repeat (go_big_quiet_step (fail))); refine wpQuiet_nil ?_)
  rw [wpSegs_nil]
  go_wp2
  exact bodyPost_ret (v := .tuple #[.agg #[.int .i64 all, .int .i64 share, .slice A3 _ c3], .int .i64 0]) (by simp [results, Try.results20, go_sem, g0, g1, g2]) rfl ⟨_, rfl, (HF.out _ _ _).1, (HF.out _ _ _).2⟩

theorem rless_any (L : List Ln) (s : Value) (t : Bs) (all share n : Int) (w : World) (hL : LinesAt w s L) (hlen : L.length ≤ 1000) (hI : Inv all share L) :
    Calls Try.prog 20 #[.agg #[.int .i64 all, .int .i64 share, s], .string ⟨t.toArray⟩, .int .i64 n] w fun e w' => ∃ s', e = .returned (.tuple #[.agg #[.int .i64 all, .int .i64 share, s'], .int .i64 (lessE L t n)]) ∧ LinesAt w' s' (lessL L t n) ∧ Below w.heap.size w w' := by
  cases hA : asksB t n
  · have e1 : lessE L t n = 1 := by simp [lessE, hA]
    have e2 : lessL L t n = L := by simp [lessL, e1]
    rw [e1, e2]; exact rless_arg L s t all share n w hL hA
  · by_cases h1 : rOf L t < n
    · have e1 : lessE L t n = 4 := by unfold lessE; rw [hA, if_neg (by simp), if_pos h1]
      have e2 : lessL L t n = L := by simp [lessL, e1]
      rw [e1, e2]; exact rless_many L s t all share n w hL hlen hI hA h1
    · have e1 : lessE L t n = 0 := by unfold lessE; rw [hA, if_neg (by simp), if_neg h1]
      have e2 : lessL L t n = rWith L t (rOf L t - n) := by simp [lessL, e1]
      rw [e1, e2]; exact rless_ok L s t all share n w hL hlen hI hA h1

end Go.Proofs.Ytjcpmfioppopcaa
