/- The program's Remove, Points and New, walked. -/
import Derived.Test.YtjphpblangeblaaDoorBin
namespace Go.Proofs.YtjphpblangeblaaDoor
open Go.RowKit Go.Maps Go.ChangeMaps
set_option linter.unusedVariables false
set_option linter.unusedSimpArgs false
section
variable {w W1 W5 W6 W7 : World} {B b N each m g q l c : Nat} {own : Nat → Prop} {L : NL} {n : Nm} {P : List Pt} {mo : Option Nat} {sv : Value}
theorem RgIx.rem (h : RgIx w B b N own each L P (some m) (.slice (some ⟨g, 0, none⟩) l c)) (x1 : Ext w W1) (t5 : ExtB [m] W1 W5) (h5 : GMap naE W5 m N (upd (ptsF each L) n none)) (x6 : ExtB [g] W5 W6) (r6 : PRow W6 B (.slice (some ⟨g, 0, none⟩) q c) (P.filter fun p => !(p.nm == n)))
    (x7 : ExtB [b] W6 W7) (b7 : W7.heap[b]? = some (.cells #[.int .i64 each, .map (some m), .slice (some ⟨g, 0, none⟩) q c] 62 (0, 0))) : RgI W7 B b N (grownOwn own w W7) each (remL L n) ∧ ExtP own w W7 := by
  obtain ⟨f1, f2⟩ := h.mapFar rfl
  have f3 := h.far
  have hgm : g ≠ m := fun e => f2 (by rw [e]; rfl)
  have hgb : g ≠ b := fun e => f3 (by rw [e]; rfl)
  have s1 := x1.size; have s5 := t5.size; have s6 := x6.size; have s7 := x7.size
  have hX : ∀ {X : List Nat} {A A' : World}, ExtB X A A' → (∀ k ∈ X, own k) → ExtP own A A' := fun hx hk => ExtP.ofB hx fun k hh => .inl (hk k hh)
  have hi : ∀ i, own i → own i ∨ w.heap.size ≤ i := fun i hi => .inl hi
  have hP : ExtP own w W7 := (((ExtP.of (own := own) x1).trans (hX t5 (by intro k hk; rw [show k = m by simpa using hk]; exact h.om m rfl)) hi).trans (hX x6 (by intro k hk; rw [show k = g by simpa using hk]; exact h.os g rfl)) hi).trans (hX x7 (by intro k hk; rw [show k = b by simpa using hk]; exact h.ob)) hi
  obtain ⟨es, cl, e2⟩ := h5.at_
  have hm5 : m < W5.heap.size := blk_lt e2
  refine ⟨⟨P.filter fun p => !(p.nm == n), some m, .slice (some ⟨g, 0, none⟩) q c, b7, .inr ⟨m, rfl, ?_⟩, r6.extB x7 (fun k hk e => hgb (by cases e; simpa using hk)), .inl h.ob, fun m' e => (by cases e; exact .inl (h.om m rfl)), fun k e => (by cases e; exact .inl (h.os g rfl)), fun k hk => ?_, fun k hk => ?_, h.e1, h.ok.rem n, pts_rem h.pts, h.srt.filter _, ?_, h.nb⟩, hP⟩
  · have e : upd (ptsF each L) n none = ptsF each (remL L n) := by
      funext x
      unfold upd ptsF
      rw [wt_remL]
      by_cases ex : x = n <;> simp [ex]
    rw [← e]
    exact h5.same ((x7.block m (by omega) (by simpa using Ne.symm f1)).trans (x6.block m hm5 (by simpa using Ne.symm hgm)))
  · rcases hk with hk | hk
    · have := h.lt k hk; omega
    · exact hk.2
  · rcases hk with hk | hk
    · exact h.low k hk
    · have := h.low b h.ob; have := h.lt b h.ob; omega
  · exact Nat.le_trans (List.length_filter_le _ _) h.many
theorem RgIx.same (h : RgIx w B b N own each L P mo sv) (x : Ext w W1) (hl : L = remL L n) : RgI W1 B b N (grownOwn own w W1) each (remL L n) ∧ ExtP own w W1 := by
  rw [← hl]
  exact ⟨⟨P, mo, sv, (h.ext x).sub (Nat.le_refl _) h.nb (fun g hg => .inl hg) (fun g hg => by
    rcases hg with hg | hg
    · exact Nat.lt_of_lt_of_le (h.lt g hg) x.size
    · exact hg.2) (fun g hg => by
    rcases hg with hg | hg
    · exact h.low g hg
    · have := h.low b h.ob; have := h.lt b h.ob; omega)⟩, .of x⟩
set_option maxRecDepth 100000 in
set_option maxHeartbeats 4000000 in
theorem rem_any (hI : RgI w B b N own each L) (hn : n.length ≤ 1000000) : Calls Tryd.prog 21 #[.pointer (some ⟨b, 0, none⟩), .string ⟨n.toArray⟩] w fun e w' => e = .returned (.bool (decide (wt L n ≠ 0))) ∧ RgI w' B b N (grownOwn own w w') each (remL L n) ∧ ExtP own w w' := by
  obtain ⟨P, mo, sv, h⟩ := hI
  obtain ⟨W, hW⟩ : ∃ W, W = w.alloc (.cells #[.string ⟨n.toArray⟩] 9) := ⟨_, rfl⟩
  have x1 : Ext w W := by rw [hW]; exact ext_alloc1 _ _
  have n1 : W.heap[w.heap.size]? = some (.cells #[.string ⟨n.toArray⟩] 9 (0, 0)) := by rw [hW]; exact heap_alloc_new _ _
  have h1 := h.ext x1
  have k1 := blk_cell h1.blk 1
  simp at k1
  have kn := blk_cell n1 0
  simp at kn
  obtain ⟨nb, hnb⟩ : ∃ nb, nb = w.heap.size := ⟨_, rfl⟩
  rw [← hnb] at n1 kn
  have HW := Lib.hid hW; have X1 := Lib.hid x1; have N1 := Lib.hid n1; have HI := Lib.hid h; have H1 := Lib.hid h1; have HNB := Lib.hid hnb; have HN := Lib.hid hn
  by_cases hw : wt L n = 0
  · have ef : ptsF each L n = none := by unfold ptsF; rw [if_pos hw]
    have hl : ∀ y : Grow [] W.drew, (Instr.lookup 60 (.map mo) (.string ⟨n.toArray⟩) true).run Tryd.prog y.v = .ok (.tuple #[.int .i64 0, .bool false]) y.v := fun y => by
      have := (H1.out.ext ((Ext.refl W).drew.trans y.ext.ext)).names.look_ok Tryd.underlying60 (zeroI y.v) HN.out
      rw [ef] at this
      exact this
    have HL := Lib.hid (remL_no hw h.ok).symm
    have e0 : decide (wt L n ≠ 0) = false := by simp [hw]
    rw [e0]
    clear hW x1 n1 h h1 hnb hn hw ef e0
    go_enter Tryd.func21, Tryd.ntmps21
    go_wp2_with fail
    rw [← HW.out, ← HNB.out]
    refine wp_region_segs [] [.inl [0, 1, 2, 3, 4, 5, 6, 7, 8, 9, 10]] (by kernel_rfl) (by kernel_rfl) (fun c a d v w h => by cases d <;> exact h) ?_
    have G0 : ∀ y : Grow [] W.drew, y.v.cell? ⟨b, 1, none⟩ = some (.map mo) := fun y => y.ext.ext.cell k1
    have G1 : ∀ y : Grow [] W.drew, y.v.cell? ⟨nb, 0, none⟩ = some (.string ⟨n.toArray⟩) := fun y => y.ext.ext.cell kn
    (rw [wpSegs_inl]; simp only [pickOps, List.map_cons, List.map_nil, List.getD_cons_succ, List.getD_cons_zero]; (repeat (go_big_quiet_step (fail))); refine wpQuiet_nil ?_)
    clear G0 G1 hl
    rw [wpSegs_nil]
    go_wp2
    go_ret
    have hfin := HI.out.same (X1.out.trans (Ext.refl W).drew) HL.out
    exact ⟨rfl, hfin.1, hfin.2⟩
  · have ef : ptsF each L n = some (each * wt L n) := by unfold ptsF; rw [if_neg hw]
    have hmem := wt_mem hw
    obtain ⟨y0, hy0, hyn⟩ := List.mem_map.1 hmem
    have hP : P ≠ [] := by
      rintro rfl
      have hq := (h.pts ⟨pd 0 y0.1, y0.1⟩).2 ⟨y0, hy0, 0, Nat.mul_pos (by have := h.e1; omega) (by have := h.ok.wts y0 hy0; omega), rfl⟩
      simp at hq
    obtain ⟨m, rfl⟩ : ∃ m, mo = some m := by
      rcases h.names with ⟨_, h0⟩ | ⟨m, e, _⟩
      · have := h0 n; rw [ef] at this; cases this
      · exact ⟨m, e⟩
    obtain ⟨g, c, rfl⟩ : ∃ g c, sv = .slice (some ⟨g, 0, none⟩) P.length c := by
      rcases h.row.2 with ⟨_, h0⟩ | ⟨g, cap, cur, e, _⟩
      · exact absurd (List.eq_nil_of_length_eq_zero h0) hP
      · exact ⟨g, cap, e⟩
    have hl : ∀ y : Grow [] W.drew, (Instr.lookup 60 (.map (some m)) (.string ⟨n.toArray⟩) true).run Tryd.prog y.v = .ok (.tuple #[naE.enc (each * wt L n), .bool true]) y.v := fun y => by
      have := (H1.out.ext ((Ext.refl W).drew.trans y.ext.ext)).names.look_ok Tryd.underlying60 (zeroI y.v) HN.out
      rw [ef] at this
      exact this
    obtain ⟨vv, hvv⟩ : ∃ v, v = naE.enc (each * wt L n) := ⟨_, rfl⟩
    rw [← hvv] at hl
    have hM2 : GMap naE W.drew.drew m N (ptsF each L) := by
      rcases H1.out.names with ⟨e, _⟩ | ⟨m', e, hg⟩
      · cases e
      · cases e; exact hg.same rfl
    obtain ⟨W5, hdel, h5, t5⟩ := hM2.del Tryd.underlying60 hn 0
    have x5 := turned_ext t5
    have hfar := h1.mapFar rfl
    have hbn : b ≠ nb := by have := h.lt b h.ob; omega
    have b5 : W5.heap[b]? = some (.cells #[.int .i64 each, .map (some m), .slice (some ⟨g, 0, none⟩) P.length c] 62 (0, 0)) := x5.heap (a := W.drew.drew) h1.blk (by simpa using hfar.1)
    have r5 : PRow W5 B (.slice (some ⟨g, 0, none⟩) P.length c) P := KRow.extB (w := W.drew.drew) h1.row x5 (fun k hk e => hfar.2 (by rw [e]; simpa using hk))
    have n5 : W5.cell? ⟨nb, 0, none⟩ = some (.string ⟨n.toArray⟩) := x5.cell (a := W.drew.drew) kn (by
      intro hh
      have e : nb = m := by simpa using hh
      obtain ⟨es, cl, e2⟩ := hM2.at_
      have e3 : W.heap[m]? = some (.map es cl) := e2
      rw [← e, n1] at e3; cases e3)
    have hgl : g < w.heap.size := h.lt g (h.os g rfl)
    have hd := del_any (n := n) (nb := nb) r5 n5 (by have := h.many; have := h.nb; omega) (by omega)
    have k2 := blk_cell b5 2
    simp at k2
    have k1' := blk_cell h1.blk 1
    simp at k1'
    have HD := Lib.hid hd; have X5 := Lib.hid (show ExtB [m] W W5 from ⟨x5.os, x5.tape, x5.output, x5.size, x5.block⟩); have H5 := Lib.hid h5; have B5 := Lib.hid b5
    have HGB : Hid (b ≠ g) := Lib.hid fun e => h.far (by rw [e]; rfl)
    have e0 : decide (wt L n ≠ 0) = true := by simp [hw]
    rw [e0]
    obtain ⟨pl, hpl⟩ : ∃ pl, pl = P.length := ⟨_, rfl⟩
    rw [← hpl] at k2 HD HI B5
    unfold litV at HD
    clear hW x1 n1 h h1 hnb hn hw ef e0 hmem hy0 hyn hP hvv hM2 h5 t5 x5 hfar hbn b5 r5 n5 hgl hd hpl k1'
    go_enter Tryd.func21, Tryd.ntmps21
    go_wp2_with fail
    rw [← HW.out, ← HNB.out]
    refine wp_region_segs [] [.inl [0, 1, 2, 3, 4, 5, 6, 7, 8, 9, 10]] (by kernel_rfl) (by kernel_rfl) (fun c a d v w h => by cases d <;> exact h) ?_
    have G0 : ∀ y : Grow [] W.drew, y.v.cell? ⟨b, 1, none⟩ = some (.map (some m)) := fun y => y.ext.ext.cell k1
    have G1 : ∀ y : Grow [] W.drew, y.v.cell? ⟨nb, 0, none⟩ = some (.string ⟨n.toArray⟩) := fun y => y.ext.ext.cell kn
    (rw [wpSegs_inl]; simp only [pickOps, List.map_cons, List.map_nil, List.getD_cons_succ, List.getD_cons_zero]; (repeat (go_big_quiet_step (fail))); refine wpQuiet_nil ?_)
    clear G0 G1 hl
    rw [wpSegs_nil]
    go_wp2_with fail
    refine wp_region_segs [] [.inl [0, 1, 2, 3, 4], .inr (.inr 5)] (by kernel_rfl) (by kernel_rfl) (fun c a d v w h => by cases d <;> exact h) ?_
    have G0 : ∀ y : Grow [] W.drew.drew, y.v.cell? ⟨b, 1, none⟩ = some (.map (some m)) := fun y => y.ext.ext.cell k1
    have G1 : ∀ y : Grow [] W.drew.drew, y.v.cell? ⟨nb, 0, none⟩ = some (.string ⟨n.toArray⟩) := fun y => y.ext.ext.cell kn
    (rw [wpSegs_inl]; simp only [pickOps, List.map_cons, List.map_nil, List.getD_cons_succ, List.getD_cons_zero]; (repeat (go_big_quiet_step (fail))); refine wpQuiet_nil ?_)
    clear G0 G1 k1 kn
    (rw [wpSegs_last]; simp only [pickOps, List.map_cons, List.map_nil, List.getD_cons_succ, List.getD_cons_zero]; go_wp2_with (fail))
    rw [wpSegs_nil]
    go_wp2_with (first | (go_at_call 39; refine HD.out.mono ?_; rintro e w6 ⟨q, rfl, r6, x6⟩; refine stop_of ?_))
    unfold Stop
    have B6 := Lib.hid (x6.heap B5.out (by simpa using HGB.out)); have R6 := Lib.hid r6; have X6 := Lib.hid x6
    clear r6 x6 HD k2
    go_wp2_with (refine wpList_put 56 rfl _ _ rfl b 2 62 _ #[.int .i64 each, .map (some m), .slice (some ⟨g, 0, none⟩) q c] [.slice (some ⟨g, 0, none⟩) q c] (.slice (some ⟨g, 0, none⟩) q c) B6.out rfl rfl rfl (by simp) rfl size56 (by kernel_rfl) ?_; intro W7 x7 n7 s7; refine stop_of ?_)
    unfold Stop
    have HF := Lib.hid (HI.out.rem X1.out X5.out H5.out X6.out R6.out x7 n7)
    clear x7 n7 s7
    go_wp2
    go_ret
    exact ⟨rfl, HF.out.1, HF.out.2⟩
set_option maxRecDepth 100000 in
set_option maxHeartbeats 1000000 in
theorem points_any (hI : RgI w B b N own each L) (hn : n.length ≤ 1000000) : Calls Tryd.prog 22 #[.pointer (some ⟨b, 0, none⟩), .string ⟨n.toArray⟩] w fun e w' => e = .returned (.int .i64 ((each * wt L n : Nat) : Int)) ∧ w = w' := by
  obtain ⟨P, mo, sv, h⟩ := hI
  have hl := h.names.look Tryd.underlying60 (zeroI w) hn
  have k1 := blk_cell h.blk 1
  simp at k1
  replace hl : (Instr.lookup 60 (.map mo) (.string ⟨n.toArray⟩) false).run Tryd.prog w = .ok (.int .i64 ((each * wt L n : Nat) : Int)) w := by
    by_cases hw : wt L n = 0
    · have ef : ptsF each L n = none := by unfold ptsF; rw [if_pos hw]
      rw [ef] at hl; rw [hw]; exact hl
    · have ef : ptsF each L n = some (each * wt L n) := by unfold ptsF; rw [if_neg hw]
      rw [ef] at hl; exact hl
  obtain ⟨v, hv⟩ : ∃ v, v = each * wt L n := ⟨_, rfl⟩
  rw [← hv] at hl ⊢
  clear h hv
  go_enter Tryd.func22, Tryd.ntmps22
  go_wp2
  go_ret
  exact ⟨rfl, rfl⟩
set_option maxRecDepth 100000 in
set_option maxHeartbeats 1000000 in
theorem new_bad (p : Int) (hp : p < 1 ∨ 200 < p) (w : World) : Calls Tryd.prog 18 #[.int .i64 p] w fun e w' => e = .returned (.tuple #[.pointer none, .int .i64 1]) ∧ w = w' := by
  by_cases h1 : p < 1
  · clear hp
    go_enter Tryd.func18, Tryd.ntmps18
    go_wp2
    go_ret2
    exact ⟨rfl, rfl⟩
  · have h2 : 200 < p := by omega
    clear hp
    go_enter Tryd.func18, Tryd.ntmps18
    go_wp2
    go_ret2
    exact ⟨rfl, rfl⟩
set_option maxRecDepth 100000 in
set_option maxHeartbeats 1000000 in
theorem new_any (p : Nat) (h1 : 1 ≤ p) (h2 : p ≤ 200) (w : World) : Calls Tryd.prog 18 #[.int .i64 p] w fun e w' => e = .returned (.tuple #[.pointer (some ⟨w.heap.size, 0, none⟩), .int .i64 0]) ∧ RgI w' w.heap.size w.heap.size 0 (fun i => i = w.heap.size) p [] ∧ Ext w w' := by
  go_enter Tryd.func18, Tryd.ntmps18
  go_wp2
  go_ret2
  refine ⟨rfl, ⟨[], none, .slice none 0 0, heap_alloc_new w _, .inl ⟨rfl, fun k => by simp [ptsF, wt]⟩, KRow.nil, rfl, fun m e => (by cases e), fun g e => (by cases e), fun g e => by rw [e]; simp, fun g e => by rw [e]; exact Nat.le_refl _, ⟨h1, h2⟩, LOk.nil, pts_nil _, List.Pairwise.nil, by simp, by omega⟩, ext_alloc1 _ _⟩
end
end Go.Proofs.YtjphpblangeblaaDoor
