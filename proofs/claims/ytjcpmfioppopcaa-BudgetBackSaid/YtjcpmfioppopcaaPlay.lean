/- The statements' play, walked: a book and the reference's book behind any acts. -/
import Derived.Test.YtjcpmfioppopcaaLaw
namespace Go.Proofs.Ytjcpmfioppopcaa
open Go.RowKit Go.Maps
set_option linter.unusedVariables false

def actL (room share : Int) (L : List Ln) (a : AR) : List Ln := if a.2.2 = true then lessL L a.1 a.2.1 else addL room share L a.1 a.2.1
def playL (room share : Int) (xs : List AR) : List Ln := xs.foldl (actL room share) []
theorem playL_take {room share : Int} {xs : List AR} {k : Nat} (h : k < xs.length) : playL room share (xs.take (k + 1)) = actL room share (playL room share (xs.take k)) xs[k] := by
  unfold playL; rw [List.take_succ_eq_append_getElem h, List.foldl_append]; rfl
theorem act_inv {room share : Int} {L : List Ln} (h : Inv room share L) (a : AR) : Inv room share (actL room share L a) := by
  unfold actL; split
  · exact h.less _ _
  · exact h.add _ _
theorem act_len (room share : Int) (L : List Ln) (a : AR) : (actL room share L a).length ≤ L.length + 1 := by
  unfold actL; split
  · exact len_less _ _ _
  · exact len_add _ _ _ _ _
theorem play_inv {room share : Int} (h : Inv room share []) (xs : List AR) : Inv room share (playL room share xs) := by
  have : ∀ (xs : List AR) (L : List Ln), Inv room share L → Inv room share (xs.foldl (actL room share) L) := by
    intro xs
    induction xs with
    | nil => intro L hL; exact hL
    | cons a r ih => intro L hL; exact ih _ (act_inv hL a)
  exact this xs [] h
theorem play_len (room share : Int) (xs : List AR) : (playL room share xs).length ≤ xs.length := by
  have : ∀ (xs : List AR) (L : List Ln), (xs.foldl (actL room share) L).length ≤ L.length + xs.length := by
    intro xs
    induction xs with
    | nil => intro L; simp
    | cons a r ih =>
      intro L
      have h1 := ih (actL room share L a)
      have h2 := act_len room share L a
      simp only [List.foldl_cons, List.length_cons]; omega
  have h := this xs []
  simp only [List.length_nil, Nat.zero_add] at h
  exact h

def okR (room share : Int) : Prop := okN room = true ∧ okN share = true ∧ share ≤ room

/-- What the loop of 'play' holds at a round's head. -/
def PlayRel (room share : Int) (xs : List AR) (w : World) (b bx : Nat) (k : Nat) (wr : World) : Prop :=
  ∃ mo s, PlayAt wr b mo bx s room share (playL room share (xs.take k)) k ∧ Above w.heap.size mo ∧ Ext w wr ∧ w.heap.size ≤ b ∧ w.heap.size ≤ bx ∧ wr.heap[w.heap.size]? = some (.cells #[.int .i64 0, .int .i64 0, .slice none 0 0] 32 (0, 0)) ∧ bx ≠ w.heap.size

theorem play_rel_step {room share : Int} {xs : List AR} {w wr wa w3 w4 : World} {b bx : Nat} {mo mo3 : Option Nat} {k : Nat} {s4 : Value} (hE : Ext w wr) (hea : Ext wr wa) (hx3 : ExtB (bks b mo) wa w3) (hx4 : Ext w3 w4) (hn3 : NewMap wa mo mo3) (hAb : Above w.heap.size mo) (hb : w.heap.size ≤ b) (hbx : w.heap.size ≤ bx)
    (hres : wa.heap[w.heap.size]? = some (.cells #[.int .i64 0, .int .i64 0, .slice none 0 0] 32 (0, 0))) (hne : bx ≠ w.heap.size) (hbn : w.heap.size ∉ bks b mo)
    (hP : PlayAt (((w4.setCell ⟨bx, 0, none⟩ (.int .i64 room)).setCell ⟨bx, 1, none⟩ (.int .i64 share)).setCell ⟨bx, 2, none⟩ s4) b mo3 bx s4 room share (playL room share (xs.take (k + 1))) (k + 1)) :
    PlayRel room share xs w b bx (k + 1) (((w4.setCell ⟨bx, 0, none⟩ (.int .i64 room)).setCell ⟨bx, 1, none⟩ (.int .i64 share)).setCell ⟨bx, 2, none⟩ s4) := by
  have hEa : Ext w wa := hE.trans hea
  have s1 : w.heap.size ≤ wa.heap.size := hEa.size
  have l3 := below_bks hx3 hb hAb s1
  have s3 : w.heap.size ≤ w3.heap.size := Nat.le_trans s1 l3.size
  have l4 : Below w.heap.size w3 w4 := Below.mono hx4 s3
  have hx5 := set3_ext w4 bx (.int .i64 room) (.int .i64 share) s4
  have l5 : Below w.heap.size w4 (((w4.setCell ⟨bx, 0, none⟩ (.int .i64 room)).setCell ⟨bx, 1, none⟩ (.int .i64 share)).setCell ⟨bx, 2, none⟩ s4) := hx5.below (Nat.le_trans s3 l4.size) (by simpa using hbx)
  refine ⟨mo3, s4, hP, hAb.new s1 hn3, ((Below.trans hEa l3).trans l4).trans l5, hb, hbx, ?_, hne⟩
  exact hx5.heap (hx4.heap (hx3.heap hres hbn)) (by simpa using hne.symm)

set_option maxRecDepth 100000 in
set_option maxHeartbeats 8000000 in
theorem play_ok (room share : Int) (xs : List AR) (A : Option Addr) (c : Nat) (w : World) (hA : ActsAt w A xs) (hxl : xs.length ≤ 60) (hok : okR room share) :
    Calls Try.prog 11 #[.int .i64 room, .int .i64 share, .slice A xs.length c] w fun e w' => ∃ b mo s, e = .returned (.tuple #[.pointer (some ⟨b, 0, none⟩), .agg #[.int .i64 room, .int .i64 share, s], .bool true]) ∧ BookAt w' b mo room share (playL room share xs) 60 ∧ LinesAt w' s (playL room share xs) ∧ Above w.heap.size mo ∧ w.heap.size ≤ b ∧ Ext w w' := by
  have hI0 := inv0 hok.1 hok.2.1 hok.2.2
  have HA := Lib.hid hA; clear hA
  go_enter Try.func11, Try.ntmps11
  go_wp2_with fail
  refine (new_ok room share _ hok.1 hok.2.1 hok.2.2).mono ?_
  rintro e w1 ⟨rfl, hB1, hx1⟩
  go_wp2_with fail
  refine (rnew_ok room share _ hok.1 hok.2.1 hok.2.2).mono ?_
  rintro e w2 ⟨rfl, hx2⟩
  have hw0 : w2.heap[w.heap.size]? = some (.cells #[.int .i64 0, .int .i64 0, .slice none 0 0] 32 (0, 0)) := Ext.heap hx2 (Ext.heap hx1 (heap_alloc_new w _))
  have hxw : Ext w w2 := ((Ext.alloc (Ext.refl w) _).trans hx1).trans hx2
  have hB2 := (hB1.ext (.of hx2 []) (by simp) (by simp)).ext (.of (Ext.alloc (Ext.refl w2) (.cells #[.int .i64 room, .int .i64 share, .slice none 0 0] 32)) []) (by simp) (by simp)
  have hsz : (w.alloc (.cells #[.int .i64 0, .int .i64 0, .slice none 0 0] 32)).heap.size = w.heap.size + 1 := by simp
  rw [hsz] at hB2
  have hrel0 : PlayRel room share xs w (w.heap.size + 1) w2.heap.size 0 (w2.alloc (.cells #[.int .i64 room, .int .i64 share, .slice none 0 0] 32)) :=
    ⟨none, .slice none 0 0, ⟨hB2, heap_alloc_new w2 _, World.ownsRow_nil _ _ _ _⟩, Above.none _, hxw.alloc _, by omega, hxw.size, (Ext.alloc (Ext.refl w2) _).heap hw0, fun e => by have := blk_lt hw0; omega⟩
  have HR := Lib.hid hrel0
  have hlt2 : w.heap.size < w2.heap.size := blk_lt hw0
  clear hB1 hB2 hrel0 hx1 hx2 hw0 hsz
  go_wp2
  go_loopw [14, 36] (fun _ i wr => ∃ k : Nat, k ≤ xs.length ∧ i = .int .i64 k ∧ PlayRel room share xs w (w.heap.size + 1) w2.heap.size k wr) (fun _ i _ => xs.length - (intOf i).toNat)
  case atStart => exact ⟨0, by omega, rfl, HR.out⟩
  case round =>
    clear HR
    obtain ⟨k, hk, rfl, mo, s, hP, hAb, hE, hb, hbx, hres, hne⟩ := hrel
    have hI := play_inv hI0 (xs.take k)
    have hlen : (playL room share (xs.take k)).length ≤ 1000 := by have := play_len room share (xs.take k); simp at this; omega
    by_cases hlt : k < xs.length
    · obtain ⟨ba, off, rfl, h0, h1, h2⟩ := (HA.out.ext hE) k hlt
      have hba : ba < wr.heap.size := World.block_lt_of_cell? _ _ h0
      have hst := playL_take (room := room) (share := share) hlt
      have HST := Lib.hid hst; clear hst
      obtain ⟨wa, hwa⟩ : ∃ wa, wa = wr.alloc (.cells #[.string ⟨xs[k].1.toArray⟩, .int .i64 xs[k].2.1, .bool xs[k].2.2] 26) := ⟨_, rfl⟩
      have hea : Ext wr wa := by rw [hwa]; exact Ext.alloc (Ext.refl wr) _
      have hla : wa.heap[wr.heap.size]? = some (.cells #[.string ⟨xs[k].1.toArray⟩, .int .i64 xs[k].2.1, .bool xs[k].2.2] 26 (0, 0)) := by rw [hwa]; exact heap_alloc_new wr _
      have hPa := hP.ext hea
      have l0 : wa.cell? ⟨wr.heap.size, 0, none⟩ = some (.string ⟨xs[k].1.toArray⟩) := blk_cell hla 0
      have l1 : wa.cell? ⟨wr.heap.size, 1, none⟩ = some (.int .i64 xs[k].2.1) := blk_cell hla 1
      have l2 : wa.cell? ⟨wr.heap.size, 2, none⟩ = some (.bool xs[k].2.2) := blk_cell hla 2
      obtain ⟨L, hL⟩ : ∃ L, L = playL room share (xs.take k) := ⟨_, rfl⟩
      rw [← hL] at hI hlen hPa
      have HL := Lib.hid hL
      obtain ⟨As, cs, rfl⟩ := hPa.lines.slice
      have HPa := Lib.hid hPa; have HWA := Lib.hid hwa; have HLA := Lib.hid hla; have HRES := Lib.hid (hea.heap hres)
      clear hL hPa hla hP hres
      cases hq : xs[k].2.2
      · have hact : playL room share (xs.take (k + 1)) = addL room share L xs[k].1 xs[k].2.1 := by rw [HST.out, ← HL.out]; unfold actL; rw [hq]; rfl
        have HACT := Lib.hid hact
        rw [hq] at l2
        clear hact hwa
        go_wp2_with fail
        have hwa2 := HWA.out
        rw [hq] at hwa2
        rw [← hwa2]
        clear hwa2
        refine (add_any (w.heap.size + 1) mo L k room share xs[k].2.1 xs[k].1 _ HPa.out.book (by omega) hI).mono ?_
        rintro e w3 ⟨rfl, mo3, hB3, hx3, hn3⟩
        have hap := HPa.out.book.apart HLA.out (by decide)
        have n0 := hx3.cell l0 hap; have n1 := hx3.cell l1 hap
        obtain ⟨hbox3, hl3⟩ := HPa.out.others hx3
        have m0 : w3.cell? ⟨w2.heap.size, 0, none⟩ = some (.int .i64 room) := blk_cell hbox3 0
        have m1 : w3.cell? ⟨w2.heap.size, 1, none⟩ = some (.int .i64 share) := blk_cell hbox3 1
        have m2 : w3.cell? ⟨w2.heap.size, 2, none⟩ = some (.slice As L.length cs) := blk_cell hbox3 2
        have HB3 := Lib.hid hB3; have HBX := Lib.hid hbox3; clear hbox3 hB3
        go_wp2_with fail
        refine (radd_any L _ xs[k].1 room share xs[k].2.1 _ hl3 hlen hI).mono ?_
        rintro e w4 ⟨s4, rfl, hl4, hx4⟩
        obtain ⟨A4, c4, rfl⟩ := hl4.slice
        have hbox4 := Ext.heap hx4 HBX.out
        have p0 : w4.cell? ⟨w2.heap.size, 0, none⟩ = some (.int .i64 room) := blk_cell hbox4 0
        have p1 : w4.cell? ⟨w2.heap.size, 1, none⟩ = some (.int .i64 share) := blk_cell hbox4 1
        have p2 : w4.cell? ⟨w2.heap.size, 2, none⟩ = some (.slice As L.length cs) := blk_cell hbox4 2
        have q0 := blk_free hbox4 0; have q1 := blk_free hbox4 1; have q2 := blk_free hbox4 2
        have hfin := HPa.out.step HB3.out hx3 hx4 hl4
        have HF := Lib.hid hfin; clear hfin hbox4 hl4 hl3
        go_wp2
        go_roundw
        case rel => exact ⟨k + 1, by omega, by go_num, play_rel_step hE hea hx3 hx4 hn3 hAb hb hbx HRES.out hne (HPa.out.book.apart HRES.out (by decide)) (by rw [HACT.out]; exact HF.out)⟩
        case measure => simp [intOf]; omega
      · have hact : playL room share (xs.take (k + 1)) = lessL L xs[k].1 xs[k].2.1 := by rw [HST.out, ← HL.out]; unfold actL; rw [hq]; rfl
        have HACT := Lib.hid hact
        rw [hq] at l2
        clear hact hwa
        go_wp2_with fail
        have hwa2 := HWA.out
        rw [hq] at hwa2
        rw [← hwa2]
        clear hwa2
        refine (less_any (w.heap.size + 1) mo L k room share xs[k].2.1 xs[k].1 _ HPa.out.book (by omega) hI).mono ?_
        rintro e w3 ⟨rfl, mo3, hB3, hx3, hn3⟩
        have hap := HPa.out.book.apart HLA.out (by decide)
        have n0 := hx3.cell l0 hap; have n1 := hx3.cell l1 hap
        obtain ⟨hbox3, hl3⟩ := HPa.out.others hx3
        have m0 : w3.cell? ⟨w2.heap.size, 0, none⟩ = some (.int .i64 room) := blk_cell hbox3 0
        have m1 : w3.cell? ⟨w2.heap.size, 1, none⟩ = some (.int .i64 share) := blk_cell hbox3 1
        have m2 : w3.cell? ⟨w2.heap.size, 2, none⟩ = some (.slice As L.length cs) := blk_cell hbox3 2
        have HB3 := Lib.hid hB3; have HBX := Lib.hid hbox3; clear hbox3 hB3
        go_wp2_with fail
        refine (rless_any L _ xs[k].1 room share xs[k].2.1 _ hl3 hlen hI).mono ?_
        rintro e w4 ⟨s4, rfl, hl4, hx4⟩
        obtain ⟨A4, c4, rfl⟩ := hl4.slice
        have hbox4 := Ext.heap hx4 HBX.out
        have p0 : w4.cell? ⟨w2.heap.size, 0, none⟩ = some (.int .i64 room) := blk_cell hbox4 0
        have p1 : w4.cell? ⟨w2.heap.size, 1, none⟩ = some (.int .i64 share) := blk_cell hbox4 1
        have p2 : w4.cell? ⟨w2.heap.size, 2, none⟩ = some (.slice As L.length cs) := blk_cell hbox4 2
        have q0 := blk_free hbox4 0; have q1 := blk_free hbox4 1; have q2 := blk_free hbox4 2
        have hfin := HPa.out.step HB3.out hx3 hx4 hl4
        have HF := Lib.hid hfin; clear hfin hbox4 hl4 hl3
        go_wp2
        go_roundw
        case rel => exact ⟨k + 1, by omega, by go_num, play_rel_step hE hea hx3 hx4 hn3 hAb hb hbx HRES.out hne (HPa.out.book.apart HRES.out (by decide)) (by rw [HACT.out]; exact HF.out)⟩
        case measure => simp [intOf]; omega
    · obtain rfl : k = xs.length := by omega
      rw [List.take_of_length_le (Nat.le_refl _)] at hP hI hlen
      obtain ⟨As, cs, rfl⟩ := hP.lines.slice
      have m0 : wr.cell? ⟨w2.heap.size, 0, none⟩ = some (.int .i64 room) := blk_cell hP.box 0
      have m1 : wr.cell? ⟨w2.heap.size, 1, none⟩ = some (.int .i64 share) := blk_cell hP.box 1
      have m2 : wr.cell? ⟨w2.heap.size, 2, none⟩ = some (.slice As (playL room share xs).length cs) := blk_cell hP.box 2
      have p0 : wr.cell? ⟨w.heap.size, 0, none⟩ = some (.int .i64 0) := blk_cell hres 0
      have p1 : wr.cell? ⟨w.heap.size, 1, none⟩ = some (.int .i64 0) := blk_cell hres 1
      have p2 : wr.cell? ⟨w.heap.size, 2, none⟩ = some (.slice none 0 0) := blk_cell hres 2
      have q0 := blk_free hres 0; have q1 := blk_free hres 1; have q2 := blk_free hres 2
      have hx5 : ∀ u2, ExtB [w.heap.size] wr (((wr.setCell ⟨w.heap.size, 0, none⟩ (.int .i64 room)).setCell ⟨w.heap.size, 1, none⟩ (.int .i64 share)).setCell ⟨w.heap.size, 2, none⟩ u2).drew := fun u2 => (set3_ext wr w.heap.size (.int .i64 room) (.int .i64 share) u2).drew
      have HX5 := Lib.hid hx5; have HP := Lib.hid hP; have HRES := Lib.hid hres
      clear hx5 hP hres
      go_wp2
      refine wp_region_segs [] [.inl [0, 1, 2], .inr (.inr 3), .inl [4]] (by kernel_rfl) (by kernel_rfl) (fun c a d v w h => by cases d <;> exact h) ?_
      have G0 : ∀ x : Grow [] wr.drew, x.v.cell? ⟨w2.heap.size, 0, none⟩ = some (.int .i64 room) := fun x => x.ext.cell m0 (by simp)
      have G1 : ∀ x : Grow [] wr.drew, x.v.cell? ⟨w2.heap.size, 1, none⟩ = some (.int .i64 share) := fun x => x.ext.cell m1 (by simp)
      have G2 : ∀ x : Grow [] wr.drew, x.v.cell? ⟨w2.heap.size, 2, none⟩ = some (.slice As (playL room share xs).length cs) := fun x => x.ext.cell m2 (by simp)
      (rw [wpSegs_inl]; simp only [pickOps, List.map_cons, List.map_nil, List.getD_cons_succ, List.getD_cons_zero]; (repeat (go_big_quiet_step (fail))); refine wpQuiet_nil ?_)
      clear G0 G1 G2
      (rw [wpSegs_last]; simp only [pickOps, List.map_cons, List.map_nil, List.getD_cons_succ, List.getD_cons_zero]; go_wp2_with (fail))
      (rw [wpSegs_inl]; simp only [pickOps, List.map_cons, List.map_nil, List.getD_cons_succ, List.getD_cons_zero]; (repeat (go_big_quiet_step (fail))); refine wpQuiet_nil ?_)
      rw [wpSegs_nil]
      go_wp2
      refine bodyPost_ret (v := .tuple #[.pointer (some ⟨w.heap.size + 1, 0, none⟩), .agg #[.int .i64 room, .int .i64 share, .slice As (playL room share xs).length cs], .bool true]) (by simp [results, Try.results11, go_sem, p0, p1, p2]) rfl ⟨w.heap.size + 1, mo, _, rfl, ?_, ?_, hAb, hb, ?_⟩
      · have hap := HP.out.book.apart HRES.out (by decide)
        rw [mem_bks] at hap
        refine (HP.out.book.mono hxl).ext (HX5.out _) ?_ ?_
        · simp
        · rintro mb rfl; simp; rintro rfl; exact hap (.inr rfl)
      · refine HP.out.lines.extB (HX5.out _) fun g hg => ?_
        obtain ⟨cur, hc⟩ := HP.out.lines.own hg
        simp
        rintro rfl
        rw [HRES.out] at hc
        injection hc with hc
        injection hc with _ ht
        exact absurd ht (by decide)
      · exact Below.trans hE ((HX5.out _).below hE.size (by simp))

set_option maxRecDepth 100000 in
set_option maxHeartbeats 4000000 in
/-- No book comes of a wrong room or share. -/
theorem play_bad (room share : Int) (n : Nat) (A : Option Addr) (c : Nat) (w : World) (hok : ¬ okR room share) :
    Calls Try.prog 11 #[.int .i64 room, .int .i64 share, .slice A n c] w fun e w' => ∃ x y, e = .returned (.tuple #[x, y, .bool false]) ∧ (∃ a b s, y = .agg #[.int .i64 a, .int .i64 b, s] ∧ s = .slice none 0 0) ∧ Ext w w' := by
  go_enter Try.func11, Try.ntmps11
  go_wp2_with fail
  refine (new_bad room share _ hok).mono ?_
  rintro e w1 ⟨rfl, rfl⟩
  go_wp2_with fail
  refine (rnew_bad room share _ hok).mono ?_
  rintro e w2 ⟨rfl, hx2⟩
  have hw0 : w2.heap[w.heap.size]? = some (.cells #[.int .i64 0, .int .i64 0, .slice none 0 0] 32 (0, 0)) := Ext.heap hx2 (heap_alloc_new w _)
  have hxw : Ext w w2 := (Ext.alloc (Ext.refl w) _).trans hx2
  have hlt2 : w.heap.size < w2.heap.size := blk_lt hw0
  obtain ⟨wb, hwb⟩ : ∃ wb, wb = w2.alloc (.cells #[.int .i64 0, .int .i64 0, .slice none 0 0] 32) := ⟨_, rfl⟩
  have hb0 : wb.heap[w2.heap.size]? = some (.cells #[.int .i64 0, .int .i64 0, .slice none 0 0] 32 (0, 0)) := by rw [hwb]; exact heap_alloc_new w2 _
  have hxb : Ext w wb := by rw [hwb]; exact hxw.alloc _
  have hres : wb.heap[w.heap.size]? = some (.cells #[.int .i64 0, .int .i64 0, .slice none 0 0] 32 (0, 0)) := by rw [hwb]; exact (Ext.alloc (Ext.refl w2) _).heap hw0
  have m0 : wb.cell? ⟨w2.heap.size, 0, none⟩ = some (.int .i64 0) := blk_cell hb0 0
  have m1 : wb.cell? ⟨w2.heap.size, 1, none⟩ = some (.int .i64 0) := blk_cell hb0 1
  have m2 : wb.cell? ⟨w2.heap.size, 2, none⟩ = some (.slice none 0 0) := blk_cell hb0 2
  have p0 : wb.cell? ⟨w.heap.size, 0, none⟩ = some (.int .i64 0) := blk_cell hres 0
  have p1 : wb.cell? ⟨w.heap.size, 1, none⟩ = some (.int .i64 0) := blk_cell hres 1
  have p2 : wb.cell? ⟨w.heap.size, 2, none⟩ = some (.slice none 0 0) := blk_cell hres 2
  have q0 := blk_free hres 0; have q1 := blk_free hres 1; have q2 := blk_free hres 2
  have HWB := Lib.hid hwb
  clear hx2 hw0 hwb hb0 hres
  go_wp2
  rw [← HWB.out]
  refine wp_region_segs [] [.inl [0, 1], .inr (.inr 2), .inl [3]] (by kernel_rfl) (by kernel_rfl) (fun c a d v w h => by cases d <;> exact h) ?_
  have G0 : ∀ x : Grow [] wb.drew, x.v.cell? ⟨w2.heap.size, 0, none⟩ = some (.int .i64 0) := fun x => x.ext.cell m0 (by simp)
  have G1 : ∀ x : Grow [] wb.drew, x.v.cell? ⟨w2.heap.size, 1, none⟩ = some (.int .i64 0) := fun x => x.ext.cell m1 (by simp)
  have G2 : ∀ x : Grow [] wb.drew, x.v.cell? ⟨w2.heap.size, 2, none⟩ = some (.slice none 0 0) := fun x => x.ext.cell m2 (by simp)
  (rw [wpSegs_inl]; simp only [pickOps, List.map_cons, List.map_nil, List.getD_cons_succ, List.getD_cons_zero]; (repeat (go_big_quiet_step (fail))); refine wpQuiet_nil ?_)
  clear G0 G1 G2
  (rw [wpSegs_last]; simp only [pickOps, List.map_cons, List.map_nil, List.getD_cons_succ, List.getD_cons_zero]; go_wp2_with (fail))
  (rw [wpSegs_inl]; simp only [pickOps, List.map_cons, List.map_nil, List.getD_cons_succ, List.getD_cons_zero]; (repeat (go_big_quiet_step (fail))); refine wpQuiet_nil ?_)
  rw [wpSegs_nil]
  go_wp2
  exact bodyPost_ret (v := .tuple #[.pointer none, .agg #[.int .i64 0, .int .i64 0, .slice none 0 0], .bool false]) (by simp [results, Try.results11, go_sem, p0, p1, p2]) rfl ⟨_, _, rfl, ⟨0, 0, _, rfl, rfl⟩, Below.trans hxb ((set3_ext wb w.heap.size (.int .i64 0) (.int .i64 0) (.slice none 0 0)).drew.below hxb.size (by simp))⟩

end Go.Proofs.Ytjcpmfioppopcaa
