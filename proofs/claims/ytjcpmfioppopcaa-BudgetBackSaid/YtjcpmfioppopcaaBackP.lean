/- BudgetBack: what is added and taken again leaves a book as it was. -/
import Derived.Test.YtjcpmfioppopcaaBackA
namespace Go.Proofs.Ytjcpmfioppopcaa
open Go.ChangeShapes Go.WideShapes Go.ChangeAt Go.RowKit Go.Deep Go.Joins
set_option linter.unusedVariables false

theorem Ext.fromDrew {a b : World} (h : Ext a b) : ExtB [] a.drew b := ⟨h.os, h.tape, h.output, h.size, fun k hk _ => h.block k hk⟩
theorem acts_none {H : Type} {enc : TypeId × Value → H} {w : World} {base : Nat} {held : Bool} {n c : Nat} {d : DataW H} {p : List MemPlace} (h : DataW.Trod enc Try.prog w base (fun _ => true) held 24 (.slice none n c) d p) : c = 0 := by
  obtain ⟨fuel, hf⟩ := h
  rcases open_slice Try.underlying24 hf with ⟨hcs, _⟩ | ⟨a, len', cap', m, n', D, Pl, hcs, _⟩
  · simp [Value.cells] at hcs; exact hcs.2
  · simp [Value.cells] at hcs

set_option maxRecDepth 100000 in
set_option maxHeartbeats 8000000 in
theorem back_walk (all share : Int) (xs : List AR) (A : Option Addr) (c : Nat) (t : Bs) (n : Int) (l : Bool) (w : World) (hA : ActsAt w A xs) (hlen : xs.length ≤ maxLen) (hc0 : A = none → c = 0) :
    Calls Try.prog 6 #[.agg #[.int .i64 all, .int .i64 share], .slice A xs.length c, .agg #[.string ⟨t.toArray⟩, .int .i64 n, .bool l]] w fun e w' => e = .returned (.bool true) ∧ Below w.heap.size w w' := by
  obtain ⟨W, hW⟩ : ∃ W, W = (w.alloc (.cells #[.int .i64 all, .int .i64 share] 23)).alloc (.cells #[.string ⟨t.toArray⟩, .int .i64 n, .bool l] 26) := ⟨_, rfl⟩
  have hE : Ext w W := by rw [hW]; exact ((Ext.refl w).alloc _).alloc _
  have hf := heap_new2 w (.cells #[.int .i64 all, .int .i64 share] 23) (.cells #[.string ⟨t.toArray⟩, .int .i64 n, .bool l] 26)
  rw [← hW] at hf
  have r0 : W.cell? ⟨w.heap.size, 0, none⟩ = some (.int .i64 all) := blk_cell hf.1 0
  have r1 : W.cell? ⟨w.heap.size, 1, none⟩ = some (.int .i64 share) := blk_cell hf.1 1
  have k0 : W.cell? ⟨w.heap.size + 1, 0, none⟩ = some (.string ⟨t.toArray⟩) := blk_cell hf.2 0
  have k1 : W.cell? ⟨w.heap.size + 1, 1, none⟩ = some (.int .i64 n) := blk_cell hf.2 1
  have k2 : W.cell? ⟨w.heap.size + 1, 2, none⟩ = some (.bool l) := blk_cell hf.2 2
  have HW := Lib.hid hW; have HA := Lib.hid (hA.ext hE); have HC0 := Lib.hid hc0; clear hW hA hf hc0
  have hsz : w.heap.size + 1 < W.heap.size := World.block_lt_of_cell? _ _ k0
  cases hsm : smallB xs
  · go_enter Try.func6, Try.ntmps6
    go_wp2_with (first | (go_at_call 9; rw [← HW.out]; refine (wakes_any _).mono ?_; rintro e w1 ⟨rfl, hx1⟩) | (go_at_call 10; refine (small_any xs A c _ (HA.out.ext hx1) hlen).mono ?_; rintro e w2 ⟨rfl, hx2⟩))
    go_ret
    exact ⟨rfl, (hE.trans hx1).trans hx2⟩
  · obtain ⟨hxs, h60⟩ := small_spec hsm
    have HXS := Lib.hid hxs; clear hxs
    go_enter Try.func6, Try.ntmps6
    go_wp2_with fail
    rw [← HW.out]
    refine (wakes_any _).mono ?_
    rintro e w1 ⟨rfl, hx1⟩
    go_wp2_with fail
    refine (small_any xs A c _ (HA.out.ext hx1) hlen).mono ?_
    rintro e w2 ⟨rfl, hx2⟩
    have hx2' : Ext W w2 := Ext.trans hx1 hx2
    have i0 := hx2'.cell k0; have i1 := hx2'.cell k1; have q0 := hx2'.cell r0; have q1 := hx2'.cell r1
    rw [hsm]
    by_cases htl : t.length ≤ 300
    · have hdl : decide (300 < (t.length : Int)) = false := by simp; omega
      by_cases hok : okR all share
      · have hI := play_inv (inv0 hok.1 hok.2.1 hok.2.2) xs
        have hll := play_len all share xs
        go_wp2_with fail
        refine (play_ok all share xs A c _ (HA.out.ext hx2') h60 hok).mono ?_
        rintro e w3 ⟨b, mo, s, rfl, hB, hL, hAb, hb, hx3⟩
        obtain ⟨L, hLe⟩ : ∃ L, L = playL all share xs := ⟨_, rfl⟩
        rw [← hLe] at hI hll hB hL
        clear hLe
        obtain ⟨As, cs, rfl⟩ := hL.slice
        have hx3' : Ext W w3 := hx2'.trans hx3
        have hAb' : Above W.heap.size mo := fun m e => Nat.le_trans hx2'.size (hAb m e)
        have hb' : W.heap.size ≤ b := Nat.le_trans hx2'.size hb
        obtain ⟨wb, hwb⟩ : ∃ wb, wb = w3.alloc (.cells #[.int .i64 all, .int .i64 share, .slice As L.length cs] 32) := ⟨_, rfl⟩
        have hx4 : Ext w3 wb := by rw [hwb]; exact (Ext.refl w3).alloc _
        have hbx : wb.heap[w3.heap.size]? = some (.cells #[.int .i64 all, .int .i64 share, .slice As L.length cs] 32 (0, 0)) := by rw [hwb]; exact heap_alloc_new w3 _
        have hP : PlayAt wb b mo w3.heap.size (.slice As L.length cs) all share L 60 := ⟨hB.ext (.of hx4 []) (by simp) (by simp), hbx, hx4.lines hL⟩
        have hx4' : Ext W wb := hx3'.trans hx4
        have HWB := Lib.hid hwb
        have HP := Lib.hid hP
        have y0 := hx3'.cell k0; have y1 := hx3'.cell k1
        have hs3 : w.heap.size + 1 < w3.heap.size := World.block_lt_of_cell? _ _ y0
        clear hB hL hwb i0 i1 q0 q1 hAb hb hbx hP
        go_wp2_with fail
        clear y0 y1
        rw [← HWB.out]
        refine (add_any b mo L 60 all share n t _ HP.out.book (by omega) hI).mono ?_
        rintro e w5 ⟨rfl, mo5, hB5, hx5, hn5⟩
        have hx5' : Ext W w5 := Below.trans hx4' (below_bks hx5 hb' hAb' hx4'.size)
        obtain ⟨hbox5, hl5⟩ := HP.out.others hx5
        have hAb5 := hAb'.new hx4'.size hn5
        have HBX5 := Lib.hid hbox5
        by_cases hae : addE all share L t n = 0
        · obtain ⟨e2, e3, e4⟩ := back_law hI hae
          have hI5 := hI.add (room := all) (share := share) t n
          rw [hae]
          have HB5 := Lib.hid hB5; have HL5 := Lib.hid hl5; have HE4 := Lib.hid e4; have HE3 := Lib.hid e3
          have z0 := hx5'.cell k0; have z1 := hx5'.cell k1
          clear hB5 hbox5 hl5 e4 e3
          go_wp2_with fail
          clear z0 z1
          refine (less_any b mo5 _ 61 all share n t _ HB5.out (by omega) hI5).mono ?_
          rintro e w8 ⟨rfl, mo8, hB8, hx8, hn8⟩
          rw [e2]
          have hx8' : Ext W w8 := Below.trans hx5' (below_bks hx8 hb' hAb5 hx5'.size)
          have hbk8 := hB8.alike HE3.out HE4.out
          have hbox8 := hx8.heap HBX5.out (HB5.out.apart HBX5.out (by decide))
          have hl8 := HL5.out.extB hx8 fun g hg => by
            obtain ⟨cur, hc⟩ := HL5.out.own hg
            exact HB5.out.apart hc (by decide)
          have hP8 : PlayAt w8 b mo8 w3.heap.size (.slice As L.length cs) all share L 62 := ⟨hbk8, hbox8, hl8⟩
          have HP8 := Lib.hid hP8
          have HBX8 := Lib.hid hbox8
          clear hB8 hbk8 hbox8 hl8 hP8 HBX5 HB5 HL5
          go_wp2
          have m0 : w8.cell? ⟨w3.heap.size, 0, none⟩ = some (.int .i64 all) := blk_cell HBX8.out 0
          have m1 : w8.cell? ⟨w3.heap.size, 1, none⟩ = some (.int .i64 share) := blk_cell HBX8.out 1
          have m2 : w8.cell? ⟨w3.heap.size, 2, none⟩ = some (.slice As L.length cs) := blk_cell HBX8.out 2
          have s0 := hx8'.cell k0; have s1 := hx8'.cell k1; have s2 := hx8'.cell k2
          have HA8 := Lib.hid (HA.out.ext hx8')
          refine wp_region_tr [] [0, 1, 3, 5] (.fork 2 (.fork 4 (.one 6 (.one 7 (.one 8 (.one 9 .done)))) 6 (.one 4 (.one 7 (.one 8 (.one 9 .done))))) 6 (.one 2 (.one 4 (.one 7 (.one 8 (.one 9 .done)))))) (by kernel_rfl) (by kernel_rfl) (fun c a d v w h => by cases d <;> exact h) ?_
          have G0 : ∀ x : Grow [] w8.drew, x.v.cell? ⟨w3.heap.size, 0, none⟩ = some (.int .i64 all) := fun x => x.ext.cell m0 (by simp)
          have G1 : ∀ x : Grow [] w8.drew, x.v.cell? ⟨w3.heap.size, 1, none⟩ = some (.int .i64 share) := fun x => x.ext.cell m1 (by simp)
          have G2 : ∀ x : Grow [] w8.drew, x.v.cell? ⟨w3.heap.size, 2, none⟩ = some (.slice As L.length cs) := fun x => x.ext.cell m2 (by simp)
          have G3 : ∀ x : Grow [] w8.drew, x.v.cell? ⟨w.heap.size + 1, 0, none⟩ = some (.string ⟨t.toArray⟩) := fun x => x.ext.cell s0 (by simp)
          have G4 : ∀ x : Grow [] w8.drew, x.v.cell? ⟨w.heap.size + 1, 1, none⟩ = some (.int .i64 n) := fun x => x.ext.cell s1 (by simp)
          have G5 : ∀ x : Grow [] w8.drew, x.v.cell? ⟨w.heap.size + 1, 2, none⟩ = some (.bool l) := fun x => x.ext.cell s2 (by simp)
          (simp only [pickOps, List.map_cons, List.map_nil, List.getD_cons_succ, List.getD_cons_zero]; (repeat (go_big_quiet_step (fail))); refine wpQuiet_nil ?_)
          clear G0 G1 G2 G3 G4 G5 m0 m1 m2 s0 s1 s2
          rw [wpTr_fork]
          refine ⟨?_, ?_⟩
          · (simp only [pickOps, List.map_cons, List.map_nil, List.getD_cons_succ, List.getD_cons_zero]; go_wp2_with fail)
            obtain ⟨u2, hu2⟩ : ∃ u2, u2 = (w8.alloc (.cells #[] 26)).drew := ⟨_, rfl⟩
            have hE2 : Ext w8 u2 := by rw [hu2]; exact ((Ext.refl w8).alloc _).drew
            have hO2 : u2.ownsRow w8.heap.size 26 3 (.slice (some ⟨w8.heap.size, 0, none⟩) 0 0) 0 [] := by
              rw [hu2]; exact World.ownsRow_made (e := 26) (size := 3) w8 #[] 0 (Nat.le_refl _) (by simp) rfl
            have HO2 := Lib.hid hO2; have HE2 := Lib.hid hE2; clear hO2
            rw [← hu2]
            have hs2 : w8.heap.size < u2.heap.size := by rw [hu2]; simp
            clear hu2
            refine ⟨hE2.fromDrew, ?_⟩
            rw [wpTr_fork]
            refine ⟨?_, ?_⟩
            · simp only [pickOps, List.map_cons, List.map_nil, List.getD_cons_succ, List.getD_cons_zero]
              refine append_acts rfl (.tmp 51) (.tmp 52) rfl w8.heap.size _ [] xs A c rfl rfl HO2.out (HA8.out.ext HE2.out) (by simp; omega) HC0.out HE2.out.size ?_
              intro v4 w4 hown4 hg4
              rw [List.nil_append] at hown4
              have hE4 : Ext w8 w4 := Below.trans HE2.out (own_below HO2.out hg4 HE2.out.size)
              have HOX := Lib.hid hown4; clear hown4 hg4
              go_wp2
              refine ⟨hE4.fromDrew, ?_⟩
              rw [wpTr_one]
              (simp only [pickOps, List.map_cons, List.map_nil, List.getD_cons_succ, List.getD_cons_zero]; go_wp2_with fail)
              obtain ⟨u6, hu6⟩ : ∃ u6, u6 = w4.alloc (.cells #[.string ⟨t.toArray⟩, .int .i64 n, .bool l] 26) := ⟨_, rfl⟩
              have hE6 : Ext w8 u6 := by rw [hu6]; exact hE4.alloc _
              have HO4 : Hid (u6.ownsRow w8.heap.size 26 3 v4 xs.length (acells xs)) := Lib.hid (by rw [hu6]; exact HOX.out.alloc _)
              have HQ4 : Hid (ActsAt u6 (some ⟨w4.heap.size, 0, none⟩) [(t, n, l)]) := Lib.hid (by rw [hu6]; exact acts_box w4 t n l)
              have HE4' := Lib.hid hE6
              rw [← hu6]
              clear hu6
              refine ⟨hE6.fromDrew, ?_⟩
              rw [wpTr_one]
              simp only [pickOps, List.map_cons, List.map_nil, List.getD_cons_succ, List.getD_cons_zero]
              refine append_acts rfl (.tmp 53) (.tmp 55) rfl w8.heap.size v4 xs [(t, n, l)] (some ⟨w4.heap.size, 0, none⟩) 1 rfl rfl HO4.out HQ4.out (by simp; omega) (by simp) HE4'.out.size ?_
              intro v7 w7 hown7 hg7
              have hb7 : Ext w8 w7 := Below.trans HE4'.out (own_below HO4.out hg7 HE4'.out.size)
              obtain ⟨zs, hzs⟩ : ∃ zs, zs = xs ++ [(t, n, l)] := ⟨_, rfl⟩
              rw [← hzs] at hown7
              have HZ := Lib.hid hzs; clear hzs
              obtain ⟨A7, c7, rfl, hA7⟩ := acts_of_row hown7
              have HA7 := Lib.hid hA7
              clear hown7 hA7
              go_wp2
              refine ⟨hb7.fromDrew, ?_⟩
              rw [wpTr_one]
              (simp only [pickOps, List.map_cons, List.map_nil, List.getD_cons_succ, List.getD_cons_zero]; go_wp2_with fail)
              have hP7 := HP8.out.ext hb7
              refine (same_any b mo8 L 62 all share _ zs _ c7 _ hP7.book hP7.lines (by omega) (by omega) hI HA7.out (by
                intro x hx
                rw [HZ.out] at hx
                rcases List.mem_append.1 hx with h | h
                · exact HXS.out x h
                · simp at h; rw [h]; exact htl) (by rw [HZ.out]; simp; omega)).mono ?_
              rintro e w9 ⟨rfl, hx9⟩
              go_wp2
              refine ⟨(hb7.trans hx9).fromDrew, ?_⟩
              rw [wpTr_one]
              (simp only [pickOps, List.map_cons, List.map_nil, List.getD_cons_succ, List.getD_cons_zero]; go_wp2)
              refine ⟨(hb7.trans hx9).fromDrew, ?_⟩
              rw [wpTr_done]
              go_wp2
              go_ret
              exact ⟨rfl, ((hE.trans hx8').trans hb7).trans hx9⟩
            · (simp only [pickOps, List.map_cons, List.map_nil, List.getD_cons_succ, List.getD_cons_zero]; go_wp2_with fail)
              obtain ⟨u6, hu6⟩ : ∃ u6, u6 = u2.alloc (.cells #[.string ⟨t.toArray⟩, .int .i64 n, .bool l] 26) := ⟨_, rfl⟩
              have hE6 : Ext w8 u6 := by rw [hu6]; exact HE2.out.alloc _
              have HO6 : Hid (u6.ownsRow w8.heap.size 26 3 (.slice (some ⟨w8.heap.size, 0, none⟩) 0 0) 0 []) := Lib.hid (by rw [hu6]; exact HO2.out.alloc _)
              have HQ6 : Hid (ActsAt u6 (some ⟨u2.heap.size, 0, none⟩) [(t, n, l)]) := Lib.hid (by rw [hu6]; exact acts_box u2 t n l)
              rw [← hu6]
              clear hu6
              refine ⟨hE6.fromDrew, ?_⟩
              rw [wpTr_one]
              simp only [pickOps, List.map_cons, List.map_nil, List.getD_cons_succ, List.getD_cons_zero]
              refine append_acts rfl (.tmp 51) (.tmp 52) rfl w8.heap.size _ [] xs A c rfl rfl HO6.out (HA8.out.ext hE6) (by simp; omega) HC0.out hE6.size ?_
              intro v4 w4 hown4 hg4
              rw [List.nil_append] at hown4
              have hE4 : Ext w8 w4 := Below.trans hE6 (own_below HO6.out hg4 hE6.size)
              have HQ4 : Hid (ActsAt w4 (some ⟨u2.heap.size, 0, none⟩) [(t, n, l)]) := Lib.hid (HQ6.out.extB (Grown.extB hg4) (by simp; omega))
              have HO4 := Lib.hid hown4; have HE4' := Lib.hid hE4; clear hown4 hg4
              go_wp2
              refine ⟨hE4.fromDrew, ?_⟩
              rw [wpTr_one]
              simp only [pickOps, List.map_cons, List.map_nil, List.getD_cons_succ, List.getD_cons_zero]
              refine append_acts rfl (.tmp 53) (.tmp 55) rfl w8.heap.size v4 xs [(t, n, l)] (some ⟨u2.heap.size, 0, none⟩) 1 rfl rfl HO4.out HQ4.out (by simp; omega) (by simp) HE4'.out.size ?_
              intro v7 w7 hown7 hg7
              have hb7 : Ext w8 w7 := Below.trans HE4'.out (own_below HO4.out hg7 HE4'.out.size)
              obtain ⟨zs, hzs⟩ : ∃ zs, zs = xs ++ [(t, n, l)] := ⟨_, rfl⟩
              rw [← hzs] at hown7
              have HZ := Lib.hid hzs; clear hzs
              obtain ⟨A7, c7, rfl, hA7⟩ := acts_of_row hown7
              have HA7 := Lib.hid hA7
              clear hown7 hA7
              go_wp2
              refine ⟨hb7.fromDrew, ?_⟩
              rw [wpTr_one]
              (simp only [pickOps, List.map_cons, List.map_nil, List.getD_cons_succ, List.getD_cons_zero]; go_wp2_with fail)
              have hP7 := HP8.out.ext hb7
              refine (same_any b mo8 L 62 all share _ zs _ c7 _ hP7.book hP7.lines (by omega) (by omega) hI HA7.out (by
                intro x hx
                rw [HZ.out] at hx
                rcases List.mem_append.1 hx with h | h
                · exact HXS.out x h
                · simp at h; rw [h]; exact htl) (by rw [HZ.out]; simp; omega)).mono ?_
              rintro e w9 ⟨rfl, hx9⟩
              go_wp2
              refine ⟨(hb7.trans hx9).fromDrew, ?_⟩
              rw [wpTr_one]
              (simp only [pickOps, List.map_cons, List.map_nil, List.getD_cons_succ, List.getD_cons_zero]; go_wp2)
              refine ⟨(hb7.trans hx9).fromDrew, ?_⟩
              rw [wpTr_done]
              go_wp2
              go_ret
              exact ⟨rfl, ((hE.trans hx8').trans hb7).trans hx9⟩
          · (simp only [pickOps, List.map_cons, List.map_nil, List.getD_cons_succ, List.getD_cons_zero]; go_wp2_with fail)
            obtain ⟨u6, hu6⟩ : ∃ u6, u6 = (w8.alloc (.cells #[.string ⟨t.toArray⟩, .int .i64 n, .bool l] 26)).drew := ⟨_, rfl⟩
            have hE6 : Ext w8 u6 := by rw [hu6]; exact ((Ext.refl w8).alloc _).drew
            have HQ6 : Hid (ActsAt u6 (some ⟨w8.heap.size, 0, none⟩) [(t, n, l)]) := Lib.hid (by rw [hu6]; exact acts_box w8 t n l)
            have hs6 : w8.heap.size < u6.heap.size := by rw [hu6]; simp
            rw [← hu6]
            clear hu6
            refine ⟨hE6.fromDrew, ?_⟩
            rw [wpTr_one]
            (simp only [pickOps, List.map_cons, List.map_nil, List.getD_cons_succ, List.getD_cons_zero]; go_wp2_with fail)
            obtain ⟨u2, hu2⟩ : ∃ u2, u2 = u6.alloc (.cells #[] 26) := ⟨_, rfl⟩
            have hE2 : Ext w8 u2 := by rw [hu2]; exact hE6.alloc _
            have HO2 : Hid (u2.ownsRow w8.heap.size 26 3 (.slice (some ⟨u6.heap.size, 0, none⟩) 0 0) 0 []) := Lib.hid (by
              rw [hu2]; exact World.ownsRow_made (e := 26) (size := 3) u6 #[] 0 hE6.size (by simp) rfl)
            have HQ2 : Hid (ActsAt u2 (some ⟨w8.heap.size, 0, none⟩) [(t, n, l)]) := Lib.hid (by rw [hu2]; exact HQ6.out.ext ((Ext.refl u6).alloc _))
            rw [← hu2]
            clear hu2
            refine ⟨hE2.fromDrew, ?_⟩
            rw [wpTr_one]
            simp only [pickOps, List.map_cons, List.map_nil, List.getD_cons_succ, List.getD_cons_zero]
            refine append_acts rfl (.tmp 51) (.tmp 52) rfl w8.heap.size _ [] xs A c rfl rfl HO2.out (HA8.out.ext hE2) (by simp; omega) HC0.out hE2.size ?_
            intro v4 w4 hown4 hg4
            rw [List.nil_append] at hown4
            have hE4 : Ext w8 w4 := Below.trans hE2 (own_below HO2.out hg4 hE2.size)
            have HQ4 : Hid (ActsAt w4 (some ⟨w8.heap.size, 0, none⟩) [(t, n, l)]) := Lib.hid (HQ2.out.extB (Grown.extB hg4) (by simp; omega))
            have HO4 := Lib.hid hown4; have HE4' := Lib.hid hE4; clear hown4 hg4
            go_wp2
            refine ⟨hE4.fromDrew, ?_⟩
            rw [wpTr_one]
            simp only [pickOps, List.map_cons, List.map_nil, List.getD_cons_succ, List.getD_cons_zero]
            refine append_acts rfl (.tmp 53) (.tmp 55) rfl w8.heap.size v4 xs [(t, n, l)] (some ⟨w8.heap.size, 0, none⟩) 1 rfl rfl HO4.out HQ4.out (by simp; omega) (by simp) HE4'.out.size ?_
            intro v7 w7 hown7 hg7
            have hb7 : Ext w8 w7 := Below.trans HE4'.out (own_below HO4.out hg7 HE4'.out.size)
            obtain ⟨zs, hzs⟩ : ∃ zs, zs = xs ++ [(t, n, l)] := ⟨_, rfl⟩
            rw [← hzs] at hown7
            have HZ := Lib.hid hzs; clear hzs
            obtain ⟨A7, c7, rfl, hA7⟩ := acts_of_row hown7
            have HA7 := Lib.hid hA7
            clear hown7 hA7
            go_wp2
            refine ⟨hb7.fromDrew, ?_⟩
            rw [wpTr_one]
            (simp only [pickOps, List.map_cons, List.map_nil, List.getD_cons_succ, List.getD_cons_zero]; go_wp2_with fail)
            have hP7 := HP8.out.ext hb7
            refine (same_any b mo8 L 62 all share _ zs _ c7 _ hP7.book hP7.lines (by omega) (by omega) hI HA7.out (by
              intro x hx
              rw [HZ.out] at hx
              rcases List.mem_append.1 hx with h | h
              · exact HXS.out x h
              · simp at h; rw [h]; exact htl) (by rw [HZ.out]; simp; omega)).mono ?_
            rintro e w9 ⟨rfl, hx9⟩
            go_wp2
            refine ⟨(hb7.trans hx9).fromDrew, ?_⟩
            rw [wpTr_one]
            (simp only [pickOps, List.map_cons, List.map_nil, List.getD_cons_succ, List.getD_cons_zero]; go_wp2)
            refine ⟨(hb7.trans hx9).fromDrew, ?_⟩
            rw [wpTr_done]
            go_wp2
            go_ret
            exact ⟨rfl, ((hE.trans hx8').trans hb7).trans hx9⟩
        · have e1 : addL all share L t n = L := by unfold addL; rw [if_neg hae]
          rw [e1] at hB5
          have d1 : decide (addE all share L t n = 0) = false := by simp; exact hae
          obtain ⟨w8, hw8⟩ : ∃ w8, w8 = w5 := ⟨_, rfl⟩
          have hP8 : PlayAt w5 b mo5 w3.heap.size (.slice As L.length cs) all share L 62 := ⟨hB5.mono (by omega), hbox5, hl5⟩
          obtain ⟨mo8, hm8⟩ : ∃ mo8, mo8 = mo5 := ⟨_, rfl⟩
          have hx8' := hx5'
          rw [← hw8] at hP8 hx8' hbox5 ⊢
          rw [← hm8] at hP8
          have HP8 := Lib.hid hP8
          have HBX8 := Lib.hid hbox5
          clear hB5 hbox5 hl5 hP8 HBX5 hx5 hx5' hn5 hAb5 e1 hm8 hw8
          go_wp2
          have m0 : w8.cell? ⟨w3.heap.size, 0, none⟩ = some (.int .i64 all) := blk_cell HBX8.out 0
          have m1 : w8.cell? ⟨w3.heap.size, 1, none⟩ = some (.int .i64 share) := blk_cell HBX8.out 1
          have m2 : w8.cell? ⟨w3.heap.size, 2, none⟩ = some (.slice As L.length cs) := blk_cell HBX8.out 2
          have s0 := hx8'.cell k0; have s1 := hx8'.cell k1; have s2 := hx8'.cell k2
          have HA8 := Lib.hid (HA.out.ext hx8')
          refine wp_region_tr [] [0, 1, 3, 5] (.fork 2 (.fork 4 (.one 6 (.one 7 (.one 8 (.one 9 .done)))) 6 (.one 4 (.one 7 (.one 8 (.one 9 .done))))) 6 (.one 2 (.one 4 (.one 7 (.one 8 (.one 9 .done)))))) (by kernel_rfl) (by kernel_rfl) (fun c a d v w h => by cases d <;> exact h) ?_
          have G0 : ∀ x : Grow [] w8.drew, x.v.cell? ⟨w3.heap.size, 0, none⟩ = some (.int .i64 all) := fun x => x.ext.cell m0 (by simp)
          have G1 : ∀ x : Grow [] w8.drew, x.v.cell? ⟨w3.heap.size, 1, none⟩ = some (.int .i64 share) := fun x => x.ext.cell m1 (by simp)
          have G2 : ∀ x : Grow [] w8.drew, x.v.cell? ⟨w3.heap.size, 2, none⟩ = some (.slice As L.length cs) := fun x => x.ext.cell m2 (by simp)
          have G3 : ∀ x : Grow [] w8.drew, x.v.cell? ⟨w.heap.size + 1, 0, none⟩ = some (.string ⟨t.toArray⟩) := fun x => x.ext.cell s0 (by simp)
          have G4 : ∀ x : Grow [] w8.drew, x.v.cell? ⟨w.heap.size + 1, 1, none⟩ = some (.int .i64 n) := fun x => x.ext.cell s1 (by simp)
          have G5 : ∀ x : Grow [] w8.drew, x.v.cell? ⟨w.heap.size + 1, 2, none⟩ = some (.bool l) := fun x => x.ext.cell s2 (by simp)
          (simp only [pickOps, List.map_cons, List.map_nil, List.getD_cons_succ, List.getD_cons_zero]; (repeat (go_big_quiet_step (fail))); refine wpQuiet_nil ?_)
          clear G0 G1 G2 G3 G4 G5 m0 m1 m2 s0 s1 s2
          rw [wpTr_fork]
          refine ⟨?_, ?_⟩
          · (simp only [pickOps, List.map_cons, List.map_nil, List.getD_cons_succ, List.getD_cons_zero]; go_wp2_with fail)
            obtain ⟨u2, hu2⟩ : ∃ u2, u2 = (w8.alloc (.cells #[] 26)).drew := ⟨_, rfl⟩
            have hE2 : Ext w8 u2 := by rw [hu2]; exact ((Ext.refl w8).alloc _).drew
            have hO2 : u2.ownsRow w8.heap.size 26 3 (.slice (some ⟨w8.heap.size, 0, none⟩) 0 0) 0 [] := by
              rw [hu2]; exact World.ownsRow_made (e := 26) (size := 3) w8 #[] 0 (Nat.le_refl _) (by simp) rfl
            have HO2 := Lib.hid hO2; have HE2 := Lib.hid hE2; clear hO2
            rw [← hu2]
            have hs2 : w8.heap.size < u2.heap.size := by rw [hu2]; simp
            clear hu2
            refine ⟨hE2.fromDrew, ?_⟩
            rw [wpTr_fork]
            refine ⟨?_, ?_⟩
            · simp only [pickOps, List.map_cons, List.map_nil, List.getD_cons_succ, List.getD_cons_zero]
              refine append_acts rfl (.tmp 51) (.tmp 52) rfl w8.heap.size _ [] xs A c rfl rfl HO2.out (HA8.out.ext HE2.out) (by simp; omega) HC0.out HE2.out.size ?_
              intro v4 w4 hown4 hg4
              rw [List.nil_append] at hown4
              have hE4 : Ext w8 w4 := Below.trans HE2.out (own_below HO2.out hg4 HE2.out.size)
              have HOX := Lib.hid hown4; clear hown4 hg4
              go_wp2
              refine ⟨hE4.fromDrew, ?_⟩
              rw [wpTr_one]
              (simp only [pickOps, List.map_cons, List.map_nil, List.getD_cons_succ, List.getD_cons_zero]; go_wp2_with fail)
              obtain ⟨u6, hu6⟩ : ∃ u6, u6 = w4.alloc (.cells #[.string ⟨t.toArray⟩, .int .i64 n, .bool l] 26) := ⟨_, rfl⟩
              have hE6 : Ext w8 u6 := by rw [hu6]; exact hE4.alloc _
              have HO4 : Hid (u6.ownsRow w8.heap.size 26 3 v4 xs.length (acells xs)) := Lib.hid (by rw [hu6]; exact HOX.out.alloc _)
              have HQ4 : Hid (ActsAt u6 (some ⟨w4.heap.size, 0, none⟩) [(t, n, l)]) := Lib.hid (by rw [hu6]; exact acts_box w4 t n l)
              have HE4' := Lib.hid hE6
              rw [← hu6]
              clear hu6
              refine ⟨hE6.fromDrew, ?_⟩
              rw [wpTr_one]
              simp only [pickOps, List.map_cons, List.map_nil, List.getD_cons_succ, List.getD_cons_zero]
              refine append_acts rfl (.tmp 53) (.tmp 55) rfl w8.heap.size v4 xs [(t, n, l)] (some ⟨w4.heap.size, 0, none⟩) 1 rfl rfl HO4.out HQ4.out (by simp; omega) (by simp) HE4'.out.size ?_
              intro v7 w7 hown7 hg7
              have hb7 : Ext w8 w7 := Below.trans HE4'.out (own_below HO4.out hg7 HE4'.out.size)
              obtain ⟨zs, hzs⟩ : ∃ zs, zs = xs ++ [(t, n, l)] := ⟨_, rfl⟩
              rw [← hzs] at hown7
              have HZ := Lib.hid hzs; clear hzs
              obtain ⟨A7, c7, rfl, hA7⟩ := acts_of_row hown7
              have HA7 := Lib.hid hA7
              clear hown7 hA7
              go_wp2
              refine ⟨hb7.fromDrew, ?_⟩
              rw [wpTr_one]
              (simp only [pickOps, List.map_cons, List.map_nil, List.getD_cons_succ, List.getD_cons_zero]; go_wp2_with fail)
              have hP7 := HP8.out.ext hb7
              refine (same_any b mo8 L 62 all share _ zs _ c7 _ hP7.book hP7.lines (by omega) (by omega) hI HA7.out (by
                intro x hx
                rw [HZ.out] at hx
                rcases List.mem_append.1 hx with h | h
                · exact HXS.out x h
                · simp at h; rw [h]; exact htl) (by rw [HZ.out]; simp; omega)).mono ?_
              rintro e w9 ⟨rfl, hx9⟩
              go_wp2
              refine ⟨(hb7.trans hx9).fromDrew, ?_⟩
              rw [wpTr_one]
              (simp only [pickOps, List.map_cons, List.map_nil, List.getD_cons_succ, List.getD_cons_zero]; go_wp2)
              refine ⟨(hb7.trans hx9).fromDrew, ?_⟩
              rw [wpTr_done]
              go_wp2
              go_ret
              exact ⟨rfl, ((hE.trans hx8').trans hb7).trans hx9⟩
            · (simp only [pickOps, List.map_cons, List.map_nil, List.getD_cons_succ, List.getD_cons_zero]; go_wp2_with fail)
              obtain ⟨u6, hu6⟩ : ∃ u6, u6 = u2.alloc (.cells #[.string ⟨t.toArray⟩, .int .i64 n, .bool l] 26) := ⟨_, rfl⟩
              have hE6 : Ext w8 u6 := by rw [hu6]; exact HE2.out.alloc _
              have HO6 : Hid (u6.ownsRow w8.heap.size 26 3 (.slice (some ⟨w8.heap.size, 0, none⟩) 0 0) 0 []) := Lib.hid (by rw [hu6]; exact HO2.out.alloc _)
              have HQ6 : Hid (ActsAt u6 (some ⟨u2.heap.size, 0, none⟩) [(t, n, l)]) := Lib.hid (by rw [hu6]; exact acts_box u2 t n l)
              rw [← hu6]
              clear hu6
              refine ⟨hE6.fromDrew, ?_⟩
              rw [wpTr_one]
              simp only [pickOps, List.map_cons, List.map_nil, List.getD_cons_succ, List.getD_cons_zero]
              refine append_acts rfl (.tmp 51) (.tmp 52) rfl w8.heap.size _ [] xs A c rfl rfl HO6.out (HA8.out.ext hE6) (by simp; omega) HC0.out hE6.size ?_
              intro v4 w4 hown4 hg4
              rw [List.nil_append] at hown4
              have hE4 : Ext w8 w4 := Below.trans hE6 (own_below HO6.out hg4 hE6.size)
              have HQ4 : Hid (ActsAt w4 (some ⟨u2.heap.size, 0, none⟩) [(t, n, l)]) := Lib.hid (HQ6.out.extB (Grown.extB hg4) (by simp; omega))
              have HO4 := Lib.hid hown4; have HE4' := Lib.hid hE4; clear hown4 hg4
              go_wp2
              refine ⟨hE4.fromDrew, ?_⟩
              rw [wpTr_one]
              simp only [pickOps, List.map_cons, List.map_nil, List.getD_cons_succ, List.getD_cons_zero]
              refine append_acts rfl (.tmp 53) (.tmp 55) rfl w8.heap.size v4 xs [(t, n, l)] (some ⟨u2.heap.size, 0, none⟩) 1 rfl rfl HO4.out HQ4.out (by simp; omega) (by simp) HE4'.out.size ?_
              intro v7 w7 hown7 hg7
              have hb7 : Ext w8 w7 := Below.trans HE4'.out (own_below HO4.out hg7 HE4'.out.size)
              obtain ⟨zs, hzs⟩ : ∃ zs, zs = xs ++ [(t, n, l)] := ⟨_, rfl⟩
              rw [← hzs] at hown7
              have HZ := Lib.hid hzs; clear hzs
              obtain ⟨A7, c7, rfl, hA7⟩ := acts_of_row hown7
              have HA7 := Lib.hid hA7
              clear hown7 hA7
              go_wp2
              refine ⟨hb7.fromDrew, ?_⟩
              rw [wpTr_one]
              (simp only [pickOps, List.map_cons, List.map_nil, List.getD_cons_succ, List.getD_cons_zero]; go_wp2_with fail)
              have hP7 := HP8.out.ext hb7
              refine (same_any b mo8 L 62 all share _ zs _ c7 _ hP7.book hP7.lines (by omega) (by omega) hI HA7.out (by
                intro x hx
                rw [HZ.out] at hx
                rcases List.mem_append.1 hx with h | h
                · exact HXS.out x h
                · simp at h; rw [h]; exact htl) (by rw [HZ.out]; simp; omega)).mono ?_
              rintro e w9 ⟨rfl, hx9⟩
              go_wp2
              refine ⟨(hb7.trans hx9).fromDrew, ?_⟩
              rw [wpTr_one]
              (simp only [pickOps, List.map_cons, List.map_nil, List.getD_cons_succ, List.getD_cons_zero]; go_wp2)
              refine ⟨(hb7.trans hx9).fromDrew, ?_⟩
              rw [wpTr_done]
              go_wp2
              go_ret
              exact ⟨rfl, ((hE.trans hx8').trans hb7).trans hx9⟩
          · (simp only [pickOps, List.map_cons, List.map_nil, List.getD_cons_succ, List.getD_cons_zero]; go_wp2_with fail)
            obtain ⟨u6, hu6⟩ : ∃ u6, u6 = (w8.alloc (.cells #[.string ⟨t.toArray⟩, .int .i64 n, .bool l] 26)).drew := ⟨_, rfl⟩
            have hE6 : Ext w8 u6 := by rw [hu6]; exact ((Ext.refl w8).alloc _).drew
            have HQ6 : Hid (ActsAt u6 (some ⟨w8.heap.size, 0, none⟩) [(t, n, l)]) := Lib.hid (by rw [hu6]; exact acts_box w8 t n l)
            have hs6 : w8.heap.size < u6.heap.size := by rw [hu6]; simp
            rw [← hu6]
            clear hu6
            refine ⟨hE6.fromDrew, ?_⟩
            rw [wpTr_one]
            (simp only [pickOps, List.map_cons, List.map_nil, List.getD_cons_succ, List.getD_cons_zero]; go_wp2_with fail)
            obtain ⟨u2, hu2⟩ : ∃ u2, u2 = u6.alloc (.cells #[] 26) := ⟨_, rfl⟩
            have hE2 : Ext w8 u2 := by rw [hu2]; exact hE6.alloc _
            have HO2 : Hid (u2.ownsRow w8.heap.size 26 3 (.slice (some ⟨u6.heap.size, 0, none⟩) 0 0) 0 []) := Lib.hid (by
              rw [hu2]; exact World.ownsRow_made (e := 26) (size := 3) u6 #[] 0 hE6.size (by simp) rfl)
            have HQ2 : Hid (ActsAt u2 (some ⟨w8.heap.size, 0, none⟩) [(t, n, l)]) := Lib.hid (by rw [hu2]; exact HQ6.out.ext ((Ext.refl u6).alloc _))
            rw [← hu2]
            clear hu2
            refine ⟨hE2.fromDrew, ?_⟩
            rw [wpTr_one]
            simp only [pickOps, List.map_cons, List.map_nil, List.getD_cons_succ, List.getD_cons_zero]
            refine append_acts rfl (.tmp 51) (.tmp 52) rfl w8.heap.size _ [] xs A c rfl rfl HO2.out (HA8.out.ext hE2) (by simp; omega) HC0.out hE2.size ?_
            intro v4 w4 hown4 hg4
            rw [List.nil_append] at hown4
            have hE4 : Ext w8 w4 := Below.trans hE2 (own_below HO2.out hg4 hE2.size)
            have HQ4 : Hid (ActsAt w4 (some ⟨w8.heap.size, 0, none⟩) [(t, n, l)]) := Lib.hid (HQ2.out.extB (Grown.extB hg4) (by simp; omega))
            have HO4 := Lib.hid hown4; have HE4' := Lib.hid hE4; clear hown4 hg4
            go_wp2
            refine ⟨hE4.fromDrew, ?_⟩
            rw [wpTr_one]
            simp only [pickOps, List.map_cons, List.map_nil, List.getD_cons_succ, List.getD_cons_zero]
            refine append_acts rfl (.tmp 53) (.tmp 55) rfl w8.heap.size v4 xs [(t, n, l)] (some ⟨w8.heap.size, 0, none⟩) 1 rfl rfl HO4.out HQ4.out (by simp; omega) (by simp) HE4'.out.size ?_
            intro v7 w7 hown7 hg7
            have hb7 : Ext w8 w7 := Below.trans HE4'.out (own_below HO4.out hg7 HE4'.out.size)
            obtain ⟨zs, hzs⟩ : ∃ zs, zs = xs ++ [(t, n, l)] := ⟨_, rfl⟩
            rw [← hzs] at hown7
            have HZ := Lib.hid hzs; clear hzs
            obtain ⟨A7, c7, rfl, hA7⟩ := acts_of_row hown7
            have HA7 := Lib.hid hA7
            clear hown7 hA7
            go_wp2
            refine ⟨hb7.fromDrew, ?_⟩
            rw [wpTr_one]
            (simp only [pickOps, List.map_cons, List.map_nil, List.getD_cons_succ, List.getD_cons_zero]; go_wp2_with fail)
            have hP7 := HP8.out.ext hb7
            refine (same_any b mo8 L 62 all share _ zs _ c7 _ hP7.book hP7.lines (by omega) (by omega) hI HA7.out (by
              intro x hx
              rw [HZ.out] at hx
              rcases List.mem_append.1 hx with h | h
              · exact HXS.out x h
              · simp at h; rw [h]; exact htl) (by rw [HZ.out]; simp; omega)).mono ?_
            rintro e w9 ⟨rfl, hx9⟩
            go_wp2
            refine ⟨(hb7.trans hx9).fromDrew, ?_⟩
            rw [wpTr_one]
            (simp only [pickOps, List.map_cons, List.map_nil, List.getD_cons_succ, List.getD_cons_zero]; go_wp2)
            refine ⟨(hb7.trans hx9).fromDrew, ?_⟩
            rw [wpTr_done]
            go_wp2
            go_ret
            exact ⟨rfl, ((hE.trans hx8').trans hb7).trans hx9⟩
      · go_wp2_with fail
        refine (play_bad all share xs.length A c _ hok).mono ?_
        rintro e w3 ⟨x, y, rfl, ⟨a', b', s', rfl, rfl⟩, hx3⟩
        go_wp2
        go_ret
        exact ⟨rfl, ((hE.trans hx2').trans hx3).alloc _⟩
    · have hdl : decide (300 < (t.length : Int)) = true := by simp; omega
      go_wp2
      go_ret
      exact ⟨rfl, hE.trans hx2'⟩

set_option maxRecDepth 100000 in
theorem budgetBack_lifted (os : Os) (started : os.Started) (H : Type) (enc : TypeId × Value → H) :
    ReturnsInHanded {} Try.checked os 6 .any (Rows.budgetBackSpec.pre6 enc Try.prog Try.f6 Rows.budgetBackRow.domain false) (Rows.budgetBackSpec.post enc Try.prog Try.f6 false true false false) := by
  refine returnsInHanded_of_change (C := Try.checked) own started (by kernel_rfl) Try.func6
    (ChangeSpec.witness6 (enc := enc) (C := Try.checked) false ⟨#[], #[.agg #[.int .i64 0, .int .i64 0], .slice none 0 0, .agg #[.string ⟨#[]⟩, .int .i64 0, .bool false]], []⟩ 8 (by kernel_rfl) (by kernel_rfl) (by kernel_rfl) (by kernel_rfl)) ?_
  intro W base args ds gs before hval0 hW hcnd _
  have hval : ∀ (j : Nat) t v, Try.f6.params[j]? = some t → args[j]? = some v → Value.okWide Try.prog W .any base t v := hval0
  have hW' := hW
  obtain ⟨p, q, hA0, hV, rfl, hfz, hnd⟩ := hW
  have hA : DataW.TrodAll enc Try.prog W 0 (fun _ => true) true Try.f6.params.toList args.toList ds p := hA0
  rw [Try.params6] at hA hval
  obtain ⟨v0, vs0, d0, ds0, p0, q0, hargs, rfl, rfl, h0, r0⟩ := trodAll_cons hA
  obtain ⟨v1, vs1, d1, ds1, p1, q1, rfl, rfl, rfl, h1, r1⟩ := trodAll_cons r0
  obtain ⟨v2, vs2, d2, ds2, p2, q2, rfl, rfl, rfl, h2, r2⟩ := trodAll_cons r1
  obtain ⟨rfl, rfl, rfl⟩ := trodAll_nil r2
  obtain rfl : args = #[v0, v1, v2] := by cases args; simp_all
  obtain ⟨rfl, rfl⟩ := trodVars_none hV
  have lt0 : ∀ x ∈ p0, x.block < W.heap.size := by obtain ⟨m, hm⟩ := h0; exact DataW.trod_lt m _ _ _ hm
  have t0 := fun W' (bel : Below W.heap.size W W') => Below.trod laidOut (by kernel_rfl) (of_decide_eq_true (by kernel_rfl)) h0 bel lt0
  have lt1 : ∀ x ∈ p1, x.block < W.heap.size := by obtain ⟨m, hm⟩ := h1; exact DataW.trod_lt m _ _ _ hm
  have t1 := fun W' (bel : Below W.heap.size W W') => Below.trod laidOut (by kernel_rfl) (of_decide_eq_true (by kernel_rfl)) h1 bel lt1
  have lt2 : ∀ x ∈ p2, x.block < W.heap.size := by obtain ⟨m, hm⟩ := h2; exact DataW.trod_lt m _ _ _ hm
  have t2 := fun W' (bel : Below W.heap.size W W') => Below.trod laidOut (by kernel_rfl) (of_decide_eq_true (by kernel_rfl)) h2 bel lt2
  obtain ⟨a0, s0, rfl⟩ := room_open (hval 0 23 v0 rfl rfl) h0
  obtain ⟨A1, xs1, c1, rfl, ha1, hl1⟩ := acts_open (hval 1 24 v1 rfl rfl) h1
  obtain ⟨u2, n2, b2, rfl⟩ := act_open (hval 2 26 v2 rfl rfl) h2
  clear hA0 hval0
  refine (back_walk a0 s0 xs1 A1 c1 u2 n2 b2 W ha1 hl1 (fun e => acts_none (by rw [e] at h1; exact h1))).mono fun e W' ⟨he, bel⟩ => ?_
  subst he
  exact ⟨_, rfl, _, _, _, [], _, [], hW', trodAll_mk1 (shut_bool Try.underlying4 _), (trodAll_cons_mk (t0 W' bel) (trodAll_cons_mk (t1 W' bel) (trodAll_cons_mk (t2 W' bel) trodAll_mk0))), rfl, bel.frame _, fun h => by cases h⟩

/-- The statement. -/
theorem BudgetBack_proved : Rows.BudgetBackSaid :=
  OpenClaim.holds_of_wide 6 Try.f6 rfl rfl rfl rfl rfl rfl rfl ⟨rfl, rfl, rfl, rfl, rfl⟩ rfl rfl rfl rfl rfl (by kernel_rfl) Try.func6 (by kernel_rfl)
    (of_decide_eq_true (by kernel_rfl)) (by unfold Func.isWrapper; first | (rw [if_pos (by decide +kernel)]; kernel_rfl) | (rw [if_neg (by decide +kernel)]; exact ⟨rfl, rfl⟩))
    (fun os started H enc _ => budgetBack_lifted os started H enc)
#print axioms BudgetBack_proved
end Go.Proofs.Ytjcpmfioppopcaa
