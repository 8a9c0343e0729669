/- The reference's All and the statements' keys, walked. -/
import Derived.Test.YteeeabmfebofiaaRefC
import Derived.Test.YteeeabmfebofiaaIns
namespace Go.Proofs.Yteeeabmfebofiaa
open Go.RowKit
set_option linter.unusedVariables false

structure OutRel (W : World) (L : List Hold) (i : Nat) (v : Value) (wr : World) : Prop where
  row : IRow wr W.heap.size v (outF (L.take i))
  ext : Ext W wr
structure InRel (w0 : World) (zs : List Int) (k : Int) (j : Nat) (v : Value) (wr : World) : Prop where
  row : IRow wr w0.heap.size v (partI (zs.take j) k)
  ext : Ext w0 wr
theorem Ext.trans' {a b c : World} (h : Ext a b) (k : Below a.heap.size b c) : Ext a c := Below.trans h k
theorem partI_len (zs : List Int) (k : Int) : (partI zs k).length ≤ zs.length + 1 := by
  unfold partI; split
  · rw [insI_len]; omega
  · omega

set_option maxRecDepth 100000 in
set_option maxHeartbeats 8000000 in
theorem rall_any (w : World) (B : Nat) (vk vf vs : Value) (L : List Hold) (S : List Int) (h : RefAt w B vk vf vs L S) (hL : L.length ≤ 100000) (hB : B ≤ w.heap.size) :
    Calls Try.prog 22 #[.agg #[vk, vf, vs]] w fun e w' => ∃ v, e = .returned v ∧ IRow w' B v (outF L) ∧ Ext w w' := by
  obtain ⟨A1, c1, hv1⟩ := h.keys.slice
  obtain ⟨A2, c2, hv2⟩ := h.freed.slice
  rw [List.length_map] at hv1 hv2
  obtain ⟨n, hn⟩ : ∃ n, n = L.length := ⟨_, rfl⟩
  rw [← hn] at hv1 hv2 hL
  subst hv1
  subst hv2
  obtain ⟨W, hW⟩ : ∃ W, W = w.alloc (.cells #[.slice A1 n c1, .slice A2 n c2, vs] 40) := ⟨_, rfl⟩
  have x : Ext w W := by rw [hW]; exact Ext.alloc (Ext.refl _) _
  have hb : W.heap[w.heap.size]? = some (.cells #[.slice A1 n c1, .slice A2 n c2, vs] 40 (0, 0)) := by rw [hW]; exact heap_alloc_new _ _
  have hwW : w.heap.size < W.heap.size := blk_lt hb
  have H := Lib.hid (h.ext x); have HN := Lib.hid hn; have X := Lib.hid x; have HW := Lib.hid hW; have HBK := Lib.hid hb
  clear h hn x hW hb
  go_enter Try.func22, Try.ntmps22
  go_wp2
  rw [← HW.out]
  go_loopw [3, 4] (fun v i wr => ∃ q : Nat, q ≤ n ∧ i = .int .i64 q ∧ OutRel W L q v wr) (fun _ i _ => n - (intOf i).toNat)
  case atStart => exact ⟨0, by omega, rfl, IRow.nil _ _, Ext.refl _⟩
  case round =>
    obtain ⟨q, hq, rfl, hr⟩ := hrel
    have R := Lib.hid hr
    have hb := hr.ext.heap HBK.out
    have f0 : wr.cell? ⟨w.heap.size, 0, none⟩ = some (.slice A1 n c1) := blk_cell hb 0
    have f1 : wr.cell? ⟨w.heap.size, 1, none⟩ = some (.slice A2 n c2) := blk_cell hb 1
    clear hr hb
    by_cases hlt : q < n
    · have hqz : q < L.length := by rw [← HN.out]; exact hlt
      have hrf := H.out.ext R.out.ext
      obtain ⟨g, c', hvv, hc⟩ := hrf.keys.get (i := q) (by simpa using hqz)
      obtain ⟨g', c'', hvv', hc'⟩ := hrf.freed.get (i := q) (by simpa using hqz)
      injection hvv with a1 a2 a3
      injection hvv' with a4 a5 a6
      subst a1
      subst a4
      rw [List.getElem_map] at hc hc'
      have hst : outF (L.take (q + 1)) = stepO (outF (L.take q)) L[q] := by rw [List.take_succ_eq_append_getElem hqz, outF_snoc]
      have hol : (outF (L.take q)).length ≤ 100000 := by have := outF_len (L.take q); simp at this; omega
      obtain ⟨z, hz⟩ : ∃ z, z = L[q] := ⟨_, rfl⟩
      rw [← hz] at hc hc' hst
      obtain ⟨zs, hzs⟩ : ∃ zs, zs = outF (L.take q) := ⟨_, rfl⟩
      rw [← hzs] at hst hol
      have hrow := R.out.row
      rw [← hzs] at hrow
      have HST := Lib.hid hst; have ROW := Lib.hid hrow; have HZS := Lib.hid hzs
      clear a2 a3 a5 a6 hz hqz hrf hst hrow hzs
      cases hzf : z.freed
      · rw [hzf] at hc'
        have HZF := Lib.hid hzf
        clear hzf
        have hin := in_any wr W.heap.size _ zs z.key ROW.out (by omega)
        by_cases hmem : z.key ∈ zs
        · rw [decide_eq_true hmem] at hin
          have HN1 : Hid (outF (L.take (q + 1)) = outF (L.take q)) := Lib.hid (by rw [HST.out, ← HZS.out]; unfold stepO; rw [if_pos (.inr hmem)])
          have HIN := Lib.hid hin
          clear hin hmem
          go_wp2_with (go_at_call 33; refine HIN.out.mono ?_; rintro e w' ⟨rfl, rfl⟩)
          go_roundw
          case rel => exact ⟨q + 1, by omega, by go_num, by rw [HN1.out]; exact R.out.row, R.out.ext⟩
          case measure => simp [intOf]; omega
        · rw [decide_eq_false hmem] at hin
          have HN1 : Hid (outF (L.take (q + 1)) = insI zs z.key) := Lib.hid (by rw [HST.out]; unfold stepO; rw [if_neg (by rw [HZF.out]; simp [hmem])])
          have HIN := Lib.hid hin
          clear hin hmem
          obtain ⟨A3, c3, hv3⟩ := ROW.out.slice
          obtain ⟨m, hm⟩ : ∃ m, m = zs.length := ⟨_, rfl⟩
          rw [← hm] at hv3 hol
          subst hv3
          have HM := Lib.hid hm
          clear hm
          go_wp2_with (go_at_call 33; refine HIN.out.mono ?_; rintro e w' ⟨rfl, rfl⟩)
          obtain ⟨wo, rfl⟩ : ∃ wo : World, wo = wr := ⟨_, rfl⟩
          obtain ⟨ky, hky⟩ : ∃ ky, ky = z.key := ⟨_, rfl⟩
          rw [← hky] at hc HN1
          clear hky
          go_loopw [5, 6, 7] (fun v p i wr => ∃ j : Nat, j ≤ m ∧ i = .int .i64 j ∧ p = .bool (bigB (zs.take j) ky) ∧ InRel wo zs ky j v wr) (fun _ _ i _ => m - (intOf i).toNat)
          case atStart => exact ⟨0, by omega, rfl, rfl, IRow.nil _ _, Ext.refl _⟩
          case round =>
            obtain ⟨j, hj, rfl, rfl, hr⟩ := hrel
            have RI := Lib.hid hr
            have gf0 := hr.ext.cell f0
            have gc := hr.ext.cell hc
            have lw0 : w.heap.size < wr.heap.size := World.block_lt_of_cell? _ _ gf0
            have hpl : (partI (zs.take j) ky).length ≤ 200000 := by have := partI_len (zs.take j) ky; simp at this; omega
            have sw := hr.ext.size
            clear hr
            by_cases hlt2 : j < m
            · have hjz : j < zs.length := by rw [← HM.out]; exact hlt2
              obtain ⟨g5, c5, hvv, hc5⟩ := (ROW.out.ext RI.out.ext).get (i := j) hjz
              injection hvv with a1 a2 a3
              subst a1
              have htk : zs.take (j + 1) = zs.take j ++ [zs[j]] := List.take_succ_eq_append_getElem hjz
              obtain ⟨zj, hzj⟩ : ∃ zj, zj = zs[j] := ⟨_, rfl⟩
              rw [← hzj] at hc5 htk
              have HTK := Lib.hid htk
              clear a2 a3 htk hzj hjz
              have kf0 : ∀ x : Grow [] wr, x.v.cell? ⟨w.heap.size, 0, none⟩ = some (.slice (some ⟨g, 0, none⟩) n c1) := fun x => x.ext.cell gf0 (by simp)
              have kf1 : ∀ x : Grow [] wr, x.v.cell? ⟨g, q, none⟩ = some (.int .i64 ky) := fun x => x.ext.cell gc (by simp)
              have kf2 : ∀ x : Grow [] wr, x.v.cell? ⟨g5, j, none⟩ = some (.int .i64 zj) := fun x => x.ext.cell hc5 (by simp)
              cases hbig : bigB (zs.take j) ky
              · by_cases hgt : ky < zj
                · have HP : Hid (partI (zs.take (j + 1)) ky = partI (zs.take j) ky ++ [ky] ++ [zj]) := Lib.hid (by rw [HTK.out]; exact partI_now _ _ _ hbig hgt)
                  have HG : Hid (bigB (zs.take (j + 1)) ky = true) := Lib.hid (by rw [HTK.out, bigB_snoc]; simp [hgt])
                  have HBIG := Lib.hid hbig
                  clear hbig
                  go_wp2_with fail
                  (refine wp_region_grow (by kernel_rfl) (by kernel_rfl) ?_; (repeat (go_big_quiet_step (fail))); refine wpQuiet_nil ?_)
                  intro w2 x2
                  have gf02 := Ext.cell x2 gf0; have gc2 := Ext.cell x2 gc; have hc52 := Ext.cell x2 hc5
                  have s2 := x2.size
                  have R2 := Lib.hid (RI.out.row.ext x2)
                  have lw2 : w.heap.size < w2.heap.size := World.block_lt_of_cell? _ _ gf02
                  have lg2 : g < w2.heap.size := World.block_lt_of_cell? _ _ gc2
                  have lg5 : g5 < w2.heap.size := World.block_lt_of_cell? _ _ hc52
                  have sw2 : wo.heap.size ≤ w2.heap.size := by omega
                  have lwo : w.heap.size < wo.heap.size := World.block_lt_of_cell? _ _ f0
                  have lgo : g < wo.heap.size := World.block_lt_of_cell? _ _ hc
                  have lg5o : g5 < wo.heap.size := by
                    obtain ⟨g6, c6, hvv6, hc6⟩ := ROW.out.get (i := j) (by rw [← HM.out]; exact hlt2)
                    injection hvv6 with b1 b2 b3
                    injection b1 with b1
                    injection b1 with b1
                    subst b1
                    exact World.block_lt_of_cell? _ _ hc6
                  have X2 := Lib.hid x2
                  clear x2 kf0 kf1 kf2
                  go_wp2_with (at_builtin; refine wpList_append_int rfl _ _ rfl wo.heap.size _ (partI (zs.take j) ky) ky R2.out rfl _ rfl ?c0 ?c1 sw2 ?_)
                  case c0 => simp
                  case c1 => omega
                  intro v3 w3 i3 g3
                  have b3 : Below wo.heap.size w2 w3 := own_below R2.out g3 sw2
                  have hc53 : w3.cell? ⟨g5, j, none⟩ = some (.int .i64 zj) := by rw [b3.cell (p := ⟨g5, j, none⟩) lg5o]; exact hc52
                  have s3 : wo.heap.size ≤ w3.heap.size := Nat.le_trans sw2 b3.size
                  have I3 := Lib.hid i3; have B3 := Lib.hid b3
                  have lg53 : g5 < w3.heap.size := by omega
                  clear i3 g3 b3
                  go_wp2_with (at_builtin; refine wpList_append_int rfl _ _ rfl wo.heap.size v3 (partI (zs.take j) ky ++ [ky]) zj I3.out rfl _ rfl ?c2 ?c3 s3 ?_)
                  case c2 => simp
                  case c3 => simp; omega
                  intro v4 w4 i4 g4
                  have HNN : Hid (InRel wo zs ky (j + 1) v4 w4) := Lib.hid ⟨by rw [HP.out]; simpa using i4, ((RI.out.ext.trans X2.out).trans' B3.out).trans' (own_below I3.out g4 s3)⟩
                  clear i4 g4
                  go_wp2
                  go_roundw
                  case rel => exact ⟨j + 1, by omega, by go_num, by rw [HG.out], HNN.out⟩
                  case measure => simp [intOf]; omega
                · have HP : Hid (partI (zs.take (j + 1)) ky = partI (zs.take j) ky ++ [zj]) := Lib.hid (by rw [HTK.out]; exact partI_not _ _ _ hbig hgt)
                  have HG : Hid (bigB (zs.take (j + 1)) ky = false) := Lib.hid (by rw [HTK.out, bigB_snoc, hbig]; simp; omega)
                  have HBIG := Lib.hid hbig
                  have hgt' : decide (ky < zj) = false := by simpa using hgt
                  clear hbig
                  go_wp2_with fail
                  (refine wp_region_grow (by kernel_rfl) (by kernel_rfl) ?_; (repeat (go_big_quiet_step (fail))); refine wpQuiet_nil ?_)
                  intro w2 x2
                  have gf02 := Ext.cell x2 gf0; have gc2 := Ext.cell x2 gc; have hc52 := Ext.cell x2 hc5
                  have s2 := x2.size
                  have R2 := Lib.hid (RI.out.row.ext x2)
                  have lw2 : w.heap.size < w2.heap.size := World.block_lt_of_cell? _ _ gf02
                  have lg2 : g < w2.heap.size := World.block_lt_of_cell? _ _ gc2
                  have lg5 : g5 < w2.heap.size := World.block_lt_of_cell? _ _ hc52
                  have sw2 : wo.heap.size ≤ w2.heap.size := by omega
                  have lwo : w.heap.size < wo.heap.size := World.block_lt_of_cell? _ _ f0
                  have lgo : g < wo.heap.size := World.block_lt_of_cell? _ _ hc
                  have lg5o : g5 < wo.heap.size := by
                    obtain ⟨g6, c6, hvv6, hc6⟩ := ROW.out.get (i := j) (by rw [← HM.out]; exact hlt2)
                    injection hvv6 with b1 b2 b3
                    injection b1 with b1
                    injection b1 with b1
                    subst b1
                    exact World.block_lt_of_cell? _ _ hc6
                  have X2 := Lib.hid x2
                  clear x2 kf0 kf1 kf2
                  go_wp2_with (at_builtin; refine wpList_append_int rfl _ _ rfl wo.heap.size _ (partI (zs.take j) ky) zj R2.out rfl _ rfl ?c40 ?c41 sw2 ?_)
                  case c40 => simp
                  case c41 => omega
                  intro v4 w4 i4 g4
                  have HNN : Hid (InRel wo zs ky (j + 1) v4 w4) := Lib.hid ⟨by rw [HP.out]; exact i4, (RI.out.ext.trans X2.out).trans' (own_below R2.out g4 sw2)⟩
                  clear i4 g4
                  go_wp2
                  go_roundw
                  case rel => exact ⟨j + 1, by omega, by go_num, by rw [HG.out], HNN.out⟩
                  case measure => simp [intOf]; omega
              · have HP : Hid (partI (zs.take (j + 1)) ky = partI (zs.take j) ky ++ [zj]) := Lib.hid (by rw [HTK.out]; exact partI_put _ _ _ hbig)
                have HG : Hid (bigB (zs.take (j + 1)) ky = true) := Lib.hid (by rw [HTK.out, bigB_snoc, hbig]; rfl)
                have HBIG := Lib.hid hbig
                clear hbig
                go_wp2_with fail
                (refine wp_region_grow (by kernel_rfl) (by kernel_rfl) ?_; (repeat (go_big_quiet_step (fail))); refine wpQuiet_nil ?_)
                intro w2 x2
                have gf02 := Ext.cell x2 gf0; have gc2 := Ext.cell x2 gc; have hc52 := Ext.cell x2 hc5
                have s2 := x2.size
                have R2 := Lib.hid (RI.out.row.ext x2)
                have lw2 : w.heap.size < w2.heap.size := World.block_lt_of_cell? _ _ gf02
                have lg2 : g < w2.heap.size := World.block_lt_of_cell? _ _ gc2
                have lg5 : g5 < w2.heap.size := World.block_lt_of_cell? _ _ hc52
                have sw2 : wo.heap.size ≤ w2.heap.size := by omega
                have lwo : w.heap.size < wo.heap.size := World.block_lt_of_cell? _ _ f0
                have lgo : g < wo.heap.size := World.block_lt_of_cell? _ _ hc
                have lg5o : g5 < wo.heap.size := by
                  obtain ⟨g6, c6, hvv6, hc6⟩ := ROW.out.get (i := j) (by rw [← HM.out]; exact hlt2)
                  injection hvv6 with b1 b2 b3
                  injection b1 with b1
                  injection b1 with b1
                  subst b1
                  exact World.block_lt_of_cell? _ _ hc6
                have X2 := Lib.hid x2
                clear x2 kf0 kf1 kf2
                go_wp2_with (at_builtin; refine wpList_append_int rfl _ _ rfl wo.heap.size _ (partI (zs.take j) ky) zj R2.out rfl _ rfl ?c60 ?c61 sw2 ?_)
                case c60 => simp
                case c61 => omega
                intro v4 w4 i4 g4
                have HNN : Hid (InRel wo zs ky (j + 1) v4 w4) := Lib.hid ⟨by rw [HP.out]; exact i4, (RI.out.ext.trans X2.out).trans' (own_below R2.out g4 sw2)⟩
                clear i4 g4
                go_wp2
                go_roundw
                case rel => exact ⟨j + 1, by omega, by go_num, by rw [HG.out], HNN.out⟩
                case measure => simp [intOf]; omega
            · have hjn : zs.take j = zs := List.take_of_length_le (by rw [← HM.out]; omega)
              have hrow := RI.out.row
              rw [hjn] at hrow
              rw [hjn]
              cases hbig : bigB zs ky
              · have HP : Hid (partI zs ky ++ [ky] = insI zs ky) := Lib.hid (partI_end_small _ _ hbig)
                have ROW2 := Lib.hid hrow; have HBIG := Lib.hid hbig
                have hpl2 : (partI zs ky).length ≤ 200000 := by rw [hjn] at hpl; exact hpl
                clear hrow hbig hjn hpl
                have lgw : g < wr.heap.size := World.block_lt_of_cell? _ _ gc
                go_wp2_with (at_builtin; refine wpList_append_int rfl _ _ rfl wo.heap.size _ (partI zs ky) ky ROW2.out rfl _ rfl ?c80 ?c81 sw ?_)
                case c80 => simp
                case c81 => omega
                intro v4 w4 i4 g4
                have HNN : Hid (OutRel W L (q + 1) v4 w4) := Lib.hid ⟨by rw [HN1.out, ← HP.out]; exact ownsRow_base i4 R.out.ext.size, R.out.ext.trans (RI.out.ext.trans' (own_below ROW2.out g4 sw))⟩
                clear i4 g4
                go_wp2
                go_roundw
                case rel => exact ⟨q + 1, by omega, by go_num, HNN.out⟩
                case measure => simp [intOf]; omega
              · have HP : Hid (partI zs ky = insI zs ky) := Lib.hid (partI_end_big _ _ hbig)
                have HNN : Hid (OutRel W L (q + 1) u5 wr) := Lib.hid ⟨by rw [HN1.out, ← HP.out]; exact ownsRow_base hrow R.out.ext.size, R.out.ext.trans RI.out.ext⟩
                have HBIG := Lib.hid hbig
                clear hrow hbig hjn hpl
                go_wp2
                go_roundw
                case rel => exact ⟨q + 1, by omega, by go_num, HNN.out⟩
                case measure => simp [intOf]; omega
      · rw [hzf] at hc'
        have HN1 : Hid (outF (L.take (q + 1)) = outF (L.take q)) := Lib.hid (by rw [HST.out, ← HZS.out]; unfold stepO; rw [if_pos (.inl hzf)])
        have HZF := Lib.hid hzf
        clear hzf
        go_wp2
        go_roundw
        case rel => exact ⟨q + 1, by omega, by go_num, by rw [HN1.out]; exact R.out.row, R.out.ext⟩
        case measure => simp [intOf]; omega
    · have hjn : L.take q = L := List.take_of_length_le (by rw [← HN.out]; omega)
      have hrow := R.out.row
      rw [hjn] at hrow
      have ROW := Lib.hid hrow
      clear hrow hjn
      go_wp2
      go_ret
      exact ⟨_, rfl, ownsRow_base ROW.out (Nat.le_trans hB X.out.size), X.out.trans R.out.ext⟩
end Go.Proofs.Yteeeabmfebofiaa
