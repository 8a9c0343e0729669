/- Proved: OriginSets, for every input: in every order of calls just the objects, with just the bytes, are there that the document says, and what is told is what it says (printed by gen_sets.py). -/
import Derived.Test.YtpangoddbfiagaaG27
namespace Go.Proofs.Ytpangoddbfiagaa
open Go.ChangeShapes Go.WideShapes Go.ChangeAt Go.RowKit Go.Deep Go.Joins
open Go.Maps Go.ChangeMaps
set_option linter.unusedVariables false
set_option linter.unusedSimpArgs false

set_option maxRecDepth 100000 in
set_option maxHeartbeats 8000000 in
theorem sets_walk (lv : Value) (xs : List ActP) (w : World) (hL : RowsG w 23 (RAct w) lv xs) :
    Calls Try.prog 5 #[lv] w fun e w' => e = .returned (.bool true) ∧ Below w.heap.size w w' := by
  obtain ⟨LA, LC, rfl⟩ := RowsG.slice hL
  obtain ⟨n, hn⟩ : ∃ n, n = xs.length := ⟨_, rfl⟩
  have HL := Lib.hid hL
  rw [← hn] at HL ⊢
  have HN := Lib.hid hn
  clear hL hn
  go_enter Try.func5, Try.ntmps5
  go_wp2_with (go_at_call 22; refine (begin_any _).mono ?_; rintro e w1 ⟨pb, b, x, rfl, h1⟩; refine stop_of ?_)
  unfold Stop
  have H1 := Lib.hid h1
  clear h1
  go_wp2_with (go_at_call 11; refine (awake_any _).mono ?_; rintro e w2 ⟨rfl, x2⟩; refine stop_of ?_)
  unfold Stop
  have H2 := Lib.hid (H1.out.ext x2)
  clear x2 H1
  have HGR := Lib.hid (great_any w2 LA xs LC (by have := acts_ext HL.out H2.out.base; rw [HN.out] at this; exact this))
  rw [← HN.out] at HGR
  go_wp2_with (go_at_call 12; refine HGR.out.mono ?_; rintro e w3 ⟨r, rfl, hr, x3⟩; refine stop_of ?_)
  unfold Stop
  have H3 := Lib.hid (H2.out.ext x3); have HRR := Lib.hid hr
  clear x3 H2 HGR hr
  cases r with
  | true =>
    go_wp2_with (go_at_call 11; refine (awake_any _).mono ?_; rintro e w4 ⟨rfl, x4⟩; refine stop_of ?_)
    unfold Stop
    have X4 := Lib.hid (H3.out.base.trans x4)
    clear x4
    go_wp2
    go_ret
    exact ⟨rfl, X4.out⟩
  | false =>
    have HZ := Lib.hid (HRR.out rfl)
    have hn40 : n ≤ 40 := by have := HZ.out.1; have := HN.out; omega
    clear HRR
    go_wp2_with fail
    go_loopw [24, 5, 6, 7, 8, 9] (fun i _ _ _ _ _ wr => ∃ (j : Nat) (vs : List Vn) (ss : List Sn), j ≤ n ∧ i = .int .i64 j ∧ Hid (Play w wr pb b x j vs ss [] noP)) (fun i _ _ _ _ _ _ => n - (intOf i).toNat)
    case atStart => exact ⟨0, [], [], by omega, rfl, H3⟩
    case round =>
      clear H3
      obtain ⟨j, vs, ss, hj, rfl, R⟩ := hrel
      by_cases hlt : j < n
      · have hjs : j < xs.length := by rw [← HN.out]; exact hlt
        obtain ⟨a, ha⟩ : ∃ a, xs[j]? = some a := ⟨xs[j], by simp [hjs]⟩
        obtain ⟨eb, eo, rfl, hrg, hra⟩ := acts_at HL.out R.out.base ha
        have HRG := Lib.hid hrg
        have HA := Lib.hid (hra.at_ (HZ.out.2 a (List.mem_of_getElem? ha)))
        have HJK := Lib.hid (show j ≤ 1000 from by have := HZ.out.1; have := HN.out; omega)
        have HON := Lib.hid (act_one hra)
        clear hrg hra ha hjs
        go_wp2_with (first | (refine wpList_load_mid rfl 40 _ rfl eb (eo + j * 23) rfl (actC a) _ HRG.out Try.underlying40 rfl size40 ?_) | (refine wpList_new 40 _ zero40 rfl rfl ?_; intro W1 x1 n1 s1; refine stop_of ?_))
        unfold Stop
        obtain ⟨ab, hab⟩ : ∃ p, p = wr.heap.size := ⟨_, rfl⟩
        rw [← hab] at n1 ⊢
        have N1 := Lib.hid n1
        have R1 := Lib.hid (R.out.other (Lx' := fun g => g = ab) (.of x1) (fun g hg => .inr (by rw [hg]; exact ⟨by omega, blk_lt n1⟩)))
        clear x1 n1 s1 hab R
        go_wp2_with (refine wpList_put 40 rfl _ _ rfl ab 0 40 _ (actC a).toArray (actC a) _ N1.out rfl rfl rfl (by simp [actC]) HON.out size40 (by kernel_rfl) ?_; intro W2 x2 n2 s2; refine stop_of ?_)
        unfold Stop
        have N2 := Lib.hid n2
        have R2 := Lib.hid (R1.out.other (Lx' := fun g => g = ab) (.ofB x2 (fun k hk => .inl (by simpa using hk))) (fun g hg => .inl hg))
        clear x2 n2 s2 N1 R1
        have R3 := Lib.hid (R2.out.ext (Ext.drew (Ext.refl W2)))
        have CP := Lib.hid (show W2.drew.cell? ⟨pb, 0, none⟩ = some (.pointer (some ⟨b, 0, none⟩)) ∧ W2.drew.cell? ⟨pb, 1, none⟩ = some (.pointer (some ⟨x, 0, none⟩)) from by
          obtain ⟨N, sa, ra, SA, sc, RA, rc, hX⟩ := R3.out
          exact ⟨blk_cell hX.blk 0, blk_cell hX.blk 1⟩)
        go_wp2_with fail
        have N2d : W2.drew.heap[ab]? = some (.cells (actC a).toArray 40) := N2.out
        refine wp_region_segsR (keepC ⟨pb, 0, none⟩ ⟨pb, 1, none⟩ ab) [.inl [0, 1], .inr (.inl 2), .inl [3, 4, 5, 6, 7, 8, 10, 11, 12, 13], .inr (.inl 9), .inr (.inl 14), .inr (.inl 15), .inl [16, 17]] (by kernel_rfl) (by kernel_rfl) (fun c a d v w h => by cases d <;> exact h) ?_
        (rw [wpSegsR_inl]; simp only [pickOps, List.map_cons, List.map_nil, List.getD_cons_succ, List.getD_cons_zero]; (repeat (go_big_quiet_step (fail))); (refine wpQuiet_get 40 _ rfl _ rfl ab 0 40 _ (actC a) rfl (fun W hW => by obtain ⟨y, rfl⟩ := hW; exact y.ext.2.2 _ N2d) (by kernel_rfl) Try.underlying40 rfl size40 ?_; simp only [Act.put, List.setIfInBounds_toArray, List.set_cons_succ, List.set_cons_zero]); (repeat (go_big_quiet_step (fail))); refine wpQuiet_nil ?_)
        (rw [wpSegsR_grow]; simp only [pickOps, List.map_cons, List.map_nil, List.getD_cons_succ, List.getD_cons_zero]; go_wp2_with ((go_at_call 23; refine (do_any R3.out HJK.out HA.out).mono ?_; rintro e w3 ⟨rfl, h3, k3⟩; refine stop_of ?_)))
        unfold Stop
        obtain ⟨us, hus⟩ : ∃ us, us = doV vs a := ⟨_, rfl⟩
        obtain ⟨ts, hts⟩ : ∃ ts, ts = doS vs ss a := ⟨_, rfl⟩
        rw [← hus, ← hts] at h3
        have HPL := Lib.hid (h3.other (Lx' := noP) (ExtP.refl _ _) (fun g hg => hg.elim))
        obtain ⟨N', sa, ra, SA, sc, RA, rc, hX⟩ := h3
        have HX := Lib.hid hX
        have N3 := Lib.hid ((k3 ab rfl).trans N2d)
        have C0 := Lib.hid (show w3.cell? ⟨pb, 0, none⟩ = some (.pointer (some ⟨b, 0, none⟩)) from blk_cell hX.blk 0)
        have C1 := Lib.hid (show w3.cell? ⟨pb, 1, none⟩ = some (.pointer (some ⟨x, 0, none⟩)) from blk_cell hX.blk 1)
        have hnl : N' ≤ 900000 ∧ us.length ≤ 900000 := by have h1 := hX.hN; have h2 := hX.good.nv; have := HJK.out; omega
        have HNL := Lib.hid hnl
        go_wp2_with fail
        refine ⟨⟨fun v e => (by rw [CP.out.1] at e; rw [← e]; exact C0.out), fun v e => (by rw [CP.out.2] at e; rw [← e]; exact C1.out), fun o e => (by rw [N2d] at e; rw [← e]; exact N3.out)⟩, ?_⟩
        clear hX k3 N2d hus hts hnl HRG HON R2 R3 CP N2
        have G0 : ∀ y : GrowR (keepC ⟨pb, 0, none⟩ ⟨pb, 1, none⟩ ab) w3, y.v.cell? ⟨pb, 0, none⟩ = some (.pointer (some ⟨b, 0, none⟩)) := fun y => y.ext.1 _ C0.out
        have G1 : ∀ y : GrowR (keepC ⟨pb, 0, none⟩ ⟨pb, 1, none⟩ ab) w3, y.v.cell? ⟨pb, 1, none⟩ = some (.pointer (some ⟨x, 0, none⟩)) := fun y => y.ext.2.1 _ C1.out
        (rw [wpSegsR_inl]; simp only [pickOps, List.map_cons, List.map_nil, List.getD_cons_succ, List.getD_cons_zero]; (repeat (go_big_quiet_step (fail))); refine wpQuiet_nil ?_)
        clear G0 G1
        (rw [wpSegsR_grow]; simp only [pickOps, List.map_cons, List.map_nil, List.getD_cons_succ, List.getD_cons_zero]; go_wp2_with ((go_at_call 25; refine (p_objs_R HX.out.st HNL.out.1).mono ?_; rintro e w4 ⟨v4, rfl, r4, h4, x4⟩; refine stop_of ?_)))
        unfold Stop
        have H4 := Lib.hid h4; have X4 := Lib.hid x4; have T4 := Lib.hid (SRow.texts r4)
        go_wp2_with fail
        refine ⟨keepC_ext x4, ?_⟩
        clear r4 h4 x4
        (rw [wpSegsR_grow]; simp only [pickOps, List.map_cons, List.map_nil, List.getD_cons_succ, List.getD_cons_zero]; go_wp2_with ((go_at_call 26; refine (d_objs H4.out HNL.out.2).mono ?_; rintro e w5 ⟨v5, rfl, r5, h5, x5⟩; refine stop_of ?_)))
        unfold Stop
        have H5 := Lib.hid h5; have X5 := Lib.hid (X4.out.trans x5); have T5 := Lib.hid (SRow.texts r5); have T45 := Lib.hid (TextsAt.ext T4.out x5)
        go_wp2_with fail
        refine ⟨keepC_ext x5, ?_⟩
        clear r5 h5 x5 H4 X4 T4
        (rw [wpSegsR_grow]; simp only [pickOps, List.map_cons, List.map_nil, List.getD_cons_succ, List.getD_cons_zero]; go_wp2_with ((go_at_call 24; refine (rnames_eq (objsR us) v4 v5 _ (by have := objsR_le us; have := HNL.out; omega) T45.out T5.out).mono ?_; rintro e w6 ⟨rfl, x6⟩; refine stop_of ?_)))
        unfold Stop
        have X6 := Lib.hid (X5.out.trans x6)
        go_wp2_with fail
        refine ⟨keepC_ext x6, ?_⟩
        clear x6 H5 X5 T5 T45
        (rw [wpSegsR_inl]; simp only [pickOps, List.map_cons, List.map_nil, List.getD_cons_succ, List.getD_cons_zero]; (repeat (go_big_quiet_step (fail))); refine wpQuiet_nil ?_)
        rw [wpSegsR_nil]
        have CO := Lib.hid (show w3.cell? ⟨ab, 1, none⟩ = some (.string ⟨a.obj.toArray⟩) from blk_cell N3.out 1)
        have HOL := Lib.hid (show a.obj.length ≤ 1000000 from by have := HA.out.z.obj; omega)
        obtain ⟨ao, hao⟩ : ∃ o, o = a.obj := ⟨_, rfl⟩
        rw [← hao] at CO HOL
        obtain ⟨⟨mm, mo⟩, hm⟩ : ∃ m, m = metaA us ao := ⟨_, rfl⟩
        obtain ⟨mk, hmk⟩ : ∃ n, n = mm.keys.length := ⟨_, rfl⟩
        have HBM := both_meta HX.out.st HOL.out hm hmk
        have HMP := Lib.hid HBM.1; have HMD := Lib.hid HBM.2
        have HMK := Lib.hid (show mm.keys.length ≤ 1000000 from by have h1 := metaA_z HX.out.st ao; rw [← hm] at h1; simp only at h1; omega)
        clear HBM hm hmk hao HA
        go_wp2_with fail
        obtain ⟨BB1, hbb⟩ : ∃ p, p = w6.drew.heap.size := ⟨_, rfl⟩
        have HB1 := Lib.hid hbb
        clear hbb
        have XD1 := Lib.hid (Ext.drew (Ext.refl w6))
        have GA : ∀ y : GrowR (keepLow BB1) w6.drew, y.v.cell? ⟨pb, 0, none⟩ = some (.pointer (some ⟨b, 0, none⟩)) := fun y => (y.low HB1.out).cell (XD1.out.cell (X6.out.cell C0.out))
        have GB : ∀ y : GrowR (keepLow BB1) w6.drew, y.v.cell? ⟨ab, 1, none⟩ = some (.string ⟨ao.toArray⟩) := fun y => (y.low HB1.out).cell (XD1.out.cell (X6.out.cell CO.out))
        have XS1 := Lib.hid (show BB1 ≤ w6.drew.heap.size from Nat.le_of_eq HB1.out)
        refine wp_region_trzR (keepLow BB1) [] [] (.pure [0, 1, 2, 3, 4, 5] (.fork 6 (.pure [7, 8, 9] (.one 10 (.one 11 (.pure [12] (.done))))) 10 (.one 6 (.pure [7, 8, 9] (.one 11 (.pure [12] (.done))))))) (by kernel_rfl) (by kernel_rfl) (fun c a d v w h => by cases d <;> exact h) ?_
        (simp only [pickOps, List.map_cons, List.map_nil, List.getD_cons_succ, List.getD_cons_zero]; refine wpQuiet_nil ?_)
        (rw [wpTzR_pure]; simp only [pickOps, List.map_cons, List.map_nil, List.getD_cons_succ, List.getD_cons_zero]; (repeat (go_big_quiet_step (fail))); refine wpQuiet_nil ?_)
        clear GA GB
        rw [wpTzR_fork]
        refine ⟨?_, ?_⟩
        · (simp only [pickOps, List.map_cons, List.map_nil, List.getD_cons_succ, List.getD_cons_zero]; go_wp2_with (go_at_call 21; refine (HMP.out _ (X6.out.trans XD1.out)).mono ?_; rintro e wa1 ⟨KA1, KC1, rfl, tx, xa⟩; refine stop_of ?_))
          unfold Stop
          go_wp2_with fail
          refine ⟨Below.mono xa XS1.out, ?_⟩
          have XA1 := Lib.hid (XD1.out.trans xa); have SA1 := Lib.hid (Nat.le_trans XS1.out xa.size)
          have T1 := Lib.hid tx
          (rw [wpTzR_pure]; simp only [pickOps, List.map_cons, List.map_nil, List.getD_cons_succ, List.getD_cons_zero]; (repeat (go_big_quiet_step (fail))); refine wpQuiet_nil ?_)
          clear xa tx
          (rw [wpTzR_one]; simp only [pickOps, List.map_cons, List.map_nil, List.getD_cons_succ, List.getD_cons_zero]; go_wp2_with (refine wpList_new 38 _ zero38 rfl rfl ?_; intro wb1 xb nb sb; refine stop_of ?_))
          unfold Stop
          obtain ⟨mb1, hmb⟩ : ∃ p, p = wa1.heap.size := ⟨_, rfl⟩
          have nb := (show wb1.heap[mb1]? = wb1.heap[wa1.heap.size]? from by rw [hmb]).trans nb
          rw [← hmb]
          have MN1 := Lib.hid nb; have MB1 := Lib.hid (show w6.heap.size ≤ mb1 from by have h1 := SA1.out; have h2 : BB1 = w6.heap.size := HB1.out; omega)
          clear hmb
          go_wp2_with fail
          refine ⟨Below.mono xb SA1.out, ?_⟩
          have XB1 := Lib.hid (XA1.out.trans xb); have SB1 := Lib.hid (Nat.le_trans SA1.out xb.size)
          have TB1 := Lib.hid (ownsRow_below T1.out xb)
          (rw [wpTzR_one]; simp only [pickOps, List.map_cons, List.map_nil, List.getD_cons_succ, List.getD_cons_zero]; go_wp2_with (refine wpList_put 38 rfl _ _ rfl mb1 0 38 _ (metaC mm (.slice KA1 mk KC1)).toArray (metaC mm (.slice KA1 mk KC1)) _ MN1.out rfl rfl rfl (by simp [metaC]) rfl size38 (by kernel_rfl) ?_; intro wc1 xc nc sc; refine stop_of ?_))
          unfold Stop
          have M1 := Lib.hid nc
          go_wp2_with fail
          refine ⟨⟨xc.os, xc.tape, xc.output, xc.size, fun k hk => xc.block k (Nat.lt_of_lt_of_le hk SB1.out) (fun hh => by have := MB1.out; have h3 : BB1 = w6.heap.size := HB1.out; have h2 : k = mb1 := (by simpa using hh); omega)⟩, ?_⟩
          have XC1 := Lib.hid (show Ext w6 wc1 from XB1.out.thenB xc (by have := MB1.out; simp; omega))
          have XZ1 := Lib.hid (X6.out.trans XC1.out)
          have TT1 := Lib.hid (SRow.texts (own_extB TB1.out xc (fun y hy e => by have h1 := kind_row TB1.out e; rw [show y = mb1 by simpa using hy, kind_cells MN1.out] at h1; cases h1)))
          clear xb nb sb xc nc sc MN1 XA1 XB1 T1 TB1
          (rw [wpTzR_pure]; simp only [pickOps, List.map_cons, List.map_nil, List.getD_cons_succ, List.getD_cons_zero]; (repeat (go_big_quiet_step (fail))); refine wpQuiet_nil ?_)
          rw [wpTzR_done]
          go_wp2_with fail
          obtain ⟨BB2, hbb⟩ : ∃ p, p = wc1.drew.heap.size := ⟨_, rfl⟩
          have HB2 := Lib.hid hbb
          clear hbb
          have XD2 := Lib.hid (Ext.drew (Ext.refl wc1))
          have GA : ∀ y : GrowR (keepLow BB2) wc1.drew, y.v.cell? ⟨pb, 1, none⟩ = some (.pointer (some ⟨x, 0, none⟩)) := fun y => (y.low HB2.out).cell (XD2.out.cell (XZ1.out.cell C1.out))
          have GB : ∀ y : GrowR (keepLow BB2) wc1.drew, y.v.cell? ⟨ab, 1, none⟩ = some (.string ⟨ao.toArray⟩) := fun y => (y.low HB2.out).cell (XD2.out.cell (XZ1.out.cell CO.out))
          have XS2 := Lib.hid (show BB2 ≤ wc1.drew.heap.size from Nat.le_of_eq HB2.out)
          refine wp_region_trzR (keepLow BB2) [] [] (.pure [0, 1, 2, 3, 4, 5] (.fork 6 (.pure [7, 8, 9] (.one 10 (.one 11 (.pure [12] (.done))))) 10 (.one 6 (.pure [7, 8, 9] (.one 11 (.pure [12] (.done))))))) (by kernel_rfl) (by kernel_rfl) (fun c a d v w h => by cases d <;> exact h) ?_
          (simp only [pickOps, List.map_cons, List.map_nil, List.getD_cons_succ, List.getD_cons_zero]; refine wpQuiet_nil ?_)
          (rw [wpTzR_pure]; simp only [pickOps, List.map_cons, List.map_nil, List.getD_cons_succ, List.getD_cons_zero]; (repeat (go_big_quiet_step (fail))); refine wpQuiet_nil ?_)
          clear GA GB
          rw [wpTzR_fork]
          refine ⟨?_, ?_⟩
          · (simp only [pickOps, List.map_cons, List.map_nil, List.getD_cons_succ, List.getD_cons_zero]; go_wp2_with (go_at_call 27; refine (HMD.out _ (XZ1.out.trans XD2.out)).mono ?_; rintro e wa2 ⟨KA2, KC2, rfl, tx, xa⟩; refine stop_of ?_))
            unfold Stop
            go_wp2_with fail
            refine ⟨Below.mono xa XS2.out, ?_⟩
            have XA2 := Lib.hid (XD2.out.trans xa); have SA2 := Lib.hid (Nat.le_trans XS2.out xa.size)
            have T2 := Lib.hid tx
            (rw [wpTzR_pure]; simp only [pickOps, List.map_cons, List.map_nil, List.getD_cons_succ, List.getD_cons_zero]; (repeat (go_big_quiet_step (fail))); refine wpQuiet_nil ?_)
            clear xa tx
            (rw [wpTzR_one]; simp only [pickOps, List.map_cons, List.map_nil, List.getD_cons_succ, List.getD_cons_zero]; go_wp2_with (refine wpList_new 38 _ zero38 rfl rfl ?_; intro wb2 xb nb sb; refine stop_of ?_))
            unfold Stop
            obtain ⟨mb2, hmb⟩ : ∃ p, p = wa2.heap.size := ⟨_, rfl⟩
            have nb := (show wb2.heap[mb2]? = wb2.heap[wa2.heap.size]? from by rw [hmb]).trans nb
            rw [← hmb]
            have MN2 := Lib.hid nb; have MB2 := Lib.hid (show wc1.heap.size ≤ mb2 from by have h1 := SA2.out; have h2 : BB2 = wc1.heap.size := HB2.out; omega)
            clear hmb
            go_wp2_with fail
            refine ⟨Below.mono xb SA2.out, ?_⟩
            have XB2 := Lib.hid (XA2.out.trans xb); have SB2 := Lib.hid (Nat.le_trans SA2.out xb.size)
            have TB2 := Lib.hid (ownsRow_below T2.out xb)
            (rw [wpTzR_one]; simp only [pickOps, List.map_cons, List.map_nil, List.getD_cons_succ, List.getD_cons_zero]; go_wp2_with (refine wpList_put 38 rfl _ _ rfl mb2 0 38 _ (metaC mm (.slice KA2 mk KC2)).toArray (metaC mm (.slice KA2 mk KC2)) _ MN2.out rfl rfl rfl (by simp [metaC]) rfl size38 (by kernel_rfl) ?_; intro wc2 xc nc sc; refine stop_of ?_))
            unfold Stop
            have M2 := Lib.hid nc
            go_wp2_with fail
            refine ⟨⟨xc.os, xc.tape, xc.output, xc.size, fun k hk => xc.block k (Nat.lt_of_lt_of_le hk SB2.out) (fun hh => by have := MB2.out; have h3 : BB2 = wc1.heap.size := HB2.out; have h2 : k = mb2 := (by simpa using hh); omega)⟩, ?_⟩
            have XC2 := Lib.hid (show Ext wc1 wc2 from XB2.out.thenB xc (by have := MB2.out; simp; omega))
            have XZ2 := Lib.hid (XZ1.out.trans XC2.out)
            have TT2 := Lib.hid (SRow.texts (own_extB TB2.out xc (fun y hy e => by have h1 := kind_row TB2.out e; rw [show y = mb2 by simpa using hy, kind_cells MN2.out] at h1; cases h1)))
            clear xb nb sb xc nc sc MN2 XA2 XB2 T2 TB2
            (rw [wpTzR_pure]; simp only [pickOps, List.map_cons, List.map_nil, List.getD_cons_succ, List.getD_cons_zero]; (repeat (go_big_quiet_step (fail))); refine wpQuiet_nil ?_)
            rw [wpTzR_done]
            have MQ := Lib.hid (XC2.out.heap M1.out)
            have TQ := Lib.hid (TextsAt.ext TT1.out XC2.out)
            go_wp2_with fail
            have HD := Lib.hid (HX.out.st.ext (XZ2.out.trans (Ext.drew (Ext.refl wc2)))); have XF0 := Lib.hid (XZ2.out.trans (Ext.drew (Ext.refl wc2)))
            have T1 := Lib.hid (TextsAt.ext TQ.out (Ext.drew (Ext.refl wc2))); have T2 := Lib.hid (TextsAt.ext TT2.out (Ext.drew (Ext.refl wc2)))
            refine wp_region_segs [] [.inl [0, 1, 2, 3, 4, 5], .inr (.inl 6), .inl [7, 8, 9, 10, 11, 12, 13, 14, 15, 18, 19, 20, 21, 22, 23], .inr (.inl 16), .inl [17], .inr (.inl 24), .inl [25, 26, 27]] (by kernel_rfl) (by kernel_rfl) (fun c a d v w h => by cases d <;> exact h) ?_
            (rw [wpSegs_inl]; simp only [pickOps, List.map_cons, List.map_nil, List.getD_cons_succ, List.getD_cons_zero]; (repeat (go_big_quiet_step (fail))); (refine wpQuiet_get 38 _ rfl _ rfl mb1 0 38 _ (metaC mm (.slice KA1 mk KC1)) rfl (fun W hW => by obtain ⟨y, rfl⟩ := hW; exact y.ext.heap (a := wc2.drew) MQ.out (by simp)) (by kernel_rfl) Try.underlying38 rfl size38 ?_; simp only [Act.put, List.setIfInBounds_toArray, List.set_cons_succ, List.set_cons_zero]); (repeat (go_big_quiet_step (fail))); (refine wpQuiet_get 38 _ rfl _ rfl mb2 0 38 _ (metaC mm (.slice KA2 mk KC2)) rfl (fun W hW => by obtain ⟨y, rfl⟩ := hW; exact y.ext.heap (a := wc2.drew) M2.out (by simp)) (by kernel_rfl) Try.underlying38 rfl size38 ?_; simp only [Act.put, List.setIfInBounds_toArray, List.set_cons_succ, List.set_cons_zero]); (repeat (go_big_quiet_step (fail))); refine wpQuiet_nil ?_)
            (rw [wpSegs_grow]; simp only [pickOps, List.map_cons, List.map_nil, List.getD_cons_succ, List.getD_cons_zero]; go_wp2_with ((go_at_call 28; refine (rsame_eq mm (.slice KA1 mk KC1) (.slice KA2 mk KC2) _ HMK.out T1.out T2.out).mono ?_; rintro e w8 ⟨rfl, x8⟩; refine stop_of ?_)))
            unfold Stop
            have X8 := Lib.hid (XF0.out.trans x8)
            go_wp2_with fail
            refine ⟨.of x8 _, ?_⟩
            clear x8 HD XF0 T1 T2
            have G0 : ∀ y : Grow [] w8, y.v.cell? ⟨pb, 0, none⟩ = some (.pointer (some ⟨b, 0, none⟩)) := fun y => y.ext.cell (X8.out.cell C0.out) (by simp)
            have G1 : ∀ y : Grow [] w8, y.v.cell? ⟨pb, 1, none⟩ = some (.pointer (some ⟨x, 0, none⟩)) := fun y => y.ext.cell (X8.out.cell C1.out) (by simp)
            have G2 : ∀ y : Grow [] w8, y.v.cell? ⟨ab, 1, none⟩ = some (.string ⟨ao.toArray⟩) := fun y => y.ext.cell (X8.out.cell CO.out) (by simp)
            (rw [wpSegs_inl]; simp only [pickOps, List.map_cons, List.map_nil, List.getD_cons_succ, List.getD_cons_zero]; (repeat (go_big_quiet_step (fail))); refine wpQuiet_nil ?_)
            clear G0 G1 G2
            (rw [wpSegs_grow]; simp only [pickOps, List.map_cons, List.map_nil, List.getD_cons_succ, List.getD_cons_zero]; go_wp2_with ((go_at_call 20; refine (p_bytes (HX.out.st.ext X8.out) HOL.out).mono ?_; rintro e w9 ⟨v9, rfl, r9, h9, x9⟩; refine stop_of ?_)))
            unfold Stop
            have X9 := Lib.hid (X8.out.trans x9); have B9 := Lib.hid r9.at_
            go_wp2_with fail
            refine ⟨.of x9 _, ?_⟩
            clear x9 r9 h9
            have c1 : ∀ y : Grow [] w9, (convert 22 9 v9).run Try.prog y.v = .ok (.string ⟨(bytesA us ao).toArray⟩) y.v := fun y => run_str (BytesAt.ext B9.out y.ext.ext)
            (rw [wpSegs_inl]; simp only [pickOps, List.map_cons, List.map_nil, List.getD_cons_succ, List.getD_cons_zero]; (repeat (go_big_quiet_step (fail))); refine wpQuiet_nil ?_)
            clear c1
            (rw [wpSegs_grow]; simp only [pickOps, List.map_cons, List.map_nil, List.getD_cons_succ, List.getD_cons_zero]; go_wp2_with ((go_at_call 29; refine (d_bytes (HX.out.st.ext X9.out) HOL.out).mono ?_; rintro e w10 ⟨v10, rfl, b10, rfl⟩; refine stop_of ?_)))
            unfold Stop
            have B10 := Lib.hid b10
            go_wp2_with fail
            refine ⟨.of (Ext.refl _) _, ?_⟩
            clear b10
            have c2 : ∀ y : Grow [] w9, (convert 22 9 v10).run Try.prog y.v = .ok (.string ⟨(bytesA us ao).toArray⟩) y.v := fun y => run_str (BytesAt.ext B10.out y.ext.ext)
            (rw [wpSegs_inl]; simp only [pickOps, List.map_cons, List.map_nil, List.getD_cons_succ, List.getD_cons_zero]; (repeat (go_big_quiet_step (fail))); refine wpQuiet_nil ?_)
            clear c2
            rw [wpSegs_nil]
            have HP9 := Lib.hid (HPL.out.ext X9.out)
            go_wp2
            go_roundw
            case rel => exact ⟨j + 1, us, ts, by omega, by go_num, HP9⟩
            case measure => first | (simp [intOf]; done) | (simp [intOf]; omega)
          · (simp only [pickOps, List.map_cons, List.map_nil, List.getD_cons_succ, List.getD_cons_zero]; go_wp2_with (refine wpList_new 38 _ zero38 rfl rfl ?_; intro wb2 xb nb sb; refine stop_of ?_))
            unfold Stop
            obtain ⟨mb2, hmb⟩ : ∃ p, p = wc1.heap.size := ⟨_, rfl⟩
            have nb := (show wb2.heap[mb2]? = wb2.heap[wc1.heap.size]? from by rw [hmb]).trans nb
            rw [← hmb]
            have MN2 := Lib.hid nb; have MB2 := Lib.hid (show wc1.heap.size ≤ mb2 from by have h1 := XS2.out; have h2 : BB2 = wc1.heap.size := HB2.out; omega)
            clear hmb
            go_wp2_with fail
            refine ⟨Below.mono xb XS2.out, ?_⟩
            have XB2 := Lib.hid (XD2.out.trans xb); have SB2 := Lib.hid (Nat.le_trans XS2.out xb.size)
            clear xb sb
            (rw [wpTzR_one]; simp only [pickOps, List.map_cons, List.map_nil, List.getD_cons_succ, List.getD_cons_zero]; go_wp2_with (go_at_call 27; refine (HMD.out _ (XZ1.out.trans XB2.out)).mono ?_; rintro e wa2 ⟨KA2, KC2, rfl, tx, xa⟩; refine stop_of ?_))
            unfold Stop
            go_wp2_with fail
            refine ⟨Below.mono xa SB2.out, ?_⟩
            have XA2 := Lib.hid (XB2.out.trans xa); have SA2 := Lib.hid (Nat.le_trans SB2.out xa.size)
            have T2 := Lib.hid tx
            have MN2 := Lib.hid (xa.heap MN2.out)
            (rw [wpTzR_pure]; simp only [pickOps, List.map_cons, List.map_nil, List.getD_cons_succ, List.getD_cons_zero]; (repeat (go_big_quiet_step (fail))); refine wpQuiet_nil ?_)
            clear xa tx nb
            (rw [wpTzR_one]; simp only [pickOps, List.map_cons, List.map_nil, List.getD_cons_succ, List.getD_cons_zero]; go_wp2_with (refine wpList_put 38 rfl _ _ rfl mb2 0 38 _ (metaC mm (.slice KA2 mk KC2)).toArray (metaC mm (.slice KA2 mk KC2)) _ MN2.out rfl rfl rfl (by simp [metaC]) rfl size38 (by kernel_rfl) ?_; intro wc2 xc nc sc; refine stop_of ?_))
            unfold Stop
            have M2 := Lib.hid nc
            go_wp2_with fail
            refine ⟨⟨xc.os, xc.tape, xc.output, xc.size, fun k hk => xc.block k (Nat.lt_of_lt_of_le hk SA2.out) (fun hh => by have := MB2.out; have h3 : BB2 = wc1.heap.size := HB2.out; have h2 : k = mb2 := (by simpa using hh); omega)⟩, ?_⟩
            have XC2 := Lib.hid (show Ext wc1 wc2 from XA2.out.thenB xc (by have := MB2.out; simp; omega))
            have XZ2 := Lib.hid (XZ1.out.trans XC2.out)
            have TT2 := Lib.hid (SRow.texts (own_extB T2.out xc (fun y hy e => by have h1 := kind_row T2.out e; rw [show y = mb2 by simpa using hy, kind_cells MN2.out] at h1; cases h1)))
            clear xc nc sc MN2 XA2 XB2 T2
            (rw [wpTzR_pure]; simp only [pickOps, List.map_cons, List.map_nil, List.getD_cons_succ, List.getD_cons_zero]; (repeat (go_big_quiet_step (fail))); refine wpQuiet_nil ?_)
            rw [wpTzR_done]
            have MQ := Lib.hid (XC2.out.heap M1.out)
            have TQ := Lib.hid (TextsAt.ext TT1.out XC2.out)
            go_wp2_with fail
            have HD := Lib.hid (HX.out.st.ext (XZ2.out.trans (Ext.drew (Ext.refl wc2)))); have XF0 := Lib.hid (XZ2.out.trans (Ext.drew (Ext.refl wc2)))
            have T1 := Lib.hid (TextsAt.ext TQ.out (Ext.drew (Ext.refl wc2))); have T2 := Lib.hid (TextsAt.ext TT2.out (Ext.drew (Ext.refl wc2)))
            refine wp_region_segs [] [.inl [0, 1, 2, 3, 4, 5], .inr (.inl 6), .inl [7, 8, 9, 10, 11, 12, 13, 14, 15, 18, 19, 20, 21, 22, 23], .inr (.inl 16), .inl [17], .inr (.inl 24), .inl [25, 26, 27]] (by kernel_rfl) (by kernel_rfl) (fun c a d v w h => by cases d <;> exact h) ?_
            (rw [wpSegs_inl]; simp only [pickOps, List.map_cons, List.map_nil, List.getD_cons_succ, List.getD_cons_zero]; (repeat (go_big_quiet_step (fail))); (refine wpQuiet_get 38 _ rfl _ rfl mb1 0 38 _ (metaC mm (.slice KA1 mk KC1)) rfl (fun W hW => by obtain ⟨y, rfl⟩ := hW; exact y.ext.heap (a := wc2.drew) MQ.out (by simp)) (by kernel_rfl) Try.underlying38 rfl size38 ?_; simp only [Act.put, List.setIfInBounds_toArray, List.set_cons_succ, List.set_cons_zero]); (repeat (go_big_quiet_step (fail))); (refine wpQuiet_get 38 _ rfl _ rfl mb2 0 38 _ (metaC mm (.slice KA2 mk KC2)) rfl (fun W hW => by obtain ⟨y, rfl⟩ := hW; exact y.ext.heap (a := wc2.drew) M2.out (by simp)) (by kernel_rfl) Try.underlying38 rfl size38 ?_; simp only [Act.put, List.setIfInBounds_toArray, List.set_cons_succ, List.set_cons_zero]); (repeat (go_big_quiet_step (fail))); refine wpQuiet_nil ?_)
            (rw [wpSegs_grow]; simp only [pickOps, List.map_cons, List.map_nil, List.getD_cons_succ, List.getD_cons_zero]; go_wp2_with ((go_at_call 28; refine (rsame_eq mm (.slice KA1 mk KC1) (.slice KA2 mk KC2) _ HMK.out T1.out T2.out).mono ?_; rintro e w8 ⟨rfl, x8⟩; refine stop_of ?_)))
            unfold Stop
            have X8 := Lib.hid (XF0.out.trans x8)
            go_wp2_with fail
            refine ⟨.of x8 _, ?_⟩
            clear x8 HD XF0 T1 T2
            have G0 : ∀ y : Grow [] w8, y.v.cell? ⟨pb, 0, none⟩ = some (.pointer (some ⟨b, 0, none⟩)) := fun y => y.ext.cell (X8.out.cell C0.out) (by simp)
            have G1 : ∀ y : Grow [] w8, y.v.cell? ⟨pb, 1, none⟩ = some (.pointer (some ⟨x, 0, none⟩)) := fun y => y.ext.cell (X8.out.cell C1.out) (by simp)
            have G2 : ∀ y : Grow [] w8, y.v.cell? ⟨ab, 1, none⟩ = some (.string ⟨ao.toArray⟩) := fun y => y.ext.cell (X8.out.cell CO.out) (by simp)
            (rw [wpSegs_inl]; simp only [pickOps, List.map_cons, List.map_nil, List.getD_cons_succ, List.getD_cons_zero]; (repeat (go_big_quiet_step (fail))); refine wpQuiet_nil ?_)
            clear G0 G1 G2
            (rw [wpSegs_grow]; simp only [pickOps, List.map_cons, List.map_nil, List.getD_cons_succ, List.getD_cons_zero]; go_wp2_with ((go_at_call 20; refine (p_bytes (HX.out.st.ext X8.out) HOL.out).mono ?_; rintro e w9 ⟨v9, rfl, r9, h9, x9⟩; refine stop_of ?_)))
            unfold Stop
            have X9 := Lib.hid (X8.out.trans x9); have B9 := Lib.hid r9.at_
            go_wp2_with fail
            refine ⟨.of x9 _, ?_⟩
            clear x9 r9 h9
            have c1 : ∀ y : Grow [] w9, (convert 22 9 v9).run Try.prog y.v = .ok (.string ⟨(bytesA us ao).toArray⟩) y.v := fun y => run_str (BytesAt.ext B9.out y.ext.ext)
            (rw [wpSegs_inl]; simp only [pickOps, List.map_cons, List.map_nil, List.getD_cons_succ, List.getD_cons_zero]; (repeat (go_big_quiet_step (fail))); refine wpQuiet_nil ?_)
            clear c1
            (rw [wpSegs_grow]; simp only [pickOps, List.map_cons, List.map_nil, List.getD_cons_succ, List.getD_cons_zero]; go_wp2_with ((go_at_call 29; refine (d_bytes (HX.out.st.ext X9.out) HOL.out).mono ?_; rintro e w10 ⟨v10, rfl, b10, rfl⟩; refine stop_of ?_)))
            unfold Stop
            have B10 := Lib.hid b10
            go_wp2_with fail
            refine ⟨.of (Ext.refl _) _, ?_⟩
            clear b10
            have c2 : ∀ y : Grow [] w9, (convert 22 9 v10).run Try.prog y.v = .ok (.string ⟨(bytesA us ao).toArray⟩) y.v := fun y => run_str (BytesAt.ext B10.out y.ext.ext)
            (rw [wpSegs_inl]; simp only [pickOps, List.map_cons, List.map_nil, List.getD_cons_succ, List.getD_cons_zero]; (repeat (go_big_quiet_step (fail))); refine wpQuiet_nil ?_)
            clear c2
            rw [wpSegs_nil]
            have HP9 := Lib.hid (HPL.out.ext X9.out)
            go_wp2
            go_roundw
            case rel => exact ⟨j + 1, us, ts, by omega, by go_num, HP9⟩
            case measure => first | (simp [intOf]; done) | (simp [intOf]; omega)
        · (simp only [pickOps, List.map_cons, List.map_nil, List.getD_cons_succ, List.getD_cons_zero]; go_wp2_with (refine wpList_new 38 _ zero38 rfl rfl ?_; intro wb1 xb nb sb; refine stop_of ?_))
          unfold Stop
          obtain ⟨mb1, hmb⟩ : ∃ p, p = w6.heap.size := ⟨_, rfl⟩
          have nb := (show wb1.heap[mb1]? = wb1.heap[w6.heap.size]? from by rw [hmb]).trans nb
          rw [← hmb]
          have MN1 := Lib.hid nb; have MB1 := Lib.hid (show w6.heap.size ≤ mb1 from by have h1 := XS1.out; have h2 : BB1 = w6.heap.size := HB1.out; omega)
          clear hmb
          go_wp2_with fail
          refine ⟨Below.mono xb XS1.out, ?_⟩
          have XB1 := Lib.hid (XD1.out.trans xb); have SB1 := Lib.hid (Nat.le_trans XS1.out xb.size)
          clear xb sb
          (rw [wpTzR_one]; simp only [pickOps, List.map_cons, List.map_nil, List.getD_cons_succ, List.getD_cons_zero]; go_wp2_with (go_at_call 21; refine (HMP.out _ (X6.out.trans XB1.out)).mono ?_; rintro e wa1 ⟨KA1, KC1, rfl, tx, xa⟩; refine stop_of ?_))
          unfold Stop
          go_wp2_with fail
          refine ⟨Below.mono xa SB1.out, ?_⟩
          have XA1 := Lib.hid (XB1.out.trans xa); have SA1 := Lib.hid (Nat.le_trans SB1.out xa.size)
          have T1 := Lib.hid tx
          have MN1 := Lib.hid (xa.heap MN1.out)
          (rw [wpTzR_pure]; simp only [pickOps, List.map_cons, List.map_nil, List.getD_cons_succ, List.getD_cons_zero]; (repeat (go_big_quiet_step (fail))); refine wpQuiet_nil ?_)
          clear xa tx nb
          (rw [wpTzR_one]; simp only [pickOps, List.map_cons, List.map_nil, List.getD_cons_succ, List.getD_cons_zero]; go_wp2_with (refine wpList_put 38 rfl _ _ rfl mb1 0 38 _ (metaC mm (.slice KA1 mk KC1)).toArray (metaC mm (.slice KA1 mk KC1)) _ MN1.out rfl rfl rfl (by simp [metaC]) rfl size38 (by kernel_rfl) ?_; intro wc1 xc nc sc; refine stop_of ?_))
          unfold Stop
          have M1 := Lib.hid nc
          go_wp2_with fail
          refine ⟨⟨xc.os, xc.tape, xc.output, xc.size, fun k hk => xc.block k (Nat.lt_of_lt_of_le hk SA1.out) (fun hh => by have := MB1.out; have h3 : BB1 = w6.heap.size := HB1.out; have h2 : k = mb1 := (by simpa using hh); omega)⟩, ?_⟩
          have XC1 := Lib.hid (show Ext w6 wc1 from XA1.out.thenB xc (by have := MB1.out; simp; omega))
          have XZ1 := Lib.hid (X6.out.trans XC1.out)
          have TT1 := Lib.hid (SRow.texts (own_extB T1.out xc (fun y hy e => by have h1 := kind_row T1.out e; rw [show y = mb1 by simpa using hy, kind_cells MN1.out] at h1; cases h1)))
          clear xc nc sc MN1 XA1 XB1 T1
          (rw [wpTzR_pure]; simp only [pickOps, List.map_cons, List.map_nil, List.getD_cons_succ, List.getD_cons_zero]; (repeat (go_big_quiet_step (fail))); refine wpQuiet_nil ?_)
          rw [wpTzR_done]
          go_wp2_with fail
          obtain ⟨BB3, hbb⟩ : ∃ p, p = wc1.drew.heap.size := ⟨_, rfl⟩
          have HB3 := Lib.hid hbb
          clear hbb
          have XD3 := Lib.hid (Ext.drew (Ext.refl wc1))
          have GA : ∀ y : GrowR (keepLow BB3) wc1.drew, y.v.cell? ⟨pb, 1, none⟩ = some (.pointer (some ⟨x, 0, none⟩)) := fun y => (y.low HB3.out).cell (XD3.out.cell (XZ1.out.cell C1.out))
          have GB : ∀ y : GrowR (keepLow BB3) wc1.drew, y.v.cell? ⟨ab, 1, none⟩ = some (.string ⟨ao.toArray⟩) := fun y => (y.low HB3.out).cell (XD3.out.cell (XZ1.out.cell CO.out))
          have XS3 := Lib.hid (show BB3 ≤ wc1.drew.heap.size from Nat.le_of_eq HB3.out)
          refine wp_region_trzR (keepLow BB3) [] [] (.pure [0, 1, 2, 3, 4, 5] (.fork 6 (.pure [7, 8, 9] (.one 10 (.one 11 (.pure [12] (.done))))) 10 (.one 6 (.pure [7, 8, 9] (.one 11 (.pure [12] (.done))))))) (by kernel_rfl) (by kernel_rfl) (fun c a d v w h => by cases d <;> exact h) ?_
          (simp only [pickOps, List.map_cons, List.map_nil, List.getD_cons_succ, List.getD_cons_zero]; refine wpQuiet_nil ?_)
          (rw [wpTzR_pure]; simp only [pickOps, List.map_cons, List.map_nil, List.getD_cons_succ, List.getD_cons_zero]; (repeat (go_big_quiet_step (fail))); refine wpQuiet_nil ?_)
          clear GA GB
          rw [wpTzR_fork]
          refine ⟨?_, ?_⟩
          · (simp only [pickOps, List.map_cons, List.map_nil, List.getD_cons_succ, List.getD_cons_zero]; go_wp2_with (go_at_call 27; refine (HMD.out _ (XZ1.out.trans XD3.out)).mono ?_; rintro e wa3 ⟨KA3, KC3, rfl, tx, xa⟩; refine stop_of ?_))
            unfold Stop
            go_wp2_with fail
            refine ⟨Below.mono xa XS3.out, ?_⟩
            have XA3 := Lib.hid (XD3.out.trans xa); have SA3 := Lib.hid (Nat.le_trans XS3.out xa.size)
            have T3 := Lib.hid tx
            (rw [wpTzR_pure]; simp only [pickOps, List.map_cons, List.map_nil, List.getD_cons_succ, List.getD_cons_zero]; (repeat (go_big_quiet_step (fail))); refine wpQuiet_nil ?_)
            clear xa tx
            (rw [wpTzR_one]; simp only [pickOps, List.map_cons, List.map_nil, List.getD_cons_succ, List.getD_cons_zero]; go_wp2_with (refine wpList_new 38 _ zero38 rfl rfl ?_; intro wb3 xb nb sb; refine stop_of ?_))
            unfold Stop
            obtain ⟨mb3, hmb⟩ : ∃ p, p = wa3.heap.size := ⟨_, rfl⟩
            have nb := (show wb3.heap[mb3]? = wb3.heap[wa3.heap.size]? from by rw [hmb]).trans nb
            rw [← hmb]
            have MN3 := Lib.hid nb; have MB3 := Lib.hid (show wc1.heap.size ≤ mb3 from by have h1 := SA3.out; have h2 : BB3 = wc1.heap.size := HB3.out; omega)
            clear hmb
            go_wp2_with fail
            refine ⟨Below.mono xb SA3.out, ?_⟩
            have XB3 := Lib.hid (XA3.out.trans xb); have SB3 := Lib.hid (Nat.le_trans SA3.out xb.size)
            have TB3 := Lib.hid (ownsRow_below T3.out xb)
            (rw [wpTzR_one]; simp only [pickOps, List.map_cons, List.map_nil, List.getD_cons_succ, List.getD_cons_zero]; go_wp2_with (refine wpList_put 38 rfl _ _ rfl mb3 0 38 _ (metaC mm (.slice KA3 mk KC3)).toArray (metaC mm (.slice KA3 mk KC3)) _ MN3.out rfl rfl rfl (by simp [metaC]) rfl size38 (by kernel_rfl) ?_; intro wc3 xc nc sc; refine stop_of ?_))
            unfold Stop
            have M3 := Lib.hid nc
            go_wp2_with fail
            refine ⟨⟨xc.os, xc.tape, xc.output, xc.size, fun k hk => xc.block k (Nat.lt_of_lt_of_le hk SB3.out) (fun hh => by have := MB3.out; have h3 : BB3 = wc1.heap.size := HB3.out; have h2 : k = mb3 := (by simpa using hh); omega)⟩, ?_⟩
            have XC3 := Lib.hid (show Ext wc1 wc3 from XB3.out.thenB xc (by have := MB3.out; simp; omega))
            have XZ3 := Lib.hid (XZ1.out.trans XC3.out)
            have TT3 := Lib.hid (SRow.texts (own_extB TB3.out xc (fun y hy e => by have h1 := kind_row TB3.out e; rw [show y = mb3 by simpa using hy, kind_cells MN3.out] at h1; cases h1)))
            clear xb nb sb xc nc sc MN3 XA3 XB3 T3 TB3
            (rw [wpTzR_pure]; simp only [pickOps, List.map_cons, List.map_nil, List.getD_cons_succ, List.getD_cons_zero]; (repeat (go_big_quiet_step (fail))); refine wpQuiet_nil ?_)
            rw [wpTzR_done]
            have MQ := Lib.hid (XC3.out.heap M1.out)
            have TQ := Lib.hid (TextsAt.ext TT1.out XC3.out)
            go_wp2_with fail
            have HD := Lib.hid (HX.out.st.ext (XZ3.out.trans (Ext.drew (Ext.refl wc3)))); have XF0 := Lib.hid (XZ3.out.trans (Ext.drew (Ext.refl wc3)))
            have T1 := Lib.hid (TextsAt.ext TQ.out (Ext.drew (Ext.refl wc3))); have T2 := Lib.hid (TextsAt.ext TT3.out (Ext.drew (Ext.refl wc3)))
            refine wp_region_segs [] [.inl [0, 1, 2, 3, 4, 5], .inr (.inl 6), .inl [7, 8, 9, 10, 11, 12, 13, 14, 15, 18, 19, 20, 21, 22, 23], .inr (.inl 16), .inl [17], .inr (.inl 24), .inl [25, 26, 27]] (by kernel_rfl) (by kernel_rfl) (fun c a d v w h => by cases d <;> exact h) ?_
            (rw [wpSegs_inl]; simp only [pickOps, List.map_cons, List.map_nil, List.getD_cons_succ, List.getD_cons_zero]; (repeat (go_big_quiet_step (fail))); (refine wpQuiet_get 38 _ rfl _ rfl mb1 0 38 _ (metaC mm (.slice KA1 mk KC1)) rfl (fun W hW => by obtain ⟨y, rfl⟩ := hW; exact y.ext.heap (a := wc3.drew) MQ.out (by simp)) (by kernel_rfl) Try.underlying38 rfl size38 ?_; simp only [Act.put, List.setIfInBounds_toArray, List.set_cons_succ, List.set_cons_zero]); (repeat (go_big_quiet_step (fail))); (refine wpQuiet_get 38 _ rfl _ rfl mb3 0 38 _ (metaC mm (.slice KA3 mk KC3)) rfl (fun W hW => by obtain ⟨y, rfl⟩ := hW; exact y.ext.heap (a := wc3.drew) M3.out (by simp)) (by kernel_rfl) Try.underlying38 rfl size38 ?_; simp only [Act.put, List.setIfInBounds_toArray, List.set_cons_succ, List.set_cons_zero]); (repeat (go_big_quiet_step (fail))); refine wpQuiet_nil ?_)
            (rw [wpSegs_grow]; simp only [pickOps, List.map_cons, List.map_nil, List.getD_cons_succ, List.getD_cons_zero]; go_wp2_with ((go_at_call 28; refine (rsame_eq mm (.slice KA1 mk KC1) (.slice KA3 mk KC3) _ HMK.out T1.out T2.out).mono ?_; rintro e w8 ⟨rfl, x8⟩; refine stop_of ?_)))
            unfold Stop
            have X8 := Lib.hid (XF0.out.trans x8)
            go_wp2_with fail
            refine ⟨.of x8 _, ?_⟩
            clear x8 HD XF0 T1 T2
            have G0 : ∀ y : Grow [] w8, y.v.cell? ⟨pb, 0, none⟩ = some (.pointer (some ⟨b, 0, none⟩)) := fun y => y.ext.cell (X8.out.cell C0.out) (by simp)
            have G1 : ∀ y : Grow [] w8, y.v.cell? ⟨pb, 1, none⟩ = some (.pointer (some ⟨x, 0, none⟩)) := fun y => y.ext.cell (X8.out.cell C1.out) (by simp)
            have G2 : ∀ y : Grow [] w8, y.v.cell? ⟨ab, 1, none⟩ = some (.string ⟨ao.toArray⟩) := fun y => y.ext.cell (X8.out.cell CO.out) (by simp)
            (rw [wpSegs_inl]; simp only [pickOps, List.map_cons, List.map_nil, List.getD_cons_succ, List.getD_cons_zero]; (repeat (go_big_quiet_step (fail))); refine wpQuiet_nil ?_)
            clear G0 G1 G2
            (rw [wpSegs_grow]; simp only [pickOps, List.map_cons, List.map_nil, List.getD_cons_succ, List.getD_cons_zero]; go_wp2_with ((go_at_call 20; refine (p_bytes (HX.out.st.ext X8.out) HOL.out).mono ?_; rintro e w9 ⟨v9, rfl, r9, h9, x9⟩; refine stop_of ?_)))
            unfold Stop
            have X9 := Lib.hid (X8.out.trans x9); have B9 := Lib.hid r9.at_
            go_wp2_with fail
            refine ⟨.of x9 _, ?_⟩
            clear x9 r9 h9
            have c1 : ∀ y : Grow [] w9, (convert 22 9 v9).run Try.prog y.v = .ok (.string ⟨(bytesA us ao).toArray⟩) y.v := fun y => run_str (BytesAt.ext B9.out y.ext.ext)
            (rw [wpSegs_inl]; simp only [pickOps, List.map_cons, List.map_nil, List.getD_cons_succ, List.getD_cons_zero]; (repeat (go_big_quiet_step (fail))); refine wpQuiet_nil ?_)
            clear c1
            (rw [wpSegs_grow]; simp only [pickOps, List.map_cons, List.map_nil, List.getD_cons_succ, List.getD_cons_zero]; go_wp2_with ((go_at_call 29; refine (d_bytes (HX.out.st.ext X9.out) HOL.out).mono ?_; rintro e w10 ⟨v10, rfl, b10, rfl⟩; refine stop_of ?_)))
            unfold Stop
            have B10 := Lib.hid b10
            go_wp2_with fail
            refine ⟨.of (Ext.refl _) _, ?_⟩
            clear b10
            have c2 : ∀ y : Grow [] w9, (convert 22 9 v10).run Try.prog y.v = .ok (.string ⟨(bytesA us ao).toArray⟩) y.v := fun y => run_str (BytesAt.ext B10.out y.ext.ext)
            (rw [wpSegs_inl]; simp only [pickOps, List.map_cons, List.map_nil, List.getD_cons_succ, List.getD_cons_zero]; (repeat (go_big_quiet_step (fail))); refine wpQuiet_nil ?_)
            clear c2
            rw [wpSegs_nil]
            have HP9 := Lib.hid (HPL.out.ext X9.out)
            go_wp2
            go_roundw
            case rel => exact ⟨j + 1, us, ts, by omega, by go_num, HP9⟩
            case measure => first | (simp [intOf]; done) | (simp [intOf]; omega)
          · (simp only [pickOps, List.map_cons, List.map_nil, List.getD_cons_succ, List.getD_cons_zero]; go_wp2_with (refine wpList_new 38 _ zero38 rfl rfl ?_; intro wb3 xb nb sb; refine stop_of ?_))
            unfold Stop
            obtain ⟨mb3, hmb⟩ : ∃ p, p = wc1.heap.size := ⟨_, rfl⟩
            have nb := (show wb3.heap[mb3]? = wb3.heap[wc1.heap.size]? from by rw [hmb]).trans nb
            rw [← hmb]
            have MN3 := Lib.hid nb; have MB3 := Lib.hid (show wc1.heap.size ≤ mb3 from by have h1 := XS3.out; have h2 : BB3 = wc1.heap.size := HB3.out; omega)
            clear hmb
            go_wp2_with fail
            refine ⟨Below.mono xb XS3.out, ?_⟩
            have XB3 := Lib.hid (XD3.out.trans xb); have SB3 := Lib.hid (Nat.le_trans XS3.out xb.size)
            clear xb sb
            (rw [wpTzR_one]; simp only [pickOps, List.map_cons, List.map_nil, List.getD_cons_succ, List.getD_cons_zero]; go_wp2_with (go_at_call 27; refine (HMD.out _ (XZ1.out.trans XB3.out)).mono ?_; rintro e wa3 ⟨KA3, KC3, rfl, tx, xa⟩; refine stop_of ?_))
            unfold Stop
            go_wp2_with fail
            refine ⟨Below.mono xa SB3.out, ?_⟩
            have XA3 := Lib.hid (XB3.out.trans xa); have SA3 := Lib.hid (Nat.le_trans SB3.out xa.size)
            have T3 := Lib.hid tx
            have MN3 := Lib.hid (xa.heap MN3.out)
            (rw [wpTzR_pure]; simp only [pickOps, List.map_cons, List.map_nil, List.getD_cons_succ, List.getD_cons_zero]; (repeat (go_big_quiet_step (fail))); refine wpQuiet_nil ?_)
            clear xa tx nb
            (rw [wpTzR_one]; simp only [pickOps, List.map_cons, List.map_nil, List.getD_cons_succ, List.getD_cons_zero]; go_wp2_with (refine wpList_put 38 rfl _ _ rfl mb3 0 38 _ (metaC mm (.slice KA3 mk KC3)).toArray (metaC mm (.slice KA3 mk KC3)) _ MN3.out rfl rfl rfl (by simp [metaC]) rfl size38 (by kernel_rfl) ?_; intro wc3 xc nc sc; refine stop_of ?_))
            unfold Stop
            have M3 := Lib.hid nc
            go_wp2_with fail
            refine ⟨⟨xc.os, xc.tape, xc.output, xc.size, fun k hk => xc.block k (Nat.lt_of_lt_of_le hk SA3.out) (fun hh => by have := MB3.out; have h3 : BB3 = wc1.heap.size := HB3.out; have h2 : k = mb3 := (by simpa using hh); omega)⟩, ?_⟩
            have XC3 := Lib.hid (show Ext wc1 wc3 from XA3.out.thenB xc (by have := MB3.out; simp; omega))
            have XZ3 := Lib.hid (XZ1.out.trans XC3.out)
            have TT3 := Lib.hid (SRow.texts (own_extB T3.out xc (fun y hy e => by have h1 := kind_row T3.out e; rw [show y = mb3 by simpa using hy, kind_cells MN3.out] at h1; cases h1)))
            clear xc nc sc MN3 XA3 XB3 T3
            (rw [wpTzR_pure]; simp only [pickOps, List.map_cons, List.map_nil, List.getD_cons_succ, List.getD_cons_zero]; (repeat (go_big_quiet_step (fail))); refine wpQuiet_nil ?_)
            rw [wpTzR_done]
            have MQ := Lib.hid (XC3.out.heap M1.out)
            have TQ := Lib.hid (TextsAt.ext TT1.out XC3.out)
            go_wp2_with fail
            have HD := Lib.hid (HX.out.st.ext (XZ3.out.trans (Ext.drew (Ext.refl wc3)))); have XF0 := Lib.hid (XZ3.out.trans (Ext.drew (Ext.refl wc3)))
            have T1 := Lib.hid (TextsAt.ext TQ.out (Ext.drew (Ext.refl wc3))); have T2 := Lib.hid (TextsAt.ext TT3.out (Ext.drew (Ext.refl wc3)))
            refine wp_region_segs [] [.inl [0, 1, 2, 3, 4, 5], .inr (.inl 6), .inl [7, 8, 9, 10, 11, 12, 13, 14, 15, 18, 19, 20, 21, 22, 23], .inr (.inl 16), .inl [17], .inr (.inl 24), .inl [25, 26, 27]] (by kernel_rfl) (by kernel_rfl) (fun c a d v w h => by cases d <;> exact h) ?_
            (rw [wpSegs_inl]; simp only [pickOps, List.map_cons, List.map_nil, List.getD_cons_succ, List.getD_cons_zero]; (repeat (go_big_quiet_step (fail))); (refine wpQuiet_get 38 _ rfl _ rfl mb1 0 38 _ (metaC mm (.slice KA1 mk KC1)) rfl (fun W hW => by obtain ⟨y, rfl⟩ := hW; exact y.ext.heap (a := wc3.drew) MQ.out (by simp)) (by kernel_rfl) Try.underlying38 rfl size38 ?_; simp only [Act.put, List.setIfInBounds_toArray, List.set_cons_succ, List.set_cons_zero]); (repeat (go_big_quiet_step (fail))); (refine wpQuiet_get 38 _ rfl _ rfl mb3 0 38 _ (metaC mm (.slice KA3 mk KC3)) rfl (fun W hW => by obtain ⟨y, rfl⟩ := hW; exact y.ext.heap (a := wc3.drew) M3.out (by simp)) (by kernel_rfl) Try.underlying38 rfl size38 ?_; simp only [Act.put, List.setIfInBounds_toArray, List.set_cons_succ, List.set_cons_zero]); (repeat (go_big_quiet_step (fail))); refine wpQuiet_nil ?_)
            (rw [wpSegs_grow]; simp only [pickOps, List.map_cons, List.map_nil, List.getD_cons_succ, List.getD_cons_zero]; go_wp2_with ((go_at_call 28; refine (rsame_eq mm (.slice KA1 mk KC1) (.slice KA3 mk KC3) _ HMK.out T1.out T2.out).mono ?_; rintro e w8 ⟨rfl, x8⟩; refine stop_of ?_)))
            unfold Stop
            have X8 := Lib.hid (XF0.out.trans x8)
            go_wp2_with fail
            refine ⟨.of x8 _, ?_⟩
            clear x8 HD XF0 T1 T2
            have G0 : ∀ y : Grow [] w8, y.v.cell? ⟨pb, 0, none⟩ = some (.pointer (some ⟨b, 0, none⟩)) := fun y => y.ext.cell (X8.out.cell C0.out) (by simp)
            have G1 : ∀ y : Grow [] w8, y.v.cell? ⟨pb, 1, none⟩ = some (.pointer (some ⟨x, 0, none⟩)) := fun y => y.ext.cell (X8.out.cell C1.out) (by simp)
            have G2 : ∀ y : Grow [] w8, y.v.cell? ⟨ab, 1, none⟩ = some (.string ⟨ao.toArray⟩) := fun y => y.ext.cell (X8.out.cell CO.out) (by simp)
            (rw [wpSegs_inl]; simp only [pickOps, List.map_cons, List.map_nil, List.getD_cons_succ, List.getD_cons_zero]; (repeat (go_big_quiet_step (fail))); refine wpQuiet_nil ?_)
            clear G0 G1 G2
            (rw [wpSegs_grow]; simp only [pickOps, List.map_cons, List.map_nil, List.getD_cons_succ, List.getD_cons_zero]; go_wp2_with ((go_at_call 20; refine (p_bytes (HX.out.st.ext X8.out) HOL.out).mono ?_; rintro e w9 ⟨v9, rfl, r9, h9, x9⟩; refine stop_of ?_)))
            unfold Stop
            have X9 := Lib.hid (X8.out.trans x9); have B9 := Lib.hid r9.at_
            go_wp2_with fail
            refine ⟨.of x9 _, ?_⟩
            clear x9 r9 h9
            have c1 : ∀ y : Grow [] w9, (convert 22 9 v9).run Try.prog y.v = .ok (.string ⟨(bytesA us ao).toArray⟩) y.v := fun y => run_str (BytesAt.ext B9.out y.ext.ext)
            (rw [wpSegs_inl]; simp only [pickOps, List.map_cons, List.map_nil, List.getD_cons_succ, List.getD_cons_zero]; (repeat (go_big_quiet_step (fail))); refine wpQuiet_nil ?_)
            clear c1
            (rw [wpSegs_grow]; simp only [pickOps, List.map_cons, List.map_nil, List.getD_cons_succ, List.getD_cons_zero]; go_wp2_with ((go_at_call 29; refine (d_bytes (HX.out.st.ext X9.out) HOL.out).mono ?_; rintro e w10 ⟨v10, rfl, b10, rfl⟩; refine stop_of ?_)))
            unfold Stop
            have B10 := Lib.hid b10
            go_wp2_with fail
            refine ⟨.of (Ext.refl _) _, ?_⟩
            clear b10
            have c2 : ∀ y : Grow [] w9, (convert 22 9 v10).run Try.prog y.v = .ok (.string ⟨(bytesA us ao).toArray⟩) y.v := fun y => run_str (BytesAt.ext B10.out y.ext.ext)
            (rw [wpSegs_inl]; simp only [pickOps, List.map_cons, List.map_nil, List.getD_cons_succ, List.getD_cons_zero]; (repeat (go_big_quiet_step (fail))); refine wpQuiet_nil ?_)
            clear c2
            rw [wpSegs_nil]
            have HP9 := Lib.hid (HPL.out.ext X9.out)
            go_wp2
            go_roundw
            case rel => exact ⟨j + 1, us, ts, by omega, by go_num, HP9⟩
            case measure => first | (simp [intOf]; done) | (simp [intOf]; omega)
      · go_wp2
        go_ret
        exact ⟨rfl, R.out.base⟩
set_option maxRecDepth 100000 in
theorem originSets_lifted (os : Os) (started : os.Started) (H : Type) (enc : TypeId × Value → H) :
    ReturnsInHanded {} Try.checked os 5 .any (Rows.originSetsSpec.pre6 enc Try.prog Try.f5 Rows.originSetsRow.domain false) (Rows.originSetsSpec.post enc Try.prog Try.f5 false true false false) := by
  refine returnsInHanded_of_change (C := Try.checked) own started (by kernel_rfl) Try.func5
    (ChangeSpec.witness6 (enc := enc) (C := Try.checked) false ⟨#[], #[.slice none 0 0], []⟩ 8 (by kernel_rfl) (by kernel_rfl) (by kernel_rfl) (by kernel_rfl)) ?_
  intro W base args ds gs before hval0 hW hcnd _
  have hval : ∀ (j : Nat) t v, Try.f5.params[j]? = some t → args[j]? = some v → Value.okWide Try.prog W .any base t v := hval0
  have hW' := hW
  obtain ⟨p, q, hA0, hV, rfl, hfz, hnd⟩ := hW
  have hA : DataW.TrodAll enc Try.prog W 0 (fun _ => true) true Try.f5.params.toList args.toList ds p := hA0
  rw [Try.params5] at hA hval
  obtain ⟨v0, vs0, d0, ds0, p0, q0, hargs, rfl, rfl, h0, r0⟩ := trodAll_cons hA
  obtain ⟨rfl, rfl, rfl⟩ := trodAll_nil r0
  obtain rfl : args = #[v0] := by cases args; simp_all
  obtain ⟨rfl, rfl⟩ := trodVars_none hV
  have lt0 : ∀ x ∈ p0, x.block < W.heap.size := by obtain ⟨m, hm⟩ := h0; exact DataW.trod_lt m _ _ _ hm
  have t0 := fun W' (bel : Below W.heap.size W W') => Below.trod laidOut (by kernel_rfl) (of_decide_eq_true (by kernel_rfl)) h0 bel lt0
  obtain ⟨xs0, ha0, hl0⟩ := acts_open (hval 0 41 v0 rfl rfl) h0
  clear hA0 hval0
  refine (sets_walk v0 xs0 W ha0 ).mono fun e W' ⟨he, bel⟩ => ?_
  subst he
  exact ⟨_, rfl, _, _, _, [], _, [], hW', trodAll_mk1 (shut_bool Try.underlying4 _), (trodAll_cons_mk (t0 W' bel) trodAll_mk0), rfl, bel.frame _, fun h => by cases h⟩

/-- The statement. -/
theorem OriginSets_proved : Rows.OriginSetsSaid :=
  OpenClaim.holds_of_wide 5 Try.f5 rfl rfl rfl rfl rfl rfl rfl ⟨rfl, rfl, rfl, rfl, rfl⟩ rfl rfl rfl rfl rfl (by kernel_rfl) Try.func5 (by kernel_rfl)
    (of_decide_eq_true (by kernel_rfl)) (by unfold Func.isWrapper; first | (rw [if_pos (by decide +kernel)]; kernel_rfl) | (rw [if_neg (by decide +kernel)]; exact ⟨rfl, rfl⟩))
    (fun os started H enc _ => originSets_lifted os started H enc)
#print axioms OriginSets_proved
end Go.Proofs.Ytpangoddbfiagaa
