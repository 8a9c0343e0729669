/- Proved: RingMore, for every input: a name more changes the owner of an object only to that name, and the order of the others not at all (printed by gen_laws.py). -/
import Derived.Test.YtjphpblangeblaaDoorLawM
namespace Go.Proofs.YtjphpblangeblaaDoor
open Go.RowKit Go.Maps Go.ChangeMaps
set_option linter.unusedVariables false
set_option linter.unusedSimpArgs false
section
variable {w : World} {p : Int} {A : Option Addr} {n c : Nat} {xs : List OpP}
set_option maxRecDepth 100000 in
set_option maxHeartbeats 8000000 in
theorem more_walk (h : OpsAt w (.slice A n c) xs) (hnl : n ≤ 9223372036854775807) (hT : Tab w) {ob : Bs} {o : OpP} (hwt : (1 + n) * 32 ≤ 140737488355328) : Calls Tryd.prog 4 #[.agg #[.int .i64 p, .slice A n c], .agg #[.int .u8 o.kind, .string ⟨o.nm.toArray⟩, .int .i64 o.wgt], .string ⟨ob.toArray⟩] w fun e w' => e = .returned (.bool true) ∧ Ext w w' := by
  have HOPS := Lib.hid h; have HT := Lib.hid hT; have HNL := Lib.hid hnl; have HWT := Lib.hid hwt
  clear h hT hnl hwt
  obtain ⟨ok, on, ow⟩ := o
  dsimp only
  go_enter Tryd.func4, Tryd.ntmps4
  go_wp2_with (refine wpList_boxA 24 rfl _ rfl #[.int .i64 p, .slice A n c] rfl ?_; intro W0 x0 n0 s0; refine stop_of ?_)
  unfold Stop
  have X0 := Lib.hid x0; have N0 := Lib.hid n0
  obtain ⟨mb, hmb⟩ : ∃ mb, mb = w.heap.size := ⟨_, rfl⟩
  rw [← hmb] at N0 ⊢
  clear x0 n0 s0 hmb
  go_wp2_with (refine wpList_boxA 38 rfl _ rfl #[.int .u8 ok, .string ⟨on.toArray⟩, .int .i64 ow] rfl ?_; intro W1 x1 n1 s1; refine stop_of ?_)
  unfold Stop
  have X01 := Lib.hid (X0.out.trans x1); have M1 := Lib.hid (x1.heap N0.out); have B1 := Lib.hid n1
  obtain ⟨pb, hpb⟩ : ∃ pb, pb = W0.heap.size := ⟨_, rfl⟩
  rw [← hpb] at B1 ⊢
  clear x1 n1 s1 hpb N0 X0
  go_wp2_with fail
  have P0 : W1.drew.heap[mb]? = some (.cells #[.int .i64 p, .slice A n c] 24 (0, 0)) := M1.out
  have V0 : W1.drew.heap[pb]? = some (.cells #[.int .u8 ok, .string ⟨on.toArray⟩, .int .i64 ow] 38 (0, 0)) := B1.out
  refine wp_region_segsR (keepB2 mb pb (.cells #[.int .i64 p, .slice A n c] 24) (.cells #[.int .u8 ok, .string ⟨on.toArray⟩, .int .i64 ow] 38)) [.inl [0, 1, 2, 4, 5], .inr (.inl 3), .inr (.inl 6), .inl [7], .inr (.inl 8), .inl [9, 10, 11, 12, 13, 14]] (by kernel_rfl) (by kernel_rfl) (fun c a d v w h => by cases d <;> exact h) ?_
  have G1 : ∀ y : GrowR (keepB2 mb pb (.cells #[.int .i64 p, .slice A n c] 24) (.cells #[.int .u8 ok, .string ⟨on.toArray⟩, .int .i64 ow] 38)) W1.drew, y.v.cell? ⟨mb, 0, none⟩ = some (.int .i64 p) := fun y => blk_cell (y.ext.1 P0) 0
  have G2 : ∀ y : GrowR (keepB2 mb pb (.cells #[.int .i64 p, .slice A n c] 24) (.cells #[.int .u8 ok, .string ⟨on.toArray⟩, .int .i64 ow] 38)) W1.drew, y.v.cell? ⟨mb, 1, none⟩ = some (.slice A n c) := fun y => blk_cell (y.ext.1 P0) 1
  (rw [wpSegsR_inl]; simp only [pickOps, List.map_cons, List.map_nil, List.getD_cons_succ, List.getD_cons_zero]; (repeat (go_big_quiet_step (fail))); (refine wpQuiet_get 38 _ rfl _ rfl pb 0 38 _ [.int .u8 ok, .string ⟨on.toArray⟩, .int .i64 ow] rfl (fun W hW => by obtain ⟨y, rfl⟩ := hW; exact y.ext.2 V0) (by kernel_rfl) Tryd.underlying38 rfl size38 ?_; simp only [Act.put, List.setIfInBounds_toArray, List.set_cons_succ, List.set_cons_zero]); (repeat (go_big_quiet_step (fail))); refine wpQuiet_nil ?_)
  clear G1 G2
  (rw [wpSegsR_grow]; simp only [pickOps, List.map_cons, List.map_nil, List.getD_cons_succ, List.getD_cons_zero]; go_wp2_with (fail))
  obtain ⟨W2, hW2⟩ : ∃ W2, W2 = (W1.alloc (.cells #[.int .u8 ok, .string ⟨on.toArray⟩, .int .i64 ow] 38)).drew := ⟨_, rfl⟩
  have x2 : Ext W1 W2 := by rw [hW2]; exact (ext_alloc1 W1 _).drew
  have n2 : W2.heap[W1.heap.size]? = some (.cells #[.int .u8 ok, .string ⟨on.toArray⟩, .int .i64 ow] 38 (0, 0)) := by rw [hW2]; exact heap_alloc_new W1 _
  obtain ⟨gN, hgN⟩ : ∃ gN, gN = W1.heap.size := ⟨_, rfl⟩
  have n2 : W2.heap[gN]? = some (.cells #[.int .u8 ok, .string ⟨on.toArray⟩, .int .i64 ow] 38 (0, 0)) := by rw [hgN]; exact n2
  rw [← hW2]
  have X2 := Lib.hid x2; have N2 := Lib.hid n2; have HGN := Lib.hid hgN
  have hgm : mb ≠ gN := by have := (Array.getElem?_eq_some_iff.1 M1.out).1; omega
  have hgp : pb ≠ gN := by have := (Array.getElem?_eq_some_iff.1 B1.out).1; omega
  have HGM := Lib.hid hgm; have HGP := Lib.hid hgp
  have M2 := Lib.hid (x2.heap M1.out); have B2 := Lib.hid (x2.heap B1.out)
  refine ⟨keepB2_of (M2.out.trans P0.symm) (B2.out.trans V0.symm), ?_⟩
  clear x2 n2 hW2 P0 V0 hgm hgp
  (rw [wpSegsR_grow]; simp only [pickOps, List.map_cons, List.map_nil, List.getD_cons_succ, List.getD_cons_zero])
  (refine wpList_appO rfl _ _ rfl ⟨ok, on, ow⟩ gN (by rw [HGN.out]; rfl) N2.out ((HOPS.out.ext X01.out).ext X2.out) rfl HWT.out ?_; intro v3 W3 r3 g3)
  go_wp2_with fail
  have M3 := Lib.hid ((g3.block mb (Array.getElem?_eq_some_iff.1 M2.out).1 (fun e => HGM.out (Option.some.inj e))).trans M2.out)
  have B3 := Lib.hid ((g3.block pb (Array.getElem?_eq_some_iff.1 B2.out).1 (fun e => HGP.out (Option.some.inj e))).trans B2.out)
  refine ⟨keepB2_of (M3.out.trans M2.out.symm) (B3.out.trans B2.out.symm), ?_⟩
  simp only [Act.put, List.setIfInBounds_toArray, List.set_cons_succ, List.set_cons_zero]
  have X3 := Lib.hid (show Ext w W3 from X01.out.trans ⟨(g3.os).trans X2.out.os, (g3.tape).trans X2.out.tape, (g3.output).trans X2.out.output, Nat.le_trans X2.out.size g3.size, fun k hk => (g3.block k (Nat.lt_of_lt_of_le hk X2.out.size) (fun e => by have := Option.some.inj e; have := HGN.out; omega)).trans (X2.out.block k hk)⟩)
  have R3 := Lib.hid r3
  obtain ⟨A3, c3, hv3⟩ : ∃ A3 c3, v3 = .slice A3 (n + 1) c3 := by
    obtain ⟨A3, c3, e, _⟩ := r3
    have hn : n = xs.length := by obtain ⟨_, _, e, _⟩ := HOPS.out; injection e
    exact ⟨A3, c3, by rw [e, hn]; rfl⟩
  subst hv3
  clear r3 g3
  (rw [wpSegsR_inl]; simp only [pickOps, List.map_cons, List.map_nil, List.getD_cons_succ, List.getD_cons_zero]; (repeat (go_big_quiet_step (fail))); refine wpQuiet_nil ?_)
  (rw [wpSegsR_grow]; simp only [pickOps, List.map_cons, List.map_nil, List.getD_cons_succ, List.getD_cons_zero]; go_wp2_with ((go_at_call 9; refine (light_any R3.out (by have := HWT.out; omega)).mono ?_; rintro e w1 ⟨⟨r, rfl, hr⟩, x1⟩; refine stop_of ?_)))
  unfold Stop
  go_wp2_with fail
  have N1 := Lib.hid (x1.heap M3.out); have V1 := Lib.hid (x1.heap B3.out)
  refine ⟨keepB2_of (N1.out.trans M3.out.symm) (V1.out.trans B3.out.symm), ?_⟩
  have HR := Lib.hid hr; have X1 := Lib.hid (X3.out.trans x1)
  clear hr x1 M1 B1 M2 B2 M3 B3
  cases r with
  | false =>
    (rw [wpSegsR_inl]; simp only [pickOps, List.map_cons, List.map_nil, List.getD_cons_succ, List.getD_cons_zero]; (repeat (go_big_quiet_step (fail))); refine wpQuiet_nil ?_)
    rw [wpSegsR_nil]
    have HTW := Lib.hid (HT.out.ext X1.out)
    go_wp2_with (go_at_call 10; refine (awake_any HTW.out).mono ?_; rintro e wz ⟨rfl, xz⟩)
    go_ret
    exact ⟨rfl, X1.out.trans xz⟩
  | true =>
    by_cases hob : 200 < (ob.length : Int)
    · have hob2 : decide (200 < (ob.length : Int)) = true := decide_eq_true hob
      (rw [wpSegsR_inl]; simp only [pickOps, List.map_cons, List.map_nil, List.getD_cons_succ, List.getD_cons_zero]; (repeat (go_big_quiet_step (fail))); refine wpQuiet_nil ?_)
      rw [wpSegsR_nil]
      have HTW := Lib.hid (HT.out.ext X1.out)
      go_wp2_with (go_at_call 10; refine (awake_any HTW.out).mono ?_; rintro e wz ⟨rfl, xz⟩)
      go_ret
      exact ⟨rfl, X1.out.trans xz⟩
    · have hob2 : decide (200 < (ob.length : Int)) = false := decide_eq_false hob
      have HOB := Lib.hid (show ob.length ≤ 1000000 by omega)
      (rw [wpSegsR_inl]; simp only [pickOps, List.map_cons, List.map_nil, List.getD_cons_succ, List.getD_cons_zero]; (repeat (go_big_quiet_step (fail))); refine wpQuiet_nil ?_)
      rw [wpSegsR_nil]
      clear hob hob2
      have HOPX := Lib.hid (HOPS.out.ext X1.out)
      have HSM := Lib.hid (show xs.length ≤ 30 ∧ ∀ o ∈ xs, o.nm.length ≤ 120 from by
        obtain ⟨h1, h2⟩ := HR.out rfl
        exact ⟨by simp at h1; omega, fun o ho => h2 o (List.mem_cons_of_mem _ ho)⟩)
      have HON := Lib.hid (show on.length ≤ 120 from (HR.out rfl).2 ⟨ok, on, ow⟩ (by simp))
      by_cases hp : p < 1 ∨ 200 < p
      · have HMD := Lib.hid (made_bad (w := w1) (A := A) (n := n) (c := c) hp)
        clear hp
        go_wp2_with (first | (refine wpList_get 24 _ rfl _ rfl mb 0 24 _ [.int .i64 p, .slice A n c] N1.out rfl (by kernel_rfl) Tryd.underlying24 rfl size24 ?_) | (go_at_call 11; refine HMD.out.mono ?_; rintro e w2 ⟨rfl, x2⟩; refine stop_of ?_))
        unfold Stop
        have X2 := Lib.hid (X1.out.trans x2)
        have HTW := Lib.hid (HT.out.ext X2.out)
        clear x2
        go_wp2_with (go_at_call 10; refine (awake_any HTW.out).mono ?_; rintro e wz ⟨rfl, xz⟩)
        go_ret
        exact ⟨rfl, X2.out.trans xz⟩
      · obtain ⟨pn, rfl⟩ : ∃ pn : Nat, p = pn := ⟨p.toNat, by omega⟩
        have HMD := Lib.hid (made_any HOPX.out HSM.out (HT.out.ext X1.out) (p := pn) (by omega) (by omega))
        clear hp
        go_wp2_with (first | (refine wpList_get 24 _ rfl _ rfl mb 0 24 _ [.int .i64 pn, .slice A n c] N1.out rfl (by kernel_rfl) Tryd.underlying24 rfl size24 ?_) | (go_at_call 11; refine HMD.out.mono ?_; rintro e w2 ⟨b, x, rfl, h2⟩; refine stop_of ?_))
        unfold Stop
        have HP := Lib.hid h2
        have X2 := Lib.hid (X1.out.trans h2.base)
        obtain ⟨L, hL⟩ : ∃ L, L = doL xs := ⟨_, rfl⟩
        rw [← hL] at HP
        clear h2 hL HMD
        have HK := Lib.hid HP.out.ok
        have HPO := Lib.hid (p_owners HP.out HOB.out 64)
        go_wp2_with (go_at_call 12; refine HPO.out.mono ?_; rintro e w3 ⟨v3, rfl, r3, x3⟩; refine stop_of ?_)
        unfold Stop
        rw [ordL_all HK.out] at r3
        obtain ⟨lo, hlo⟩ : ∃ lo, lo = ordL pd pn (hashL ob) L := ⟨_, rfl⟩
        rw [← hlo] at r3
        obtain ⟨ln, hln⟩ : ∃ ln, ln = lo.length := ⟨_, rfl⟩
        have HL64 := Lib.hid (show ln ≤ 64 by rw [hln, hlo, ordL_len pn (hashL ob) HK.out.nd]; exact HK.out.len)
        obtain ⟨A3, c3, hv3⟩ := own_slice r3
        rw [← hln] at hv3
        subst hv3
        have HLO := Lib.hid hlo; have HL1 := Lib.hid hln.symm
        have R3 := Lib.hid r3
        have HP3 := Lib.hid (HP.out.hold x3)
        have HPA := Lib.hid (p_add HP3.out (by omega) (n := on) (by have := HON.out; omega) ow)
        have k1 := HP3.out.base.cell (blk_cell V1.out 1)
        have k2 := HP3.out.base.cell (blk_cell V1.out 2)
        try simp only [List.getElem?_toArray, List.getElem?_cons_succ, List.getElem?_cons_zero] at k1 k2
        clear r3 x3 HPO hlo hln
        go_wp2_with (go_at_call 16; refine HPA.out.mono ?_; rintro e w4 ⟨rfl, h4, q4⟩; refine stop_of ?_)
        unfold Stop
        obtain ⟨ec, hec⟩ : ∃ ec, ec = addC L on ow := ⟨_, rfl⟩
        rw [← hec]
        have HEC := Lib.hid hec
        have X4 := Lib.hid (X1.out.trans h4.base)
        clear k1 k2 hec HPA
        by_cases hc : ec = 0
        · have h4 := h4
          rw [addL, ← HEC.out, if_pos hc] at h4
          subst hc
          have HWT0 := Lib.hid (addC_ok HEC.out.symm).2.2.2.1
          have HP4 := Lib.hid h4
          have R4 := Lib.hid (R3.out.keep (w' := w4) fun g hg hg2 => q4 g (.inr ⟨hg, hg2⟩))
          have HPO := Lib.hid (p_owners HP4.out HOB.out 64)
          have HK2 := Lib.hid h4.ok
          clear h4 q4
          go_wp2_with (go_at_call 12; refine HPO.out.mono ?_; rintro e w5 ⟨v5, rfl, r5, x5⟩; refine stop_of ?_)
          unfold Stop
          rw [ordL_all HK2.out] at r5
          obtain ⟨lo2, hlo2⟩ : ∃ lo2, lo2 = ordL pd pn (hashL ob) (L ++ [(on, ow.toNat)]) := ⟨_, rfl⟩
          rw [← hlo2] at r5
          obtain ⟨ln2, hln2⟩ : ∃ ln2, ln2 = lo2.length := ⟨_, rfl⟩
          have HLN2 := Lib.hid (show ln2 = (L ++ [(on, ow.toNat)]).length by rw [hln2, hlo2, ordL_len pn (hashL ob) HK2.out.nd])
          have HL642 := Lib.hid (show ln2 ≤ 64 by rw [HLN2.out]; exact HK2.out.len)
          obtain ⟨A5, c5, hv5⟩ := own_slice r5
          rw [← hln2] at hv5
          subst hv5
          have HLO2 := Lib.hid hlo2; have HL2 := Lib.hid hln2.symm
          have T5 := Lib.hid r5.texts
          have X45 := Lib.hid x5
          have HP5 := Lib.hid (HP4.out.ext x5)
          have KB := Lib.hid (HP5.out.base.cell (blk_cell V1.out 1))
          have hln3 : (ln2 : Int) ≤ 64 := by have := HL642.out; omega
          clear r5 x5 HPO hlo2 hln2
          go_wp2_with fail
          go_loopw [63, 11, 13] (fun i s _ wr => ∃ (j q : Nat) (Ao : Option Addr) (co : Nat), j ≤ ln2 ∧ i = .int .i64 j ∧ s = .slice Ao q co ∧ Hid (SRow wr w5.heap.size (.slice Ao q co) ((lo2.take j).filter fun a => a != on)) ∧ Hid (Ext w5 wr)) (fun i _ _ _ => ln2 - (RowKit.intOf i).toNat)
          case atStart => exact ⟨0, 0, none, 0, by omega, rfl, rfl, Lib.hid (World.ownsRow_nil _ _ _ _), Lib.hid (Ext.refl _)⟩
          case round =>
            obtain ⟨j, q, Ao, co, hj, rfl, rfl, HR, HX⟩ := hrel
            by_cases hlt : j < ln2
            · have hjs : j < lo2.length := by rw [HL2.out]; exact hlt
              obtain ⟨b4, o4, rfl, k4⟩ := (T5.out.ext HX.out).cell hjs
              have hft := filt_take (fun a => a != on) lo2 hjs
              obtain ⟨yn, hyn⟩ : ∃ y, y = lo2[j] := ⟨_, rfl⟩
              rw [← hyn] at k4 hft
              have HFT := Lib.hid hft
              clear hjs hft hyn
              have kb := HX.out.cell KB.out; try simp only [List.getElem?_toArray, List.getElem?_cons_succ, List.getElem?_cons_zero] at kb
              by_cases hy : yn = on
              · subst hy
                have hb : (!(yn == yn)) = false := by simp
                go_wp2
                go_roundw
                case rel => exact ⟨j + 1, q, Ao, co, by omega, by go_num, rfl, by have h := HFT.out; simp at h; rw [h]; exact HR, HX⟩
                case measure => simp [RowKit.intOf]; omega
              · have hb : (!(yn == on)) = true := by simp [hy]
                have HB3 := Lib.hid (show (if yn != on then [yn] else []) = [yn] from by simp [hy])
                obtain ⟨out, hout⟩ : ∃ out, out = (lo2.take j).filter fun a => a != on := ⟨_, rfl⟩
                rw [← hout] at HR
                have hq : out.length ≤ 64 := by rw [hout]; exact Nat.le_trans (List.length_filter_le _ _) (by simp; have := HL642.out; omega)
                have HQ := Lib.hid hq
                have hft2 : (lo2.take (j + 1)).filter (fun a => a != on) = out ++ [yn] := by rw [HFT.out, hout]; exact congrArg _ HB3.out
                have HFT2 := Lib.hid hft2
                have RA := Lib.hid (ownsRow_below HR.out (ext_alloc1 wr (.cells #[.string ⟨yn.toArray⟩] 9)))
                have XA := Lib.hid (HX.out.trans (ext_alloc1 wr (.cells #[.string ⟨yn.toArray⟩] 9)))
                clear hy hout hq hft2 HFT HB3
                go_wp2_with (refine wpList_appendS rfl _ _ rfl yn (ss := out) RA.out rfl wr.heap.size rfl (heap_alloc_new wr _) (by have := HQ.out; omega) XA.out.size ?_; intro v5 W5 r5 g5; refine stop_of ?_)
                unfold Stop
                obtain ⟨A5, c5, hv5⟩ := own_slice r5
                subst hv5
                have R5 := Lib.hid (show SRow W5 w5.heap.size (.slice A5 (out ++ [yn]).length c5) ((lo2.take (j + 1)).filter fun a => a != on) from by rw [HFT2.out]; exact r5)
                have X5 := Lib.hid (show Ext w5 W5 from RowKit.Below.trans XA.out (own_below RA.out g5 XA.out.size))
                obtain ⟨q5, hq5⟩ : ∃ q5, q5 = (out ++ [yn]).length := ⟨_, rfl⟩
                rw [← hq5] at R5 ⊢
                clear r5 g5 hq5
                go_wp2_with fail
                go_roundw
                case rel => exact ⟨j + 1, q5, A5, c5, by omega, by go_num, rfl, R5, X5⟩
                case measure => simp [RowKit.intOf]; omega
            · have hjn : lo2.take j = lo2 := List.take_of_length_le (by have := HL2.out; omega)
              rw [hjn] at HR
              have RQ := HR
              clear hjn HR
              have XW := Lib.hid ((X1.out.trans HP5.out.base).trans HX.out)
              have HP6 := Lib.hid (HP5.out.ext HX.out)
              have HPW := Lib.hid (p_owner HP6.out HOB.out)
              go_wp2_with (go_at_call 13; refine HPW.out.mono ?_; rintro e w6 ⟨rfl, x6⟩; refine stop_of ?_)
              unfold Stop
              have hmo : lo2.filter (fun a => a != on) = lo := by rw [HLO2.out, HLO.out]; exact ordL_more pn (hashL ob) (L := L) (x := (on, ow.toNat)) HK2.out.nd
              rw [hmo] at RQ
              rw [← HLO2.out]
              obtain ⟨y0, hr0⟩ : ∃ y r, lo2 = y :: r := by
                cases hl : lo2 with
                | nil => have h1 := HL2.out; have h2 := HLN2.out; rw [hl] at h1; simp at h1; simp at h2; omega
                | cons y r => exact ⟨y, r, rfl⟩
              obtain ⟨r0, hr0⟩ := hr0
              have hwho : whoL lo2 = y0 := by rw [hr0]; rfl
              rw [hwho]
              have HFO := Lib.hid (show y0 ≠ on → ∃ r, lo = y0 :: r from fun hne => by rw [← hmo, hr0]; simp [hne])
              obtain ⟨bb, hbb⟩ : ∃ bb, bb = decide (L ++ [(on, ow.toNat)] ≠ []) := ⟨_, rfl⟩
              try rw [← hbb]
              have R3 := Lib.hid (SRow.ext (SRow.ext (SRow.ext R4.out X45.out) HX.out) x6)
              have hs := same_any w6 _ _ lo lo (SRow.texts (SRow.ext RQ.out x6)) R3.out.texts (by rw [HL1.out]; have := HL64.out; omega) (by rw [HL1.out]; have := HL64.out; omega)
              rw [show decide (lo = lo) = true from decide_eq_true rfl] at hs
              have HS := Lib.hid hs
              have X6 := Lib.hid (XW.out.trans x6)
              have HP7 := Lib.hid (HP6.out.ext x6)
              clear x6 hs HPW hmo hr0 hwho hbb
              go_wp2_with (go_at_call 15; refine HS.out.mono ?_; rintro e w7 ⟨rfl, x7⟩; refine stop_of ?_)
              unfold Stop
              have kb7 := HP7.out.base.trans x7 |>.cell (blk_cell V1.out 1)
              try simp only [List.getElem?_toArray, List.getElem?_cons_succ, List.getElem?_cons_zero] at kb7
              have X7 := Lib.hid (X6.out.trans x7)
              have hh := d_has (HP7.out.ext x7) (n := on) (by have := HON.out; omega)
              rw [show ((wt L on : Nat) : Int) = 0 from by have := HWT0.out; omega] at hh
              have HH := Lib.hid hh
              have R7 := Lib.hid (SRow.ext R3.out x7)
              clear x7 hh HS
              by_cases hw : y0 = on
              · subst hw
                have hyy : (y0 == y0) = true := by simp
                go_wp2_with (go_at_call 17; refine HH.out.mono ?_; rintro e w8 ⟨rfl, x8⟩; refine stop_of ?_)
                unfold Stop
                have X8 := Lib.hid (X7.out.trans x8)
                have HTW := Lib.hid (HT.out.ext X8.out)
                clear x8 HH kb7
                go_wp2_with (go_at_call 10; refine (awake_any HTW.out).mono ?_; rintro e wz ⟨rfl, xz⟩)
                go_ret
                exact ⟨rfl, X8.out.trans xz⟩
              · obtain ⟨r1, hl1⟩ := HFO.out hw
                have hyy : (y0 == on) = false := by simp [hw]
                have hlp : (0 : Int) < (ln : Int) := by have := HL1.out; rw [hl1] at this; simp at this; omega
                obtain ⟨b9, o9, rfl, k9⟩ := R7.out.texts.cell (j := 0) (by rw [hl1]; simp)
                simp only [hl1, List.getElem_cons_zero, Nat.add_zero] at k9
                have hy2 : (y0 == y0) = true := by simp
                clear hw hl1
                go_wp2_with (go_at_call 17; refine HH.out.mono ?_; rintro e w8 ⟨rfl, x8⟩; refine stop_of ?_)
                unfold Stop
                have X8 := Lib.hid (X7.out.trans x8)
                have HTW := Lib.hid (HT.out.ext X8.out)
                clear x8 HH kb7 k9
                go_wp2_with (go_at_call 10; refine (awake_any HTW.out).mono ?_; rintro e wz ⟨rfl, xz⟩)
                go_ret
                exact ⟨rfl, X8.out.trans xz⟩

        · have hc1 : (ec == 0) = false := by simp [hc]
          have hc2 : decide (ec = 0) = false := decide_eq_false hc
          have HTW := Lib.hid h4.tab
          clear h4 q4
          go_wp2_with (go_at_call 10; refine (awake_any HTW.out).mono ?_; rintro e wz ⟨rfl, xz⟩)
          go_ret
          exact ⟨rfl, X4.out.trans xz⟩
end
open Go.ChangeShapes Go.WideShapes Go.ChangeAt
set_option maxRecDepth 100000 in
theorem ringMore_contract (H : Type) (enc : TypeId × Value → H) (W : World) (base : Nat) (args : Array Value) (ds gs : List (DataW H)) (before : List MemPlace)
    (hval : ∀ (j : Nat) t v, Tryd.f4.params[j]? = some t → args[j]? = some v → Value.okWide Tryd.prog W .any base t v)
    (hW : DataW.Whole enc Tryd.prog Tryd.f4.params.toList Rows.ringMoreSpec.vars false W args.toList ds gs before)
    (hsz : (DataW.weightsEach Tryd.prog (Tryd.f4.params.toList ++ (OpenSpec.ofChange Rows.ringMoreSpec).bare.plain.varTypes Tryd.prog) (ds ++ gs)).all (· ≤ reachBytes) = true) (hL : laidMetH Tryd.prog laid3 W) :
    Calls Tryd.prog 4 args W fun e W' => ∃ v, e = .returned v ∧ Rows.ringMoreSpec.post enc Tryd.prog Tryd.f4 false true false false W args v W' := by
  have hW' := hW
  have hT := tab_of hL
  obtain ⟨p, q, hA0, hV, rfl, hfz, hnd⟩ := hW
  have hA : DataW.TrodAll enc Tryd.prog W 0 (fun _ => true) true Tryd.f4.params.toList args.toList ds p := hA0
  rw [Tryd.params4] at hA hval
  obtain ⟨v0, vs0, d0, ds0, p0, q0, hargs, rfl, rfl, h0, r0⟩ := trodAll_cons hA
  obtain ⟨v1, vs1, d1, ds1, p1, q1, rfl, rfl, rfl, h1, r1⟩ := trodAll_cons r0
  obtain ⟨v2, vs2, d2, ds2, p2, q2, rfl, rfl, rfl, h2, r2⟩ := trodAll_cons r1
  obtain ⟨rfl, rfl, rfl⟩ := trodAll_nil r2
  obtain rfl : args = #[v0, v1, v2] := by cases args; simp_all
  obtain ⟨rfl, rfl⟩ := trodVars_none hV
  have lt0 : ∀ x ∈ p0, x.block < W.heap.size := by obtain ⟨m, hm⟩ := h0; exact DataW.trod_lt m _ _ _ hm
  have t0 := fun W' (bel : Below W.heap.size W W') => Below.trod laidOut (by kernel_rfl) (of_decide_eq_true (by kernel_rfl)) h0 bel lt0
  have lt1 : ∀ x ∈ p1, x.block < W.heap.size := by obtain ⟨m, hm⟩ := h1; exact DataW.trod_lt m _ _ _ hm
  have t1 := fun W' (bel : Below W.heap.size W W') => Below.trod laidOut (by kernel_rfl) (of_decide_eq_true (by kernel_rfl)) h1 bel lt1
  have lt2 : ∀ x ∈ p2, x.block < W.heap.size := by obtain ⟨m, hm⟩ := h2; exact DataW.trod_lt m _ _ _ hm
  have t2 := fun W' (bel : Below W.heap.size W W') => Below.trod laidOut (by kernel_rfl) (of_decide_eq_true (by kernel_rfl)) h2 bel lt2
  obtain ⟨q0, A0, xs0, c0, rfl, ha0, hl0⟩ := make_open (hval 0 24 v0 rfl rfl) h0
  obtain ⟨o1, rfl⟩ := op_open (hval 1 38 v1 rfl rfl) h1
  obtain ⟨s2, rfl⟩ := str_of (hval 2 9 v2 rfl rfl) h2
  clear hA0
  refine (more_walk  ha0 hl0 hT (make_weight (wok_arg hsz (j := 0) rfl rfl) h0)).mono fun e W' ⟨he, hx⟩ => ?_
  have bel : Below W.heap.size W W' := hx
  subst he
  exact ⟨_, rfl, _, _, _, [], _, [], hW', trodAll_mk1 (shut_bool Tryd.underlying4 _), (trodAll_cons_mk (t0 W' bel) (trodAll_cons_mk (t1 W' bel) (trodAll_cons_mk (t2 W' bel) trodAll_mk0))), rfl, bel.frame _, fun h => by cases h⟩

set_option maxRecDepth 100000 in
theorem ringMore_reads (os : Os) {H : Type} (enc : TypeId × Value → H) : ∃ x, DataW.whole enc Tryd.prog ((laidWorld os).forCall (fun _ _ => 0) ⟨#[], #[.agg #[.int .i64 0, .slice none 0 0], .agg #[.int .u8 0, .string ⟨#[]⟩, .int .i64 0], .string ⟨#[]⟩], []⟩).memory Tryd.f4.params.toList Rows.ringMoreSpec.vars false (#[.agg #[.int .i64 0, .slice none 0 0], .agg #[.int .u8 0, .string ⟨#[]⟩, .int .i64 0], .string ⟨#[]⟩] : Array Value).toList 8 = some x :=
  Option.isSome_iff_exists.1 (by kernel_rfl)
set_option maxRecDepth 100000 in
theorem ringMore_lifted (os : Os) (started : os.Started) (H : Type) (enc : TypeId × Value → H) (F : Stop.Interp) :
    ReturnsInHanded {} Tryd.checked os 4 .any ((OpenSpec.ofChange Rows.ringMoreSpec).preRow enc Tryd.prog Tryd.f4 Rows.ringMoreRow.domain false Rows.ringMoreRow.laid) (((OpenSpec.ofChange Rows.ringMoreSpec).at F).post enc Tryd.prog Tryd.f4 false true false false) := by
  obtain ⟨x, hx⟩ := ringMore_reads os enc
  refine returnsInHanded_of_row (C := Tryd.checked) (s := OpenSpec.ofChange Rows.ringMoreSpec) own started (by kernel_rfl) Tryd.func4
    (witness_row_at (enc := enc) (C := Tryd.checked) false (laidWorld os) #[.agg #[.int .i64 0, .slice none 0 0], .agg #[.int .u8 0, .string ⟨#[]⟩, .int .i64 0], .string ⟨#[]⟩] (World.laidAll_os _ _ _) (by kernel_rfl) (by kernel_rfl) (by kernel_rfl)
      (OpenSpec.preRow_of_cond 8 hx rfl (fun k hk => by cases hk) (by kernel_rfl) (laid_met os _))) ?_
  intro W base args ds gs before hval hW _ _ hsz hL _ _
  exact ringMore_contract H enc W base args ds gs before hval hW hsz hL
theorem ringMore_said : Rows.RingMoreSaid :=
  OpenClaim.holds_of_cond 4 Tryd.f4 rfl rfl rfl rfl rfl rfl rfl ⟨rfl, rfl, rfl, rfl, rfl⟩ rfl rfl rfl rfl rfl (by kernel_rfl) Tryd.func4 (by kernel_rfl)
    (of_decide_eq_true (by kernel_rfl)) (by unfold Func.isWrapper; first | (rw [if_pos (by decide +kernel)]; kernel_rfl) | (rw [if_neg (by decide +kernel)]; exact ⟨rfl, rfl⟩))
    (fun os started H enc _ F => by rw [OpenClaim.pre_eq_preRow]; exact ringMore_lifted os started H enc F)
theorem ringMore_plain (f : FuncId) (fn : Func) (hf : Tryd.pinned.checked.prog.funcNamed Rows.ringMoreRow.func = some f) (hfn : Tryd.pinned.checked.prog.funcs[f]? = some fn) :
    false = Tryd.pinned.checked.prog.looks [] ∧ ∀ (j : Nat) t, fn.params[j]? = some t → Tryd.pinned.checked.prog.wantsStandIn t = false := by
  obtain rfl : f = 4 := Option.some.inj ((show Tryd.prog.funcNamed Rows.ringMoreRow.func = some 4 by kernel_rfl).symm.trans hf) |>.symm
  obtain rfl : fn = Tryd.f4 := (Option.some.inj (Tryd.func4.symm.trans hfn)).symm
  refine ⟨by kernel_rfl, fun j t ht => ?_⟩
  rw [Tryd.params4] at ht
  have hm : t ∈ [24, 38, 9] := by simpa using Array.mem_of_getElem? ht
  have hall : ([24, 38, 9].all fun u => !Tryd.prog.wantsStandIn u) = true := by kernel_rfl
  exact (show Tryd.prog.wantsStandIn t = false by simpa using List.all_eq_true.1 hall t hm)
/-- The statement. -/
theorem RingMore_proved : Rows.RingMoreCardSaid :=
  Claim7.holds_tied_plain_at .later [] _ _ _ _ ringMore_said (fun _ h => by cases h) (by kernel_rfl) (fun _ h => by cases h) ringMore_row_tie rfl ⟨rfl, rfl⟩ (by kernel_rfl) rfl ringMore_plain (by kernel_rfl)
#print axioms RingMore_proved
end Go.Proofs.YtjphpblangeblaaDoor
