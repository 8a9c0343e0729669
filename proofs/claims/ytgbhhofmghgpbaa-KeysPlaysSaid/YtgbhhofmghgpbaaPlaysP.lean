/- Proved: KeysPlays, for every input: each answer, and all keys behind it, are what the document says. -/
import Derived.Test.YtgbhhofmghgpbaaPlays0
namespace Go.Proofs.Ytgbhhofmghgpbaa
open Go.ChangeShapes Go.WideShapes Go.ChangeAt Go.RowKit Go.Deep Go.Joins
open Go.Sort Go.Shelf Go.Maps Go.ChangeMaps
set_option linter.unusedVariables false

set_option maxRecDepth 100000 in
set_option maxHeartbeats 8000000 in
theorem plays_walk (xs : List OpV) (A : Option Addr) (c : Nat) (w : World) (hO : OpsAt w A xs) (hlen : xs.length ≤ 9223372036854775807) :
    Calls Try.prog 4 #[.slice A xs.length c] w fun e w' => e = .returned (.bool true) ∧ Below w.heap.size w w' := by
  obtain ⟨m, hm⟩ : ∃ m, m = xs.length := ⟨_, rfl⟩
  have hsm := small_any w A xs c hO hlen
  rw [← hm] at hlen hsm ⊢
  have HSM := Lib.hid hsm; have HM := Lib.hid hm; have HO := Lib.hid hO
  clear hsm hm hO
  go_enter Try.func4, Try.ntmps4
  go_wp2_with fail
  refine HSM.out.mono ?_
  rintro e w1 ⟨r, rfl, hr, x1⟩
  clear HSM
  have X1 := Lib.hid x1
  clear x1
  cases r with
  | false =>
    clear hr
    go_wp2_with fail
    refine (awake_any _).mono ?_
    rintro e w2 ⟨rfl, x2⟩
    have X2 := Lib.hid (X1.out.trans x2)
    clear x2
    go_wp2
    go_ret
    exact ⟨rfl, X2.out⟩
  | true =>
    have HR := Lib.hid (hr rfl)
    have HO1 := Lib.hid (HO.out.ext X1.out)
    clear hr HO
    go_wp2_with fail
    refine (new_any _).mono ?_
    rintro e w2 ⟨rfl, p2, x2⟩
    obtain ⟨B, hBB⟩ : ∃ B, B = w1.heap.size := ⟨_, rfl⟩
    rw [← hBB] at p2 ⊢
    obtain ⟨x, hxx⟩ : ∃ x, x = w2.heap.size := ⟨_, rfl⟩
    have HBB := Lib.hid hBB
    have T2 : Hid (Two w1 B x (0 + 2 * manyO (xs.take 0)) [] (w2.alloc (.cells #[.slice none 0 0] 40))) := Lib.hid (by
      have hB : B ≤ w2.heap.size := by rw [hBB]; exact x2.size
      refine ⟨by simpa [manyO] using p2.ext (alloc_ext _ _), ⟨by omega, _, by rw [hxx]; exact heap_alloc_new w2 _, World.ownsRow_nil _ _ _ _⟩, by simp, by simp [manyO], ?_, by simp; omega⟩
      have := x2.trans (alloc_ext w2 (.cells #[.slice none 0 0] 40))
      rw [hBB]; exact this)
    have HXX := Lib.hid hxx
    clear p2 x2 hBB hxx
    go_wp2_with fail
    rw [← HXX.out]
    go_loopw [18, 6] (fun i _ wr => ∃ j : Nat, ∃ L, j ≤ m ∧ i = .int .i64 j ∧ Two w1 B x (j + 2 * manyO (xs.take j)) L wr ∧ L.length ≤ manyO (xs.take j)) (fun i _ _ => m - (intOf i).toNat)
    case atStart => exact ⟨0, [], by omega, rfl, T2.out, by simp⟩
    case round =>
      clear T2
      obtain ⟨j, L, hj, rfl, hr, hL⟩ := hrel
      have R := Lib.hid hr; have HL := Lib.hid hL
      clear hr hL
      have hbel : Ext w1 wr := by have := R.out.bel; rw [HBB.out] at this; exact this
      by_cases hlt : j < m
      · have hjs : j < xs.length := by rw [← HM.out]; exact hlt
        have tB := (HO1.out j hjs)
        obtain ⟨ba, off, rfl, hb, k0, k1, k2, b0, b1, tA⟩ := (HO1.out.ext hbel) j hjs
        have htk : xs.take (j + 1) = xs.take j ++ [xs[j]] := List.take_succ_eq_append_getElem hjs
        have hsk := HR.out.key (o := xs[j]) (by simp)
        obtain ⟨o, ho⟩ : ∃ o, o = xs[j] := ⟨_, rfl⟩
        rw [← ho] at k0 k1 k2 b0 b1 tA htk hsk tB
        obtain ⟨kd, id, kv, ks⟩ := o
        dsimp only at k0 k1 k2 b0 b1 tA hsk tB
        have TK : Hid (Texts B w1 kv ks) := Lib.hid (by
          obtain ⟨_, _, _, _, _, _, _, _, _, t⟩ := tB
          rw [HBB.out]; exact t.1)
        have hM1 : manyO (xs.take (j + 1)) = manyO (xs.take j) + ks.length := by rw [htk, manyO_append]; simp [manyO]
        have hle := manyO_take xs (j + 1)
        have HN : Hid (j + 1 + 2 * manyO (xs.take (j + 1)) ≤ 1000 ∧ manyO (xs.take (j + 1)) ≤ 120) := Lib.hid (by have := HR.out.1; have := HR.out.2.1; have := HM.out; omega)
        have HM1 := Lib.hid hM1; have HSK := Lib.hid hsk
        obtain ⟨A', c', hkv, -⟩ := tA.1
        obtain ⟨n, hn⟩ : ∃ n, n = ks.length := ⟨_, rfl⟩
        rw [← hn] at hkv
        have HCAP := Lib.hid tA.2.1
        clear hM1 hle htk ho hjs tA hsk b0 hn tB hbel
        subst hkv
        obtain ⟨wO, hwO⟩ : ∃ wO, wO = wr.alloc (.cells #[.int .u8 kd, .int .i64 id, .slice A' n c'] 30) := ⟨_, rfl⟩
        obtain ⟨o, hoo⟩ : ∃ o, o = wr.heap.size := ⟨_, rfl⟩
        have RO : Hid (Two w1 B x (j + 2 * manyO (xs.take j)) L wO) := Lib.hid (by rw [hwO]; exact R.out.ext (alloc_ext _ _))
        have OB : Hid (wO.heap[o]? = some (.cells #[.int .u8 kd, .int .i64 id, .slice A' n c'] 30 (0, 0))) := Lib.hid (by rw [hwO, hoo]; exact heap_alloc_new wr _)
        have HOB : Hid (B < o) := Lib.hid (by
          obtain ⟨p, q, hb⟩ := R.out.ki.blk
          rw [hoo]; exact blk_lt hb)
        have HWO := Lib.hid hwO; have HOO := Lib.hid hoo
        clear R hwO hoo
        cases hk0 : ((kd : Int) % 4 == 0)
        · cases hk1 : ((kd : Int) % 4 == 1)
          · cases hk2 : ((kd : Int) % 4 == 2)
            · go_wp2_with fail
              rw [← HWO.out, ← HOO.out]
              clear HWO
              obtain ⟨wS, hwS⟩ : ∃ wS, wS = wO := ⟨_, rfl⟩
              rw [← hwS] at RO OB ⊢
              obtain ⟨L', RS⟩ : ∃ L', Hid (Two w1 B x (j + 1 + 2 * manyO (xs.take (j + 1))) L' wS ∧ L'.length ≤ manyO (xs.take (j + 1))) := ⟨L, Lib.hid ⟨RO.out.more (by rw [HM1.out]; omega) HN.out.1, by rw [HM1.out]; have := HL.out; omega⟩⟩
              have OS := OB
              clear RO OB hwS
              have XD : Hid (Ext wS wS.drew) := Lib.hid (Ext.drew (Ext.refl _))
              have GS : ∀ y : Grow [] wS.drew, y.v.cell? ⟨o, 1, none⟩ = some (.int .i64 id) := fun y => y.ext.cell (a := wS.drew) (blk_cell OS.out 1) (by simp)
              have hof := ofN wS.drew B B _ L' id (RS.out.1.ki.ext XD.out) b1
              have HOF := Lib.hid hof
              clear hof
              refine wp_region_segs [] [.inl [0, 1, 2, 4, 5, 6], .inr (.inl 3), .inr (.inl 7), .inr (.inl 8), .inl [9, 10, 11, 13], .inr (.inl 12), .inr (.inl 14), .inr (.inl 15), .inl [16, 17]] (by kernel_rfl) (by kernel_rfl) (fun c a d v w h => by cases d <;> exact h) ?_
              (rw [wpSegs_inl]; simp only [pickOps, List.map_cons, List.map_nil, List.getD_cons_succ, List.getD_cons_zero]; (repeat (go_big_quiet_step (fail))); refine wpQuiet_nil ?_)
              clear GS
              (rw [wpSegs_grow]; simp only [pickOps, List.map_cons, List.map_nil, List.getD_cons_succ, List.getD_cons_zero]; go_wp2_with ((go_at_call 19; refine HOF.out.mono ?_; rintro e wa ⟨va, rfl, na, xa⟩)))
              refine ⟨.of xa _, ?_⟩
              have XA := Lib.hid (XD.out.trans xa); have NA := Lib.hid na
              clear HOF xa na
              have hro := rof_any wa B x L' id (RS.out.1.rat.ext XA.out) (by have := RS.out.1.few; omega)
              have HRO := Lib.hid hro
              clear hro
              (rw [wpSegs_grow]; simp only [pickOps, List.map_cons, List.map_nil, List.getD_cons_succ, List.getD_cons_zero]; go_wp2_with ((go_at_call 20; refine HRO.out.mono ?_; rintro e wb ⟨vb, ys, rfl, nb, sb, mb, xb⟩)))
              refine ⟨.of xb _, ?_⟩
              have eys := RS.out.1.ofs sb mb
              subst eys
              have hlk : (sortS (keysL L' id)).length ≤ 1000000 := by rw [sortS_len]; have := keysL_len L' id; have := RS.out.1.few; omega
              have hsa := same_any wb _ _ va vb _ _ (texts_up xb NA.out) nb.texts hlk hlk
              rw [decide_eq_true rfl] at hsa
              have HSA := Lib.hid hsa; have XB := Lib.hid (XA.out.trans xb)
              clear hsa nb sb mb xb HRO NA XA hlk
              (rw [wpSegs_grow]; simp only [pickOps, List.map_cons, List.map_nil, List.getD_cons_succ, List.getD_cons_zero]; go_wp2_with ((go_at_call 18; refine HSA.out.mono ?_; rintro e wc ⟨rfl, xc⟩)))
              refine ⟨.of xc _, ?_⟩
              have XC := Lib.hid (XB.out.trans xc)
              clear xc HSA XB
              (rw [wpSegs_inl]; simp only [pickOps, List.map_cons, List.map_nil, List.getD_cons_succ, List.getD_cons_zero]; (repeat (go_big_quiet_step (fail))); refine wpQuiet_nil ?_)
              have hke := keysN wc B B _ L' (RS.out.1.ki.ext XC.out) (by have := RS.out.1.room; omega)
              have HKE := Lib.hid hke
              clear hke
              (rw [wpSegs_grow]; simp only [pickOps, List.map_cons, List.map_nil, List.getD_cons_succ, List.getD_cons_zero]; go_wp2_with ((go_at_call 21; refine HKE.out.mono ?_; rintro e wd ⟨vd, ss, rfl, nd, dd, md, sd, ld, xd⟩)))
              refine ⟨.of xd _, ?_⟩
              have XE := Lib.hid (XC.out.trans xd); have ND := Lib.hid nd; have DD := Lib.hid dd; have MD := Lib.hid md; have SD := Lib.hid sd; have LD := Lib.hid ld
              clear HKE nd dd md sd ld xd XC
              have hrk := rkeys_any wd B x L' (RS.out.1.rat.ext XE.out) (by have := RS.out.1.few; omega)
              have HRK := Lib.hid hrk
              clear hrk
              (rw [wpSegs_grow]; simp only [pickOps, List.map_cons, List.map_nil, List.getD_cons_succ, List.getD_cons_zero]; go_wp2_with ((go_at_call 22; refine HRK.out.mono ?_; rintro e wf ⟨vf, ys, rfl, nf, sf, mf, xf⟩)))
              refine ⟨.of xf _, ?_⟩
              have eys := texts_same (n0 := 0) (n1 := 0) (w := wf) DD.out sf SD.out fun t => (MD.out t).trans (mf t).symm
              subst eys
              have hlk : ss.length ≤ 1000000 := by have := LD.out; have := RS.out.1.few; omega
              have hsa := same_any wf _ _ vd vf _ _ (texts_up xf ND.out) nf.texts hlk hlk
              rw [decide_eq_true rfl] at hsa
              have HSA := Lib.hid hsa; have XF := Lib.hid (XE.out.trans xf)
              clear hsa nf sf mf xf HRK ND DD MD SD LD XE hlk
              (rw [wpSegs_grow]; simp only [pickOps, List.map_cons, List.map_nil, List.getD_cons_succ, List.getD_cons_zero]; go_wp2_with ((go_at_call 18; refine HSA.out.mono ?_; rintro e wg ⟨rfl, xg⟩)))
              refine ⟨.of xg _, ?_⟩
              have RG := Lib.hid (RS.out.1.ext (XF.out.trans xg))
              clear xg HSA XF
              (rw [wpSegs_inl]; simp only [pickOps, List.map_cons, List.map_nil, List.getD_cons_succ, List.getD_cons_zero]; (repeat (go_big_quiet_step (fail))); refine wpQuiet_nil ?_)
              rw [wpSegs_nil]
              go_wp2
              go_roundw
              case rel => exact ⟨j + 1, L', by omega, by go_num, RG.out, RS.out.2⟩
              case measure => simp [intOf]; omega
            · go_wp2_with fail
              rw [← HWO.out, ← HOO.out]
              have XD0 : Hid (Ext wO wO.drew) := Lib.hid (Ext.drew (Ext.refl _))
              have G2 : ∀ x : Grow [] wO.drew, x.v.cell? ⟨o, 2, none⟩ = some (.slice A' n c') := fun x => x.ext.cell (a := wO.drew) (blk_cell OB.out 2) (by simp)
              have TD : Hid (Texts wO.drew.heap.size wO.drew (.slice A' n c') ks) := Lib.hid (texts_mono (Texts.below (RO.out.ext XD0.out).bel TK.out) (RO.out.ext XD0.out).low)
              have hwi := withN wO.drew B B _ L (.slice A' n c') ks (RO.out.ki.ext XD0.out) TD.out (by have := HSK.out.1; omega) (fun k hk => by have := HSK.out.2 k hk; omega) RO.out.room
              have HWI := Lib.hid hwi
              clear hwi
              refine wp_region_segs [] [.inl [0, 1, 2, 4, 5, 6], .inr (.inl 3), .inr (.inl 7), .inr (.inl 8), .inl [9]] (by kernel_rfl) (by kernel_rfl) (fun c a d v w h => by cases d <;> exact h) ?_
              (rw [wpSegs_inl]; simp only [pickOps, List.map_cons, List.map_nil, List.getD_cons_succ, List.getD_cons_zero]; (repeat (go_big_quiet_step (fail))); refine wpQuiet_nil ?_)
              clear G2
              (rw [wpSegs_grow]; simp only [pickOps, List.map_cons, List.map_nil, List.getD_cons_succ, List.getD_cons_zero]; go_wp2_with ((go_at_call 12; refine HWI.out.mono ?_; rintro e wa ⟨va, zs, rfl, na, da, ma, sa, la, xa⟩)))
              refine ⟨.of xa _, ?_⟩
              have X0 := Lib.hid (XD0.out.trans xa); have NA := Lib.hid na; have DA := Lib.hid da; have MA := Lib.hid ma; have SA := Lib.hid sa; have LA := Lib.hid la
              have hrw := rwith_any wa B x L (.slice A' n c') ks (RO.out.rat.ext X0.out) (by have := RO.out.few; omega) RO.out.ids (texts_up xa TD.out) (by have := HSK.out.1; omega)
              have HRW := Lib.hid hrw
              clear hrw na da ma sa la xa HWI XD0
              (rw [wpSegs_grow]; simp only [pickOps, List.map_cons, List.map_nil, List.getD_cons_succ, List.getD_cons_zero]; go_wp2_with ((go_at_call 17; refine HRW.out.mono ?_; rintro e wb ⟨vb, ys, rfl, nb, sb, mb, xb⟩)))
              refine ⟨.of xb _, ?_⟩
              have eys := nums_same DA.out sb SA.out fun t => (MA.out t).trans (mb t).symm
              subst eys
              have hlk : zs.length ≤ 1000000 := by have := LA.out; have := RO.out.few; omega
              have hsa := numbers_any wb _ _ va vb _ _ (nums_up xb NA.out) nb.nums hlk hlk
              rw [decide_eq_true rfl] at hsa
              have HSA := Lib.hid hsa; have XB := Lib.hid (X0.out.trans xb)
              clear hsa nb sb mb xb HRW NA DA MA SA LA X0 hlk TD
              (rw [wpSegs_grow]; simp only [pickOps, List.map_cons, List.map_nil, List.getD_cons_succ, List.getD_cons_zero]; go_wp2_with ((go_at_call 16; refine HSA.out.mono ?_; rintro e wS ⟨rfl, xc⟩)))
              refine ⟨.of xc _, ?_⟩
              have XS := Lib.hid (XB.out.trans xc)
              clear xc HSA XB
              (rw [wpSegs_inl]; simp only [pickOps, List.map_cons, List.map_nil, List.getD_cons_succ, List.getD_cons_zero]; (repeat (go_big_quiet_step (fail))); refine wpQuiet_nil ?_)
              rw [wpSegs_nil]
              obtain ⟨L', RS⟩ : ∃ L', Hid (Two w1 B x (j + 1 + 2 * manyO (xs.take (j + 1))) L' wS ∧ L'.length ≤ manyO (xs.take (j + 1))) := ⟨L, Lib.hid ⟨(RO.out.ext XS.out).more (by rw [HM1.out]; omega) HN.out.1, by rw [HM1.out]; have := HL.out; omega⟩⟩
              have OS := Lib.hid (XS.out.heap OB.out)
              clear RO OB XS HWO
              go_wp2_with fail
              have XD : Hid (Ext wS wS.drew) := Lib.hid (Ext.drew (Ext.refl _))
              have GS : ∀ y : Grow [] wS.drew, y.v.cell? ⟨o, 1, none⟩ = some (.int .i64 id) := fun y => y.ext.cell (a := wS.drew) (blk_cell OS.out 1) (by simp)
              have hof := ofN wS.drew B B _ L' id (RS.out.1.ki.ext XD.out) b1
              have HOF := Lib.hid hof
              clear hof
              refine wp_region_segs [] [.inl [0, 1, 2, 4, 5, 6], .inr (.inl 3), .inr (.inl 7), .inr (.inl 8), .inl [9, 10, 11, 13], .inr (.inl 12), .inr (.inl 14), .inr (.inl 15), .inl [16, 17]] (by kernel_rfl) (by kernel_rfl) (fun c a d v w h => by cases d <;> exact h) ?_
              (rw [wpSegs_inl]; simp only [pickOps, List.map_cons, List.map_nil, List.getD_cons_succ, List.getD_cons_zero]; (repeat (go_big_quiet_step (fail))); refine wpQuiet_nil ?_)
              clear GS
              (rw [wpSegs_grow]; simp only [pickOps, List.map_cons, List.map_nil, List.getD_cons_succ, List.getD_cons_zero]; go_wp2_with ((go_at_call 19; refine HOF.out.mono ?_; rintro e wa ⟨va, rfl, na, xa⟩)))
              refine ⟨.of xa _, ?_⟩
              have XA := Lib.hid (XD.out.trans xa); have NA := Lib.hid na
              clear HOF xa na
              have hro := rof_any wa B x L' id (RS.out.1.rat.ext XA.out) (by have := RS.out.1.few; omega)
              have HRO := Lib.hid hro
              clear hro
              (rw [wpSegs_grow]; simp only [pickOps, List.map_cons, List.map_nil, List.getD_cons_succ, List.getD_cons_zero]; go_wp2_with ((go_at_call 20; refine HRO.out.mono ?_; rintro e wb ⟨vb, ys, rfl, nb, sb, mb, xb⟩)))
              refine ⟨.of xb _, ?_⟩
              have eys := RS.out.1.ofs sb mb
              subst eys
              have hlk : (sortS (keysL L' id)).length ≤ 1000000 := by rw [sortS_len]; have := keysL_len L' id; have := RS.out.1.few; omega
              have hsa := same_any wb _ _ va vb _ _ (texts_up xb NA.out) nb.texts hlk hlk
              rw [decide_eq_true rfl] at hsa
              have HSA := Lib.hid hsa; have XB := Lib.hid (XA.out.trans xb)
              clear hsa nb sb mb xb HRO NA XA hlk
              (rw [wpSegs_grow]; simp only [pickOps, List.map_cons, List.map_nil, List.getD_cons_succ, List.getD_cons_zero]; go_wp2_with ((go_at_call 18; refine HSA.out.mono ?_; rintro e wc ⟨rfl, xc⟩)))
              refine ⟨.of xc _, ?_⟩
              have XC := Lib.hid (XB.out.trans xc)
              clear xc HSA XB
              (rw [wpSegs_inl]; simp only [pickOps, List.map_cons, List.map_nil, List.getD_cons_succ, List.getD_cons_zero]; (repeat (go_big_quiet_step (fail))); refine wpQuiet_nil ?_)
              have hke := keysN wc B B _ L' (RS.out.1.ki.ext XC.out) (by have := RS.out.1.room; omega)
              have HKE := Lib.hid hke
              clear hke
              (rw [wpSegs_grow]; simp only [pickOps, List.map_cons, List.map_nil, List.getD_cons_succ, List.getD_cons_zero]; go_wp2_with ((go_at_call 21; refine HKE.out.mono ?_; rintro e wd ⟨vd, ss, rfl, nd, dd, md, sd, ld, xd⟩)))
              refine ⟨.of xd _, ?_⟩
              have XE := Lib.hid (XC.out.trans xd); have ND := Lib.hid nd; have DD := Lib.hid dd; have MD := Lib.hid md; have SD := Lib.hid sd; have LD := Lib.hid ld
              clear HKE nd dd md sd ld xd XC
              have hrk := rkeys_any wd B x L' (RS.out.1.rat.ext XE.out) (by have := RS.out.1.few; omega)
              have HRK := Lib.hid hrk
              clear hrk
              (rw [wpSegs_grow]; simp only [pickOps, List.map_cons, List.map_nil, List.getD_cons_succ, List.getD_cons_zero]; go_wp2_with ((go_at_call 22; refine HRK.out.mono ?_; rintro e wf ⟨vf, ys, rfl, nf, sf, mf, xf⟩)))
              refine ⟨.of xf _, ?_⟩
              have eys := texts_same (n0 := 0) (n1 := 0) (w := wf) DD.out sf SD.out fun t => (MD.out t).trans (mf t).symm
              subst eys
              have hlk : ss.length ≤ 1000000 := by have := LD.out; have := RS.out.1.few; omega
              have hsa := same_any wf _ _ vd vf _ _ (texts_up xf ND.out) nf.texts hlk hlk
              rw [decide_eq_true rfl] at hsa
              have HSA := Lib.hid hsa; have XF := Lib.hid (XE.out.trans xf)
              clear hsa nf sf mf xf HRK ND DD MD SD LD XE hlk
              (rw [wpSegs_grow]; simp only [pickOps, List.map_cons, List.map_nil, List.getD_cons_succ, List.getD_cons_zero]; go_wp2_with ((go_at_call 18; refine HSA.out.mono ?_; rintro e wg ⟨rfl, xg⟩)))
              refine ⟨.of xg _, ?_⟩
              have RG := Lib.hid (RS.out.1.ext (XF.out.trans xg))
              clear xg HSA XF
              (rw [wpSegs_inl]; simp only [pickOps, List.map_cons, List.map_nil, List.getD_cons_succ, List.getD_cons_zero]; (repeat (go_big_quiet_step (fail))); refine wpQuiet_nil ?_)
              rw [wpSegs_nil]
              go_wp2
              go_roundw
              case rel => exact ⟨j + 1, L', by omega, by go_num, RG.out, RS.out.2⟩
              case measure => simp [intOf]; omega
          · go_wp2_with fail
            rw [← HWO.out, ← HOO.out]
            have OBd : wO.drew.heap[o]? = some (.cells #[.int .u8 kd, .int .i64 id, .slice A' n c'] 30 (0, 0)) := OB.out
            have G1 : ∀ x : GrowR (keepB o (.cells #[.int .u8 kd, .int .i64 id, .slice A' n c'] 30 (0, 0))) wO.drew, x.v.cell? ⟨o, 1, none⟩ = some (.int .i64 id) := fun x => blk_cell (x.ext OBd) 1
            have R4 := Lib.hid (RO.out.ext (Ext.drew (Ext.refl wO)))
            have hun := ki_untie wO.drew B B _ L id R4.out.ki b1
            have HT : Hid (Calls Try.prog 14 #[.pointer (some ⟨B, 0, none⟩), .int .i64 id] wO.drew fun e w' => e = .returned (.bool (!(keysL L id).isEmpty)) ∧ KI w' B B (j + 1 + 2 * manyO (xs.take (j + 1))) (untieL L id) ∧ Fk B B wO.drew w') :=
              Lib.hid (hun.mono fun e w' ⟨h1, h2, h3⟩ => ⟨h1, by rw [HM1.out]; exact h2.more (by omega), h3⟩)
            have OB4 := Lib.hid OBd
            clear hun
            refine wp_region_segsR (keepB o (.cells #[.int .u8 kd, .int .i64 id, .slice A' n c'] 30 (0, 0))) [.inl [0, 1, 2, 4, 5, 6], .inr (.inl 3), .inr (.inl 7), .inl [8, 9]] (by kernel_rfl) (by kernel_rfl) (fun c a d v w h => by cases d <;> exact h) ?_
            (rw [wpSegsR_inl]; simp only [pickOps, List.map_cons, List.map_nil, List.getD_cons_succ, List.getD_cons_zero]; (repeat (go_big_quiet_step (fail))); refine wpQuiet_nil ?_)
            clear G1 OBd
            (rw [wpSegsR_grow]; simp only [pickOps, List.map_cons, List.map_nil, List.getD_cons_succ, List.getD_cons_zero]; go_wp2_with ((go_at_call 14; refine HT.out.mono ?_; rintro e w5 ⟨rfl, p5, f5⟩)))
            have OB5 : Hid (w5.heap[o]? = some (.cells #[.int .u8 kd, .int .i64 id, .slice A' n c'] 30 (0, 0))) := Lib.hid (f5.heap OB4.out (by have := HOB.out; omega))
            refine ⟨fun _ => OB5.out, ?_⟩
            have hr5 : RAt w5 B x L := R4.out.rat.fk f5 R4.out.blk
            have hb5 : Below B w1 w5 := R4.out.bel.trans (f5.below R4.out.low)
            have hl5 : B ≤ w5.heap.size := Nat.le_trans R4.out.low f5.size
            have hrt := runtie_any w5 B x L id hr5 hl5 (by have := R4.out.few; omega)
            have HRT : Hid (Calls Try.prog 15 #[.pointer (some ⟨x, 0, none⟩), .int .i64 id] w5 fun e w' => e = .returned (.int .i64 (wasN L id)) ∧ (Two w1 B x (j + 1 + 2 * manyO (xs.take (j + 1))) (untieL L id) w' ∧ (untieL L id).length ≤ manyO (xs.take (j + 1))) ∧ w'.heap[o]? = some (.cells #[.int .u8 kd, .int .i64 id, .slice A' n c'] 30 (0, 0))) :=
              Lib.hid (hrt.mono fun e w' ⟨h1, h2, h3⟩ => ⟨h1, by
                have hll : (untieL L id).length ≤ manyO (xs.take (j + 1)) := by rw [HM1.out]; have := untieL_len L id; have := HL.out; omega
                exact ⟨⟨p5.fq h3, h2, by have := HN.out.2; omega, HN.out.1, hb5.trans ⟨h3.os, h3.tape, h3.output, h3.size, fun i hi => h3.block i (by omega) (.inl hi)⟩, Nat.le_trans hl5 h3.size⟩, hll⟩, h3.heap OB5.out (fun _ _ _ e => by injection e with _ e _; subst e; decide)⟩)
            clear hrt hr5 hb5 hl5 p5 f5 HT R4 OB4
            unfold wasN at HRT
            generalize (keysL L id).isEmpty = em at HRT ⊢
            cases em
            · have HRT2 := Lib.hid (HRT.out.mono fun e w' h => h)
              simp only [Bool.false_eq_true, if_false] at HRT2
              clear HRT
              (rw [wpSegsR_grow]; simp only [pickOps, List.map_cons, List.map_nil, List.getD_cons_succ, List.getD_cons_zero]; go_wp2_with ((go_at_call 15; refine HRT2.out.mono ?_; rintro e wS ⟨rfl, rS, oS⟩)))
              refine ⟨fun _ => oS, ?_⟩
              obtain ⟨L', RS⟩ : ∃ L', Hid (Two w1 B x (j + 1 + 2 * manyO (xs.take (j + 1))) L' wS ∧ L'.length ≤ manyO (xs.take (j + 1))) := ⟨_, Lib.hid rS⟩
              have OS := Lib.hid oS
              clear rS oS HRT2 OB5 RO OB HWO
              (rw [wpSegsR_inl]; simp only [pickOps, List.map_cons, List.map_nil, List.getD_cons_succ, List.getD_cons_zero]; (repeat (go_big_quiet_step (fail))); refine wpQuiet_nil ?_)
              rw [wpSegsR_nil]
              go_wp2_with fail
              have XD : Hid (Ext wS wS.drew) := Lib.hid (Ext.drew (Ext.refl _))
              have GS : ∀ y : Grow [] wS.drew, y.v.cell? ⟨o, 1, none⟩ = some (.int .i64 id) := fun y => y.ext.cell (a := wS.drew) (blk_cell OS.out 1) (by simp)
              have hof := ofN wS.drew B B _ L' id (RS.out.1.ki.ext XD.out) b1
              have HOF := Lib.hid hof
              clear hof
              refine wp_region_segs [] [.inl [0, 1, 2, 4, 5, 6], .inr (.inl 3), .inr (.inl 7), .inr (.inl 8), .inl [9, 10, 11, 13], .inr (.inl 12), .inr (.inl 14), .inr (.inl 15), .inl [16, 17]] (by kernel_rfl) (by kernel_rfl) (fun c a d v w h => by cases d <;> exact h) ?_
              (rw [wpSegs_inl]; simp only [pickOps, List.map_cons, List.map_nil, List.getD_cons_succ, List.getD_cons_zero]; (repeat (go_big_quiet_step (fail))); refine wpQuiet_nil ?_)
              clear GS
              (rw [wpSegs_grow]; simp only [pickOps, List.map_cons, List.map_nil, List.getD_cons_succ, List.getD_cons_zero]; go_wp2_with ((go_at_call 19; refine HOF.out.mono ?_; rintro e wa ⟨va, rfl, na, xa⟩)))
              refine ⟨.of xa _, ?_⟩
              have XA := Lib.hid (XD.out.trans xa); have NA := Lib.hid na
              clear HOF xa na
              have hro := rof_any wa B x L' id (RS.out.1.rat.ext XA.out) (by have := RS.out.1.few; omega)
              have HRO := Lib.hid hro
              clear hro
              (rw [wpSegs_grow]; simp only [pickOps, List.map_cons, List.map_nil, List.getD_cons_succ, List.getD_cons_zero]; go_wp2_with ((go_at_call 20; refine HRO.out.mono ?_; rintro e wb ⟨vb, ys, rfl, nb, sb, mb, xb⟩)))
              refine ⟨.of xb _, ?_⟩
              have eys := RS.out.1.ofs sb mb
              subst eys
              have hlk : (sortS (keysL L' id)).length ≤ 1000000 := by rw [sortS_len]; have := keysL_len L' id; have := RS.out.1.few; omega
              have hsa := same_any wb _ _ va vb _ _ (texts_up xb NA.out) nb.texts hlk hlk
              rw [decide_eq_true rfl] at hsa
              have HSA := Lib.hid hsa; have XB := Lib.hid (XA.out.trans xb)
              clear hsa nb sb mb xb HRO NA XA hlk
              (rw [wpSegs_grow]; simp only [pickOps, List.map_cons, List.map_nil, List.getD_cons_succ, List.getD_cons_zero]; go_wp2_with ((go_at_call 18; refine HSA.out.mono ?_; rintro e wc ⟨rfl, xc⟩)))
              refine ⟨.of xc _, ?_⟩
              have XC := Lib.hid (XB.out.trans xc)
              clear xc HSA XB
              (rw [wpSegs_inl]; simp only [pickOps, List.map_cons, List.map_nil, List.getD_cons_succ, List.getD_cons_zero]; (repeat (go_big_quiet_step (fail))); refine wpQuiet_nil ?_)
              have hke := keysN wc B B _ L' (RS.out.1.ki.ext XC.out) (by have := RS.out.1.room; omega)
              have HKE := Lib.hid hke
              clear hke
              (rw [wpSegs_grow]; simp only [pickOps, List.map_cons, List.map_nil, List.getD_cons_succ, List.getD_cons_zero]; go_wp2_with ((go_at_call 21; refine HKE.out.mono ?_; rintro e wd ⟨vd, ss, rfl, nd, dd, md, sd, ld, xd⟩)))
              refine ⟨.of xd _, ?_⟩
              have XE := Lib.hid (XC.out.trans xd); have ND := Lib.hid nd; have DD := Lib.hid dd; have MD := Lib.hid md; have SD := Lib.hid sd; have LD := Lib.hid ld
              clear HKE nd dd md sd ld xd XC
              have hrk := rkeys_any wd B x L' (RS.out.1.rat.ext XE.out) (by have := RS.out.1.few; omega)
              have HRK := Lib.hid hrk
              clear hrk
              (rw [wpSegs_grow]; simp only [pickOps, List.map_cons, List.map_nil, List.getD_cons_succ, List.getD_cons_zero]; go_wp2_with ((go_at_call 22; refine HRK.out.mono ?_; rintro e wf ⟨vf, ys, rfl, nf, sf, mf, xf⟩)))
              refine ⟨.of xf _, ?_⟩
              have eys := texts_same (n0 := 0) (n1 := 0) (w := wf) DD.out sf SD.out fun t => (MD.out t).trans (mf t).symm
              subst eys
              have hlk : ss.length ≤ 1000000 := by have := LD.out; have := RS.out.1.few; omega
              have hsa := same_any wf _ _ vd vf _ _ (texts_up xf ND.out) nf.texts hlk hlk
              rw [decide_eq_true rfl] at hsa
              have HSA := Lib.hid hsa; have XF := Lib.hid (XE.out.trans xf)
              clear hsa nf sf mf xf HRK ND DD MD SD LD XE hlk
              (rw [wpSegs_grow]; simp only [pickOps, List.map_cons, List.map_nil, List.getD_cons_succ, List.getD_cons_zero]; go_wp2_with ((go_at_call 18; refine HSA.out.mono ?_; rintro e wg ⟨rfl, xg⟩)))
              refine ⟨.of xg _, ?_⟩
              have RG := Lib.hid (RS.out.1.ext (XF.out.trans xg))
              clear xg HSA XF
              (rw [wpSegs_inl]; simp only [pickOps, List.map_cons, List.map_nil, List.getD_cons_succ, List.getD_cons_zero]; (repeat (go_big_quiet_step (fail))); refine wpQuiet_nil ?_)
              rw [wpSegs_nil]
              go_wp2
              go_roundw
              case rel => exact ⟨j + 1, L', by omega, by go_num, RG.out, RS.out.2⟩
              case measure => simp [intOf]; omega
            · have HRT2 := Lib.hid (HRT.out.mono fun e w' h => h)
              simp only [if_true] at HRT2
              clear HRT
              (rw [wpSegsR_grow]; simp only [pickOps, List.map_cons, List.map_nil, List.getD_cons_succ, List.getD_cons_zero]; go_wp2_with ((go_at_call 15; refine HRT2.out.mono ?_; rintro e wS ⟨rfl, rS, oS⟩)))
              refine ⟨fun _ => oS, ?_⟩
              obtain ⟨L', RS⟩ : ∃ L', Hid (Two w1 B x (j + 1 + 2 * manyO (xs.take (j + 1))) L' wS ∧ L'.length ≤ manyO (xs.take (j + 1))) := ⟨_, Lib.hid rS⟩
              have OS := Lib.hid oS
              clear rS oS HRT2 OB5 RO OB HWO
              (rw [wpSegsR_inl]; simp only [pickOps, List.map_cons, List.map_nil, List.getD_cons_succ, List.getD_cons_zero]; (repeat (go_big_quiet_step (fail))); refine wpQuiet_nil ?_)
              rw [wpSegsR_nil]
              go_wp2_with fail
              have XD : Hid (Ext wS wS.drew) := Lib.hid (Ext.drew (Ext.refl _))
              have GS : ∀ y : Grow [] wS.drew, y.v.cell? ⟨o, 1, none⟩ = some (.int .i64 id) := fun y => y.ext.cell (a := wS.drew) (blk_cell OS.out 1) (by simp)
              have hof := ofN wS.drew B B _ L' id (RS.out.1.ki.ext XD.out) b1
              have HOF := Lib.hid hof
              clear hof
              refine wp_region_segs [] [.inl [0, 1, 2, 4, 5, 6], .inr (.inl 3), .inr (.inl 7), .inr (.inl 8), .inl [9, 10, 11, 13], .inr (.inl 12), .inr (.inl 14), .inr (.inl 15), .inl [16, 17]] (by kernel_rfl) (by kernel_rfl) (fun c a d v w h => by cases d <;> exact h) ?_
              (rw [wpSegs_inl]; simp only [pickOps, List.map_cons, List.map_nil, List.getD_cons_succ, List.getD_cons_zero]; (repeat (go_big_quiet_step (fail))); refine wpQuiet_nil ?_)
              clear GS
              (rw [wpSegs_grow]; simp only [pickOps, List.map_cons, List.map_nil, List.getD_cons_succ, List.getD_cons_zero]; go_wp2_with ((go_at_call 19; refine HOF.out.mono ?_; rintro e wa ⟨va, rfl, na, xa⟩)))
              refine ⟨.of xa _, ?_⟩
              have XA := Lib.hid (XD.out.trans xa); have NA := Lib.hid na
              clear HOF xa na
              have hro := rof_any wa B x L' id (RS.out.1.rat.ext XA.out) (by have := RS.out.1.few; omega)
              have HRO := Lib.hid hro
              clear hro
              (rw [wpSegs_grow]; simp only [pickOps, List.map_cons, List.map_nil, List.getD_cons_succ, List.getD_cons_zero]; go_wp2_with ((go_at_call 20; refine HRO.out.mono ?_; rintro e wb ⟨vb, ys, rfl, nb, sb, mb, xb⟩)))
              refine ⟨.of xb _, ?_⟩
              have eys := RS.out.1.ofs sb mb
              subst eys
              have hlk : (sortS (keysL L' id)).length ≤ 1000000 := by rw [sortS_len]; have := keysL_len L' id; have := RS.out.1.few; omega
              have hsa := same_any wb _ _ va vb _ _ (texts_up xb NA.out) nb.texts hlk hlk
              rw [decide_eq_true rfl] at hsa
              have HSA := Lib.hid hsa; have XB := Lib.hid (XA.out.trans xb)
              clear hsa nb sb mb xb HRO NA XA hlk
              (rw [wpSegs_grow]; simp only [pickOps, List.map_cons, List.map_nil, List.getD_cons_succ, List.getD_cons_zero]; go_wp2_with ((go_at_call 18; refine HSA.out.mono ?_; rintro e wc ⟨rfl, xc⟩)))
              refine ⟨.of xc _, ?_⟩
              have XC := Lib.hid (XB.out.trans xc)
              clear xc HSA XB
              (rw [wpSegs_inl]; simp only [pickOps, List.map_cons, List.map_nil, List.getD_cons_succ, List.getD_cons_zero]; (repeat (go_big_quiet_step (fail))); refine wpQuiet_nil ?_)
              have hke := keysN wc B B _ L' (RS.out.1.ki.ext XC.out) (by have := RS.out.1.room; omega)
              have HKE := Lib.hid hke
              clear hke
              (rw [wpSegs_grow]; simp only [pickOps, List.map_cons, List.map_nil, List.getD_cons_succ, List.getD_cons_zero]; go_wp2_with ((go_at_call 21; refine HKE.out.mono ?_; rintro e wd ⟨vd, ss, rfl, nd, dd, md, sd, ld, xd⟩)))
              refine ⟨.of xd _, ?_⟩
              have XE := Lib.hid (XC.out.trans xd); have ND := Lib.hid nd; have DD := Lib.hid dd; have MD := Lib.hid md; have SD := Lib.hid sd; have LD := Lib.hid ld
              clear HKE nd dd md sd ld xd XC
              have hrk := rkeys_any wd B x L' (RS.out.1.rat.ext XE.out) (by have := RS.out.1.few; omega)
              have HRK := Lib.hid hrk
              clear hrk
              (rw [wpSegs_grow]; simp only [pickOps, List.map_cons, List.map_nil, List.getD_cons_succ, List.getD_cons_zero]; go_wp2_with ((go_at_call 22; refine HRK.out.mono ?_; rintro e wf ⟨vf, ys, rfl, nf, sf, mf, xf⟩)))
              refine ⟨.of xf _, ?_⟩
              have eys := texts_same (n0 := 0) (n1 := 0) (w := wf) DD.out sf SD.out fun t => (MD.out t).trans (mf t).symm
              subst eys
              have hlk : ss.length ≤ 1000000 := by have := LD.out; have := RS.out.1.few; omega
              have hsa := same_any wf _ _ vd vf _ _ (texts_up xf ND.out) nf.texts hlk hlk
              rw [decide_eq_true rfl] at hsa
              have HSA := Lib.hid hsa; have XF := Lib.hid (XE.out.trans xf)
              clear hsa nf sf mf xf HRK ND DD MD SD LD XE hlk
              (rw [wpSegs_grow]; simp only [pickOps, List.map_cons, List.map_nil, List.getD_cons_succ, List.getD_cons_zero]; go_wp2_with ((go_at_call 18; refine HSA.out.mono ?_; rintro e wg ⟨rfl, xg⟩)))
              refine ⟨.of xg _, ?_⟩
              have RG := Lib.hid (RS.out.1.ext (XF.out.trans xg))
              clear xg HSA XF
              (rw [wpSegs_inl]; simp only [pickOps, List.map_cons, List.map_nil, List.getD_cons_succ, List.getD_cons_zero]; (repeat (go_big_quiet_step (fail))); refine wpQuiet_nil ?_)
              rw [wpSegs_nil]
              go_wp2
              go_roundw
              case rel => exact ⟨j + 1, L', by omega, by go_num, RG.out, RS.out.2⟩
              case measure => simp [intOf]; omega
        · go_wp2_with fail
          rw [← HWO.out, ← HOO.out]
          have OBd : wO.drew.heap[o]? = some (.cells #[.int .u8 kd, .int .i64 id, .slice A' n c'] 30 (0, 0)) := OB.out
          refine wp_region_segsR (keepB o (.cells #[.int .u8 kd, .int .i64 id, .slice A' n c'] 30 (0, 0))) [.inl [0, 1, 2, 4, 5, 8, 9, 10, 11, 12], .inr (.inl 3), .inr (.inl 6), .inr (.inl 7), .inr (.inl 13), .inl [14]] (by kernel_rfl) (by kernel_rfl) (fun c a d v w h => by cases d <;> exact h) ?_
          have G1 : ∀ x : GrowR (keepB o (.cells #[.int .u8 kd, .int .i64 id, .slice A' n c'] 30 (0, 0))) wO.drew, x.v.cell? ⟨o, 1, none⟩ = some (.int .i64 id) := fun x => blk_cell (x.ext OBd) 1
          have G2 : ∀ x : GrowR (keepB o (.cells #[.int .u8 kd, .int .i64 id, .slice A' n c'] 30 (0, 0))) wO.drew, x.v.cell? ⟨o, 2, none⟩ = some (.slice A' n c') := fun x => blk_cell (x.ext OBd) 2
          (rw [wpSegsR_inl]; simp only [pickOps, List.map_cons, List.map_nil, List.getD_cons_succ, List.getD_cons_zero]; (repeat (go_big_quiet_step (fail))); refine wpQuiet_nil ?_)
          clear G1 G2
          (rw [wpSegsR_grow]; simp only [pickOps, List.map_cons, List.map_nil, List.getD_cons_succ, List.getD_cons_zero]; go_wp2_with (fail))
          refine ⟨fun e => (alloc_ext _ _).heap e, ?_⟩
          have XD : Hid (Ext wO wO.drew) := Lib.hid (Ext.drew (Ext.refl _))
          have XA : Hid (Ext wO (wO.drew.alloc (.cells #[] 9))) := Lib.hid (XD.out.trans (alloc_ext _ _))
          have hTa : Texts B (wO.drew.alloc (.cells #[] 9)) (.slice A' n c') ks := Texts.below (RO.out.ext XA.out).bel TK.out
          have HTA := Lib.hid hTa
          clear hTa OBd
          (rw [wpSegsR_grow]; simp only [pickOps, List.map_cons, List.map_nil, List.getD_cons_succ, List.getD_cons_zero]; go_wp2_with ((at_builtin; refine wpList_append_txt rfl _ _ rfl wO.heap.size B (.slice (some ⟨wO.heap.size, 0, none⟩) 0 0) (.slice A' n c') [] ks (World.ownsRow_made wO.drew #[] 0 (Nat.le_refl _) (by unfold maxLen; omega) rfl) HTA.out HCAP.out.2 rfl rfl ?c0 (by simp) ?_)))
          case c0 => have := HSK.out.1; simp; omega
          intro v2 w4 q2 g2
          have X4 : Hid (Ext wO w4) := Lib.hid (RowKit.Below.trans XA.out (own_below (World.ownsRow_made wO.drew #[] 0 (Nat.le_refl _) (by unfold maxLen; omega) rfl : (wO.drew.alloc (.cells #[] 9)).ownsRow wO.heap.size 9 1 (.slice (some ⟨wO.heap.size, 0, none⟩) 0 0) 0 []) g2 (by simp)))
          have Q2 : Hid (SRow w4 wO.heap.size v2 ks) := Lib.hid (by simpa using q2)
          have R4 := Lib.hid (RO.out.ext X4.out); have OB4 := Lib.hid (X4.out.heap OB.out)
          clear q2 g2 XA HTA
          go_wp2_with fail
          refine ⟨fun _ => OB4.out, ?_⟩
          have htie := ki_tie w4 B B _ L id v2 ks R4.out.ki b1 Q2.out.texts (by have := HSK.out.1; omega) (fun k hk => by have := HSK.out.2 k hk; omega) (by have := R4.out.room; omega)
          have HT : Hid (Calls Try.prog 11 #[.pointer (some ⟨B, 0, none⟩), .int .i64 id, v2] w4 fun e w' => e = .returned (.int .i64 (tieN id ks)) ∧ KI w' B B (j + 1 + 2 * manyO (xs.take (j + 1))) (tieL L id ks) ∧ Fk B B w4 w') :=
            Lib.hid (htie.mono fun e w' ⟨h1, h2, h3⟩ => ⟨h1, by rw [HM1.out]; exact h2.more (by omega), h3⟩)
          clear htie Q2
          (rw [wpSegsR_grow]; simp only [pickOps, List.map_cons, List.map_nil, List.getD_cons_succ, List.getD_cons_zero]; go_wp2_with ((go_at_call 11; refine HT.out.mono ?_; rintro e w5 ⟨rfl, p5, f5⟩)))
          have OB5 : Hid (w5.heap[o]? = some (.cells #[.int .u8 kd, .int .i64 id, .slice A' n c'] 30 (0, 0))) := Lib.hid (f5.heap OB4.out (by have := HOB.out; omega))
          refine ⟨fun _ => OB5.out, ?_⟩
          have hr5 : RAt w5 B x L := R4.out.rat.fk f5 R4.out.blk
          have hb5 : Below B w1 w5 := R4.out.bel.trans (f5.below R4.out.low)
          have hl5 : B ≤ w5.heap.size := Nat.le_trans R4.out.low f5.size
          have hrt := rtie_any w5 B x L id (.slice A' n c') ks hr5 hl5 (by have := R4.out.few; omega) (Texts.below hb5 TK.out) HCAP.out.1 (by have := HSK.out.1; omega) (fun k hk => by have := HSK.out.2 k hk; omega)
          have HRT : Hid (Calls Try.prog 13 #[.pointer (some ⟨x, 0, none⟩), .int .i64 id, .slice A' n c'] w5 fun e w' => e = .returned (.int .i64 (tieN id ks)) ∧ (Two w1 B x (j + 1 + 2 * manyO (xs.take (j + 1))) (tieL L id ks) w' ∧ (tieL L id ks).length ≤ manyO (xs.take (j + 1))) ∧ w'.heap[o]? = some (.cells #[.int .u8 kd, .int .i64 id, .slice A' n c'] 30 (0, 0))) :=
            Lib.hid (hrt.mono fun e w' ⟨h1, h2, h3⟩ => ⟨h1, by
              have hll : (tieL L id ks).length ≤ manyO (xs.take (j + 1)) := by rw [HM1.out]; have := tieL_len L id ks; have := HL.out; omega
              exact ⟨⟨p5.fq h3, h2, by have := HN.out.2; omega, HN.out.1, hb5.trans ⟨h3.os, h3.tape, h3.output, h3.size, fun i hi => h3.block i (by omega) (.inl hi)⟩, Nat.le_trans hl5 h3.size⟩, hll⟩, h3.heap OB5.out (fun _ _ _ e => by injection e with _ e _; subst e; decide)⟩)
          clear hrt hr5 hb5 hl5 p5 f5 HT R4 OB4 X4 XD
          generalize tieN id ks = tn at HRT ⊢
          (rw [wpSegsR_grow]; simp only [pickOps, List.map_cons, List.map_nil, List.getD_cons_succ, List.getD_cons_zero]; go_wp2_with ((go_at_call 13; refine HRT.out.mono ?_; rintro e wS ⟨rfl, rS, oS⟩)))
          refine ⟨fun _ => oS, ?_⟩
          obtain ⟨L', RS⟩ : ∃ L', Hid (Two w1 B x (j + 1 + 2 * manyO (xs.take (j + 1))) L' wS ∧ L'.length ≤ manyO (xs.take (j + 1))) := ⟨_, Lib.hid rS⟩
          have OS := Lib.hid oS
          clear rS oS HRT OB5 RO OB
          (rw [wpSegsR_inl]; simp only [pickOps, List.map_cons, List.map_nil, List.getD_cons_succ, List.getD_cons_zero]; (repeat (go_big_quiet_step (fail))); refine wpQuiet_nil ?_)
          rw [wpSegsR_nil]
          go_wp2_with fail
          have XD : Hid (Ext wS wS.drew) := Lib.hid (Ext.drew (Ext.refl _))
          have GS : ∀ y : Grow [] wS.drew, y.v.cell? ⟨o, 1, none⟩ = some (.int .i64 id) := fun y => y.ext.cell (a := wS.drew) (blk_cell OS.out 1) (by simp)
          have hof := ofN wS.drew B B _ L' id (RS.out.1.ki.ext XD.out) b1
          have HOF := Lib.hid hof
          clear hof
          refine wp_region_segs [] [.inl [0, 1, 2, 4, 5, 6], .inr (.inl 3), .inr (.inl 7), .inr (.inl 8), .inl [9, 10, 11, 13], .inr (.inl 12), .inr (.inl 14), .inr (.inl 15), .inl [16, 17]] (by kernel_rfl) (by kernel_rfl) (fun c a d v w h => by cases d <;> exact h) ?_
          (rw [wpSegs_inl]; simp only [pickOps, List.map_cons, List.map_nil, List.getD_cons_succ, List.getD_cons_zero]; (repeat (go_big_quiet_step (fail))); refine wpQuiet_nil ?_)
          clear GS
          (rw [wpSegs_grow]; simp only [pickOps, List.map_cons, List.map_nil, List.getD_cons_succ, List.getD_cons_zero]; go_wp2_with ((go_at_call 19; refine HOF.out.mono ?_; rintro e wa ⟨va, rfl, na, xa⟩)))
          refine ⟨.of xa _, ?_⟩
          have XA := Lib.hid (XD.out.trans xa); have NA := Lib.hid na
          clear HOF xa na
          have hro := rof_any wa B x L' id (RS.out.1.rat.ext XA.out) (by have := RS.out.1.few; omega)
          have HRO := Lib.hid hro
          clear hro
          (rw [wpSegs_grow]; simp only [pickOps, List.map_cons, List.map_nil, List.getD_cons_succ, List.getD_cons_zero]; go_wp2_with ((go_at_call 20; refine HRO.out.mono ?_; rintro e wb ⟨vb, ys, rfl, nb, sb, mb, xb⟩)))
          refine ⟨.of xb _, ?_⟩
          have eys := RS.out.1.ofs sb mb
          subst eys
          have hlk : (sortS (keysL L' id)).length ≤ 1000000 := by rw [sortS_len]; have := keysL_len L' id; have := RS.out.1.few; omega
          have hsa := same_any wb _ _ va vb _ _ (texts_up xb NA.out) nb.texts hlk hlk
          rw [decide_eq_true rfl] at hsa
          have HSA := Lib.hid hsa; have XB := Lib.hid (XA.out.trans xb)
          clear hsa nb sb mb xb HRO NA XA hlk
          (rw [wpSegs_grow]; simp only [pickOps, List.map_cons, List.map_nil, List.getD_cons_succ, List.getD_cons_zero]; go_wp2_with ((go_at_call 18; refine HSA.out.mono ?_; rintro e wc ⟨rfl, xc⟩)))
          refine ⟨.of xc _, ?_⟩
          have XC := Lib.hid (XB.out.trans xc)
          clear xc HSA XB
          (rw [wpSegs_inl]; simp only [pickOps, List.map_cons, List.map_nil, List.getD_cons_succ, List.getD_cons_zero]; (repeat (go_big_quiet_step (fail))); refine wpQuiet_nil ?_)
          have hke := keysN wc B B _ L' (RS.out.1.ki.ext XC.out) (by have := RS.out.1.room; omega)
          have HKE := Lib.hid hke
          clear hke
          (rw [wpSegs_grow]; simp only [pickOps, List.map_cons, List.map_nil, List.getD_cons_succ, List.getD_cons_zero]; go_wp2_with ((go_at_call 21; refine HKE.out.mono ?_; rintro e wd ⟨vd, ss, rfl, nd, dd, md, sd, ld, xd⟩)))
          refine ⟨.of xd _, ?_⟩
          have XE := Lib.hid (XC.out.trans xd); have ND := Lib.hid nd; have DD := Lib.hid dd; have MD := Lib.hid md; have SD := Lib.hid sd; have LD := Lib.hid ld
          clear HKE nd dd md sd ld xd XC
          have hrk := rkeys_any wd B x L' (RS.out.1.rat.ext XE.out) (by have := RS.out.1.few; omega)
          have HRK := Lib.hid hrk
          clear hrk
          (rw [wpSegs_grow]; simp only [pickOps, List.map_cons, List.map_nil, List.getD_cons_succ, List.getD_cons_zero]; go_wp2_with ((go_at_call 22; refine HRK.out.mono ?_; rintro e wf ⟨vf, ys, rfl, nf, sf, mf, xf⟩)))
          refine ⟨.of xf _, ?_⟩
          have eys := texts_same (n0 := 0) (n1 := 0) (w := wf) DD.out sf SD.out fun t => (MD.out t).trans (mf t).symm
          subst eys
          have hlk : ss.length ≤ 1000000 := by have := LD.out; have := RS.out.1.few; omega
          have hsa := same_any wf _ _ vd vf _ _ (texts_up xf ND.out) nf.texts hlk hlk
          rw [decide_eq_true rfl] at hsa
          have HSA := Lib.hid hsa; have XF := Lib.hid (XE.out.trans xf)
          clear hsa nf sf mf xf HRK ND DD MD SD LD XE hlk
          (rw [wpSegs_grow]; simp only [pickOps, List.map_cons, List.map_nil, List.getD_cons_succ, List.getD_cons_zero]; go_wp2_with ((go_at_call 18; refine HSA.out.mono ?_; rintro e wg ⟨rfl, xg⟩)))
          refine ⟨.of xg _, ?_⟩
          have RG := Lib.hid (RS.out.1.ext (XF.out.trans xg))
          clear xg HSA XF
          (rw [wpSegs_inl]; simp only [pickOps, List.map_cons, List.map_nil, List.getD_cons_succ, List.getD_cons_zero]; (repeat (go_big_quiet_step (fail))); refine wpQuiet_nil ?_)
          rw [wpSegs_nil]
          go_wp2
          go_roundw
          case rel => exact ⟨j + 1, L', by omega, by go_num, RG.out, RS.out.2⟩
          case measure => simp [intOf]; omega
      · have X2 := Lib.hid (X1.out.trans hbel)
        go_wp2_with fail
        refine (awake_any _).mono ?_
        rintro e w5 ⟨rfl, x5⟩
        have X5 := Lib.hid (X2.out.trans x5)
        clear x5 hbel
        go_wp2
        go_ret
        exact ⟨rfl, X5.out⟩
set_option maxRecDepth 100000 in
theorem keysPlays_lifted (os : Os) (started : os.Started) (H : Type) (enc : TypeId × Value → H) :
    ReturnsInHanded {} Try.checked os 4 .any (Rows.keysPlaysSpec.pre6 enc Try.prog Try.f4 Rows.keysPlaysRow.domain false) (Rows.keysPlaysSpec.post enc Try.prog Try.f4 false true false false) := by
  refine returnsInHanded_of_change (C := Try.checked) own started (by kernel_rfl) Try.func4
    (ChangeSpec.witness6 (enc := enc) (C := Try.checked) false ⟨#[], #[.slice none 0 0], []⟩ 8 (by kernel_rfl) (by kernel_rfl) (by kernel_rfl) (by kernel_rfl)) ?_
  intro W base args ds gs before hval0 hW hcnd _
  have hval : ∀ (j : Nat) t v, Try.f4.params[j]? = some t → args[j]? = some v → Value.okWide Try.prog W .any base t v := hval0
  have hW' := hW
  obtain ⟨p, q, hA0, hV, rfl, hfz, hnd⟩ := hW
  have hA : DataW.TrodAll enc Try.prog W 0 (fun _ => true) true Try.f4.params.toList args.toList ds p := hA0
  rw [Try.params4] at hA hval
  obtain ⟨v0, vs0, d0, ds0, p0, q0, hargs, rfl, rfl, h0, r0⟩ := trodAll_cons hA
  obtain ⟨rfl, rfl, rfl⟩ := trodAll_nil r0
  obtain rfl : args = #[v0] := by cases args; simp_all
  obtain ⟨rfl, rfl⟩ := trodVars_none hV
  have lt0 : ∀ x ∈ p0, x.block < W.heap.size := by obtain ⟨m, hm⟩ := h0; exact DataW.trod_lt m _ _ _ hm
  have t0 := fun W' (bel : Below W.heap.size W W') => Below.trod laidOut (by kernel_rfl) (of_decide_eq_true (by kernel_rfl)) h0 bel lt0
  obtain ⟨A0, xs0, c0, rfl, ha0, hl0⟩ := ops_open (hval 0 22 v0 rfl rfl) h0
  clear hA0 hval0
  refine (plays_walk xs0 A0 c0 W ha0 hl0 ).mono fun e W' ⟨he, bel⟩ => ?_
  subst he
  exact ⟨_, rfl, _, _, _, [], _, [], hW', trodAll_mk1 (shut_bool Try.underlying4 _), (trodAll_cons_mk (t0 W' bel) trodAll_mk0), rfl, bel.frame _, fun h => by cases h⟩

/-- The statement. -/
theorem KeysPlays_proved : Rows.KeysPlaysSaid :=
  OpenClaim.holds_of_wide 4 Try.f4 rfl rfl rfl rfl rfl rfl rfl ⟨rfl, rfl, rfl, rfl, rfl⟩ rfl rfl rfl rfl rfl (by kernel_rfl) Try.func4 (by kernel_rfl)
    (of_decide_eq_true (by kernel_rfl)) (by unfold Func.isWrapper; first | (rw [if_pos (by decide +kernel)]; kernel_rfl) | (rw [if_neg (by decide +kernel)]; exact ⟨rfl, rfl⟩))
    (fun os started H enc _ => keysPlays_lifted os started H enc)
#print axioms KeysPlays_proved
end Go.Proofs.Ytgbhhofmghgpbaa
