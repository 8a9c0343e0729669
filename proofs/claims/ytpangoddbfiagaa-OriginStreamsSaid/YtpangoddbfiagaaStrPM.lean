/- Proved: OriginStreams, for every input: in every order of calls each stream tells just the bytes that the document says, and has what it says, whatever its object becomes meanwhile. -/
import Derived.Test.YtpangoddbfiagaaG26
namespace Go.Proofs.Ytpangoddbfiagaa
open Go.ChangeShapes Go.WideShapes Go.ChangeAt Go.RowKit Go.Deep Go.Joins
open Go.Maps Go.ChangeMaps
set_option linter.unusedVariables false
set_option linter.unusedSimpArgs false

set_option maxRecDepth 100000 in
set_option maxHeartbeats 8000000 in
theorem streams_walk (lv : Value) (xs : List ActP) (w : World) (hL : RowsG w 23 (RAct w) lv xs) :
    Calls Try.prog 7 #[lv] w fun e w' => e = .returned (.bool true) ∧ Below w.heap.size w w' := by
  obtain ⟨LA, LC, rfl⟩ := RowsG.slice hL
  obtain ⟨n, hn⟩ : ∃ n, n = xs.length := ⟨_, rfl⟩
  have HL := Lib.hid hL
  rw [← hn] at HL ⊢
  have HN := Lib.hid hn
  clear hL hn
  go_enter Try.func7, Try.ntmps7
  go_wp2_with (go_at_call 22; refine (begin_any _).mono ?_; rintro e w1 ⟨pb, b, x, rfl, h1⟩; refine stop_of ?_)
  unfold Stop
  have H1 := Lib.hid h1
  clear h1
  go_wp2_with (go_at_call 11; refine (awake_any _).mono ?_; rintro e w2 ⟨rfl, x2⟩; refine stop_of ?_)
  unfold Stop
  have H2 := Lib.hid (H1.out.ext x2)
  clear x2 H1
  have HGR := Lib.hid (great_any w2 LA xs LC (by have := acts_ext HL.out H2.out.base; rw [HN.out] at this; exact this))
  rw [← HN.out] at HGR
  go_wp2_with (go_at_call 12; refine HGR.out.mono ?_; rintro e w3 ⟨r, rfl, hr, x3⟩; refine stop_of ?_)
  unfold Stop
  have H3 := Lib.hid (H2.out.ext x3); have HRR := Lib.hid hr
  clear x3 H2 HGR hr
  cases r with
  | true =>
    go_wp2_with (go_at_call 11; refine (awake_any _).mono ?_; rintro e w4 ⟨rfl, x4⟩; refine stop_of ?_)
    unfold Stop
    have X4 := Lib.hid (H3.out.base.trans x4)
    clear x4
    go_wp2
    go_ret
    exact ⟨rfl, X4.out⟩
  | false =>
    have HZ := Lib.hid (HRR.out rfl)
    have hn40 : n ≤ 40 := by have := HZ.out.1; have := HN.out; omega
    clear HRR
    go_wp2_with fail
    go_loopw [22, 5, 6, 7] (fun i _ _ _ wr => ∃ (j : Nat) (vs : List Vn) (ss : List Sn), j ≤ n ∧ i = .int .i64 j ∧ Hid (Play w wr pb b x j vs ss [] noP)) (fun i _ _ _ _ => n - (intOf i).toNat)
    case atStart => exact ⟨0, [], [], by omega, rfl, H3⟩
    case round =>
      clear H3
      obtain ⟨j, vs, ss, hj, rfl, R⟩ := hrel
      by_cases hlt : j < n
      · have hjs : j < xs.length := by rw [← HN.out]; exact hlt
        obtain ⟨a, ha⟩ : ∃ a, xs[j]? = some a := ⟨xs[j], by simp [hjs]⟩
        obtain ⟨eb, eo, rfl, hrg, hra⟩ := acts_at HL.out R.out.base ha
        have HRG := Lib.hid hrg
        have HA := Lib.hid (hra.at_ (HZ.out.2 a (List.mem_of_getElem? ha)))
        have HJK := Lib.hid (show j ≤ 1000 from by have := HZ.out.1; have := HN.out; omega)
        have HON := Lib.hid (act_one hra)
        clear hrg hra ha hjs
        go_wp2_with (first | (refine wpList_load_mid rfl 40 _ rfl eb (eo + j * 23) rfl (actC a) _ HRG.out Try.underlying40 rfl size40 ?_) | (refine wpList_new 40 _ zero40 rfl rfl ?_; intro W1 x1 n1 s1; refine stop_of ?_))
        unfold Stop
        obtain ⟨ab, hab⟩ : ∃ p, p = wr.heap.size := ⟨_, rfl⟩
        rw [← hab] at n1 ⊢
        have X1 := Lib.hid x1; have N1 := Lib.hid n1; have HAB := Lib.hid hab
        clear x1 n1 s1 hab
        go_wp2_with (refine wpList_put 40 rfl _ _ rfl ab 0 40 _ (actC a).toArray (actC a) _ N1.out rfl rfl rfl (by simp [actC]) HON.out size40 (by kernel_rfl) ?_; intro W2 x2 n2 s2; refine stop_of ?_)
        unfold Stop
        have N2 := Lib.hid n2
        have R2 := Lib.hid (R.out.ext (X1.out.thenB x2 (by have := HAB.out; simp; omega)))
        clear x2 n2 s2 X1 N1 HAB R
        go_wp2_with (first | (refine wpList_get 40 _ rfl _ rfl ab 0 40 _ (actC a) N2.out rfl (by kernel_rfl) Try.underlying40 rfl size40 ?_) | (go_at_call 23; refine (do_any R2.out HJK.out HA.out).mono ?_; rintro e w3 ⟨rfl, h3, k3⟩; refine stop_of ?_))
        unfold Stop
        obtain ⟨us, hus⟩ : ∃ us, us = doV vs a := ⟨_, rfl⟩
        obtain ⟨ts, hts⟩ : ∃ ts, ts = doS vs ss a := ⟨_, rfl⟩
        rw [← hus, ← hts] at h3
        clear hus hts k3 R2 N2 HRG HA HON
        have HPL := Lib.hid h3
        obtain ⟨N', sa, ra, SA, sc, RA, rc, hX⟩ := h3
        obtain ⟨nn, hnn⟩ : ∃ n, n = ts.length := ⟨_, rfl⟩
        have HX := Lib.hid hX; have HNN := Lib.hid hnn
        have HPB := Lib.hid (show w3.heap[pb]? = some (.cells #[ptrV b, ptrV x, .slice SA nn sc, .slice RA nn rc] 68) from by rw [hnn]; exact hX.blk)
        have hnl : nn ≤ 10000 := by have := hX.good.ns; have := HJK.out; omega
        have kp := blk_cell HPB.out 2
        simp at kp
        clear hX hnn
        have XR := Lib.hid (Ext.refl w3)
        go_wp2_with fail
        go_loopw [35, 6, 7] (fun i _ _ wr => ∃ q : Nat, q ≤ nn ∧ i = .int .i64 q ∧ Hid (Ext w3 wr)) (fun i _ _ _ => nn - (intOf i).toNat)
        case atStart => exact ⟨0, by omega, rfl, XR⟩
        case round =>
          clear XR kp
          obtain ⟨q, hq, rfl, R3⟩ := hrel
          by_cases hqn : q < nn
          · have hqs : q < ts.length := by rw [← HNN.out]; exact hqn
            obtain ⟨S, hS⟩ : ∃ S, ts[q]? = some S := ⟨ts[q], by simp [hqs]⟩
            obtain ⟨sb, rb, g1, g2, j2, j3, rfl, rfl, c1, c2⟩ := HX.out.sAt hS
            have J1 := Lib.hid hS; have J2 := Lib.hid j2; have J3 := Lib.hid j3
            have CC2 := Lib.hid c2
            have c1 := R3.out.cell c1
            unfold ptrV at c1
            have H4 := Lib.hid (HX.out.st.ext R3.out)
            clear hS j2 j3 c2 hqs
            go_wp2_with fail
            have GP : ∀ y : Grow [] wr.drew, y.v.cell? ⟨pb, 3, none⟩ = some (.slice (some ⟨g2, 0, none⟩) nn rc) := fun y => blk_cell (y.ext.heap (a := wr.drew) (R3.out.heap HPB.out) (by simp)) 3
            have GR : ∀ y : Grow [] wr.drew, y.v.cell? ⟨g2, q, none⟩ = some (.pointer (some ⟨rb, 0, none⟩)) := fun y => y.ext.cell (a := wr.drew) (R3.out.cell CC2.out) (by simp)
            have HD := Lib.hid (H4.out.ext (Ext.drew (Ext.refl wr))); have XD := Lib.hid (R3.out.trans (Ext.drew (Ext.refl wr)))
            refine wp_region_segs [] [.inl [0, 2, 3, 4, 5, 6, 7, 8], .inr (.inl 1), .inr (.inl 9), .inl [10, 11, 12, 14, 15, 16, 17, 18, 19, 20, 21, 22, 23], .inr (.inl 13), .inr (.inl 24), .inl [25, 26]] (by kernel_rfl) (by kernel_rfl) (fun c a d v w h => by cases d <;> exact h) ?_
            (rw [wpSegs_inl]; simp only [pickOps, List.map_cons, List.map_nil, List.getD_cons_succ, List.getD_cons_zero]; (repeat (go_big_quiet_step (fail))); refine wpQuiet_nil ?_)
            clear GP GR c1
            (rw [wpSegs_grow]; simp only [pickOps, List.map_cons, List.map_nil, List.getD_cons_succ, List.getD_cons_zero]; go_wp2_with ((go_at_call 30; refine (p_has HD.out J1.out J2.out).mono ?_; rintro e w5 ⟨rfl, h5, x5⟩; refine stop_of ?_)))
            unfold Stop
            have H5 := Lib.hid h5; have X5 := Lib.hid (XD.out.trans x5)
            go_wp2_with fail
            refine ⟨.of x5 _, ?_⟩
            clear h5 x5 HD XD
            (rw [wpSegs_grow]; simp only [pickOps, List.map_cons, List.map_nil, List.getD_cons_succ, List.getD_cons_zero]; go_wp2_with ((go_at_call 31; refine (d_has H5.out J1.out J3.out).mono ?_; rintro e w6 ⟨rfl, h6, x6⟩; refine stop_of ?_)))
            unfold Stop
            have H6 := Lib.hid h6; have X6 := Lib.hid (X5.out.trans x6)
            go_wp2_with fail
            refine ⟨.of x6 _, ?_⟩
            clear h6 x6 H5 X5
            have GP : ∀ y : Grow [] w6, y.v.cell? ⟨pb, 3, none⟩ = some (.slice (some ⟨g2, 0, none⟩) nn rc) := fun y => blk_cell (y.ext.heap (X6.out.heap HPB.out) (by simp)) 3
            have GR : ∀ y : Grow [] w6, y.v.cell? ⟨g2, q, none⟩ = some (.pointer (some ⟨rb, 0, none⟩)) := fun y => y.ext.cell (X6.out.cell CC2.out) (by simp)
            obtain ⟨kv2, p2, q1, q2, q3⟩ := d_head H6.out J1.out J3.out
            have Q1 := Lib.hid q1; have Q2 := Lib.hid q2; have Q3 := Lib.hid q3
            clear q1 q2 q3
            (rw [wpSegs_inl]; simp only [pickOps, List.map_cons, List.map_nil, List.getD_cons_succ, List.getD_cons_zero]; (repeat (go_big_quiet_step (fail))); (refine wpQuiet_get 49 _ rfl _ rfl rb 0 77 _ (replyC S.st S.m kv2 S.fr S.to) rfl (fun W hW => by obtain ⟨y, rfl⟩ := hW; exact y.ext.heap Q1.out (by simp)) (by kernel_rfl) Try.underlying49 rfl size49 ?_; simp only [Act.put, List.setIfInBounds_toArray, List.set_cons_succ, List.set_cons_zero]); (repeat (go_big_quiet_step (fail))); refine wpQuiet_nil ?_)
            clear GP GR
            (rw [wpSegs_grow]; simp only [pickOps, List.map_cons, List.map_nil, List.getD_cons_succ, List.getD_cons_zero]; go_wp2_with ((go_at_call 16; refine (p_head H6.out J1.out J2.out).mono ?_; rintro e w7 ⟨kv1, rfl, r7, h7, x7⟩; refine stop_of ?_)))
            unfold Stop
            have X7 := Lib.hid (X6.out.trans x7); have R7 := Lib.hid (SRow.texts r7); have Q7 := Lib.hid (TextsAt.ext Q2.out x7)
            go_wp2_with fail
            refine ⟨.of x7 _, ?_⟩
            clear h7 x7 r7 H6 X6
            (rw [wpSegs_grow]; simp only [pickOps, List.map_cons, List.map_nil, List.getD_cons_succ, List.getD_cons_zero]; go_wp2_with ((go_at_call 32; refine (ralike_eq S.st S.fr S.to S.m kv1 kv2 _ (by have := Q3.out.keys; omega) R7.out Q7.out).mono ?_; rintro e w8 ⟨rfl, x8⟩; refine stop_of ?_)))
            unfold Stop
            have X8 := Lib.hid (X7.out.trans x8)
            go_wp2_with fail
            refine ⟨.of x8 _, ?_⟩
            clear x8 X7 R7 Q7
            (rw [wpSegs_inl]; simp only [pickOps, List.map_cons, List.map_nil, List.getD_cons_succ, List.getD_cons_zero]; (repeat (go_big_quiet_step (fail))); refine wpQuiet_nil ?_)
            rw [wpSegs_nil]
            go_wp2
            go_roundw
            case rel => exact ⟨q + 1, by omega, by go_num, X8⟩
            case measure => first | (simp [intOf]; done) | (simp [intOf]; omega)
          · have HP9 := Lib.hid (HPL.out.ext R3.out)
            go_wp2
            go_roundw
            case rel => exact ⟨j + 1, us, ts, by omega, by go_num, HP9⟩
            case measure => first | (simp [intOf]; done) | (simp [intOf]; omega)
      · go_wp2
        go_ret
        exact ⟨rfl, R.out.base⟩
set_option maxRecDepth 100000 in
theorem originStreams_lifted (os : Os) (started : os.Started) (H : Type) (enc : TypeId × Value → H) :
    ReturnsInHanded {} Try.checked os 7 .any (Rows.originStreamsSpec.pre6 enc Try.prog Try.f7 Rows.originStreamsRow.domain false) (Rows.originStreamsSpec.post enc Try.prog Try.f7 false true false false) := by
  refine returnsInHanded_of_change (C := Try.checked) own started (by kernel_rfl) Try.func7
    (ChangeSpec.witness6 (enc := enc) (C := Try.checked) false ⟨#[], #[.slice none 0 0], []⟩ 8 (by kernel_rfl) (by kernel_rfl) (by kernel_rfl) (by kernel_rfl)) ?_
  intro W base args ds gs before hval0 hW hcnd _
  have hval : ∀ (j : Nat) t v, Try.f7.params[j]? = some t → args[j]? = some v → Value.okWide Try.prog W .any base t v := hval0
  have hW' := hW
  obtain ⟨p, q, hA0, hV, rfl, hfz, hnd⟩ := hW
  have hA : DataW.TrodAll enc Try.prog W 0 (fun _ => true) true Try.f7.params.toList args.toList ds p := hA0
  rw [Try.params7] at hA hval
  obtain ⟨v0, vs0, d0, ds0, p0, q0, hargs, rfl, rfl, h0, r0⟩ := trodAll_cons hA
  obtain ⟨rfl, rfl, rfl⟩ := trodAll_nil r0
  obtain rfl : args = #[v0] := by cases args; simp_all
  obtain ⟨rfl, rfl⟩ := trodVars_none hV
  have lt0 : ∀ x ∈ p0, x.block < W.heap.size := by obtain ⟨m, hm⟩ := h0; exact DataW.trod_lt m _ _ _ hm
  have t0 := fun W' (bel : Below W.heap.size W W') => Below.trod laidOut (by kernel_rfl) (of_decide_eq_true (by kernel_rfl)) h0 bel lt0
  obtain ⟨xs0, ha0, hl0⟩ := acts_open (hval 0 41 v0 rfl rfl) h0
  clear hA0 hval0
  refine (streams_walk v0 xs0 W ha0 ).mono fun e W' ⟨he, bel⟩ => ?_
  subst he
  exact ⟨_, rfl, _, _, _, [], _, [], hW', trodAll_mk1 (shut_bool Try.underlying4 _), (trodAll_cons_mk (t0 W' bel) trodAll_mk0), rfl, bel.frame _, fun h => by cases h⟩

/-- The statement. -/
theorem OriginStreams_proved : Rows.OriginStreamsSaid :=
  OpenClaim.holds_of_wide 7 Try.f7 rfl rfl rfl rfl rfl rfl rfl ⟨rfl, rfl, rfl, rfl, rfl⟩ rfl rfl rfl rfl rfl (by kernel_rfl) Try.func7 (by kernel_rfl)
    (of_decide_eq_true (by kernel_rfl)) (by unfold Func.isWrapper; first | (rw [if_pos (by decide +kernel)]; kernel_rfl) | (rw [if_neg (by decide +kernel)]; exact ⟨rfl, rfl⟩))
    (fun os started H enc _ => originStreams_lifted os started H enc)
#print axioms OriginStreams_proved
end Go.Proofs.Ytpangoddbfiagaa
