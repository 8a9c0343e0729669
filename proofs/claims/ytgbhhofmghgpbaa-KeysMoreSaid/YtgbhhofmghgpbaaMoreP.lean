/- Proved: KeysMore, for every input: what is With some keys is With these and others. -/
import Derived.Test.YtgbhhofmghgpbaaMore0
namespace Go.Proofs.Ytgbhhofmghgpbaa
open Go.ChangeShapes Go.WideShapes Go.ChangeAt Go.RowKit Go.Deep Go.Joins
open Go.Sort Go.Shelf Go.Maps Go.ChangeMaps
set_option linter.unusedVariables false

theorem TextsA.ext {w w' : World} {sv : Value} {ss : List Bs} (h : TextsA w sv ss) (hx : Ext w w') : TextsA w' sv ss := ⟨texts_up hx h.1, h.2⟩
theorem tieL_len (L : List Pr) (id : Int) (ss : List Bs) : (tieL L id ss).length ≤ L.length + ss.length := by
  unfold tieL
  split
  · unfold tiePart untieL
    have := List.length_filter_le (fun p : Pr => !(p.1 == id)) L
    simp; omega
  · omega
theorem Fk.ext {B b : Nat} {w w' : World} (h : Fk B b w w') (hB : w.heap.size ≤ B) : Ext w w' := ⟨h.os, h.tape, h.output, h.size, fun i hi => h.block i hi (.inl (by omega))⟩
structure MoRel (w : World) (B : Nat) (xs : List OpV) (j : Nat) (L : List Pr) (wr : World) : Prop where
  ki : KI wr B B (j + 2 * manyO (xs.take j)) L
  few : L.length ≤ manyO (xs.take j)
  fk : Fk B B w wr
set_option maxRecDepth 100000 in
set_option maxHeartbeats 4000000 in
theorem more_walk (xs : List OpV) (A : Option Addr) (c : Nat) (va : Value) (ka : List Bs) (vb : Value) (kb : List Bs) (w : World) (hO : OpsAt w A xs) (hlen : xs.length ≤ 9223372036854775807) (hA : TextsA w va ka) (hB : TextsA w vb kb) :
    Calls Try.prog 3 #[.slice A xs.length c, va, vb] w fun e w' => e = .returned (.bool true) ∧ Below w.heap.size w w' := by
  obtain ⟨m, hm⟩ : ∃ m, m = xs.length := ⟨_, rfl⟩
  have hsm := small_any w A xs c hO hlen
  rw [← hm] at hlen hsm ⊢
  obtain ⟨Aa, ca, hva, -⟩ := hA.1
  obtain ⟨Ab, cb, hvb, -⟩ := hB.1
  obtain ⟨na, hna⟩ : ∃ n, n = ka.length := ⟨_, rfl⟩
  obtain ⟨nb, hnb⟩ : ∃ n, n = kb.length := ⟨_, rfl⟩
  rw [← hna] at hva
  rw [← hnb] at hvb
  clear hna hnb
  subst hva hvb
  have HSM := Lib.hid hsm; have HM := Lib.hid hm; have HO := Lib.hid hO; have HA := Lib.hid hA; have HB := Lib.hid hB
  clear hsm hm hO hA hB
  go_enter Try.func3, Try.ntmps3
  go_wp2_with fail
  refine HSM.out.mono ?_
  rintro e w1 ⟨r, rfl, hr, x1⟩
  clear HSM
  have X1 := Lib.hid x1
  clear x1
  cases r with
  | false =>
    clear hr
    go_wp2_with fail
    refine (awake_any _).mono ?_
    rintro e w2 ⟨rfl, x2⟩
    have X2 := Lib.hid (X1.out.trans x2)
    clear x2
    go_wp2
    go_ret
    exact ⟨rfl, X2.out⟩
  | true =>
    have HR := Lib.hid (hr rfl)
    clear hr
    have A1 := Lib.hid (HA.out.ext X1.out); have B1 := Lib.hid (HB.out.ext X1.out)
    have hf := few_any w1 _ (.slice Aa na ca) ka 20 400 A1.out.1 A1.out.2.2.1 (by omega) (by omega) A1.out.2.2.2
    have hf2 := few_any w1 _ (.slice Ab nb cb) kb 20 400 B1.out.1 B1.out.2.2.1 (by omega) (by omega) B1.out.2.2.2
    have HF := Lib.hid hf; have HF2 := Lib.hid hf2
    clear hf hf2
    go_wp2_with fail
    refine HF.out.mono ?_
    rintro e w2 ⟨rfl, rfl⟩
    clear HF
    by_cases hfa : fewB ka 20 400 = true
    · rw [hfa]
      have HFA := Lib.hid ((fewB_iff _ _ _).1 hfa)
      clear hfa
      go_wp2_with fail
      refine HF2.out.mono ?_
      rintro e w2 ⟨rfl, rfl⟩
      clear HF2
      by_cases hfb : fewB kb 20 400 = true
      · rw [hfb]
        have HFB := Lib.hid ((fewB_iff _ _ _).1 hfb)
        clear hfb
        go_wp2_with fail
        refine (new_any _).mono ?_
        rintro e w2 ⟨rfl, p2, x2⟩
        obtain ⟨B, hBB⟩ : ∃ B, B = w1.heap.size := ⟨_, rfl⟩
        rw [← hBB] at p2 ⊢
        have HBw : Hid (w.heap.size ≤ B) := Lib.hid (by rw [hBB]; exact X1.out.size)
        have P2 : Hid (MoRel w B xs 0 [] w2) := Lib.hid ⟨by simpa [manyO] using p2, by simp, Fk.of_ext (X1.out.trans x2) B B⟩
        clear p2 x2 hBB A1 B1 X1
        go_wp2
        go_loopw [38, 9] (fun i _ wr => ∃ j : Nat, ∃ L, j ≤ m ∧ i = .int .i64 j ∧ MoRel w B xs j L wr) (fun i _ _ => m - (intOf i).toNat)
        case atStart => exact ⟨0, [], by omega, rfl, P2.out⟩
        case round =>
          clear P2
          obtain ⟨j, L, hj, rfl, hr⟩ := hrel
          have R := Lib.hid hr
          clear hr
          by_cases hlt : j < m
          · have hjs : j < xs.length := by rw [← HM.out]; exact hlt
            obtain ⟨ba, off, rfl, hb, k0, k1, k2, b0, b1, tA⟩ := (HO.out.ext (R.out.fk.ext HBw.out)) j hjs
            have htk : xs.take (j + 1) = xs.take j ++ [xs[j]] := List.take_succ_eq_append_getElem hjs
            have hsk := HR.out.key (o := xs[j]) (by simp)
            obtain ⟨o, ho⟩ : ∃ o, o = xs[j] := ⟨_, rfl⟩
            rw [← ho] at k0 k1 k2 b0 b1 tA htk hsk
            obtain ⟨kd, id, kv, ks⟩ := o
            dsimp only at k0 k1 k2 b0 b1 tA hsk
            have hM1 : manyO (xs.take (j + 1)) = manyO (xs.take j) + ks.length := by rw [htk, manyO_append]; simp [manyO]
            have hle := manyO_take xs j
            have htie := ki_tie (wr.alloc (.cells #[.int .u8 kd, .int .i64 id, kv] 30)) B B _ L id kv ks (R.out.ki.ext (alloc_ext _ _)) b1 (texts_up (alloc_ext _ _) tA.1) (by omega) (fun k hk => by have := hsk.2 k hk; omega) (by have := HR.out.1; have := HR.out.2.1; have := HM.out; omega)
            have HT : Hid (Calls Try.prog 11 #[.pointer (some ⟨B, 0, none⟩), .int .i64 id, kv] (wr.alloc (.cells #[.int .u8 kd, .int .i64 id, kv] 30)) fun e w' => e = .returned (.int .i64 (tieN id ks)) ∧ MoRel w B xs (j + 1) (tieL L id ks) w') :=
              Lib.hid (htie.mono fun e w' ⟨h1, h2, h3⟩ => ⟨h1, by rw [hM1]; exact h2.more (by omega), by rw [hM1]; have := tieL_len L id ks; have := R.out.few; omega, R.out.fk.trans ((Fk.of_ext (alloc_ext _ _) B B).trans h3)⟩)
            obtain ⟨A', c', hkv, -⟩ := tA.1
            obtain ⟨n, hn⟩ : ∃ n, n = ks.length := ⟨_, rfl⟩
            rw [← hn] at hkv
            clear htie hM1 hle htk ho hjs tA hsk b0 R hn
            subst hkv
            go_wp2_with fail
            refine HT.out.mono ?_
            rintro e w3 ⟨rfl, r3⟩
            have R3 := Lib.hid r3
            clear r3 HT
            go_wp2
            go_roundw
            case rel => exact ⟨j + 1, _, by omega, by go_num, R3.out⟩
            case measure => simp [intOf]; omega
          · obtain rfl : j = m := by omega
            have hjn : xs.take j = xs := List.take_of_length_le (by have := HM.out; omega)
            have R1 : Hid (KI wr B B 300 L ∧ L.length ≤ 120 ∧ Ext w wr) := Lib.hid (by
              have h1 := R.out.ki; have h2 := R.out.few
              have h3 := HR.out.2.1; have h4 := HR.out.1; have h5 := HM.out
              rw [hjn] at h1 h2
              exact ⟨h1.more (by omega), by omega, R.out.fk.ext HBw.out⟩)
            clear R HR hjn
            have A2 := Lib.hid (HA.out.ext R1.out.2.2); have B2 := Lib.hid (HB.out.ext R1.out.2.2)
            clear HA HB HO
            go_wp2_with (at_builtin; refine wpList_append_txt rfl _ _ rfl wr.heap.size wr.heap.size (.slice none 0 0) (.slice Aa na ca) [] ka (World.ownsRow_nil _ _ _ _) A2.out.1 A2.out.2.1.2 rfl rfl ?c0 (Nat.le_refl _) ?_)
            case c0 => have := HFA.out.2; simp; omega
            intro v1 w3 q1 g1
            have Q1 : Hid (SRow w3 wr.heap.size v1 ka ∧ Ext wr w3) := Lib.hid ⟨by simpa using q1, ⟨g1.os, g1.tape, g1.output, g1.size, fun k hk => g1.block k hk (by simp [Value.ownBlock])⟩⟩
            clear q1 g1
            have B3 := Lib.hid (B2.out.ext Q1.out.2)
            go_wp2_with (at_builtin; refine wpList_append_txt rfl _ _ rfl wr.heap.size w3.heap.size v1 (.slice Ab nb cb) ka kb Q1.out.1 B3.out.1 B3.out.2.1.2 rfl rfl ?c1 Q1.out.2.size ?_)
            case c1 => have := HFA.out.2; have := HFB.out.2; omega
            intro v2 w4 q2 g2
            have Q2 : Hid (SRow w4 wr.heap.size v2 (ka ++ kb) ∧ Ext wr w4) := Lib.hid ⟨q2, by
              refine ⟨g2.os.trans Q1.out.2.os, g2.tape.trans Q1.out.2.tape, g2.output.trans Q1.out.2.output, Nat.le_trans Q1.out.2.size g2.size, fun k hk => (g2.block k (Nat.lt_of_lt_of_le hk Q1.out.2.size) ?_).trans (Q1.out.2.block k hk)⟩
              intro e
              rcases Q1.out.1.2 with ⟨rfl, _⟩ | ⟨g, cap, cur, rfl, hb, _⟩
              · simp [Value.ownBlock] at e
              · simp [Value.ownBlock] at e; omega⟩
            clear q2 g2 Q1 B3
            have hw := withN w4 B B 300 L v2 (ka ++ kb) (R1.out.1.ext Q2.out.2) Q2.out.1.texts (by have := HFA.out.2; have := HFB.out.2; simp; omega) (fun k hk => by
              rcases List.mem_append.1 hk with h | h
              · have := bytesL_mem h; have := HFA.out.1; omega
              · have := bytesL_mem h; have := HFB.out.1; omega) (by omega)
            have HW := Lib.hid hw
            clear hw
            go_wp2_with fail
            refine HW.out.mono ?_
            rintro e w5 ⟨v5, zs, rfl, n5, d5, m5, s5, l5, x5⟩
            have N5 := Lib.hid n5; have D5 := Lib.hid d5; have M5 := Lib.hid m5
            have X5 := Lib.hid (Q2.out.2.trans x5)
            have l5 : zs.length ≤ 120 := Nat.le_trans l5 R1.out.2.1
            obtain ⟨Aw, cw, hv5, hcw⟩ := N5.out
            obtain ⟨nw, hnw⟩ : ∃ n, n = zs.length := ⟨_, rfl⟩
            rw [← hnw] at hv5 l5
            have HCW := Lib.hid hcw; have HNW := Lib.hid hnw
            clear n5 d5 m5 s5 x5 HW Q2 hcw N5 hnw
            subst hv5
            have X6 := Lib.hid (alloc_ext w5 (.cells #[.slice Aa na ca, .slice Ab nb cb] 23))
            have A6 := Lib.hid (A2.out.ext (X5.out.trans X6.out)); have B6 := Lib.hid (B2.out.ext (X5.out.trans X6.out))
            have K6 := Lib.hid (R1.out.1.ext (X5.out.trans X6.out))
            go_wp2
            go_loopw [61, 13] (fun i _ wx => ∃ q : Nat, q ≤ 2 ∧ i = .int .i64 q ∧ Ext (w5.alloc (.cells #[.slice Aa na ca, .slice Ab nb cb] 23)) wx) (fun i _ _ => 2 - (intOf i).toNat)
            case atStart => exact ⟨0, by omega, rfl, Ext.refl _⟩
            case round =>
              obtain ⟨q, hq, rfl, hx⟩ := hrel
              have HX := Lib.hid hx
              clear hx
              by_cases hq2 : q < 2
              · have hu : ∃ Au nu cu ku, wr.cell? ⟨w5.heap.size, q, none⟩ = some (.slice Au nu cu) ∧ TextsA wr (.slice Au nu cu) ku ∧ ku.length ≤ 20 ∧ bytesL ku ≤ 400 ∧ ∀ k ∈ ku, k ∈ ka ++ kb := by
                  have h2 : q = 0 ∨ q = 1 := by omega
                  rcases h2 with rfl | rfl
                  · exact ⟨_, _, _, ka, Ext.cell HX.out (blk_cell (heap_alloc_new w5 _) 0), A6.out.ext HX.out, by have := HFA.out.2; omega, by have := HFA.out.1; omega, fun k hk => List.mem_append_left _ hk⟩
                  · exact ⟨_, _, _, kb, Ext.cell HX.out (blk_cell (heap_alloc_new w5 _) 1), B6.out.ext HX.out, by have := HFB.out.2; omega, by have := HFB.out.1; omega, fun k hk => List.mem_append_right _ hk⟩
                obtain ⟨Au, nu, cu, ku, hcu, tu, lu, bu, su⟩ := hu
                have hw7 := withN wr B B 300 L (.slice Au nu cu) ku (K6.out.ext HX.out) tu.1 (by omega) (fun k hk => by have := bytesL_mem hk; omega) (by omega)
                have HW7 := Lib.hid hw7; have SU := Lib.hid su
                clear hw7 tu bu su
                go_wp2_with fail
                refine HW7.out.mono ?_
                rintro e w7 ⟨v7, ys, rfl, n7, d7, m7, s7, l7, x7⟩
                obtain ⟨Ay, cy, hv7, hcy⟩ := n7
                obtain ⟨ny, hny⟩ : ∃ n, n = ys.length := ⟨_, rfl⟩
                rw [← hny] at hv7 l7
                have l7 : ny ≤ 120 := Nat.le_trans l7 R1.out.2.1
                have M7 := Lib.hid m7; have HCY := Lib.hid hcy; have HNY := Lib.hid hny; have X7 := Lib.hid (HX.out.trans x7)
                clear d7 m7 s7 x7 hcy hny HW7 HX
                subst hv7
                go_wp2
                go_loop [69, 15, 16, 18] (fun i _ _ _ => ∃ t : Nat, t ≤ ny ∧ i = .int .i64 t) (fun i _ _ _ => ny - (intOf i).toNat)
                case atStart => exact ⟨0, by omega, rfl⟩
                case round =>
                  obtain ⟨t, ht, rfl⟩ := hrel
                  by_cases htn : t < ny
                  · have hts : t < ys.length := by rw [← HNY.out]; exact htn
                    obtain ⟨gy, oy, rfl, _, hcell⟩ := HCY.out t hts
                    have hin : ys[t] ∈ zs := by
                      obtain ⟨k, h1, h2⟩ := (M7.out _).1 (List.getElem_mem hts)
                      exact (M5.out _).2 ⟨k, SU.out k h1, h2⟩
                    obtain ⟨x, hxx⟩ : ∃ x, x = ys[t] := ⟨_, rfl⟩
                    rw [← hxx] at hcell hin
                    have HIN := Lib.hid hin
                    clear hin hxx hts
                    go_wp2
                    go_loop [75, 16, 18] (fun i th _ => ∃ p : Nat, p ≤ nw ∧ i = .int .i64 p ∧ th = .bool (decide (x ∈ zs.take p))) (fun i _ _ => nw - (intOf i).toNat)
                    case atStart => exact ⟨0, by omega, rfl, by simp⟩
                    case round =>
                      obtain ⟨p, hp, rfl, rfl⟩ := hrel
                      by_cases hpn : p < nw
                      · have hps : p < zs.length := by rw [← HNW.out]; exact hpn
                        obtain ⟨gw, ow, rfl, _, hcell2⟩ := HCW.out p hps
                        have htk : zs.take (p + 1) = zs.take p ++ [zs[p]] := List.take_succ_eq_append_getElem hps
                        obtain ⟨y, hyy⟩ : ∃ y, y = zs[p] := ⟨_, rfl⟩
                        rw [← hyy] at hcell2 htk
                        have hcell3 := Ext.cell (X6.out.trans X7.out) hcell2
                        have HTK := Lib.hid htk
                        clear htk hyy hcell2 hps
                        by_cases hm1 : x ∈ zs.take p
                        · have e1 : decide (x ∈ zs.take p) = true := decide_eq_true hm1
                          rw [e1]
                          clear e1
                          have HM1 : Hid (x ∈ zs.take (p + 1)) := Lib.hid (by rw [HTK.out]; exact List.mem_append_left _ hm1)
                          clear hm1 HTK
                          go_wp2
                          go_round
                          case rel => exact ⟨p + 1, by omega, by go_num, by rw [decide_eq_true HM1.out]⟩
                          case measure => simp [intOf]; omega
                        · have e1 : decide (x ∈ zs.take p) = false := decide_eq_false hm1
                          rw [e1]
                          clear e1
                          have HM1 : Hid (x ∈ zs.take (p + 1) ↔ y = x) := Lib.hid (by rw [HTK.out, List.mem_append, List.mem_singleton]; exact ⟨fun h => h.elim (fun h => absurd h hm1) Eq.symm, fun h => .inr h.symm⟩)
                          clear hm1 HTK
                          go_wp2
                          go_round
                          case rel => exact ⟨p + 1, by omega, by go_num, congrArg Value.bool (by rw [Bool.eq_iff_iff]; simp [HM1.out])⟩
                          case measure => simp [intOf]; omega
                      · have hpp : zs.take p = zs := List.take_of_length_le (by have := HNW.out; omega)
                        have e1 : decide (x ∈ zs.take p) = true := decide_eq_true (by rw [hpp]; exact HIN.out)
                        rw [e1]
                        clear e1 hpp
                        go_wp2
                        go_round
                        case rel => exact ⟨t + 1, by omega, by go_num⟩
                        case measure => simp [intOf]; omega
                  · go_wp2
                    go_roundw
                    case rel => exact ⟨q + 1, by omega, by go_num, X7.out⟩
                    case measure => simp [intOf]; omega
              · have h8 := withN wr B B 300 L (.slice Aa na ca) ka (K6.out.ext HX.out) (A6.out.ext HX.out).1 (by have := HFA.out.2; omega) (fun k hk => by have := bytesL_mem hk; have := HFA.out.1; omega) (by omega)
                have H8 := Lib.hid h8
                clear h8
                go_wp2_with fail
                refine H8.out.mono ?_
                rintro e w8 ⟨v8, z8, rfl, n8, d8, m8, s8, l8, x8⟩
                obtain ⟨A8, c8, hv8, -⟩ := n8
                obtain ⟨l8', hl8⟩ : ∃ n, n = z8.length := ⟨_, rfl⟩
                rw [← hl8] at hv8 l8
                have l8 : l8' ≤ 120 := Nat.le_trans l8 R1.out.2.1
                have M8 := Lib.hid m8; have HL8 := Lib.hid hl8; have X8 := Lib.hid (HX.out.trans x8)
                clear d8 m8 s8 x8 H8 hl8
                subst hv8
                have h9 := withN w8 B B 300 L (.slice Ab nb cb) kb (K6.out.ext X8.out) (B6.out.ext X8.out).1 (by have := HFB.out.2; omega) (fun k hk => by have := bytesL_mem hk; have := HFB.out.1; omega) (by omega)
                have H9 := Lib.hid h9
                clear h9
                go_wp2_with fail
                refine H9.out.mono ?_
                rintro e w9 ⟨v9, z9, rfl, n9, d9, m9, s9, l9, x9⟩
                obtain ⟨A9, c9, hv9, -⟩ := n9
                obtain ⟨l9', hl9⟩ : ∃ n, n = z9.length := ⟨_, rfl⟩
                rw [← hl9] at hv9 l9
                have l9 : l9' ≤ 120 := Nat.le_trans l9 R1.out.2.1
                have hsum : (nw : Int) ≤ l8' + l9' := by
                  have h1 := nodup_len D5.out (m := z8 ++ z9) fun x hx => by
                    obtain ⟨k, h1, h2⟩ := (M5.out x).1 hx
                    rcases List.mem_append.1 h1 with h1 | h1
                    · exact List.mem_append_left _ ((M8.out x).2 ⟨k, h1, h2⟩)
                    · exact List.mem_append_right _ ((m9 x).2 ⟨k, h1, h2⟩)
                  rw [List.length_append, ← HNW.out, ← HL8.out, ← hl9] at h1
                  omega
                have X9 := Lib.hid (R1.out.2.2.trans (X5.out.trans (X6.out.trans (X8.out.trans x9))))
                clear d9 m9 s9 x9 H9 hl9 M8 HL8 X8 M5 D5 HNW HCW
                subst hv9
                go_wp2_with fail
                refine (awake_any _).mono ?_
                rintro e w10 ⟨rfl, x10⟩
                have X10 := Lib.hid (X9.out.trans x10)
                clear x10
                go_wp2
                go_ret
                exact ⟨rfl, X10.out⟩
      · have hfb' : fewB kb 20 400 = false := by simpa using hfb
        rw [hfb']
        clear hfb hfb'
        go_wp2_with fail
        refine (awake_any _).mono ?_
        rintro e w2 ⟨rfl, x2⟩
        have X2 := Lib.hid (X1.out.trans x2)
        clear x2
        go_wp2
        go_ret
        exact ⟨rfl, X2.out⟩
    · have hfa' : fewB ka 20 400 = false := by simpa using hfa
      rw [hfa']
      clear hfa hfa'
      go_wp2_with fail
      refine (awake_any _).mono ?_
      rintro e w2 ⟨rfl, x2⟩
      have X2 := Lib.hid (X1.out.trans x2)
      clear x2
      go_wp2
      go_ret
      exact ⟨rfl, X2.out⟩
set_option maxRecDepth 100000 in
theorem keysMore_lifted (os : Os) (started : os.Started) (H : Type) (enc : TypeId × Value → H) :
    ReturnsInHanded {} Try.checked os 3 .any (Rows.keysMoreSpec.pre6 enc Try.prog Try.f3 Rows.keysMoreRow.domain false) (Rows.keysMoreSpec.post enc Try.prog Try.f3 false true false false) := by
  refine returnsInHanded_of_change (C := Try.checked) own started (by kernel_rfl) Try.func3
    (ChangeSpec.witness6 (enc := enc) (C := Try.checked) false ⟨#[], #[.slice none 0 0, .slice none 0 0, .slice none 0 0], []⟩ 8 (by kernel_rfl) (by kernel_rfl) (by kernel_rfl) (by kernel_rfl)) ?_
  intro W base args ds gs before hval0 hW hcnd _
  have hval : ∀ (j : Nat) t v, Try.f3.params[j]? = some t → args[j]? = some v → Value.okWide Try.prog W .any base t v := hval0
  have hW' := hW
  obtain ⟨p, q, hA0, hV, rfl, hfz, hnd⟩ := hW
  have hA : DataW.TrodAll enc Try.prog W 0 (fun _ => true) true Try.f3.params.toList args.toList ds p := hA0
  rw [Try.params3] at hA hval
  obtain ⟨v0, vs0, d0, ds0, p0, q0, hargs, rfl, rfl, h0, r0⟩ := trodAll_cons hA
  obtain ⟨v1, vs1, d1, ds1, p1, q1, rfl, rfl, rfl, h1, r1⟩ := trodAll_cons r0
  obtain ⟨v2, vs2, d2, ds2, p2, q2, rfl, rfl, rfl, h2, r2⟩ := trodAll_cons r1
  obtain ⟨rfl, rfl, rfl⟩ := trodAll_nil r2
  obtain rfl : args = #[v0, v1, v2] := by cases args; simp_all
  obtain ⟨rfl, rfl⟩ := trodVars_none hV
  have lt0 : ∀ x ∈ p0, x.block < W.heap.size := by obtain ⟨m, hm⟩ := h0; exact DataW.trod_lt m _ _ _ hm
  have t0 := fun W' (bel : Below W.heap.size W W') => Below.trod laidOut (by kernel_rfl) (of_decide_eq_true (by kernel_rfl)) h0 bel lt0
  have lt1 : ∀ x ∈ p1, x.block < W.heap.size := by obtain ⟨m, hm⟩ := h1; exact DataW.trod_lt m _ _ _ hm
  have t1 := fun W' (bel : Below W.heap.size W W') => Below.trod laidOut (by kernel_rfl) (of_decide_eq_true (by kernel_rfl)) h1 bel lt1
  have lt2 : ∀ x ∈ p2, x.block < W.heap.size := by obtain ⟨m, hm⟩ := h2; exact DataW.trod_lt m _ _ _ hm
  have t2 := fun W' (bel : Below W.heap.size W W') => Below.trod laidOut (by kernel_rfl) (of_decide_eq_true (by kernel_rfl)) h2 bel lt2
  obtain ⟨A0, xs0, c0, rfl, ha0, hl0⟩ := ops_open (hval 0 22 v0 rfl rfl) h0
  obtain ⟨ss1, ha1⟩ := texts_open (hval 1 23 v1 rfl rfl) h1
  obtain ⟨ss2, ha2⟩ := texts_open (hval 2 23 v2 rfl rfl) h2
  clear hA0 hval0
  refine (more_walk xs0 A0 c0 v1 ss1 v2 ss2 W ha0 hl0 ha1 ha2 ).mono fun e W' ⟨he, bel⟩ => ?_
  subst he
  exact ⟨_, rfl, _, _, _, [], _, [], hW', trodAll_mk1 (shut_bool Try.underlying4 _), (trodAll_cons_mk (t0 W' bel) (trodAll_cons_mk (t1 W' bel) (trodAll_cons_mk (t2 W' bel) trodAll_mk0))), rfl, bel.frame _, fun h => by cases h⟩

/-- The statement. -/
theorem KeysMore_proved : Rows.KeysMoreSaid :=
  OpenClaim.holds_of_wide 3 Try.f3 rfl rfl rfl rfl rfl rfl rfl ⟨rfl, rfl, rfl, rfl, rfl⟩ rfl rfl rfl rfl rfl (by kernel_rfl) Try.func3 (by kernel_rfl)
    (of_decide_eq_true (by kernel_rfl)) (by unfold Func.isWrapper; first | (rw [if_pos (by decide +kernel)]; kernel_rfl) | (rw [if_neg (by decide +kernel)]; exact ⟨rfl, rfl⟩))
    (fun os started H enc _ => keysMore_lifted os started H enc)
#print axioms KeysMore_proved
end Go.Proofs.Ytgbhhofmghgpbaa
