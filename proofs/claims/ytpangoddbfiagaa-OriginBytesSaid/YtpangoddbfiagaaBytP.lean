/- Proved: OriginBytes, for every input: what a stream tells, however it is taken while its version grows, is a beginning of that one's bytes in its span; all of them, where it ends. -/
import Derived.Test.YtpangoddbfiagaaBytA
namespace Go.Proofs.Ytpangoddbfiagaa
open Go.ChangeShapes Go.WideShapes Go.ChangeAt Go.RowKit Go.Deep Go.Joins
open Go.Maps Go.ChangeMaps
set_option linter.unusedVariables false
set_option linter.unusedSimpArgs false

set_option maxRecDepth 100000 in
theorem asked_open {H : Type} {enc : TypeId × Value → H} {w : World} {base : Nat} {held : Bool} {v : Value} {d : DataW H} {p : List MemPlace} {r : Reach} {b0 : Nat} (hv : Value.okWide Try.prog w r b0 31 v) (h : DataW.Trod enc Try.prog w base (fun _ => true) held 31 v d p) :
    ∃ (f : Ft) (u : Value) (bs : Bs), v = .agg #[.string ⟨f.obj.toArray⟩, .int .i64 f.fr, .int .i64 f.to, .string ⟨f.mt.toArray⟩, .bool f.mw, .string ⟨f.nt.toArray⟩, .bool f.nw, u] ∧ BytesA w u bs := by
  simp only [Value.okWide, Try.underlying31] at hv
  obtain ⟨cs, rfl, hsz, _⟩ := hv
  obtain ⟨fuel, hf⟩ := h
  obtain ⟨f, u, bs, h1, h2⟩ := asked_cells hf
  refine ⟨f, u, bs, ?_, h2⟩
  have h3 : cs.toList = (ftC f).toList ++ [u] := h1
  have h4 : cs = ((ftC f).toList ++ [u]).toArray := by rw [← h3]
  rw [h4]; rfl
set_option maxRecDepth 100000 in
set_option maxHeartbeats 16000000 in
theorem bytes_walk (bv : Value) (bs : Bs) (mv : Value) (xs : List (Value × Bs)) (f : Ft) (tv : Value) (ts : Bs) (w : World) (hB : BytesA w bv bs) (hM : RowsG w 1 (RRow w) mv xs) (hT : BytesA w tv ts) :
    Calls Try.prog 3 #[bv, mv, .agg #[.string ⟨f.obj.toArray⟩, .int .i64 f.fr, .int .i64 f.to, .string ⟨f.mt.toArray⟩, .bool f.mw, .string ⟨f.nt.toArray⟩, .bool f.nw, tv]] w fun e w' => e = .returned (.bool true) ∧ Below w.heap.size w w' := by
  have HB := Lib.hid hB; have HM := Lib.hid hM; have HT := Lib.hid hT
  obtain ⟨fo, ff, fto, mt, mw, nt, nw⟩ := f
  simp only
  obtain ⟨A, c, hbv⟩ := RowsG.slice hB
  obtain ⟨A2, c2, hmv⟩ := RowsG.slice hM
  obtain ⟨A3, c3, htv⟩ := RowsG.slice hT
  clear hB hM hT
  subst hbv hmv htv
  obtain ⟨n, hn⟩ : ∃ n, n = bs.length := ⟨_, rfl⟩
  obtain ⟨m, hm⟩ : ∃ m, m = xs.length := ⟨_, rfl⟩
  obtain ⟨t, ht⟩ : ∃ t, t = ts.length := ⟨_, rfl⟩
  rw [← hn] at HB ⊢
  rw [← hm] at HM ⊢
  rw [← ht] at HT ⊢
  have HN := Lib.hid hn; have HMM := Lib.hid hm; have HTT := Lib.hid ht
  clear hn hm ht
  go_enter Try.func3, Try.ntmps3
  go_wp2_with (refine wpList_boxA 31 rfl _ rfl #[.string ⟨fo.toArray⟩, .int .i64 ff, .int .i64 fto, .string ⟨mt.toArray⟩, .bool mw, .string ⟨nt.toArray⟩, .bool nw, .slice A3 t c3] rfl ?_; intro W0 x0 n0 s0; refine stop_of ?_)
  unfold Stop
  obtain ⟨xb, hxb⟩ : ∃ xb, xb = w.heap.size := ⟨_, rfl⟩
  rw [← hxb] at n0 ⊢
  have X0 := Lib.hid x0; have N0 := Lib.hid n0; have HXB := Lib.hid hxb
  clear x0 n0 s0 hxb
  go_wp2_with (go_at_call 10; refine (st_new _).mono ?_; rintro e w1 ⟨rfl, h1, x1⟩; refine stop_of ?_)
  unfold Stop
  obtain ⟨b, hb⟩ : ∃ b, b = W0.heap.size := ⟨_, rfl⟩
  rw [← hb] at h1 ⊢
  have H1 : Hid (St w w1 b 0 [] [] [] [] (fun i => i = xb)) := Lib.hid (h1.lower X0.out (fun g hg => by rw [hg, HXB.out]; exact ⟨Nat.le_refl _, by rw [← HXB.out]; exact blk_lt N0.out⟩))
  have N1 := Lib.hid (x1.heap N0.out)
  clear h1 x1 hb X0 N0
  go_wp2_with (go_at_call 11; refine (awake_any _).mono ?_; rintro e w2 ⟨rfl, x2⟩; refine stop_of ?_)
  unfold Stop
  have H2 := Lib.hid (H1.out.ext x2); have N2 := Lib.hid (x2.heap N1.out)
  clear H1 N1 x2
  have k7 := blk_cell N2.out 7
  simp at k7
  by_cases hb1 : (60 : Int) < n
  · go_wp2_with (go_at_call 11; refine (awake_any _).mono ?_; rintro e w3 ⟨rfl, x3⟩; refine stop_of ?_)
    unfold Stop
    have X3 := Lib.hid (H2.out.base.trans x3)
    clear x3
    go_wp2
    go_ret
    exact ⟨rfl, X3.out⟩
  · by_cases hb2 : (10 : Int) < m
    · go_wp2_with (go_at_call 11; refine (awake_any _).mono ?_; rintro e w3 ⟨rfl, x3⟩; refine stop_of ?_)
      unfold Stop
      have X3 := Lib.hid (H2.out.base.trans x3)
      clear x3
      go_wp2
      go_ret
      exact ⟨rfl, X3.out⟩
    · by_cases hb3 : (40 : Int) < t
      · go_wp2_with (go_at_call 11; refine (awake_any _).mono ?_; rintro e w3 ⟨rfl, x3⟩; refine stop_of ?_)
        unfold Stop
        have X3 := Lib.hid (H2.out.base.trans x3)
        clear x3
        go_wp2
        go_ret
        exact ⟨rfl, X3.out⟩
      · have HGR := Lib.hid (great_any (w2.alloc (.cells (actC ⟨0, [], zeroM, .slice none 0 0, [], .slice none 0 0, ⟨fo, ff, fto, mt, mw, nt, nw⟩, 0, 0⟩).toArray 40)) (some ⟨w2.heap.size, 0, none⟩) [⟨0, [], zeroM, .slice none 0 0, [], .slice none 0 0, ⟨fo, ff, fto, mt, mw, nt, nw⟩, 0, 0⟩] 1 ⟨_, _, rfl, Nat.le_refl _, fun e => (by cases e), fun k hk => ⟨w2.heap.size, 0, actC ⟨0, [], zeroM, .slice none 0 0, [], .slice none 0 0, ⟨fo, ff, fto, mt, mw, nt, nw⟩, 0, 0⟩, rfl, by
            have hk0 : k = 0 := by simp at hk; exact hk
            subst hk0
            exact ⟨rfl, texts_nil _, low_nil _, ⟨none, 0, rfl, Nat.le_refl _, fun _ => rfl, fun j hj => by simp at hj⟩, low_nil _, by simp⟩, by simp, fun j u hj => by
            have hk0 : k = 0 := by simp at hk; exact hk
            subst hk0
            have hc := blk_cell (heap_alloc_new w2 (.cells (actC ⟨0, [], zeroM, .slice none 0 0, [], .slice none 0 0, ⟨fo, ff, fto, mt, mw, nt, nw⟩, 0, 0⟩).toArray 40)) j
            rw [show 0 + 0 * 23 + j = j by omega, hc]
            simpa using hj⟩⟩)
        go_wp2_with (first | (refine wpList_getW 29 _ rfl _ rfl xb 0 31 _ [.string ⟨fo.toArray⟩, .int .i64 ff, .int .i64 fto, .string ⟨mt.toArray⟩, .bool mw, .string ⟨nt.toArray⟩, .bool nw] N2.out rfl (by kernel_rfl) Try.underlying29 rfl size29 ?_) | (go_at_call 12; refine HGR.out.mono ?_; rintro e w3 ⟨r, rfl, hr, x3⟩; refine stop_of ?_))
        unfold Stop
        have H3 := Lib.hid ((H2.out.ext (ext_alloc1 w2 _)).ext x3)
        have N3 := Lib.hid (x3.heap ((ext_alloc1 w2 (.cells (actC ⟨0, [], zeroM, .slice none 0 0, [], .slice none 0 0, ⟨fo, ff, fto, mt, mw, nt, nw⟩, 0, 0⟩).toArray 40)).heap N2.out))
        have HRR := Lib.hid hr
        clear x3 H2 N2 k7 HGR hr
        cases r with
        | true =>
          go_wp2_with (go_at_call 11; refine (awake_any _).mono ?_; rintro e w4 ⟨rfl, x4⟩; refine stop_of ?_)
          unfold Stop
          have X4 := Lib.hid (H3.out.base.trans x4)
          clear x4
          go_wp2
          go_ret
          exact ⟨rfl, X4.out⟩
        | false =>
          have HZ := Lib.hid (show mt.length ≤ 1000 ∧ nt.length ≤ 1000 from by
            have h := ((HRR.out rfl).2 _ (List.mem_singleton.2 rfl)).ft
            exact ⟨h.mt, h.nt⟩)
          go_wp2_with (refine wpList_put 9 rfl _ _ rfl xb 0 31 _ #[.string ⟨#[47, 97]⟩, .int .i64 ff, .int .i64 fto, .string ⟨mt.toArray⟩, .bool mw, .string ⟨nt.toArray⟩, .bool nw, .slice A3 t c3] [.string ⟨#[47, 97]⟩] _ N3.out rfl rfl rfl (by simp) rfl size9 (by kernel_rfl) ?_; intro W4 x4 n4 s4; refine stop_of ?_)
          unfold Stop
          have H4 := Lib.hid (H3.out.other (P' := fun i => i = xb) (.ofB x4 (fun k hk => .inl (by simpa using hk))) (fun g hg => .inl hg))
          have N4 := Lib.hid n4
          clear H3 N3 x4 n4 s4 HRR
          go_wp2_with (go_at_call 14; refine (lmeta_any _ _).mono ?_; rintro e w5 ⟨rfl, x5⟩; refine stop_of ?_)
          unfold Stop
          have H5 := Lib.hid (H4.out.ext x5); have N5 := Lib.hid (x5.heap N4.out)
          clear x5 H4 N4
          go_wp2_with (at_builtin; refine wpList_copyE rfl _ _ rfl _ bs (BytesA.at_ (RowsG.ext HB.out H5.out.base)) rfl rfl (by have := HN.out; omega) ?_; intro v6 W6 r6 x6; refine stop_of ?_)
          unfold Stop
          have H6 := Lib.hid (H5.out.hold x6 r6 (Nat.le_refl _)); have N6 := Lib.hid (x6.heap N5.out)
          clear H5 N5 x6 r6
          go_wp2_with (go_at_call 13; refine (g_st_set H6.out List.mem_cons_self (by have := HN.out; omega)).mono ?_; rintro e w7 ⟨rfl, h7, q7⟩; refine stop_of ?_)
          unfold Stop
          have H7 := Lib.hid (h7.drop (hl' := []) (by simp)); have N7 := Lib.hid ((q7 xb rfl).trans N6.out)
          clear H6 N6 h7 q7
          cases hft : ftB ⟨[47, 97], ff, fto, mt, mw, nt, nw⟩ with
          | false =>
            have HFT := Lib.hid hft
            clear hft
            go_wp2_with (first | (refine wpList_get 29 _ rfl _ rfl xb 0 31 _ [.string ⟨#[47, 97]⟩, .int .i64 ff, .int .i64 fto, .string ⟨mt.toArray⟩, .bool mw, .string ⟨nt.toArray⟩, .bool nw] N7.out rfl (by kernel_rfl) Try.underlying29 rfl size29 ?_) | (go_at_call 15; refine (st_ask_no H7.out ⟨[47, 97], ff, fto, mt, mw, nt, nw⟩ ⟨by simp, HZ.out.1, HZ.out.2⟩ HFT.out).mono ?_; rintro e w8 ⟨rfl, h8, _⟩; refine stop_of ?_))
            unfold Stop
            have X8 := Lib.hid h8.base
            clear h8
            go_wp2
            go_ret
            exact ⟨rfl, X8.out⟩
          | true =>
            have HFT := Lib.hid hft
            clear hft
            go_wp2_with (first | (refine wpList_get 29 _ rfl _ rfl xb 0 31 _ [.string ⟨#[47, 97]⟩, .int .i64 ff, .int .i64 fto, .string ⟨mt.toArray⟩, .bool mw, .string ⟨nt.toArray⟩, .bool nw] N7.out rfl (by kernel_rfl) Try.underlying29 rfl size29 ?_) | (go_at_call 15; refine (b_st_ask (f := ⟨[47, 97], ff, fto, mt, mw, nt, nw⟩) H7.out ⟨by simp, HZ.out.1, HZ.out.2⟩ HFT.out).mono ?_; rintro e w8 ⟨sb, rfl, h8, x8⟩; refine stop_of ?_))
            unfold Stop
            obtain ⟨s0, hs0⟩ : ∃ s0, s0 = askS (GV bs.length bs) ⟨[47, 97], ff, fto, mt, mw, nt, nw⟩ := ⟨_, rfl⟩
            rw [← hs0] at h8
            have HK := Lib.hid (ask_kinds bs.length bs ⟨[47, 97], ff, fto, mt, mw, nt, nw⟩ rfl HFT.out (by have := HN.out; omega))
            rw [← hs0] at HK
            have H8 := Lib.hid h8; have N8 := Lib.hid (x8.heap N7.out)
            clear H7 N7 h8 x8 hs0 HFT HZ
            go_wp2_with (go_at_call 16; refine (b_st_head H8.out).mono ?_; rintro e w9 ⟨kA, kc, rfl, h9, x9⟩; refine stop_of ?_)
            unfold Stop
            have H9 := Lib.hid h9; have N9 := Lib.hid (x9.heap N8.out)
            unfold replyC
            clear H8 N8 h9 x9
            go_wp2_with (refine wpList_new 49 _ zero49 rfl rfl ?_; intro W10 x10 n10 s10; refine stop_of ?_)
            unfold Stop
            obtain ⟨hb, hhb⟩ : ∃ hb, hb = w9.heap.size := ⟨_, rfl⟩
            rw [← hhb] at n10 ⊢
            have hne : xb ≠ hb := by have := blk_lt N9.out; omega
            have H10 := Lib.hid (H9.out.other (P' := fun i => i = xb ∨ i = hb) (.of x10) (fun g hg => by
              rcases hg with hg | hg
              · exact .inl hg
              · exact .inr ⟨by rw [hg, hhb]; exact Nat.le_refl _, by rw [hg]; exact blk_lt n10⟩))
            have N10 := Lib.hid (And.intro (x10.heap N9.out) n10); have HNE := Lib.hid hne
            clear H9 N9 x10 n10 s10 hhb hne
            go_wp2_with (refine wpList_put 49 rfl _ _ rfl hb 0 49 _ #[.int .i64 s0.st, .string ⟨s0.m.tt.toArray⟩, .bool s0.m.tw, .int .i64 s0.m.mod, .int .i64 s0.m.len, .int .i64 s0.m.hav, .int .i64 s0.m.fr, .int .i64 s0.m.wh, .int .i64 s0.m.er, .slice kA s0.m.keys.length kc, .string ⟨s0.m.ten.toArray⟩, .bool s0.m.keep, .int .i64 s0.fr, .int .i64 s0.to, .int .i64 0] [.int .i64 s0.st, .string ⟨s0.m.tt.toArray⟩, .bool s0.m.tw, .int .i64 s0.m.mod, .int .i64 s0.m.len, .int .i64 s0.m.hav, .int .i64 s0.m.fr, .int .i64 s0.m.wh, .int .i64 s0.m.er, .slice kA s0.m.keys.length kc, .string ⟨s0.m.ten.toArray⟩, .bool s0.m.keep, .int .i64 s0.fr, .int .i64 s0.to, .int .i64 0] _ N10.out.2 rfl rfl rfl (by simp) rfl size49 (by kernel_rfl) ?_; intro W11 x11 n11 s11; refine stop_of ?_)
            unfold Stop
            have H11 : Hid (St w W11 b 2 (GV bs.length bs) [s0] [sb] [] (fun i => i = xb ∨ i = hb)) := Lib.hid (H10.out.other (.ofB x11 (fun k hk => .inl (.inr (by simpa using hk)))) (fun g hg => .inl hg))
            have N11 := Lib.hid (And.intro (x11.heap N10.out.1 (by simpa using HNE.out)) n11)
            have k7 := blk_cell N11.out.1 7
            simp at k7
            clear H10 N10 x11 n11 s11
            go_wp2_with fail
            clear k7
            go_loopw [84, 11, 12, 13, 14, 15] (fun i g _ _ _ _ wr => ∃ (j : Nat) (x got : Bs) (s : Sn), j ≤ t ∧ i = .int .i64 j ∧ g = .string ⟨got.toArray⟩ ∧ Hid (x.length ≤ 60 + 60 * j ∧ Tk x s got ∧ (s.st = s0.st ∧ s.fr = s0.fr ∧ s.to = s0.to ∧ s.v = s0.v) ∧ St w wr b 2 (GV bs.length x) [s] [sb] [] (fun i => i = xb ∨ i = hb) ∧ KeepP (fun i => i = xb ∨ i = hb) W11 wr)) (fun i _ _ _ _ _ _ => t - (intOf i).toNat)
            case atStart => exact ⟨0, bs, [], s0, by omega, rfl, rfl, Lib.hid ⟨by have := HN.out; omega, HK.out.1, ⟨rfl, rfl, rfl, rfl⟩, H11.out, KeepP.refl _ _⟩⟩
            case round =>
              clear H11
              obtain ⟨j, x, got, s, hj, rfl, rfl, R⟩ := hrel
              by_cases hlt : j < t
              · have hjs : j < ts.length := by rw [← HTT.out]; exact hlt
                obtain ⟨eb, eo, cs, hA3, hcs, d4, hcell⟩ := RowsG.at (RowsG.ext HT.out R.out.2.2.2.1.base) hjs
                have k0 := hcell 0 (byteV ts[j]) (by rw [hcs]; rfl)
                obtain ⟨nb, hnb⟩ : ∃ nb : Nat, nb = (ts[j]).toNat := ⟨_, rfl⟩
                unfold byteV at k0
                rw [← hnb] at k0
                have hnb2 : nb ≤ 255 := by rw [hnb]; have := UInt8.toNat_lt ts[j]; omega
                have k1 : wr.cell? ⟨eb, eo + j, none⟩ = some (.int .u8 nb) := by simpa using k0
                subst hA3
                have HB2 := Lib.hid hnb2
                clear hcell hcs d4 k0 hnb hjs
                have HX0 := Lib.hid (show x.length ≤ 60 + 60 * j ∧ j ≤ 40 by have := R.out.1; omega)
                by_cases hjm : j < m
                · have hjx : j < xs.length := by rw [← HMM.out]; exact hjm
                  obtain ⟨mb, mo, cs, hA2, ⟨hcs, hpb, d3⟩, d4, hcell⟩ := RowsG.at (RowsG.ext HM.out R.out.2.2.2.1.base) hjx
                  have k2 := hcell 0 (xs[j].1) (by rw [hcs]; rfl)
                  obtain ⟨p, hpp⟩ : ∃ p, p = xs[j] := ⟨_, rfl⟩
                  rw [← hpp] at k2 hpb
                  obtain ⟨pv, pb⟩ := p
                  simp only at k2 hpb
                  have HPB := Lib.hid hpb
                  obtain ⟨A5, c5, rfl⟩ := RowsG.slice hpb
                  obtain ⟨q, hq⟩ : ∃ q, q = pb.length := ⟨_, rfl⟩
                  rw [← hq] at HPB k2
                  have HQ := Lib.hid hq
                  subst hA2
                  have k3 : wr.cell? ⟨mb, mo + j, none⟩ = some (.slice A5 q c5) := by simpa using k2
                  have k4 := (ext_alloc1 wr (.cells #[] 5)).cell k3
                  clear d3 d4 hcell hcs hpp k2 hpb hq hjx
                  by_cases hq60 : (60 : Int) < q
                  · have HS := Lib.hid R.out.2.2.2.1
                    have HKP := Lib.hid R.out.2.2.2.2
                    obtain ⟨x2, hx2⟩ : ∃ x2, x2 = x := ⟨_, rfl⟩
                    have HX2 := Lib.hid (show x2.length ≤ 60 + 60 * (j + 1) ∧ Tk x2 s got by rw [hx2]; exact ⟨by have := R.out.1; omega, R.out.2.1⟩)
                    rw [← hx2] at HS
                    clear hx2
                    have e9 : Int.tmod (nb : Int) 9 = ((nb % 9 : Nat) : Int) := (Int.ofNat_tmod nb 9).symm
                    go_wp2_with (go_at_call 18; refine (b_st_take (k := nb % 9) HS.out HX2.out.2).mono ?_; rintro e w11 ⟨yA, yc, z, y, s', rfl, hyk, hTk, hsf, h11, q11⟩; refine stop_of ?_)
                    unfold Stop
                    have H11 := Lib.hid (h11.drop (hl' := []) (by simp))
                    have c2 := run_str (h11.bytes (v := .slice yA y.length yc) (bs := y) List.mem_cons_self)
                    obtain ⟨got2, hg2⟩ : ∃ got2, got2 = got ++ y := ⟨_, rfl⟩
                    rw [← hg2] at hTk
                    have HG2 := Lib.hid hg2; have HTK := Lib.hid hTk; have HSF := Lib.hid hsf; have KP11 := Lib.hid (HKP.out.trans q11)
                    have HLL := Lib.hid (show got.length ≤ 1000000 ∧ y.length ≤ 1000000 from ⟨Nat.le_trans R.out.2.1.len (by have := HX0.out; omega), by omega⟩)
                    obtain ⟨yl, hyl⟩ : ∃ yl, yl = y.length := ⟨_, rfl⟩
                    rw [← hyl] at c2 hyk ⊢
                    have hyk2 : ¬ ((nb % 9 : Nat) : Int) < (yl : Int) := by omega
                    clear h11 q11 hg2 hTk hsf hyl HS HKP hyk
                    go_wp2_with (refine wpList_add rfl _ _ rfl got y got2 rfl rfl HLL.out.1 HLL.out.2 HG2.out ?_)
                    go_roundw
                    case rel => exact ⟨j + 1, x2, got2, s', by omega, by go_num, rfl, Lib.hid ⟨HX2.out.1, HTK.out, ⟨HSF.out.1.trans R.out.2.2.1.1, HSF.out.2.1.trans R.out.2.2.1.2.1, HSF.out.2.2.1.trans R.out.2.2.1.2.2.1, HSF.out.2.2.2.trans R.out.2.2.1.2.2.2⟩, H11.out, KP11.out⟩⟩
                    case measure => first | (simp [intOf]; done) | (simp [intOf]; omega)
                  · have hq60' : ¬ q > 60 := by omega
                    go_wp2_with (at_builtin; refine wpList_copyE rfl _ _ rfl _ pb (BytesA.at_ (RowsG.ext HPB.out R.out.2.2.2.1.base)) rfl rfl (by have := HQ.out; omega) ?_; intro v9 W9 r9 x9; refine stop_of ?_)
                    unfold Stop
                    obtain ⟨x2, hx2⟩ : ∃ x2, x2 = x ++ pb := ⟨_, rfl⟩
                    have H9 := Lib.hid (R.out.2.2.2.1.hold x9 r9 (Nat.le_refl _))
                    have HX := Lib.hid (show x.length ≤ 5000 ∧ pb.length ≤ 60 by have := HX0.out; have := HQ.out; omega)
                    have HX2 := Lib.hid hx2
                    have HX3 := Lib.hid (show x2.length ≤ 60 + 60 * (j + 1) ∧ Tk x2 s got by rw [hx2]; exact ⟨by simp; have := HX0.out; have := HX.out; omega, R.out.2.1.grow⟩)
                    have KP9 := Lib.hid (R.out.2.2.2.2.trans (R.out.2.2.2.1.keptE x9))
                    clear x9 r9 k1 k3 k4 hx2
                    go_wp2_with (go_at_call 17; refine (b_st_grow H9.out List.mem_cons_self HX.out.2 HX.out.1 HX2.out).mono ?_; rintro e w10 ⟨rfl, h10, q10⟩; refine stop_of ?_)
                    unfold Stop
                    have HS := Lib.hid (h10.drop (hl' := []) (by simp))
                    have HKP := Lib.hid (KP9.out.trans q10)
                    clear H9 h10 q10 HX2 KP9
                    have HX2 := HX3
                    clear HX3
                    have e9 : Int.tmod (nb : Int) 9 = ((nb % 9 : Nat) : Int) := (Int.ofNat_tmod nb 9).symm
                    go_wp2_with (go_at_call 18; refine (b_st_take (k := nb % 9) HS.out HX2.out.2).mono ?_; rintro e w11 ⟨yA, yc, z, y, s', rfl, hyk, hTk, hsf, h11, q11⟩; refine stop_of ?_)
                    unfold Stop
                    have H11 := Lib.hid (h11.drop (hl' := []) (by simp))
                    have c2 := run_str (h11.bytes (v := .slice yA y.length yc) (bs := y) List.mem_cons_self)
                    obtain ⟨got2, hg2⟩ : ∃ got2, got2 = got ++ y := ⟨_, rfl⟩
                    rw [← hg2] at hTk
                    have HG2 := Lib.hid hg2; have HTK := Lib.hid hTk; have HSF := Lib.hid hsf; have KP11 := Lib.hid (HKP.out.trans q11)
                    have HLL := Lib.hid (show got.length ≤ 1000000 ∧ y.length ≤ 1000000 from ⟨Nat.le_trans R.out.2.1.len (by have := HX0.out; omega), by omega⟩)
                    obtain ⟨yl, hyl⟩ : ∃ yl, yl = y.length := ⟨_, rfl⟩
                    rw [← hyl] at c2 hyk ⊢
                    have hyk2 : ¬ ((nb % 9 : Nat) : Int) < (yl : Int) := by omega
                    clear h11 q11 hg2 hTk hsf hyl HS HKP hyk
                    go_wp2_with (refine wpList_add rfl _ _ rfl got y got2 rfl rfl HLL.out.1 HLL.out.2 HG2.out ?_)
                    go_roundw
                    case rel => exact ⟨j + 1, x2, got2, s', by omega, by go_num, rfl, Lib.hid ⟨HX2.out.1, HTK.out, ⟨HSF.out.1.trans R.out.2.2.1.1, HSF.out.2.1.trans R.out.2.2.1.2.1, HSF.out.2.2.1.trans R.out.2.2.1.2.2.1, HSF.out.2.2.2.trans R.out.2.2.1.2.2.2⟩, H11.out, KP11.out⟩⟩
                    case measure => first | (simp [intOf]; done) | (simp [intOf]; omega)
                · have HS := Lib.hid R.out.2.2.2.1
                  have HKP := Lib.hid R.out.2.2.2.2
                  obtain ⟨x2, hx2⟩ : ∃ x2, x2 = x := ⟨_, rfl⟩
                  have HX2 := Lib.hid (show x2.length ≤ 60 + 60 * (j + 1) ∧ Tk x2 s got by rw [hx2]; exact ⟨by have := R.out.1; omega, R.out.2.1⟩)
                  rw [← hx2] at HS
                  clear hx2
                  have e9 : Int.tmod (nb : Int) 9 = ((nb % 9 : Nat) : Int) := (Int.ofNat_tmod nb 9).symm
                  go_wp2_with (go_at_call 18; refine (b_st_take (k := nb % 9) HS.out HX2.out.2).mono ?_; rintro e w11 ⟨yA, yc, z, y, s', rfl, hyk, hTk, hsf, h11, q11⟩; refine stop_of ?_)
                  unfold Stop
                  have H11 := Lib.hid (h11.drop (hl' := []) (by simp))
                  have c2 := run_str (h11.bytes (v := .slice yA y.length yc) (bs := y) List.mem_cons_self)
                  obtain ⟨got2, hg2⟩ : ∃ got2, got2 = got ++ y := ⟨_, rfl⟩
                  rw [← hg2] at hTk
                  have HG2 := Lib.hid hg2; have HTK := Lib.hid hTk; have HSF := Lib.hid hsf; have KP11 := Lib.hid (HKP.out.trans q11)
                  have HLL := Lib.hid (show got.length ≤ 1000000 ∧ y.length ≤ 1000000 from ⟨Nat.le_trans R.out.2.1.len (by have := HX0.out; omega), by omega⟩)
                  obtain ⟨yl, hyl⟩ : ∃ yl, yl = y.length := ⟨_, rfl⟩
                  rw [← hyl] at c2 hyk ⊢
                  have hyk2 : ¬ ((nb % 9 : Nat) : Int) < (yl : Int) := by omega
                  clear h11 q11 hg2 hTk hsf hyl HS HKP hyk
                  go_wp2_with (refine wpList_add rfl _ _ rfl got y got2 rfl rfl HLL.out.1 HLL.out.2 HG2.out ?_)
                  go_roundw
                  case rel => exact ⟨j + 1, x2, got2, s', by omega, by go_num, rfl, Lib.hid ⟨HX2.out.1, HTK.out, ⟨HSF.out.1.trans R.out.2.2.1.1, HSF.out.2.1.trans R.out.2.2.1.2.1, HSF.out.2.2.1.trans R.out.2.2.1.2.2.1, HSF.out.2.2.2.trans R.out.2.2.1.2.2.2⟩, H11.out, KP11.out⟩⟩
                  case measure => first | (simp [intOf]; done) | (simp [intOf]; omega)
              · have HXL := Lib.hid (show x.length ≤ 5000 by have := R.out.1; omega)
                have N12 := Lib.hid (And.intro ((R.out.2.2.2.2 hb (.inr rfl)).trans N11.out.2) HXL.out)
                go_wp2_with (go_at_call 19; refine (g_st_seal R.out.2.2.2.1).mono ?_; rintro e w12 ⟨rfl, h12, q12⟩; refine stop_of ?_)
                unfold Stop
                have H12 := Lib.hid h12
                have N13 := Lib.hid ((q12 hb (.inr rfl)).trans N12.out.1)
                clear h12 q12 N12
                go_wp2_with (go_at_call 18; refine (b_st_last (k := 1048576) H12.out R.out.2.1 (by have := HXL.out; omega) HXL.out).mono ?_; rintro e w13 ⟨yA, yc, y, s', rfl, hy, h13, q13⟩; refine stop_of ?_)
                unfold Stop
                have H13 := Lib.hid h13
                have N14 := Lib.hid ((q13 hb (.inr rfl)).trans N13.out)
                have HGL := Lib.hid (show got.length ≤ 1000000 from Nat.le_trans R.out.2.1.len (by have := HXL.out; omega))
                obtain ⟨all, hall⟩ : ∃ all, all = got ++ y := ⟨_, rfl⟩
                rw [← hall] at hy
                have HY := Lib.hid hy; have HALL := Lib.hid hall
                have HYL := Lib.hid (show y.length ≤ 1000000 by
                  have h1 := congrArg List.length hall
                  rcases hy with ⟨_, h2⟩ | ⟨_, _, _, h2⟩
                  · rw [h2] at h1; simp at h1; omega
                  · rw [h2] at h1; simp at h1; have := HXL.out; omega)
                have c1 := run_str (H13.out.bytes (v := .slice yA y.length yc) (bs := y) List.mem_cons_self)
                have k0 := blk_cell N14.out 0
                simp at k0
                obtain ⟨yl, hyl⟩ : ∃ yl, yl = y.length := ⟨_, rfl⟩
                rw [← hyl] at c1 ⊢
                clear h13 q13 N13 H12 hy hall hyl
                rcases HK.out.2 with ⟨hv0, hn1, hn2⟩ | ⟨hv0, hst⟩
                · have ha0 : all = [] := by
                    rcases HY.out with ⟨_, h⟩ | ⟨h, _⟩
                    · exact h
                    · rw [R.out.2.2.1.2.2.2, hv0] at h; cases h
                  have X14 := Lib.hid H13.out.base
                  have HA0 := Lib.hid (show ([] : Bs) = got ++ y by rw [← ha0]; exact HALL.out)
                  obtain ⟨st0, hst0⟩ : ∃ z, z = s0.st := ⟨_, rfl⟩
                  rw [← hst0] at k0 hn1 hn2
                  have d1 : (st0 != 200) = true := by simpa using hn1
                  have d2 : (st0 != 206) = true := by simpa using hn2
                  clear hv0 ha0 hst0 hn1 hn2
                  go_wp2_with (refine wpList_add rfl _ _ rfl got y [] rfl rfl HGL.out HYL.out HA0.out ?_)
                  go_ret
                  exact ⟨rfl, X14.out⟩
                · obtain ⟨hf0, hf1, hy2⟩ : 0 ≤ s0.fr ∧ s0.fr ≤ min s0.to x.length ∧ all = (x.drop s0.fr.toNat).take ((min s0.to x.length).toNat - s0.fr.toNat) := by
                    rcases HY.out with ⟨h, _⟩ | ⟨_, h1, h2, h3⟩
                    · rw [R.out.2.2.1.2.2.2, hv0] at h; cases h
                    · rw [R.out.2.2.1.2.1] at h1 h2 h3
                      rw [R.out.2.2.1.2.2.1] at h2 h3
                      exact ⟨h1, h2, h3⟩
                  have H14 := H13
                  have HF := Lib.hid (And.intro hf0 (And.intro hf1 hy2))
                  obtain ⟨st0, hst0⟩ : ∃ z, z = s0.st := ⟨_, rfl⟩
                  rw [← hst0] at k0 hst
                  clear hv0 hf0 hf1 hy2 hst0
                  rcases hst with rfl | rfl
                  · have hh0 : True := trivial
                    clear hh0
                    go_wp2_with (first | (refine wpList_add rfl _ _ rfl got y all rfl rfl HGL.out HYL.out HALL.out ?_) | (go_at_call 20; refine (s_st_bytes H14.out).mono ?_; rintro e w15 ⟨v15, rfl, h15, x15⟩; refine stop_of ?_))
                    unfold Stop
                    have X15 := Lib.hid h15.base
                    have c2 := run_str (h15.bytes (v := v15) (bs := x) List.mem_cons_self)
                    have k12 := blk_cell (x15.heap N14.out) 12; have k13 := blk_cell (x15.heap N14.out) 13
                    simp at k12 k13
                    obtain ⟨xl, hxl⟩ : ∃ xl, xl = x.length := ⟨_, rfl⟩
                    have e2 : (⟨x.toArray⟩ : ByteArray).size = xl := by rw [hxl]; rfl
                    obtain ⟨fr0, hfr⟩ : ∃ z, z = s0.fr := ⟨_, rfl⟩
                    obtain ⟨to0, hto⟩ : ∃ z, z = s0.to := ⟨_, rfl⟩
                    rw [← hfr] at k12
                    rw [← hto] at k13
                    have HFF := Lib.hid (show 0 ≤ fr0 ∧ fr0 ≤ min to0 xl ∧ all = (x.drop fr0.toNat).take ((min to0 xl).toNat - fr0.toNat) by rw [hfr, hto, hxl]; exact HF.out)
                    have HXX := Lib.hid hxl
                    have q1 : ∀ W : World, (binOp .eql 9 (.string ⟨all.toArray⟩) (.string ⟨all.toArray⟩)).run Try.prog W = .ok (.bool true) W := fun W => by rw [str_eql]; simp
                    clear h15 x15 k0 c1 hxl hfr hto
                    have hsl := fun W => str_sub W x all fr0 (min to0 (xl : Int)) HFF.out.1 HFF.out.2.1 (by have := HXX.out; omega) HFF.out.2.2
                    have hfl : fr0 ≤ min to0 (xl : Int) := HFF.out.2.1
                    go_wp2
                    go_ret
                    exact ⟨rfl, X15.out⟩
                  · have hh0 : True := trivial
                    clear hh0
                    go_wp2_with (first | (refine wpList_add rfl _ _ rfl got y all rfl rfl HGL.out HYL.out HALL.out ?_) | (go_at_call 20; refine (s_st_bytes H14.out).mono ?_; rintro e w15 ⟨v15, rfl, h15, x15⟩; refine stop_of ?_))
                    unfold Stop
                    have X15 := Lib.hid h15.base
                    have c2 := run_str (h15.bytes (v := v15) (bs := x) List.mem_cons_self)
                    have k12 := blk_cell (x15.heap N14.out) 12; have k13 := blk_cell (x15.heap N14.out) 13
                    simp at k12 k13
                    obtain ⟨xl, hxl⟩ : ∃ xl, xl = x.length := ⟨_, rfl⟩
                    have e2 : (⟨x.toArray⟩ : ByteArray).size = xl := by rw [hxl]; rfl
                    obtain ⟨fr0, hfr⟩ : ∃ z, z = s0.fr := ⟨_, rfl⟩
                    obtain ⟨to0, hto⟩ : ∃ z, z = s0.to := ⟨_, rfl⟩
                    rw [← hfr] at k12
                    rw [← hto] at k13
                    have HFF := Lib.hid (show 0 ≤ fr0 ∧ fr0 ≤ min to0 xl ∧ all = (x.drop fr0.toNat).take ((min to0 xl).toNat - fr0.toNat) by rw [hfr, hto, hxl]; exact HF.out)
                    have HXX := Lib.hid hxl
                    have q1 : ∀ W : World, (binOp .eql 9 (.string ⟨all.toArray⟩) (.string ⟨all.toArray⟩)).run Try.prog W = .ok (.bool true) W := fun W => by rw [str_eql]; simp
                    clear h15 x15 k0 c1 hxl hfr hto
                    have hsl := fun W => str_sub W x all fr0 (min to0 (xl : Int)) HFF.out.1 HFF.out.2.1 (by have := HXX.out; omega) HFF.out.2.2
                    have hfl : fr0 ≤ min to0 (xl : Int) := HFF.out.2.1
                    go_wp2
                    go_ret
                    exact ⟨rfl, X15.out⟩
set_option maxRecDepth 100000 in
theorem originBytes_lifted (os : Os) (started : os.Started) (H : Type) (enc : TypeId × Value → H) :
    ReturnsInHanded {} Try.checked os 3 .any (Rows.originBytesSpec.pre6 enc Try.prog Try.f3 Rows.originBytesRow.domain false) (Rows.originBytesSpec.post enc Try.prog Try.f3 false true false false) := by
  refine returnsInHanded_of_change (C := Try.checked) own started (by kernel_rfl) Try.func3
    (ChangeSpec.witness6 (enc := enc) (C := Try.checked) false ⟨#[], #[.slice none 0 0, .slice none 0 0, .agg #[.string ⟨#[]⟩, .int .i64 0, .int .i64 0, .string ⟨#[]⟩, .bool false, .string ⟨#[]⟩, .bool false, .slice none 0 0]], []⟩ 8 (by kernel_rfl) (by kernel_rfl) (by kernel_rfl) (by kernel_rfl)) ?_
  intro W base args ds gs before hval0 hW hcnd _
  have hval : ∀ (j : Nat) t v, Try.f3.params[j]? = some t → args[j]? = some v → Value.okWide Try.prog W .any base t v := hval0
  have hW' := hW
  obtain ⟨p, q, hA0, hV, rfl, hfz, hnd⟩ := hW
  have hA : DataW.TrodAll enc Try.prog W 0 (fun _ => true) true Try.f3.params.toList args.toList ds p := hA0
  rw [Try.params3] at hA hval
  obtain ⟨v0, vs0, d0, ds0, p0, q0, hargs, rfl, rfl, h0, r0⟩ := trodAll_cons hA
  obtain ⟨v1, vs1, d1, ds1, p1, q1, rfl, rfl, rfl, h1, r1⟩ := trodAll_cons r0
  obtain ⟨v2, vs2, d2, ds2, p2, q2, rfl, rfl, rfl, h2, r2⟩ := trodAll_cons r1
  obtain ⟨rfl, rfl, rfl⟩ := trodAll_nil r2
  obtain rfl : args = #[v0, v1, v2] := by cases args; simp_all
  obtain ⟨rfl, rfl⟩ := trodVars_none hV
  have lt0 : ∀ x ∈ p0, x.block < W.heap.size := by obtain ⟨m, hm⟩ := h0; exact DataW.trod_lt m _ _ _ hm
  have t0 := fun W' (bel : Below W.heap.size W W') => Below.trod laidOut (by kernel_rfl) (of_decide_eq_true (by kernel_rfl)) h0 bel lt0
  have lt1 : ∀ x ∈ p1, x.block < W.heap.size := by obtain ⟨m, hm⟩ := h1; exact DataW.trod_lt m _ _ _ hm
  have t1 := fun W' (bel : Below W.heap.size W W') => Below.trod laidOut (by kernel_rfl) (of_decide_eq_true (by kernel_rfl)) h1 bel lt1
  have lt2 : ∀ x ∈ p2, x.block < W.heap.size := by obtain ⟨m, hm⟩ := h2; exact DataW.trod_lt m _ _ _ hm
  have t2 := fun W' (bel : Below W.heap.size W W') => Below.trod laidOut (by kernel_rfl) (of_decide_eq_true (by kernel_rfl)) h2 bel lt2
  obtain ⟨bs0, ha0, hl0⟩ := bytes_open (hval 0 22 v0 rfl rfl) h0
  obtain ⟨xs1, ha1, hl1⟩ := rrows_open (hval 1 23 v1 rfl rfl) h1
  obtain ⟨f2, u2, ts2, rfl, ha2⟩ := asked_open (hval 2 31 v2 rfl rfl) h2
  clear hA0 hval0
  refine (bytes_walk v0 bs0 v1 xs1 f2 u2 ts2 W ha0 ha1 ha2 ).mono fun e W' ⟨he, bel⟩ => ?_
  subst he
  exact ⟨_, rfl, _, _, _, [], _, [], hW', trodAll_mk1 (shut_bool Try.underlying4 _), (trodAll_cons_mk (t0 W' bel) (trodAll_cons_mk (t1 W' bel) (trodAll_cons_mk (t2 W' bel) trodAll_mk0))), rfl, bel.frame _, fun h => by cases h⟩

/-- The statement. -/
theorem OriginBytes_proved : Rows.OriginBytesSaid :=
  OpenClaim.holds_of_wide 3 Try.f3 rfl rfl rfl rfl rfl rfl rfl ⟨rfl, rfl, rfl, rfl, rfl⟩ rfl rfl rfl rfl rfl (by kernel_rfl) Try.func3 (by kernel_rfl)
    (of_decide_eq_true (by kernel_rfl)) (by unfold Func.isWrapper; first | (rw [if_pos (by decide +kernel)]; kernel_rfl) | (rw [if_neg (by decide +kernel)]; exact ⟨rfl, rfl⟩))
    (fun os started H enc _ => originBytes_lifted os started H enc)
#print axioms OriginBytes_proved
end Go.Proofs.Ytpangoddbfiagaa
