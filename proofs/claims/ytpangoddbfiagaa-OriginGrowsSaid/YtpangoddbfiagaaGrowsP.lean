/- Proved: OriginGrows, for every input: a version that grows has all bytes that came, in order; a stream to its end waits as long as it grows, and ends when it is sealed. -/
import Derived.Test.YtpangoddbfiagaaGrowsA
namespace Go.Proofs.Ytpangoddbfiagaa
open Go.ChangeShapes Go.WideShapes Go.ChangeAt Go.RowKit Go.Deep Go.Joins
open Go.Maps Go.ChangeMaps
set_option linter.unusedVariables false
set_option linter.unusedSimpArgs false

def catB (xs : List (Value × Bs)) : Bs := (xs.map (·.2)).flatten
set_option maxRecDepth 100000 in
set_option maxHeartbeats 8000000 in
theorem grows_walk (fv : Value) (first : Bs) (pv : Value) (xs : List (Value × Bs)) (tk : Nat) (w : World) (hF : BytesA w fv first) (hP : RowsG w 1 (RRow w) pv xs) (htk : tk ≤ 255) :
    Calls Try.prog 4 #[fv, pv, .int .u8 tk] w fun e w' => e = .returned (.bool true) ∧ Below w.heap.size w w' := by
  have HF := Lib.hid hF; have HP := Lib.hid hP
  obtain ⟨A, c, rfl, hfc, _, _⟩ := hF
  obtain ⟨A2, c2, rfl, hpc, _, _⟩ := hP
  obtain ⟨n, hn⟩ : ∃ n, n = first.length := ⟨_, rfl⟩
  obtain ⟨m, hm⟩ : ∃ m, m = xs.length := ⟨_, rfl⟩
  rw [← hn] at HF
  rw [← hm] at HP
  rw [← hn, ← hm]
  have HN := Lib.hid hn; have HM := Lib.hid hm
  clear hfc hpc hn hm
  go_enter Try.func4, Try.ntmps4
  go_wp2_with (go_at_call 10; refine (st_new _).mono ?_; rintro e w1 ⟨rfl, h1, x1⟩; refine stop_of ?_)
  unfold Stop
  obtain ⟨b, hb⟩ : ∃ b, b = w.heap.size := ⟨_, rfl⟩
  rw [← hb] at h1 ⊢
  have H1 := Lib.hid h1; have X1 := Lib.hid x1; have HB := Lib.hid hb
  clear h1 x1 hb
  go_wp2_with (go_at_call 11; refine (awake_any _).mono ?_; rintro e w2 ⟨rfl, x2⟩; refine stop_of ?_)
  unfold Stop
  have H2 := Lib.hid (H1.out.ext x2); have X2 := Lib.hid (X1.out.trans x2)
  clear H1 X1 x2
  by_cases hb1 : (60 : Int) < n
  · go_wp2_with (go_at_call 11; refine (awake_any _).mono ?_; rintro e w3 ⟨rfl, x3⟩; refine stop_of ?_)
    unfold Stop
    have X3 := Lib.hid (H2.out.base.trans x3)
    clear x3
    go_wp2
    go_ret
    exact ⟨rfl, X3.out⟩
  · by_cases hb2 : (20 : Int) < m
    · go_wp2_with (go_at_call 11; refine (awake_any _).mono ?_; rintro e w3 ⟨rfl, x3⟩; refine stop_of ?_)
      unfold Stop
      have X3 := Lib.hid (H2.out.base.trans x3)
      clear x3
      go_wp2
      go_ret
      exact ⟨rfl, X3.out⟩
    · go_wp2_with (go_at_call 14; refine (lmeta_any _ _).mono ?_; rintro e w3 ⟨rfl, x3⟩; refine stop_of ?_)
      unfold Stop
      have H3 := Lib.hid (H2.out.ext x3)
      clear x3 H2
      go_wp2_with (at_builtin; refine wpList_copyE rfl _ _ rfl _ first (BytesA.at_ (RowsG.ext HF.out H3.out.base)) rfl rfl (by have := HN.out; omega) ?_; intro v4 W4 r4 x4; refine stop_of ?_)
      unfold Stop
      have H4 := Lib.hid (H3.out.hold x4 r4 (Nat.le_refl _))
      clear H3 x4 r4
      go_wp2_with (go_at_call 13; refine (g_st_set H4.out List.mem_cons_self (by have := HN.out; omega)).mono ?_; rintro e w5 ⟨rfl, h5, _⟩; refine stop_of ?_)
      unfold Stop
      have H5 := Lib.hid (h5.drop (hl' := []) (by simp))
      clear H4 h5
      go_wp2_with (go_at_call 15; refine (g_st_ask H5.out).mono ?_; rintro e w6 ⟨sb, rfl, h6, _⟩; refine stop_of ?_)
      unfold Stop
      have H6 := Lib.hid h6
      have f0 := fld49_0; have f2 := fld49_2; have f1 := fld25_1
      clear H5 h6
      go_wp2_with (go_at_call 16; refine (g_st_head H6.out).mono ?_; rintro e w7 ⟨kv7, rfl, h7, _⟩; refine stop_of ?_)
      unfold Stop
      have H7 := Lib.hid h7
      clear H6 h7
      go_wp2_with (go_at_call 16; refine (g_st_head H7.out).mono ?_; rintro e w8 ⟨kv8, rfl, h8, _⟩; refine stop_of ?_)
      unfold Stop
      have H8 : Hid (St w w8 b 2 (GV first.length first) [Sg first.length ((0 : Nat) : Int)] [sb] [] noP) := Lib.hid h8
      have c1 := run_str (BytesA.at_ (RowsG.ext HF.out h8.base))
      clear H7 h8
      go_wp2_with fail
      clear c1 f0 f1 f2
      go_loopw [77, 10, 11, 13, 14, 15] (fun i a g _ _ _ wr => ∃ (j : Nat) (x y : Bs) (at_ : Nat), j ≤ m ∧ i = .int .i64 j ∧ a = .string ⟨x.toArray⟩ ∧ g = .string ⟨y.toArray⟩ ∧ Hid (y = x.take at_ ∧ at_ ≤ x.length ∧ x.length ≤ 60 + 60 * j ∧ St w wr b 2 (GV first.length x) [Sg first.length (at_ : Int)] [sb] [] noP)) (fun i _ _ _ _ _ _ => m - (intOf i).toNat)
      case atStart => exact ⟨0, first, [], 0, by omega, rfl, rfl, rfl, Lib.hid ⟨by simp, by omega, by have := HN.out; omega, H8.out⟩⟩
      case round =>
        clear H8
        obtain ⟨j, x, y, at_, hj, rfl, rfl, rfl, R⟩ := hrel
        by_cases hlt : j < m
        · have hjs : j < xs.length := by rw [← HM.out]; exact hlt
          have hp := (HP.out.ext R.out.2.2.2.base)
          obtain ⟨eb, eo, cs, hA2, ⟨hcs, hpb, d3⟩, d4, hcell⟩ := RowsG.at hp hjs
          have k0 := hcell 0 (xs[j].1) (by rw [hcs]; rfl)
          obtain ⟨p, hpp⟩ : ∃ p, p = xs[j] := ⟨_, rfl⟩
          rw [← hpp] at k0 hpb
          obtain ⟨pv, pb⟩ := p
          simp only at k0 hpb
          have HPB := Lib.hid hpb
          obtain ⟨A5, c5, rfl⟩ := RowsG.slice hpb
          obtain ⟨q, hq⟩ : ∃ q, q = pb.length := ⟨_, rfl⟩
          rw [← hq] at HPB k0
          have HQ := Lib.hid hq
          subst hA2
          have k1 : wr.cell? ⟨eb, eo + j, none⟩ = some (.slice A5 q c5) := by simpa using k0
          clear d3 d4 hcell hcs hpp k0 hpb hq hjs
          by_cases hq60 : (60 : Int) < q
          · have X9 := Lib.hid R.out.2.2.2.base
            go_wp2
            go_ret
            exact ⟨rfl, X9.out⟩
          · have hq60' : ¬ q > 60 := by omega
            go_wp2_with (at_builtin; refine wpList_copyE rfl _ _ rfl _ pb (BytesA.at_ (RowsG.ext HPB.out R.out.2.2.2.base)) rfl rfl (by have := HQ.out; omega) ?_; intro v9 W9 r9 x9; refine stop_of ?_)
            unfold Stop
            obtain ⟨x2, hx2⟩ : ∃ x2, x2 = x ++ pb := ⟨_, rfl⟩
            have H9 := Lib.hid (R.out.2.2.2.hold x9 r9 (Nat.le_refl _))
            have HX := Lib.hid (show x.length ≤ 5000 ∧ pb.length ≤ 60 by have := R.out.2.2.1; have := HQ.out; have := hb2; omega)
            have HX2 := Lib.hid hx2
            clear x9 r9 k1 hx2
            go_wp2_with (go_at_call 17; refine (g_st_grow H9.out List.mem_cons_self HX.out.2 HX.out.1 HX2.out).mono ?_; rintro e w10 ⟨rfl, h10, _⟩; refine stop_of ?_)
            unfold Stop
            have H10 := Lib.hid (h10.drop (hl' := []) (by simp))
            have c1 := run_str (BytesA.at_ (RowsG.ext HPB.out h10.base))
            clear H9 h10
            obtain ⟨at2, ht2⟩ : ∃ at2, at2 = at_ + gT x2 at_ tk := ⟨_, rfl⟩
            obtain ⟨y2, hy2⟩ : ∃ y2, y2 = (x2.drop at_).take (gT x2 at_ tk) := ⟨_, rfl⟩
            obtain ⟨z, hz⟩ : ∃ z : Int, z = if at2 < x2.length then 1 else 2 := ⟨_, rfl⟩
            have HT2 := Lib.hid ht2; have HY2 := Lib.hid hy2; have HZ := Lib.hid hz
            have HL2 := Lib.hid (show at_ ≤ x2.length ∧ x2.length ≤ 60 + 60 * (j + 1) by have := congrArg List.length HX2.out; simp at this; have := R.out.2.1; have := R.out.2.2.1; have := HX.out; omega)
            clear ht2 hy2 hz
            go_wp2_with (first | (refine wpList_add rfl _ _ rfl x pb x2 rfl rfl (by have := HX.out; omega) (by have := HX.out; omega) HX2.out ?_) | (go_at_call 18; refine (g_st_take (k := tk) H10.out HL2.out.1 (by have := HL2.out.2; have := hb2; omega) HY2.out HT2.out HZ.out).mono ?_; rintro e w11 ⟨v11, rfl, h11, _⟩; refine stop_of ?_))
            unfold Stop
            have HLE := Lib.hid (show at2 ≤ x2.length by rw [HT2.out]; exact gT_le _ _ _ HL2.out.1)
            obtain ⟨y3, hy3⟩ : ∃ y3, y3 = y ++ y2 := ⟨_, rfl⟩
            have HY3 : Hid (y3 = x2.take at2) := Lib.hid (by
              rw [hy3, R.out.1, HY2.out, HT2.out]
              have e1 : x.take at_ = x2.take at_ := by rw [HX2.out, List.take_append_of_le_length R.out.2.1]
              rw [e1, gT_put])
            have H11 := Lib.hid (h11.drop (hl' := []) (by simp))
            have c2 := run_str (h11.bytes (v := v11) (bs := y2) (by simp))
            have LY := Lib.hid (show y.length ≤ 1000000 ∧ y2.length ≤ 1000000 from ⟨by have := R.out.1; rw [this]; simp; have := HX.out; omega, by rw [HY2.out]; simp; have := HL2.out.2; omega⟩)
            have HY4 := Lib.hid hy3
            have q1 := fun W => str_neq W y3 x2
            clear h11 H10 c1 hy3
            by_cases hmore : at2 < x2.length
            · have hz1 : z = 1 := by rw [HZ.out, if_pos hmore]
              subst hz1
              clear hmore q1
              go_wp2_with (refine wpList_add rfl _ _ rfl y y2 y3 rfl rfl LY.out.1 LY.out.2 HY4.out ?_)
              go_roundw
              case rel => exact ⟨j + 1, x2, y3, at2, by omega, by go_num, rfl, rfl, Lib.hid ⟨HY3.out, HLE.out, HL2.out.2, H11.out⟩⟩
              case measure => first | (simp [intOf]; done) | (simp [intOf]; omega)
            · have hz1 : z = 2 := by rw [HZ.out, if_neg hmore]
              subst hz1
              obtain rfl : y3 = x2 := by rw [HY3.out]; exact List.take_of_length_le (by omega)
              clear hmore q1
              go_wp2_with (refine wpList_add rfl _ _ rfl y y2 y3 rfl rfl LY.out.1 LY.out.2 HY4.out ?_)
              go_roundw
              case rel => exact ⟨j + 1, y3, y3, at2, by omega, by go_num, rfl, rfl, Lib.hid ⟨HY3.out, HLE.out, HL2.out.2, H11.out⟩⟩
              case measure => first | (simp [intOf]; done) | (simp [intOf]; omega)
        · have HR := Lib.hid (show x.length ≤ 5000 by have := R.out.2.2.1; omega)
          obtain ⟨l, hl⟩ : ∃ l, l = x.length := ⟨_, rfl⟩
          have HL := Lib.hid hl
          clear hl
          go_wp2_with (go_at_call 21; refine (g_st_meta R.out.2.2.2).mono ?_; rintro e w9 ⟨kA, kc, rfl, h9, x9⟩; refine stop_of ?_)
          unfold Stop
          rw [← HL.out]
          have H9 := Lib.hid h9
          clear h9 x9
          go_wp2_with (refine wpList_new 38 _ zero38 rfl rfl ?_; intro W10 x10 n10 s10; refine stop_of ?_)
          unfold Stop
          obtain ⟨mb, hmb⟩ : ∃ mb, mb = w9.heap.size := ⟨_, rfl⟩
          rw [← hmb] at n10 ⊢
          have H10 := Lib.hid (H9.out.other (P' := fun i => i = mb) (.of x10) (fun g hg => .inr ⟨by rw [hg, hmb]; exact Nat.le_refl _, by rw [hg]; exact blk_lt n10⟩))
          have N10 := Lib.hid n10
          clear H9 x10 n10 s10 hmb
          go_wp2_with (refine wpList_put 38 rfl _ _ rfl mb 0 38 _ #[.string ⟨#[116]⟩, .bool false, .int .i64 (-1), .int .i64 (-1), .int .i64 l, .int .i64 0, .int .i64 0, .int .i64 0, .slice kA 0 kc, .string ⟨#[]⟩, .bool true] [.string ⟨#[116]⟩, .bool false, .int .i64 (-1), .int .i64 (-1), .int .i64 l, .int .i64 0, .int .i64 0, .int .i64 0, .slice kA 0 kc, .string ⟨#[]⟩, .bool true] _ N10.out rfl rfl rfl (by simp) rfl size38 (by kernel_rfl) ?_; intro W11 x11 n11 s11; refine stop_of ?_)
          unfold Stop
          have H11 := Lib.hid (H10.out.other (P' := fun i => i = mb) (.ofB x11 (fun k hk => .inl (by simpa using hk))) (fun g hg => .inl hg))
          have k3 := blk_cell n11 3; have k4 := blk_cell n11 4
          simp at k3 k4
          have e1 : (⟨x.toArray⟩ : ByteArray).size = l := by rw [HL.out]; rfl
          clear H10 N10 x11 n11 s11
          go_wp2_with (go_at_call 20; refine (g_st_bytes H11.out).mono ?_; rintro e w12 ⟨v12, rfl, h12, x12⟩; refine stop_of ?_)
          unfold Stop
          have H12 := Lib.hid h12
          have c1 := run_str (h12.bytes (v := v12) (bs := x) List.mem_cons_self)
          have q1 : ∀ W : World, (binOp .neq 9 (.string ⟨x.toArray⟩) (.string ⟨x.toArray⟩)).run Try.prog W = .ok (.bool false) W := fun W => by rw [str_neq]; simp
          clear h12 x12 k3 k4 H11
          go_wp2_with (go_at_call 19; refine (g_st_seal H12.out).mono ?_; rintro e w13 ⟨rfl, h13, _⟩; refine stop_of ?_)
          unfold Stop
          have H13 := Lib.hid h13
          clear h13 H12 c1 q1
          go_wp2_with (go_at_call 19; refine (s_st_seal H13.out).mono ?_; rintro e w14 ⟨rfl, h14, _⟩; refine stop_of ?_)
          unfold Stop
          have H14 := Lib.hid h14
          clear h14 H13
          go_wp2_with (go_at_call 17; refine (s_st_grow H14.out HR.out).mono ?_; rintro e w15 ⟨rfl, h15, _⟩; refine stop_of ?_)
          unfold Stop
          have H15 := Lib.hid h15
          have hl5 : l ≤ 5000 := by rw [HL.out]; exact HR.out
          clear h15 H14
          obtain ⟨y2, hy2⟩ : ∃ y2, y2 = x.drop at_ := ⟨_, rfl⟩
          have HY2 := Lib.hid hy2
          clear hy2
          go_wp2_with (go_at_call 18; refine (s_st_take (k := l + 1) H15.out R.out.2.1 HR.out (by rw [HL.out]; omega) HY2.out).mono ?_; rintro e w16 ⟨v16, rfl, h16, _⟩; refine stop_of ?_)
          unfold Stop
          have H16 := Lib.hid h16
          clear h16 H15
          go_wp2_with (go_at_call 21; refine (s_st_meta H16.out).mono ?_; rintro e w17 ⟨lA, lc, rfl, h17, x17⟩; refine stop_of ?_)
          unfold Stop
          rw [← HL.out]
          have H17 := Lib.hid h17
          clear h17 x17 H16
          go_wp2_with (refine wpList_new 38 _ zero38 rfl rfl ?_; intro W18 x18 n18 s18; refine stop_of ?_)
          unfold Stop
          obtain ⟨nb, hnb⟩ : ∃ nb, nb = w17.heap.size := ⟨_, rfl⟩
          rw [← hnb] at n18 ⊢
          have H18 := Lib.hid (H17.out.other (P' := fun i => i = nb) (.of x18) (fun g hg => .inr ⟨by rw [hg, hnb]; exact Nat.le_refl _, by rw [hg]; exact blk_lt n18⟩))
          have N18 := Lib.hid n18
          clear H17 x18 n18 s18 hnb
          go_wp2_with (refine wpList_put 38 rfl _ _ rfl nb 0 38 _ #[.string ⟨#[116]⟩, .bool false, .int .i64 (-1), .int .i64 l, .int .i64 l, .int .i64 0, .int .i64 0, .int .i64 0, .slice lA 0 lc, .string ⟨#[]⟩, .bool true] [.string ⟨#[116]⟩, .bool false, .int .i64 (-1), .int .i64 l, .int .i64 l, .int .i64 0, .int .i64 0, .int .i64 0, .slice lA 0 lc, .string ⟨#[]⟩, .bool true] _ N18.out rfl rfl rfl (by simp) rfl size38 (by kernel_rfl) ?_; intro W19 x19 n19 s19; refine stop_of ?_)
          unfold Stop
          have H19 := Lib.hid (H18.out.other (P' := fun i => i = nb) (.ofB x19 (fun k hk => .inl (by simpa using hk))) (fun g hg => .inl hg))
          have k3 := blk_cell n19 3; have k4 := blk_cell n19 4
          simp at k3 k4
          have c1 := run_str (H19.out.bytes (v := v16) (bs := y2) List.mem_cons_self)
          have HY5 := Lib.hid (show y.length ≤ 1000000 ∧ y2.length ≤ 1000000 ∧ x = y ++ y2 from ⟨by rw [R.out.1]; simp; have := HR.out; omega, by rw [HY2.out]; simp; have := HR.out; omega, by rw [R.out.1, HY2.out, List.take_append_drop]⟩)
          have q1 : ∀ W : World, (binOp .eql 9 (.string ⟨x.toArray⟩) (.string ⟨x.toArray⟩)).run Try.prog W = .ok (.bool true) W := fun W => by rw [str_eql]; simp
          have X19 := Lib.hid H19.out.base
          clear H18 N18 x19 n19 s19
          go_wp2_with (refine wpList_add rfl _ _ rfl y y2 x rfl rfl HY5.out.1 HY5.out.2.1 HY5.out.2.2 ?_)
          go_ret
          exact ⟨rfl, X19.out⟩
set_option maxRecDepth 100000 in
theorem originGrows_lifted (os : Os) (started : os.Started) (H : Type) (enc : TypeId × Value → H) :
    ReturnsInHanded {} Try.checked os 4 .any (Rows.originGrowsSpec.pre6 enc Try.prog Try.f4 Rows.originGrowsRow.domain false) (Rows.originGrowsSpec.post enc Try.prog Try.f4 false true false false) := by
  refine returnsInHanded_of_change (C := Try.checked) own started (by kernel_rfl) Try.func4
    (ChangeSpec.witness6 (enc := enc) (C := Try.checked) false ⟨#[], #[.slice none 0 0, .slice none 0 0, .int .u8 0], []⟩ 8 (by kernel_rfl) (by kernel_rfl) (by kernel_rfl) (by kernel_rfl)) ?_
  intro W base args ds gs before hval0 hW hcnd _
  have hval : ∀ (j : Nat) t v, Try.f4.params[j]? = some t → args[j]? = some v → Value.okWide Try.prog W .any base t v := hval0
  have hW' := hW
  obtain ⟨p, q, hA0, hV, rfl, hfz, hnd⟩ := hW
  have hA : DataW.TrodAll enc Try.prog W 0 (fun _ => true) true Try.f4.params.toList args.toList ds p := hA0
  rw [Try.params4] at hA hval
  obtain ⟨v0, vs0, d0, ds0, p0, q0, hargs, rfl, rfl, h0, r0⟩ := trodAll_cons hA
  obtain ⟨v1, vs1, d1, ds1, p1, q1, rfl, rfl, rfl, h1, r1⟩ := trodAll_cons r0
  obtain ⟨v2, vs2, d2, ds2, p2, q2, rfl, rfl, rfl, h2, r2⟩ := trodAll_cons r1
  obtain ⟨rfl, rfl, rfl⟩ := trodAll_nil r2
  obtain rfl : args = #[v0, v1, v2] := by cases args; simp_all
  obtain ⟨rfl, rfl⟩ := trodVars_none hV
  have lt0 : ∀ x ∈ p0, x.block < W.heap.size := by obtain ⟨m, hm⟩ := h0; exact DataW.trod_lt m _ _ _ hm
  have t0 := fun W' (bel : Below W.heap.size W W') => Below.trod laidOut (by kernel_rfl) (of_decide_eq_true (by kernel_rfl)) h0 bel lt0
  have lt1 : ∀ x ∈ p1, x.block < W.heap.size := by obtain ⟨m, hm⟩ := h1; exact DataW.trod_lt m _ _ _ hm
  have t1 := fun W' (bel : Below W.heap.size W W') => Below.trod laidOut (by kernel_rfl) (of_decide_eq_true (by kernel_rfl)) h1 bel lt1
  have lt2 : ∀ x ∈ p2, x.block < W.heap.size := by obtain ⟨m, hm⟩ := h2; exact DataW.trod_lt m _ _ _ hm
  have t2 := fun W' (bel : Below W.heap.size W W') => Below.trod laidOut (by kernel_rfl) (of_decide_eq_true (by kernel_rfl)) h2 bel lt2
  obtain ⟨bs0, ha0, hl0⟩ := bytes_open (hval 0 22 v0 rfl rfl) h0
  obtain ⟨xs1, ha1, hl1⟩ := rrows_open (hval 1 23 v1 rfl rfl) h1
  obtain ⟨z2, rfl, _, _, wz2⟩ := open_int Try.underlying5 (hval 2 5 v2 rfl rfl) h2
  obtain ⟨n2, rfl, b2⟩ := u8_nat wz2
  clear hA0 hval0
  refine (grows_walk v0 bs0 v1 xs1 n2 W ha0 ha1 b2 ).mono fun e W' ⟨he, bel⟩ => ?_
  subst he
  exact ⟨_, rfl, _, _, _, [], _, [], hW', trodAll_mk1 (shut_bool Try.underlying4 _), (trodAll_cons_mk (t0 W' bel) (trodAll_cons_mk (t1 W' bel) (trodAll_cons_mk (t2 W' bel) trodAll_mk0))), rfl, bel.frame _, fun h => by cases h⟩

/-- The statement. -/
theorem OriginGrows_proved : Rows.OriginGrowsSaid :=
  OpenClaim.holds_of_wide 4 Try.f4 rfl rfl rfl rfl rfl rfl rfl ⟨rfl, rfl, rfl, rfl, rfl⟩ rfl rfl rfl rfl rfl (by kernel_rfl) Try.func4 (by kernel_rfl)
    (of_decide_eq_true (by kernel_rfl)) (by unfold Func.isWrapper; first | (rw [if_pos (by decide +kernel)]; kernel_rfl) | (rw [if_neg (by decide +kernel)]; exact ⟨rfl, rfl⟩))
    (fun os started H enc _ => originGrows_lifted os started H enc)
#print axioms OriginGrows_proved
end Go.Proofs.Ytpangoddbfiagaa
