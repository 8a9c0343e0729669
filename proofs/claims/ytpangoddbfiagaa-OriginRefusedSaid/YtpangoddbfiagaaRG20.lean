import Derived.Test.YtpangoddbfiagaaRG19
namespace Go.Proofs.Ytpangoddbfiagaa
open Go.RowKit Go.Maps Go.ChangeMaps
set_option linter.unusedVariables false
set_option linter.unusedSimpArgs false
theorem tagB_126 {t : Bs} (h : tagB t = true) {j : Nat} (hj : j < t.length) : t[j].toNat ≤ 126 := by
 unfold tagB at h
 simp only [Bool.and_eq_true] at h
 have := List.all_eq_true.1 h.2 t[j] (by simp)
 simp [tagByte, byteB] at this
 omega
theorem metaB_keys {m : MetaP} (h1 : noTag m = true ∨ tagB m.tt = true) (h2 : numsB m = true) (h3 : ticksB m.fr = true) (h4 : ticksB m.wh = true) (h5 : ticksB m.er = true) : metaB m = (keysB m.keys && tenB m.ten) := by
 unfold metaB
 rw [show (noTag m || tagB m.tt) = true from by rcases h1 with h | h <;> simp [h], h2, h3, h4, h5]
 simp
theorem numsB_mk {m : MetaP} (a1 : -1 ≤ m.mod) (a2 : m.mod ≤ 253402300799) (a3 : -1 ≤ m.len) (a4 : m.len ≤ 1099511627776) (a5 : 0 ≤ m.hav) (a6 : m.hav ≤ 1099511627776) (a7 : m.len = -1 ∨ m.hav = m.len) : numsB m = true := by
 simp only [numsB, Bool.and_eq_true, decide_eq_true_eq]
 exact ⟨⟨⟨⟨⟨⟨a1, a2⟩, a3⟩, a4⟩, a5⟩, a6⟩, a7⟩
theorem ticksB_mk {n : Int} (a1 : 0 ≤ n) (a2 : n ≤ 1099511627776) : ticksB n = true := by
 simp only [ticksB, Bool.and_eq_true, decide_eq_true_eq]
 exact ⟨a1, a2⟩
theorem ticksB_parts {n : Int} (h : ticksB n = true) : 0 ≤ n ∧ n ≤ 1099511627776 := by
 simpa only [ticksB, Bool.and_eq_true, decide_eq_true_eq] using h
theorem metaB_nums {m : MetaP} (h : ¬ (-1 ≤ m.mod ∧ m.mod ≤ 253402300799 ∧ -1 ≤ m.len ∧ m.len ≤ 1099511627776 ∧ 0 ≤ m.hav ∧ m.hav ≤ 1099511627776 ∧ (m.len = -1 ∨ m.hav = m.len) ∧ 0 ≤ m.fr ∧ m.fr ≤ 1099511627776 ∧ 0 ≤ m.wh ∧ m.wh ≤ 1099511627776 ∧ 0 ≤ m.er ∧ m.er ≤ 1099511627776)) : metaB m = false := by
 rw [Bool.eq_false_iff]
 intro hb
 obtain ⟨p1, p2, p3, p4, p5, p6, p7, p8, p9, p10, p11, _⟩ := metaB_parts hb
 have := ticksB_parts p9; have := ticksB_parts p10; have := ticksB_parts p11
 exact h ⟨p2, p3, p4, p5, p6, p7, p8, by omega, by omega, by omega, by omega, by omega, by omega⟩
set_option maxRecDepth 100000 in
set_option maxHeartbeats 8000000 in
theorem rmright_any (m : MetaP) (kv : Value) (w : World) (hz : MetaZ m) (hk : TextsAt w kv m.keys) : Calls Try.prog 62 #[metaV m kv] w fun e w' => e = .returned (.bool (metaB m)) ∧ Ext w w' := by
 have HT := Lh fun W => rtag_any m.tt W m.tw (by have := hz.tt; omega)
 have HO := Lh fun W => rnone_any m.tt m.tw W
 have HN := Lh fun W => rten_any m.ten W (by have := hz.ten; omega)
 have HK := Lh fun W (x : Ext w W) => rkeys_any m.keys kv W hz.keys hz.key (hk.ext x)
 obtain ⟨z, hzz⟩ : ∃ z, z = metaB m := ⟨_, rfl⟩
 have Z := Lh hzz
 rw [← hzz]
 have HZT := Lh hz.tt
 obtain ⟨A, c, rfl, hc1, hc2, hc3⟩ := hk
 obtain ⟨nt, hnt⟩ : ∃ nt, nt = (m.tt == [] && !m.tw) := ⟨_, rfl⟩
 obtain ⟨yt, hyt⟩ : ∃ yt, yt = tagB m.tt := ⟨_, rfl⟩
 obtain ⟨yk, hyk⟩ : ∃ yk, yk = keysB m.keys := ⟨_, rfl⟩
 obtain ⟨yn, hyn⟩ : ∃ yn, yn = tenB m.ten := ⟨_, rfl⟩
 rw [← hnt] at HO
 rw [← hyt] at HT
 rw [← hyk] at HK
 rw [← hyn] at HN
 have HNT := Lh hnt; have HYT := Lh hyt; have HYK := Lh hyk; have HYN := Lh hyn
 obtain ⟨nk, hnk⟩ : ∃ nk, nk = m.keys.length := ⟨_, rfl⟩
 rw [← hnk] at HK ⊢
 clear hz hzz hc1 hc2 hc3 hnt hyt hyk hyn hnk
 go_enter Try.func62, Try.ntmps62
 go_wp2_with (refine wpList_boxA 38 rfl _ rfl #[.string ⟨m.tt.toArray⟩, .bool m.tw, .int .i64 m.mod, .int .i64 m.len, .int .i64 m.hav, .int .i64 m.fr, .int .i64 m.wh, .int .i64 m.er, .slice A nk c, .string ⟨m.ten.toArray⟩, .bool m.keep] rfl ?_; intro W0 x0 n0 s0; refine stop_of ?_)
 unfold Stop
 have X0 := Lh x0; have N0 := Lh n0
 have k0 := blk_cell n0 0; have k1 := blk_cell n0 1
 simp at k0 k1
 clear x0 n0 s0
 go_wp2_with (go_at_call 70; refine (HO.out _).mono ?_; rintro e w1 ⟨rfl, x1⟩; refine stop_of ?_)
 unfold Stop
 have X1 := Lh (X0.out.trans x1); have N1 := Lh (x1.heap N0.out)
 clear x1 X0 N0 k0 k1
 cases nt with
 | true =>
  have HTAG : Hid (noTag m = true ∨ tagB m.tt = true) := Lh (.inl HNT.out.symm)
  have H126 : Hid (∀ j (hj : j < m.tt.length), m.tt[j].toNat ≤ 126) := Lh (fun j hj => by
   have h1 : m.tt = [] := by have := HNT.out; simp at this; exact this.1
   rw [h1] at hj; simp at hj)
  obtain ⟨W1, hW1⟩ : ∃ W, W = w1 := ⟨_, rfl⟩
  rw [← hW1] at X1 N1 ⊢
  clear hW1
  have XW := Lh X1.out
  have k0 := blk_cell N1.out 0
  simp at k0
  have hzt := HZT.out
  go_wp2
  go_loopw [3] (fun i wr => ∃ j : Nat, j ≤ m.tt.length ∧ i = .int .i64 j ∧ wr = W1) (fun i _ => m.tt.length - (RowKit.intOf i).toNat)
  case atStart => exact ⟨0, by omega, by first | trivial | exact ⟨rfl, rfl⟩ | exact rfl | simp⟩
  case round =>
   obtain ⟨j, hj, rfl, rfl⟩ := hrel
   by_cases hlt : j < m.tt.length
   ·have HE : Hid (((⟨m.tt.toArray⟩ : ByteArray)[j]'(by simpa [ByteArray.size] using hlt)).toNat = m.tt[j].toNat) := Lh rfl
    have h126 : ((⟨m.tt.toArray⟩ : ByteArray)[j]'(by simpa [ByteArray.size] using hlt)).toNat ≤ 126 := by rw [HE.out]; exact H126.out j hlt
    go_wp2
    all_goals first
     | (exfalso; have := HE.out; omega)
     | (go_roundw
        case rel => exact ⟨j + 1, by omega, by go_num, by first | trivial | rfl⟩
        case measure => simp [RowKit.intOf]; omega)
   ·clear hj
    have k2 := blk_cell N1.out 2; have k3 := blk_cell N1.out 3; have k4 := blk_cell N1.out 4; have k5 := blk_cell N1.out 5; have k6 := blk_cell N1.out 6; have k7 := blk_cell N1.out 7
    simp at k2 k3 k4 k5 k6 k7
    cases a0 : decide (m.mod < -1) with
    | true =>
     have qa0 := of_decide_eq_true a0
     have ez := Lh (show z = false by rw [Z.out]; exact metaB_nums (fun hh => by omega))
     go_wp2
     go_ret
     exact ⟨ret_bool ez.out.symm, XW.out⟩
    | false =>
     have qa0 := Lh (of_decide_eq_false a0)
     cases a1 : decide (253402300799 < m.mod) with
     | true =>
      have qa1 := of_decide_eq_true a1
      have ez := Lh (show z = false by rw [Z.out]; exact metaB_nums (fun hh => by omega))
      go_wp2
      go_ret
      exact ⟨ret_bool ez.out.symm, XW.out⟩
     | false =>
      have qa1 := Lh (of_decide_eq_false a1)
      cases a2 : decide (m.len < -1) with
      | true =>
       have qa2 := of_decide_eq_true a2
       have ez := Lh (show z = false by rw [Z.out]; exact metaB_nums (fun hh => by omega))
       go_wp2
       go_ret
       exact ⟨ret_bool ez.out.symm, XW.out⟩
      | false =>
       have qa2 := Lh (of_decide_eq_false a2)
       cases a3 : decide (1099511627776 < m.len) with
       | true =>
        have qa3 := of_decide_eq_true a3
        have ez := Lh (show z = false by rw [Z.out]; exact metaB_nums (fun hh => by omega))
        go_wp2
        go_ret
        exact ⟨ret_bool ez.out.symm, XW.out⟩
       | false =>
        have qa3 := Lh (of_decide_eq_false a3)
        cases a4 : decide (m.hav < 0) with
        | true =>
         have qa4 := of_decide_eq_true a4
         have ez := Lh (show z = false by rw [Z.out]; exact metaB_nums (fun hh => by omega))
         go_wp2
         go_ret
         exact ⟨ret_bool ez.out.symm, XW.out⟩
        | false =>
         have qa4 := Lh (of_decide_eq_false a4)
         cases a5 : decide (1099511627776 < m.hav) with
         | true =>
          have qa5 := of_decide_eq_true a5
          have ez := Lh (show z = false by rw [Z.out]; exact metaB_nums (fun hh => by omega))
          go_wp2
          go_ret
          exact ⟨ret_bool ez.out.symm, XW.out⟩
         | false =>
          have qa5 := Lh (of_decide_eq_false a5)
          cases a6 : decide (0 ≤ m.len) with
          | false =>
           have q7 := Lh (show m.len = -1 ∨ m.hav = m.len by have := of_decide_eq_false a6; have := qa2.out; omega)
           cases b0 : decide (m.fr < 0) with
           | true =>
            have qb0 := of_decide_eq_true b0
            have ez := Lh (show z = false by rw [Z.out]; exact metaB_nums (fun hh => by omega))
            go_wp2
            go_ret
            exact ⟨ret_bool ez.out.symm, XW.out⟩
           | false =>
            have qb0 := Lh (of_decide_eq_false b0)
            cases b1 : decide (1099511627776 < m.fr) with
            | true =>
             have qb1 := of_decide_eq_true b1
             have ez := Lh (show z = false by rw [Z.out]; exact metaB_nums (fun hh => by omega))
             go_wp2
             go_ret
             exact ⟨ret_bool ez.out.symm, XW.out⟩
            | false =>
             have qb1 := Lh (of_decide_eq_false b1)
             cases b2 : decide (m.wh < 0) with
             | true =>
              have qb2 := of_decide_eq_true b2
              have ez := Lh (show z = false by rw [Z.out]; exact metaB_nums (fun hh => by omega))
              go_wp2
              go_ret
              exact ⟨ret_bool ez.out.symm, XW.out⟩
             | false =>
              have qb2 := Lh (of_decide_eq_false b2)
              cases b3 : decide (1099511627776 < m.wh) with
              | true =>
               have qb3 := of_decide_eq_true b3
               have ez := Lh (show z = false by rw [Z.out]; exact metaB_nums (fun hh => by omega))
               go_wp2
               go_ret
               exact ⟨ret_bool ez.out.symm, XW.out⟩
              | false =>
               have qb3 := Lh (of_decide_eq_false b3)
               cases b4 : decide (m.er < 0) with
               | true =>
                have qb4 := of_decide_eq_true b4
                have ez := Lh (show z = false by rw [Z.out]; exact metaB_nums (fun hh => by omega))
                go_wp2
                go_ret
                exact ⟨ret_bool ez.out.symm, XW.out⟩
               | false =>
                have qb4 := Lh (of_decide_eq_false b4)
                cases b5 : decide (1099511627776 < m.er) with
                | true =>
                 have qb5 := of_decide_eq_true b5
                 have ez := Lh (show z = false by rw [Z.out]; exact metaB_nums (fun hh => by omega))
                 go_wp2
                 go_ret
                 exact ⟨ret_bool ez.out.symm, XW.out⟩
                | false =>
                 have qb5 := Lh (of_decide_eq_false b5)
                 have ez := Lh (show z = (yk && yn) by
                  have q0 := qa0.out; have q1 := qa1.out; have q2 := qa2.out; have q3 := qa3.out; have q4 := qa4.out; have q5 := qa5.out; have r0 := qb0.out; have r1 := qb1.out; have r2 := qb2.out; have r3 := qb3.out; have r4 := qb4.out; have r5 := qb5.out; have q7 := q7.out
                  rw [Z.out, HYK.out, HYN.out]
                  exact metaB_keys HTAG.out (numsB_mk (by omega) (by omega) (by omega) (by omega) (by omega) (by omega) (by omega)) (ticksB_mk (by omega) (by omega)) (ticksB_mk (by omega) (by omega)) (ticksB_mk (by omega) (by omega)))
                 have k8 := blk_cell N1.out 8; have k9 := blk_cell N1.out 9
                 simp at k8 k9
                 go_wp2_with (go_at_call 72; refine (HK.out _ XW.out).mono ?_; rintro e w2 ⟨rfl, x2⟩; refine stop_of ?_)
                 unfold Stop
                 have X2 := Lh (XW.out.trans x2); have N2 := Lh (x2.heap N1.out)
                 clear x2 k2 k3 k4 k5 k6 k7 k8 k9
                 have k9 := blk_cell N2.out 9
                 simp at k9
                 cases yk with
                 | false =>
                  go_wp2
                  go_ret
                  exact ⟨ret_bool (by rw [ez.out]; rfl), X2.out⟩
                 | true =>
                  go_wp2_with (go_at_call 73; refine (HN.out _).mono ?_; rintro e w3 ⟨rfl, rfl⟩)
                  go_ret
                  exact ⟨ret_bool (by rw [ez.out]; rfl), X2.out⟩
          | true =>
           cases a7 : (m.hav != m.len) with
           | true =>
            have q6 := of_decide_eq_true a6
            have q7 : ¬ m.hav = m.len := by simpa using a7
            have ez := Lh (show z = false by rw [Z.out]; exact metaB_nums (fun hh => by omega))
            go_wp2
            go_ret
            exact ⟨ret_bool ez.out.symm, XW.out⟩
           | false =>
            have q7 := Lh (show m.len = -1 ∨ m.hav = m.len by right; simpa using a7)
            cases b0 : decide (m.fr < 0) with
            | true =>
             have qb0 := of_decide_eq_true b0
             have ez := Lh (show z = false by rw [Z.out]; exact metaB_nums (fun hh => by omega))
             go_wp2
             go_ret
             exact ⟨ret_bool ez.out.symm, XW.out⟩
            | false =>
             have qb0 := Lh (of_decide_eq_false b0)
             cases b1 : decide (1099511627776 < m.fr) with
             | true =>
              have qb1 := of_decide_eq_true b1
              have ez := Lh (show z = false by rw [Z.out]; exact metaB_nums (fun hh => by omega))
              go_wp2
              go_ret
              exact ⟨ret_bool ez.out.symm, XW.out⟩
             | false =>
              have qb1 := Lh (of_decide_eq_false b1)
              cases b2 : decide (m.wh < 0) with
              | true =>
               have qb2 := of_decide_eq_true b2
               have ez := Lh (show z = false by rw [Z.out]; exact metaB_nums (fun hh => by omega))
               go_wp2
               go_ret
               exact ⟨ret_bool ez.out.symm, XW.out⟩
              | false =>
               have qb2 := Lh (of_decide_eq_false b2)
               cases b3 : decide (1099511627776 < m.wh) with
               | true =>
                have qb3 := of_decide_eq_true b3
                have ez := Lh (show z = false by rw [Z.out]; exact metaB_nums (fun hh => by omega))
                go_wp2
                go_ret
                exact ⟨ret_bool ez.out.symm, XW.out⟩
               | false =>
                have qb3 := Lh (of_decide_eq_false b3)
                cases b4 : decide (m.er < 0) with
                | true =>
                 have qb4 := of_decide_eq_true b4
                 have ez := Lh (show z = false by rw [Z.out]; exact metaB_nums (fun hh => by omega))
                 go_wp2
                 go_ret
                 exact ⟨ret_bool ez.out.symm, XW.out⟩
                | false =>
                 have qb4 := Lh (of_decide_eq_false b4)
                 cases b5 : decide (1099511627776 < m.er) with
                 | true =>
                  have qb5 := of_decide_eq_true b5
                  have ez := Lh (show z = false by rw [Z.out]; exact metaB_nums (fun hh => by omega))
                  go_wp2
                  go_ret
                  exact ⟨ret_bool ez.out.symm, XW.out⟩
                 | false =>
                  have qb5 := Lh (of_decide_eq_false b5)
                  have ez := Lh (show z = (yk && yn) by
                   have q0 := qa0.out; have q1 := qa1.out; have q2 := qa2.out; have q3 := qa3.out; have q4 := qa4.out; have q5 := qa5.out; have r0 := qb0.out; have r1 := qb1.out; have r2 := qb2.out; have r3 := qb3.out; have r4 := qb4.out; have r5 := qb5.out; have q7 := q7.out
                   rw [Z.out, HYK.out, HYN.out]
                   exact metaB_keys HTAG.out (numsB_mk (by omega) (by omega) (by omega) (by omega) (by omega) (by omega) (by omega)) (ticksB_mk (by omega) (by omega)) (ticksB_mk (by omega) (by omega)) (ticksB_mk (by omega) (by omega)))
                  have k8 := blk_cell N1.out 8; have k9 := blk_cell N1.out 9
                  simp at k8 k9
                  go_wp2_with (go_at_call 72; refine (HK.out _ XW.out).mono ?_; rintro e w2 ⟨rfl, x2⟩; refine stop_of ?_)
                  unfold Stop
                  have X2 := Lh (XW.out.trans x2); have N2 := Lh (x2.heap N1.out)
                  clear x2 k2 k3 k4 k5 k6 k7 k8 k9
                  have k9 := blk_cell N2.out 9
                  simp at k9
                  cases yk with
                  | false =>
                   go_wp2
                   go_ret
                   exact ⟨ret_bool (by rw [ez.out]; rfl), X2.out⟩
                  | true =>
                   go_wp2_with (go_at_call 73; refine (HN.out _).mono ?_; rintro e w3 ⟨rfl, rfl⟩)
                   go_ret
                   exact ⟨ret_bool (by rw [ez.out]; rfl), X2.out⟩
 | false =>
  have k0 := blk_cell N1.out 0; have k1 := blk_cell N1.out 1
  simp at k0 k1
  go_wp2_with (go_at_call 71; refine (HT.out _).mono ?_; rintro e w2 ⟨rfl, x2⟩; refine stop_of ?_)
  unfold Stop
  have X2 := Lh (X1.out.trans x2); have N2 := Lh (x2.heap N1.out)
  clear x2 X1 N1 k0 k1
  cases yt with
  | false =>
   have ez := Lh (show z = false by
    rw [Z.out, Bool.eq_false_iff]; intro hb
    obtain ⟨p1, _⟩ := metaB_parts hb
    rcases p1 with p1 | p1
    ·have h2 := HNT.out; unfold noTag at p1; rw [p1] at h2; cases h2
    ·have h2 := HYT.out; rw [p1] at h2; cases h2)
   go_wp2
   go_ret
   exact ⟨ret_bool ez.out.symm, X2.out⟩
  | true =>
   have HTAG : Hid (noTag m = true ∨ tagB m.tt = true) := Lh (.inr HYT.out.symm)
   have H126 : Hid (∀ j (hj : j < m.tt.length), m.tt[j].toNat ≤ 126) := Lh (fun j hj => tagB_126 HYT.out.symm hj)
   obtain ⟨W1, hW1⟩ : ∃ W, W = w2 := ⟨_, rfl⟩
   rw [← hW1] at X2 N2 ⊢
   have N1 := N2
   have XW := Lh X2.out
   clear hW1 N2
   have k0 := blk_cell N1.out 0
   simp at k0
   have hzt := HZT.out
   go_wp2
   go_loopw [3] (fun i wr => ∃ j : Nat, j ≤ m.tt.length ∧ i = .int .i64 j ∧ wr = W1) (fun i _ => m.tt.length - (RowKit.intOf i).toNat)
   case atStart => exact ⟨0, by omega, by first | trivial | exact ⟨rfl, rfl⟩ | exact rfl | simp⟩
   case round =>
    obtain ⟨j, hj, rfl, rfl⟩ := hrel
    by_cases hlt : j < m.tt.length
    ·have HE : Hid (((⟨m.tt.toArray⟩ : ByteArray)[j]'(by simpa [ByteArray.size] using hlt)).toNat = m.tt[j].toNat) := Lh rfl
     have h126 : ((⟨m.tt.toArray⟩ : ByteArray)[j]'(by simpa [ByteArray.size] using hlt)).toNat ≤ 126 := by rw [HE.out]; exact H126.out j hlt
     go_wp2
     all_goals first
      | (exfalso; have := HE.out; omega)
      | (go_roundw
         case rel => exact ⟨j + 1, by omega, by go_num, by first | trivial | rfl⟩
         case measure => simp [RowKit.intOf]; omega)
    ·clear hj
     have k2 := blk_cell N1.out 2; have k3 := blk_cell N1.out 3; have k4 := blk_cell N1.out 4; have k5 := blk_cell N1.out 5; have k6 := blk_cell N1.out 6; have k7 := blk_cell N1.out 7
     simp at k2 k3 k4 k5 k6 k7
     cases a0 : decide (m.mod < -1) with
     | true =>
      have qa0 := of_decide_eq_true a0
      have ez := Lh (show z = false by rw [Z.out]; exact metaB_nums (fun hh => by omega))
      go_wp2
      go_ret
      exact ⟨ret_bool ez.out.symm, XW.out⟩
     | false =>
      have qa0 := Lh (of_decide_eq_false a0)
      cases a1 : decide (253402300799 < m.mod) with
      | true =>
       have qa1 := of_decide_eq_true a1
       have ez := Lh (show z = false by rw [Z.out]; exact metaB_nums (fun hh => by omega))
       go_wp2
       go_ret
       exact ⟨ret_bool ez.out.symm, XW.out⟩
      | false =>
       have qa1 := Lh (of_decide_eq_false a1)
       cases a2 : decide (m.len < -1) with
       | true =>
        have qa2 := of_decide_eq_true a2
        have ez := Lh (show z = false by rw [Z.out]; exact metaB_nums (fun hh => by omega))
        go_wp2
        go_ret
        exact ⟨ret_bool ez.out.symm, XW.out⟩
       | false =>
        have qa2 := Lh (of_decide_eq_false a2)
        cases a3 : decide (1099511627776 < m.len) with
        | true =>
         have qa3 := of_decide_eq_true a3
         have ez := Lh (show z = false by rw [Z.out]; exact metaB_nums (fun hh => by omega))
         go_wp2
         go_ret
         exact ⟨ret_bool ez.out.symm, XW.out⟩
        | false =>
         have qa3 := Lh (of_decide_eq_false a3)
         cases a4 : decide (m.hav < 0) with
         | true =>
          have qa4 := of_decide_eq_true a4
          have ez := Lh (show z = false by rw [Z.out]; exact metaB_nums (fun hh => by omega))
          go_wp2
          go_ret
          exact ⟨ret_bool ez.out.symm, XW.out⟩
         | false =>
          have qa4 := Lh (of_decide_eq_false a4)
          cases a5 : decide (1099511627776 < m.hav) with
          | true =>
           have qa5 := of_decide_eq_true a5
           have ez := Lh (show z = false by rw [Z.out]; exact metaB_nums (fun hh => by omega))
           go_wp2
           go_ret
           exact ⟨ret_bool ez.out.symm, XW.out⟩
          | false =>
           have qa5 := Lh (of_decide_eq_false a5)
           cases a6 : decide (0 ≤ m.len) with
           | false =>
            have q7 := Lh (show m.len = -1 ∨ m.hav = m.len by have := of_decide_eq_false a6; have := qa2.out; omega)
            cases b0 : decide (m.fr < 0) with
            | true =>
             have qb0 := of_decide_eq_true b0
             have ez := Lh (show z = false by rw [Z.out]; exact metaB_nums (fun hh => by omega))
             go_wp2
             go_ret
             exact ⟨ret_bool ez.out.symm, XW.out⟩
            | false =>
             have qb0 := Lh (of_decide_eq_false b0)
             cases b1 : decide (1099511627776 < m.fr) with
             | true =>
              have qb1 := of_decide_eq_true b1
              have ez := Lh (show z = false by rw [Z.out]; exact metaB_nums (fun hh => by omega))
              go_wp2
              go_ret
              exact ⟨ret_bool ez.out.symm, XW.out⟩
             | false =>
              have qb1 := Lh (of_decide_eq_false b1)
              cases b2 : decide (m.wh < 0) with
              | true =>
               have qb2 := of_decide_eq_true b2
               have ez := Lh (show z = false by rw [Z.out]; exact metaB_nums (fun hh => by omega))
               go_wp2
               go_ret
               exact ⟨ret_bool ez.out.symm, XW.out⟩
              | false =>
               have qb2 := Lh (of_decide_eq_false b2)
               cases b3 : decide (1099511627776 < m.wh) with
               | true =>
                have qb3 := of_decide_eq_true b3
                have ez := Lh (show z = false by rw [Z.out]; exact metaB_nums (fun hh => by omega))
                go_wp2
                go_ret
                exact ⟨ret_bool ez.out.symm, XW.out⟩
               | false =>
                have qb3 := Lh (of_decide_eq_false b3)
                cases b4 : decide (m.er < 0) with
                | true =>
                 have qb4 := of_decide_eq_true b4
                 have ez := Lh (show z = false by rw [Z.out]; exact metaB_nums (fun hh => by omega))
                 go_wp2
                 go_ret
                 exact ⟨ret_bool ez.out.symm, XW.out⟩
                | false =>
                 have qb4 := Lh (of_decide_eq_false b4)
                 cases b5 : decide (1099511627776 < m.er) with
                 | true =>
                  have qb5 := of_decide_eq_true b5
                  have ez := Lh (show z = false by rw [Z.out]; exact metaB_nums (fun hh => by omega))
                  go_wp2
                  go_ret
                  exact ⟨ret_bool ez.out.symm, XW.out⟩
                 | false =>
                  have qb5 := Lh (of_decide_eq_false b5)
                  have ez := Lh (show z = (yk && yn) by
                   have q0 := qa0.out; have q1 := qa1.out; have q2 := qa2.out; have q3 := qa3.out; have q4 := qa4.out; have q5 := qa5.out; have r0 := qb0.out; have r1 := qb1.out; have r2 := qb2.out; have r3 := qb3.out; have r4 := qb4.out; have r5 := qb5.out; have q7 := q7.out
                   rw [Z.out, HYK.out, HYN.out]
                   exact metaB_keys HTAG.out (numsB_mk (by omega) (by omega) (by omega) (by omega) (by omega) (by omega) (by omega)) (ticksB_mk (by omega) (by omega)) (ticksB_mk (by omega) (by omega)) (ticksB_mk (by omega) (by omega)))
                  have k8 := blk_cell N1.out 8; have k9 := blk_cell N1.out 9
                  simp at k8 k9
                  go_wp2_with (go_at_call 72; refine (HK.out _ XW.out).mono ?_; rintro e w2 ⟨rfl, x2⟩; refine stop_of ?_)
                  unfold Stop
                  have X2 := Lh (XW.out.trans x2); have N2 := Lh (x2.heap N1.out)
                  clear x2 k2 k3 k4 k5 k6 k7 k8 k9
                  have k9 := blk_cell N2.out 9
                  simp at k9
                  cases yk with
                  | false =>
                   go_wp2
                   go_ret
                   exact ⟨ret_bool (by rw [ez.out]; rfl), X2.out⟩
                  | true =>
                   go_wp2_with (go_at_call 73; refine (HN.out _).mono ?_; rintro e w3 ⟨rfl, rfl⟩)
                   go_ret
                   exact ⟨ret_bool (by rw [ez.out]; rfl), X2.out⟩
           | true =>
            cases a7 : (m.hav != m.len) with
            | true =>
             have q6 := of_decide_eq_true a6
             have q7 : ¬ m.hav = m.len := by simpa using a7
             have ez := Lh (show z = false by rw [Z.out]; exact metaB_nums (fun hh => by omega))
             go_wp2
             go_ret
             exact ⟨ret_bool ez.out.symm, XW.out⟩
            | false =>
             have q7 := Lh (show m.len = -1 ∨ m.hav = m.len by right; simpa using a7)
             cases b0 : decide (m.fr < 0) with
             | true =>
              have qb0 := of_decide_eq_true b0
              have ez := Lh (show z = false by rw [Z.out]; exact metaB_nums (fun hh => by omega))
              go_wp2
              go_ret
              exact ⟨ret_bool ez.out.symm, XW.out⟩
             | false =>
              have qb0 := Lh (of_decide_eq_false b0)
              cases b1 : decide (1099511627776 < m.fr) with
              | true =>
               have qb1 := of_decide_eq_true b1
               have ez := Lh (show z = false by rw [Z.out]; exact metaB_nums (fun hh => by omega))
               go_wp2
               go_ret
               exact ⟨ret_bool ez.out.symm, XW.out⟩
              | false =>
               have qb1 := Lh (of_decide_eq_false b1)
               cases b2 : decide (m.wh < 0) with
               | true =>
                have qb2 := of_decide_eq_true b2
                have ez := Lh (show z = false by rw [Z.out]; exact metaB_nums (fun hh => by omega))
                go_wp2
                go_ret
                exact ⟨ret_bool ez.out.symm, XW.out⟩
               | false =>
                have qb2 := Lh (of_decide_eq_false b2)
                cases b3 : decide (1099511627776 < m.wh) with
                | true =>
                 have qb3 := of_decide_eq_true b3
                 have ez := Lh (show z = false by rw [Z.out]; exact metaB_nums (fun hh => by omega))
                 go_wp2
                 go_ret
                 exact ⟨ret_bool ez.out.symm, XW.out⟩
                | false =>
                 have qb3 := Lh (of_decide_eq_false b3)
                 cases b4 : decide (m.er < 0) with
                 | true =>
                  have qb4 := of_decide_eq_true b4
                  have ez := Lh (show z = false by rw [Z.out]; exact metaB_nums (fun hh => by omega))
                  go_wp2
                  go_ret
                  exact ⟨ret_bool ez.out.symm, XW.out⟩
                 | false =>
                  have qb4 := Lh (of_decide_eq_false b4)
                  cases b5 : decide (1099511627776 < m.er) with
                  | true =>
                   have qb5 := of_decide_eq_true b5
                   have ez := Lh (show z = false by rw [Z.out]; exact metaB_nums (fun hh => by omega))
                   go_wp2
                   go_ret
                   exact ⟨ret_bool ez.out.symm, XW.out⟩
                  | false =>
                   have qb5 := Lh (of_decide_eq_false b5)
                   have ez := Lh (show z = (yk && yn) by
                    have q0 := qa0.out; have q1 := qa1.out; have q2 := qa2.out; have q3 := qa3.out; have q4 := qa4.out; have q5 := qa5.out; have r0 := qb0.out; have r1 := qb1.out; have r2 := qb2.out; have r3 := qb3.out; have r4 := qb4.out; have r5 := qb5.out; have q7 := q7.out
                    rw [Z.out, HYK.out, HYN.out]
                    exact metaB_keys HTAG.out (numsB_mk (by omega) (by omega) (by omega) (by omega) (by omega) (by omega) (by omega)) (ticksB_mk (by omega) (by omega)) (ticksB_mk (by omega) (by omega)) (ticksB_mk (by omega) (by omega)))
                   have k8 := blk_cell N1.out 8; have k9 := blk_cell N1.out 9
                   simp at k8 k9
                   go_wp2_with (go_at_call 72; refine (HK.out _ XW.out).mono ?_; rintro e w2 ⟨rfl, x2⟩; refine stop_of ?_)
                   unfold Stop
                   have X2 := Lh (XW.out.trans x2); have N2 := Lh (x2.heap N1.out)
                   clear x2 k2 k3 k4 k5 k6 k7 k8 k9
                   have k9 := blk_cell N2.out 9
                   simp at k9
                   cases yk with
                   | false =>
                    go_wp2
                    go_ret
                    exact ⟨ret_bool (by rw [ez.out]; rfl), X2.out⟩
                   | true =>
                    go_wp2_with (go_at_call 73; refine (HN.out _).mono ?_; rintro e w3 ⟨rfl, rfl⟩)
                    go_ret
                    exact ⟨ret_bool (by rw [ez.out]; rfl), X2.out⟩
end Go.Proofs.Ytpangoddbfiagaa
