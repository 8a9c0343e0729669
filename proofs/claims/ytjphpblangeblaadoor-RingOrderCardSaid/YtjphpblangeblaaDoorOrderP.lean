/- Proved: RingOrder, for every input: it makes no difference in which order names are added (printed by gen_laws.py). -/
import Derived.Test.YtjphpblangeblaaDoorLawO
namespace Go.Proofs.YtjphpblangeblaaDoor
open Go.RowKit Go.Maps Go.ChangeMaps
set_option linter.unusedVariables false
set_option linter.unusedSimpArgs false
section
variable {w : World} {p : Int} {A : Option Addr} {n c : Nat} {xs : List OpP}
set_option maxRecDepth 100000 in
set_option maxHeartbeats 8000000 in
theorem order_walk (h : OpsAt w (.slice A n c) xs) (hnl : n ≤ 9223372036854775807) (hT : Tab w) {ob : Bs} {z : Nat} (hzz : z ≤ 255) : Calls Tryd.prog 5 #[.agg #[.int .i64 p, .slice A n c], .string ⟨ob.toArray⟩, .int .u8 z] w fun e w' => e = .returned (.bool true) ∧ Ext w w' := by
  have HM := Lib.hid (show n = xs.length from by obtain ⟨_, _, e, _⟩ := h; injection e)
  have HOPS := Lib.hid h; have HT := Lib.hid hT; have HNL0 := Lib.hid hnl; have HZ := Lib.hid hzz
  clear h hT hnl hzz
  go_enter Tryd.func5, Tryd.ntmps5
  go_wp2_with (refine wpList_boxA 24 rfl _ rfl #[.int .i64 p, .slice A n c] rfl ?_; intro W0 x0 n0 s0; refine stop_of ?_)
  unfold Stop
  have X0 := Lib.hid x0; have N0 := Lib.hid n0
  obtain ⟨mb, hmb⟩ : ∃ mb, mb = w.heap.size := ⟨_, rfl⟩
  rw [← hmb] at N0 ⊢
  clear x0 n0 s0 hmb
  go_wp2_with (first | (refine wpList_get 24 _ rfl _ rfl mb 0 24 _ [.int .i64 p, .slice A n c] N0.out rfl (by kernel_rfl) Tryd.underlying24 rfl size24 ?_) | (go_at_call 9; refine (light_any (HOPS.out.ext X0.out) HNL0.out).mono ?_; rintro e w1 ⟨⟨r, rfl, hr⟩, x1⟩; refine stop_of ?_))
  unfold Stop
  have HR := Lib.hid hr; have X1 := Lib.hid (X0.out.trans x1); have N1 := Lib.hid (x1.heap N0.out)
  clear hr x1
  cases r with
  | false =>
    have HTW := Lib.hid (HT.out.ext X1.out)
    go_wp2_with (go_at_call 10; refine (awake_any HTW.out).mono ?_; rintro e wz ⟨rfl, xz⟩)
    go_ret
    exact ⟨rfl, X1.out.trans xz⟩
  | true =>
    have HSM := Lib.hid (HR.out rfl)
    by_cases hob : 200 < (ob.length : Int)
    · have HTW := Lib.hid (HT.out.ext X1.out)
      go_wp2_with (go_at_call 10; refine (awake_any HTW.out).mono ?_; rintro e wz ⟨rfl, xz⟩)
      go_ret
      exact ⟨rfl, X1.out.trans xz⟩
    · have hob2 : decide (200 < (ob.length : Int)) = false := decide_eq_false hob
      have HOB := Lib.hid (show ob.length ≤ 1000000 by omega)
      clear hob
      have kp0 := blk_cell N1.out 0
      try simp only [List.getElem?_toArray, List.getElem?_cons_succ, List.getElem?_cons_zero] at kp0
      by_cases hp1 : p < 1
      · have d1 : decide (p < 1) = true := decide_eq_true hp1
        have HTW := Lib.hid (HT.out.ext X1.out)
        go_wp2_with (go_at_call 10; refine (awake_any HTW.out).mono ?_; rintro e wz ⟨rfl, xz⟩)
        go_ret
        exact ⟨rfl, X1.out.trans xz⟩
      · have d1 : decide (p < 1) = false := decide_eq_false hp1
        by_cases hp2 : 200 < p
        · have d2 : decide (200 < p) = true := decide_eq_true hp2
          have HTW := Lib.hid (HT.out.ext X1.out)
          go_wp2_with (go_at_call 10; refine (awake_any HTW.out).mono ?_; rintro e wz ⟨rfl, xz⟩)
          go_ret
          exact ⟨rfl, X1.out.trans xz⟩
        · have d2 : decide (200 < p) = false := decide_eq_false hp2
          obtain ⟨pn, rfl⟩ : ∃ pn : Nat, p = pn := ⟨p.toNat, by omega⟩
          have HN1 := Lib.hid (new_any pn (by omega) (by omega) w1)
          have HN2 := Lib.hid (fun W => new_any pn (by omega) (by omega) W)
          clear hp1 hp2
          go_wp2_with (go_at_call 18; refine HN1.out.mono ?_; rintro e w2 ⟨rfl, h2, x2⟩; refine stop_of ?_)
          unfold Stop
          have kp2 := x2.cell kp0
          have H2 := Lib.hid h2; have Y2 := Lib.hid x2
          obtain ⟨a, ha⟩ : ∃ a, a = w1.heap.size := ⟨_, rfl⟩
          rw [← ha] at H2 ⊢
          have HA := Lib.hid ha
          clear h2 x2 kp0 HN1 d1 d2 ha
          go_wp2_with (go_at_call 18; refine (HN2.out w2).mono ?_; rintro e w3 ⟨rfl, h3, x3⟩; refine stop_of ?_)
          unfold Stop
          obtain ⟨b, hb⟩ : ∃ b, b = w2.heap.size := ⟨_, rfl⟩
          rw [← hb] at h3 ⊢
          have HAB := Lib.hid (show a < b from by have h := (H2.out.lt (g := a) rfl).1; omega)
          have HP0 := Lib.hid (show PP2 w1 w3 a b 0 0 pn [] [] (fun _ => False) from ⟨_, _, by rw [← HA.out]; exact H2.out.ext x3, h3.base (by rw [hb]; exact Y2.out.size), fun g hg e => by have h1 := HAB.out; omega, fun g hg => hg.elim, Y2.out.trans x3, HT.out.ext (X1.out.trans (Y2.out.trans x3)), by have h := (HT.out.ext X1.out).lt; omega⟩)
          have k1 := (Y2.out.trans x3).cell (blk_cell N1.out 1)
          try simp only [List.getElem?_toArray, List.getElem?_cons_succ, List.getElem?_cons_zero] at k1
          clear h3 x3 hb kp2 HN2 H2 Y2
          have hn3 : (n : Int) ≤ 30 := by have := HSM.out.1; have := HM.out; omega
          go_wp2_with fail
          go_loopw [64, 11, 13] (fun i s _ wr => ∃ (j q : Nat) (Ao : Option Addr) (co : Nat) (os : List OpP), j ≤ n ∧ i = .int .i64 j ∧ s = .slice Ao q co ∧ Hid (os = onceL (xs.take j)) ∧ Hid (KRow encOp 3 38 wr w1.heap.size (.slice Ao q co) os) ∧ Hid (PP2 w1 wr a b j 0 pn (os.map keyO) [] (fun g => Value.ownBlock (.slice Ao q co) = some g))) (fun i _ _ _ => n - (RowKit.intOf i).toNat)
          case atStart => exact ⟨0, 0, none, 0, [], by omega, rfl, rfl, Lib.hid rfl, Lib.hid KRow.nil, Lib.hid (HP0.out.weak fun g e => by cases e)⟩
          case round =>
            clear HP0
            obtain ⟨j, q, Ao, co, os, hj, rfl, rfl, HOS, HK, HPP⟩ := hrel
            by_cases hlt : j < n
            · have hjs : j < xs.length := by rw [← HM.out]; exact hlt
              obtain ⟨g, off, rfl, _, hrg⟩ := ((HOPS.out.ext X1.out).ext HPP.out.base).at_ hjs
              have htk : xs.take (j + 1) = xs.take j ++ [xs[j]] := List.take_succ_eq_append_getElem hjs
              have hpj : xs[j] ∈ xs := by simp
              obtain ⟨p, hp⟩ : ∃ p, p = xs[j] := ⟨_, rfl⟩
              rw [← hp] at hrg htk hpj
              obtain ⟨yk, yn, yw⟩ := p
              have HRG := Lib.hid hrg; have HTK := Lib.hid htk
              have HNL := Lib.hid (show yn.length ≤ 1000000 from by have h := HSM.out.2 _ hpj; simp only at h; omega)
              have HJ := Lib.hid (show j + 1 ≤ 100 from by have := HSM.out.1; have := HM.out; omega)
              clear hrg htk hpj hp hjs
              go_wp2_with (first | (refine wpList_load_mid rfl 38 _ rfl g (off + j * 3) rfl (encOp ⟨yk, yn, yw⟩) _ HRG.out Tryd.underlying38 rfl size38 ?_) | (refine wpList_new 38 #[.int .u8 0, .string ⟨#[]⟩, .int .i64 0] zero38 rfl rfl ?_; intro W4 x4 n4 s4; refine stop_of ?_))
              unfold Stop
              obtain ⟨vb, hvb⟩ : ∃ vb, vb = wr.heap.size := ⟨_, rfl⟩
              rw [← hvb] at n4 ⊢
              have HVB := Lib.hid hvb
              have Y1 := Lib.hid x4; have N4 := Lib.hid n4
              clear x4 n4 s4 hvb
              go_wp2_with (refine wpList_put 38 rfl _ _ rfl vb 0 38 _ (encOp ⟨yk, yn, yw⟩).toArray (encOp ⟨yk, yn, yw⟩) (.agg (encOp ⟨yk, yn, yw⟩).toArray) N4.out rfl rfl rfl (by simp [encOp]) rfl size38 (by simp [putA, encOp]) ?_; intro W5 x5 n5 s5; refine stop_of ?_)
              unfold Stop
              have Y2 := Lib.hid (show Ext wr W5 from Y1.out.thenB x5 (by intro y hy; rw [show y = vb by simpa using hy, HVB.out]; exact Nat.le_refl _)); have N5 := Lib.hid n5
              have kp1 := blk_cell n5 1
              have kp2 := blk_cell n5 2
              simp [encOp] at kp1 kp2
              have HVL := Lib.hid (show wr.heap.size ≤ vb ∧ vb < W5.heap.size from ⟨by rw [HVB.out]; exact Nat.le_refl _, blk_lt n5⟩)
              clear x5 n5 s5 N4 Y1
              have HQ := Lib.hid (HPP.out.hold Y2.out)
              have HAD := Lib.hid (q_add HQ.out HJ.out HNL.out yw)
              go_wp2_with (go_at_call 16; refine HAD.out.mono ?_; rintro e w6 ⟨rfl, h6, q6⟩; refine stop_of ?_)
              unfold Stop
              have N6 := Lib.hid ((q6 vb (.inr HVL.out)).trans N5.out)
              have K6 := Lib.hid ((HK.out.ext Y2.out).keepQ (fun g hg => q6 g (.inl hg)))
              obtain ⟨ec, hec⟩ : ∃ ec, ec = addC (os.map keyO) yn yw := ⟨_, rfl⟩
              rw [← hec]
              have hsa : (stepO os ⟨yk, yn, yw⟩).map keyO = addL (os.map keyO) yn yw := stepO_add os ⟨yk, yn, yw⟩
              rw [← hsa] at h6
              have HEC := Lib.hid hec
              have H6 := Lib.hid h6
              clear h6 q6 hec hsa kp1 kp2 HAD HQ
              by_cases hc : ec = 0
              · have HST := Lib.hid (show stepO os ⟨yk, yn, yw⟩ = os ++ [(⟨yk, yn, yw⟩ : OpP)] from by unfold stepO; rw [if_pos (HEC.out.symm.trans hc)])
                rw [HST.out] at H6
                subst hc
                have HQL := Lib.hid (show os.length ≤ 64 from by have h := H6.out.ok.len; simp at h; omega)
                have RA := Lib.hid (K6.out.ext (ext_alloc1 w6 (.cells #[.int .u8 yk, .string ⟨yn.toArray⟩, .int .i64 yw] 38)))
                have HB6 := Lib.hid (show w1.heap.size ≤ (w6.alloc (.cells #[.int .u8 yk, .string ⟨yn.toArray⟩, .int .i64 yw] 38)).heap.size from Nat.le_trans H6.out.base.size (ext_alloc1 w6 _).size)
                go_wp2_with (first | (refine wpList_get 38 _ rfl _ rfl vb 0 38 _ [.int .u8 yk, .string ⟨yn.toArray⟩, .int .i64 yw] N6.out rfl (by simp [encOp]) Tryd.underlying38 rfl size38 ?_) | (refine wpList_appendK (enc := encOp) (k := 3) (e := 38) 22 _ 32 Tryd.underlying22 info38 rfl (by decide) (by decide) rfl _ _ rfl ⟨yk, yn, yw⟩ rfl (encOp_one _) RA.out rfl #[.int .u8 yk, .string ⟨yn.toArray⟩, .int .i64 yw] w6.heap.size rfl (heap_alloc_new w6 _) rfl (by have := HQL.out; omega) HB6.out ?_; intro v7 w7 r7 g7 f7; refine stop_of ?_))
                unfold Stop
                obtain ⟨A7, c7, hv7⟩ := KRow.slice r7
                subst hv7
                have hr7 : ∀ g, Value.ownBlock (.slice Ao q co) = some g → (Value.ownBlock (.slice Ao q co) = some g ∨ wr.heap.size ≤ g ∧ g < W5.heap.size) ∧ w1.heap.size ≤ g := fun g e => ⟨.inl e, by obtain ⟨_, _, h⟩ := RA.out.kind e; exact h⟩
                have hs7 : ∀ g, Value.ownBlock (.slice A7 (os ++ [(⟨yk, yn, yw⟩ : OpP)]).length c7) = some g → g < w7.heap.size ∧ (Value.ownBlock (.slice Ao q co) = some g ∨ (w6.alloc (.cells #[.int .u8 yk, .string ⟨yn.toArray⟩, .int .i64 yw] 38)).heap.size ≤ g) := fun g e => ⟨by obtain ⟨_, h, _⟩ := KRow.kind r7 e; exact blk_lt h, f7 g e⟩
                have H7 := Lib.hid ((H6.out.ext (ext_alloc1 w6 (.cells #[.int .u8 yk, .string ⟨yn.toArray⟩, .int .i64 yw] 38))).grown g7 hr7 hs7)
                have R7 := Lib.hid r7
                obtain ⟨q7, hq7⟩ : ∃ q7, q7 = (os ++ [(⟨yk, yn, yw⟩ : OpP)]).length := ⟨_, rfl⟩
                rw [← hq7] at R7 H7 ⊢
                clear r7 g7 f7 hq7 hr7 hs7
                go_wp2_with fail
                go_roundw
                case rel => exact ⟨j + 1, q7, A7, c7, os ++ [(⟨yk, yn, yw⟩ : OpP)], by omega, by go_num, rfl, Lib.hid (by rw [HTK.out, onceL_snoc, ← HOS.out, HST.out]), R7, H7⟩
                case measure => simp [RowKit.intOf]; omega
              · have hc1 : (ec == 0) = false := by simp [hc]
                have hc2 : decide (ec = 0) = false := decide_eq_false hc
                have HST := Lib.hid (show stepO os ⟨yk, yn, yw⟩ = os from by unfold stepO; rw [if_neg (fun h => hc (HEC.out.trans h))])
                rw [HST.out] at H6
                have H7 := Lib.hid (H6.out.weak (Q' := fun g => Value.ownBlock (.slice Ao q co) = some g) fun g e => .inl e)
                go_wp2_with fail
                go_roundw
                case rel => exact ⟨j + 1, q, Ao, co, os, by omega, by go_num, rfl, Lib.hid (by rw [HTK.out, onceL_snoc, ← HOS.out, HST.out]), K6, H7⟩
                case measure => simp [RowKit.intOf]; omega
            · have hjn : j = n := by omega
              subst hjn
              have HOK := Lib.hid (show okO os from by rw [HOS.out, List.take_of_length_le (by have := HM.out; omega)]; exact okO_once xs)
              have HLK := Lib.hid HPP.out.ok
              have HQL := Lib.hid (show q = os.length from by obtain ⟨_, _, e⟩ := KRow.slice HK.out; injection e)
              have HQ64 := Lib.hid (show q ≤ 64 from by have h := HLK.out.len; rw [HQL.out]; simpa using h)
              have HJ30 := Lib.hid (show j ≤ 30 from by have := HSM.out.1; have := HM.out; omega)
              clear HOS
              go_wp2_with fail
              have hq3 : (q : Int) ≤ 64 := by have := HQ64.out; omega
              go_loopw [82, 14, 15] (fun i _ _ wr => ∃ (t : Nat), t ≤ q ∧ i = .int .i64 t ∧ Hid (KRow encOp 3 38 wr w1.heap.size (.slice Ao q co) os) ∧ Hid (PP2 w1 wr a b j t pn (os.map keyO) (toK os z t) (fun g => Value.ownBlock (.slice Ao q co) = some g))) (fun i _ _ _ => q - (RowKit.intOf i).toNat)
              case atStart => exact ⟨0, by omega, rfl, HK, HPP⟩
              case round =>
                clear HK HPP
                obtain ⟨t, ht, rfl, HK, HPP⟩ := hrel
                by_cases hlt : t < q
                · obtain ⟨ix, hix⟩ : ∃ ix, ix = ixO os.length z t := ⟨_, rfl⟩
                  have hil0 : ix < os.length := by rw [hix]; exact ixO_lt (by have := HQL.out; omega)
                  have hil : ix < q := by rw [HQL.out]; exact hil0
                  have hrem : Int.tmod ((q : Int) - 1 - (t : Int) + (z : Int)) (q : Int) = (ix : Int) := by
                    rw [show (q : Int) - 1 - (t : Int) + (z : Int) = ((q - 1 - t + z : Nat) : Int) by omega, hix, ← HQL.out]
                    exact (Int.ofNat_tmod _ _).symm
                  have hq0 : ((q : Int) == 0) = false := by simp; omega
                  have hz0 : (z : Int) ≤ 255 := by have := HZ.out; omega
                  obtain ⟨g, off, rfl, _, hrg⟩ := (opsRow HK.out).at_ hil0
                  obtain ⟨o, hoo⟩ : ∃ o, o = os[ix] := ⟨_, rfl⟩
                  rw [← hoo] at hrg
                  have hta := toK_add HOK.out HLK.out (z := z) (j := t) (by have := HQL.out; omega)
                  rw [← hix, show os.getD ix ⟨0, [], 0⟩ = o from by rw [hoo]; simp [List.getD, hil0]] at hta
                  have hnl : o.nm.length ≤ 1000000 := by
                    have h := (HOK.out o (by rw [hoo]; exact List.getElem_mem hil0)).1
                    unfold rightN at h; simp at h; omega
                  obtain ⟨yk, yn, yw⟩ := o
                  simp only at hta hnl
                  have HRG := Lib.hid hrg; have HTA := Lib.hid hta; have HNL := Lib.hid hnl
                  have HJ := Lib.hid (show t + 1 ≤ 100 from by have := HQ64.out; omega)
                  clear hrg hta hoo hnl hil0 hix
                  go_wp2_with (first | (refine wpList_load_mid rfl 38 _ rfl g (off + ix * 3) rfl (encOp ⟨yk, yn, yw⟩) _ HRG.out Tryd.underlying38 rfl size38 ?_) | (refine wpList_new 38 #[.int .u8 0, .string ⟨#[]⟩, .int .i64 0] zero38 rfl rfl ?_; intro W4 x4 n4 s4; refine stop_of ?_))
                  unfold Stop
                  obtain ⟨vb, hvb⟩ : ∃ vb, vb = wr.heap.size := ⟨_, rfl⟩
                  rw [← hvb] at n4 ⊢
                  have HVB := Lib.hid hvb
                  have Y1 := Lib.hid x4; have N4 := Lib.hid n4
                  clear x4 n4 s4 hvb
                  go_wp2_with (refine wpList_put 38 rfl _ _ rfl vb 0 38 _ (encOp ⟨yk, yn, yw⟩).toArray (encOp ⟨yk, yn, yw⟩) (.agg (encOp ⟨yk, yn, yw⟩).toArray) N4.out rfl rfl rfl (by simp [encOp]) rfl size38 (by simp [putA, encOp]) ?_; intro W5 x5 n5 s5; refine stop_of ?_)
                  unfold Stop
                  have Y2 := Lib.hid (show Ext wr W5 from Y1.out.thenB x5 (by intro y hy; rw [show y = vb by simpa using hy, HVB.out]; exact Nat.le_refl _)); have N5 := Lib.hid n5
                  have kp1 := blk_cell n5 1
                  have kp2 := blk_cell n5 2
                  simp [encOp] at kp1 kp2
                  have HVL := Lib.hid (show wr.heap.size ≤ vb ∧ vb < W5.heap.size from ⟨by rw [HVB.out]; exact Nat.le_refl _, blk_lt n5⟩)
                  clear x5 n5 s5 N4 Y1
                  have HQ := Lib.hid (HPP.out.hold Y2.out).swap
                  have hadd := q_add HQ.out HJ.out HNL.out yw
                  rw [HTA.out.1, HTA.out.2] at hadd
                  have HAD := Lib.hid hadd
                  clear hadd hrem
                  go_wp2_with (go_at_call 16; refine HAD.out.mono ?_; rintro e w6 ⟨rfl, h6, q6⟩; refine stop_of ?_)
                  unfold Stop
                  have K6 := Lib.hid ((HK.out.ext Y2.out).keepQ (fun g hg => q6 g (.inl hg)))
                  have H7 := Lib.hid (h6.swap.weak (Q' := fun g' => Value.ownBlock (.slice (some ⟨g, off, none⟩) q co) = some g') fun g e => .inl e)
                  clear h6 q6 kp1 kp2 HAD HQ
                  go_wp2_with fail
                  go_roundw
                  case rel => exact ⟨t + 1, by omega, by go_num, K6, H7⟩
                  case measure => simp [RowKit.intOf]; omega
                · have htq : t = q := by omega
                  subst htq
                  have HE := Lib.hid (toK_all HLK.out (z := z) (by rw [← HQL.out]; exact HPP.out.swap.ok) pn (hashL ob))
                  have HLK2 := Lib.hid HPP.out.swap.ok
                  rw [← HQL.out] at HE
                  have HPO := Lib.hid (q_owners HPP.out HOB.out 64)
                  clear hq3
                  go_wp2_with (go_at_call 12; refine HPO.out.mono ?_; rintro e w7 ⟨v7, rfl, r7, x7⟩; refine stop_of ?_)
                  unfold Stop
                  rw [ordL_all HLK.out] at r7
                  have R7 := Lib.hid r7; have Z7 := Lib.hid x7
                  have HP7 := Lib.hid (HPP.out.ext x7)
                  clear r7 x7 HPO
                  have HPO := Lib.hid (q_owners HP7.out.swap HOB.out 64)
                  go_wp2_with (go_at_call 12; refine HPO.out.mono ?_; rintro e w8 ⟨v8, rfl, r8, x8⟩; refine stop_of ?_)
                  unfold Stop
                  rw [ordL_all HLK2.out, ← HE.out.1] at r8
                  have HP8 := Lib.hid (HP7.out.ext x8)
                  have Z8 := Lib.hid (Z7.out.trans x8)
                  obtain ⟨lo, hlo⟩ : ∃ lo, lo = ordL pd pn (hashL ob) (os.map keyO) := ⟨_, rfl⟩
                  have hl64 : lo.length ≤ 1000000 := by rw [hlo, ordL_len pn (hashL ob) HLK.out.nd]; have := HLK.out.len; omega
                  rw [← hlo] at r8 R7
                  have hs := same_any w8 v7 v8 lo lo (SRow.texts (SRow.ext R7.out x8)) (SRow.texts r8) hl64 hl64
                  rw [show decide (lo = lo) = true from decide_eq_true rfl] at hs
                  have HS := Lib.hid hs
                  clear r8 x8 HPO hlo hl64 hs R7
                  go_wp2_with (go_at_call 15; refine HS.out.mono ?_; rintro e w9 ⟨rfl, x9⟩; refine stop_of ?_)
                  unfold Stop
                  have HP9 := Lib.hid (HP8.out.ext x9); have Z9 := Lib.hid (Z8.out.trans x9)
                  clear x9 HS
                  have HPN := Lib.hid (q_names HP9.out)
                  go_wp2_with (go_at_call 19; refine HPN.out.mono ?_; rintro e w10 ⟨v10, rfl, r10, x10⟩; refine stop_of ?_)
                  unfold Stop
                  have HP10 := Lib.hid (HP9.out.ext x10); have Z10 := Lib.hid (Z9.out.trans x10); have R10 := Lib.hid r10
                  clear r10 x10 HPN
                  have HPN := Lib.hid (q_names HP10.out.swap)
                  go_wp2_with (go_at_call 19; refine HPN.out.mono ?_; rintro e w11 ⟨v11, rfl, r11, x11⟩; refine stop_of ?_)
                  unfold Stop
                  rw [← HE.out.2] at r11
                  have Z11 := Lib.hid (Z10.out.trans x11)
                  obtain ⟨nm, hnm⟩ : ∃ nm, nm = namL (os.map keyO) := ⟨_, rfl⟩
                  have hl64 : nm.length ≤ 1000000 := by rw [hnm, namL_len]; have := HLK.out.len; omega
                  rw [← hnm] at r11 R10
                  have hs := same_any w11 v10 v11 nm nm (SRow.texts (SRow.ext R10.out x11)) (SRow.texts r11) hl64 hl64
                  rw [show decide (nm = nm) = true from decide_eq_true rfl] at hs
                  have HS := Lib.hid hs
                  clear r11 x11 HPN hnm hl64 hs R10
                  go_wp2_with (go_at_call 15; refine HS.out.mono ?_; rintro e w12 ⟨rfl, x12⟩; refine stop_of ?_)
                  unfold Stop
                  have Z12 := Lib.hid ((X1.out.trans HPP.out.base).trans (Z11.out.trans x12))
                  have HTW := Lib.hid (HT.out.ext Z12.out)
                  clear x12 HS
                  go_wp2_with (go_at_call 10; refine (awake_any HTW.out).mono ?_; rintro e wz ⟨rfl, xz⟩)
                  go_ret
                  exact ⟨rfl, Z12.out.trans xz⟩
end
open Go.ChangeShapes Go.WideShapes Go.ChangeAt
set_option maxRecDepth 100000 in
theorem ringOrder_contract (H : Type) (enc : TypeId × Value → H) (W : World) (base : Nat) (args : Array Value) (ds gs : List (DataW H)) (before : List MemPlace)
    (hval : ∀ (j : Nat) t v, Tryd.f5.params[j]? = some t → args[j]? = some v → Value.okWide Tryd.prog W .any base t v)
    (hW : DataW.Whole enc Tryd.prog Tryd.f5.params.toList Rows.ringOrderSpec.vars false W args.toList ds gs before)
    (hsz : (DataW.weightsEach Tryd.prog (Tryd.f5.params.toList ++ (OpenSpec.ofChange Rows.ringOrderSpec).bare.plain.varTypes Tryd.prog) (ds ++ gs)).all (· ≤ reachBytes) = true) (hL : laidMetH Tryd.prog laid3 W) :
    Calls Tryd.prog 5 args W fun e W' => ∃ v, e = .returned v ∧ Rows.ringOrderSpec.post enc Tryd.prog Tryd.f5 false true false false W args v W' := by
  have hW' := hW
  have hT := tab_of hL
  obtain ⟨p, q, hA0, hV, rfl, hfz, hnd⟩ := hW
  have hA : DataW.TrodAll enc Tryd.prog W 0 (fun _ => true) true Tryd.f5.params.toList args.toList ds p := hA0
  rw [Tryd.params5] at hA hval
  obtain ⟨v0, vs0, d0, ds0, p0, q0, hargs, rfl, rfl, h0, r0⟩ := trodAll_cons hA
  obtain ⟨v1, vs1, d1, ds1, p1, q1, rfl, rfl, rfl, h1, r1⟩ := trodAll_cons r0
  obtain ⟨v2, vs2, d2, ds2, p2, q2, rfl, rfl, rfl, h2, r2⟩ := trodAll_cons r1
  obtain ⟨rfl, rfl, rfl⟩ := trodAll_nil r2
  obtain rfl : args = #[v0, v1, v2] := by cases args; simp_all
  obtain ⟨rfl, rfl⟩ := trodVars_none hV
  have lt0 : ∀ x ∈ p0, x.block < W.heap.size := by obtain ⟨m, hm⟩ := h0; exact DataW.trod_lt m _ _ _ hm
  have t0 := fun W' (bel : Below W.heap.size W W') => Below.trod laidOut (by kernel_rfl) (of_decide_eq_true (by kernel_rfl)) h0 bel lt0
  have lt1 : ∀ x ∈ p1, x.block < W.heap.size := by obtain ⟨m, hm⟩ := h1; exact DataW.trod_lt m _ _ _ hm
  have t1 := fun W' (bel : Below W.heap.size W W') => Below.trod laidOut (by kernel_rfl) (of_decide_eq_true (by kernel_rfl)) h1 bel lt1
  have lt2 : ∀ x ∈ p2, x.block < W.heap.size := by obtain ⟨m, hm⟩ := h2; exact DataW.trod_lt m _ _ _ hm
  have t2 := fun W' (bel : Below W.heap.size W W') => Below.trod laidOut (by kernel_rfl) (of_decide_eq_true (by kernel_rfl)) h2 bel lt2
  obtain ⟨q0, A0, xs0, c0, rfl, ha0, hl0⟩ := make_open (hval 0 24 v0 rfl rfl) h0
  obtain ⟨s1, rfl⟩ := str_of (hval 1 9 v1 rfl rfl) h1
  obtain ⟨z2, rfl, b2⟩ := u8_of (hval 2 5 v2 rfl rfl) h2
  clear hA0
  refine (order_walk  ha0 hl0 hT b2).mono fun e W' ⟨he, hx⟩ => ?_
  have bel : Below W.heap.size W W' := hx
  subst he
  exact ⟨_, rfl, _, _, _, [], _, [], hW', trodAll_mk1 (shut_bool Tryd.underlying4 _), (trodAll_cons_mk (t0 W' bel) (trodAll_cons_mk (t1 W' bel) (trodAll_cons_mk (t2 W' bel) trodAll_mk0))), rfl, bel.frame _, fun h => by cases h⟩

set_option maxRecDepth 100000 in
theorem ringOrder_reads (os : Os) {H : Type} (enc : TypeId × Value → H) : ∃ x, DataW.whole enc Tryd.prog ((laidWorld os).forCall (fun _ _ => 0) ⟨#[], #[.agg #[.int .i64 0, .slice none 0 0], .string ⟨#[]⟩, .int .u8 0], []⟩).memory Tryd.f5.params.toList Rows.ringOrderSpec.vars false (#[.agg #[.int .i64 0, .slice none 0 0], .string ⟨#[]⟩, .int .u8 0] : Array Value).toList 8 = some x :=
  Option.isSome_iff_exists.1 (by kernel_rfl)
set_option maxRecDepth 100000 in
theorem ringOrder_lifted (os : Os) (started : os.Started) (H : Type) (enc : TypeId × Value → H) (F : Stop.Interp) :
    ReturnsInHanded {} Tryd.checked os 5 .any ((OpenSpec.ofChange Rows.ringOrderSpec).preRow enc Tryd.prog Tryd.f5 Rows.ringOrderRow.domain false Rows.ringOrderRow.laid) (((OpenSpec.ofChange Rows.ringOrderSpec).at F).post enc Tryd.prog Tryd.f5 false true false false) := by
  obtain ⟨x, hx⟩ := ringOrder_reads os enc
  refine returnsInHanded_of_row (C := Tryd.checked) (s := OpenSpec.ofChange Rows.ringOrderSpec) own started (by kernel_rfl) Tryd.func5
    (witness_row_at (enc := enc) (C := Tryd.checked) false (laidWorld os) #[.agg #[.int .i64 0, .slice none 0 0], .string ⟨#[]⟩, .int .u8 0] (World.laidAll_os _ _ _) (by kernel_rfl) (by kernel_rfl) (by kernel_rfl)
      (OpenSpec.preRow_of_cond 8 hx rfl (fun k hk => by cases hk) (by kernel_rfl) (laid_met os _))) ?_
  intro W base args ds gs before hval hW _ _ hsz hL _ _
  exact ringOrder_contract H enc W base args ds gs before hval hW hsz hL
theorem ringOrder_said : Rows.RingOrderSaid :=
  OpenClaim.holds_of_cond 5 Tryd.f5 rfl rfl rfl rfl rfl rfl rfl ⟨rfl, rfl, rfl, rfl, rfl⟩ rfl rfl rfl rfl rfl (by kernel_rfl) Tryd.func5 (by kernel_rfl)
    (of_decide_eq_true (by kernel_rfl)) (by unfold Func.isWrapper; first | (rw [if_pos (by decide +kernel)]; kernel_rfl) | (rw [if_neg (by decide +kernel)]; exact ⟨rfl, rfl⟩))
    (fun os started H enc _ F => by rw [OpenClaim.pre_eq_preRow]; exact ringOrder_lifted os started H enc F)
theorem ringOrder_plain (f : FuncId) (fn : Func) (hf : Tryd.pinned.checked.prog.funcNamed Rows.ringOrderRow.func = some f) (hfn : Tryd.pinned.checked.prog.funcs[f]? = some fn) :
    false = Tryd.pinned.checked.prog.looks [] ∧ ∀ (j : Nat) t, fn.params[j]? = some t → Tryd.pinned.checked.prog.wantsStandIn t = false := by
  obtain rfl : f = 5 := Option.some.inj ((show Tryd.prog.funcNamed Rows.ringOrderRow.func = some 5 by kernel_rfl).symm.trans hf) |>.symm
  obtain rfl : fn = Tryd.f5 := (Option.some.inj (Tryd.func5.symm.trans hfn)).symm
  refine ⟨by kernel_rfl, fun j t ht => ?_⟩
  rw [Tryd.params5] at ht
  have hm : t ∈ [24, 9, 5] := by simpa using Array.mem_of_getElem? ht
  have hall : ([24, 9, 5].all fun u => !Tryd.prog.wantsStandIn u) = true := by kernel_rfl
  exact (show Tryd.prog.wantsStandIn t = false by simpa using List.all_eq_true.1 hall t hm)
/-- The statement. -/
theorem RingOrder_proved : Rows.RingOrderCardSaid :=
  Claim7.holds_tied_plain_at .later [] _ _ _ _ ringOrder_said (fun _ h => by cases h) (by kernel_rfl) (fun _ h => by cases h) ringOrder_row_tie rfl ⟨rfl, rfl⟩ (by kernel_rfl) rfl ringOrder_plain (by kernel_rfl)
#print axioms RingOrder_proved
end Go.Proofs.YtjphpblangeblaaDoor
