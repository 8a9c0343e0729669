/- The document's Names, walked (printed by gen_refd.py). -/
import Derived.Test.YtjphpblangeblaaDoorRefC
namespace Go.Proofs.YtjphpblangeblaaDoor
open Go.RowKit Go.Maps Go.ChangeMaps
set_option linter.unusedVariables false
set_option linter.unusedSimpArgs false
theorem nextN_succ {ns out : List Nm} {i : Nat} {x : Nm} (h : ns[i]? = some x) : nextN ns out (i + 1) = if (out = [] ∨ (out.getLastD []) < x) ∧ (nextN ns out i = [] ∨ x < nextN ns out i) then x else nextN ns out i := by
  rw [nextN, h]
theorem TextsAt.cell2 {w : World} {A : Option Addr} {n c : Nat} {ss : List Bs} (h : TextsAt w (.slice A n c) ss) {j : Nat} (hj : j < ss.length) : ∃ b off, A = some ⟨b, off, none⟩ ∧ w.cell? ⟨b, off + j, none⟩ = some (.string ⟨ss[j].toArray⟩) := h.cell hj
section
variable {w : World} {B x each : Nat} {own : Nat → Prop} {L : NL}
set_option maxRecDepth 100000 in
set_option maxHeartbeats 8000000 in
theorem rnames_any (hI : RRI w B x own each L) : Calls Tryd.prog 20 #[.pointer (some ⟨x, 0, none⟩)] w fun e w' => ∃ v, e = .returned v ∧ SRow w' w.heap.size v (namL L) ∧ Ext w w' := by
  obtain ⟨sv, h⟩ := hI
  obtain ⟨A, c, rfl⟩ := h.row.slice
  have k1 := blk_cell h.blk 1
  simp at k1
  have HROW := Lib.hid h.row
  obtain ⟨m, hm⟩ : ∃ m, m = L.length := ⟨_, rfl⟩
  have hml : m ≤ 64 := by rw [hm]; exact h.ok.len
  unfold namL
  rw [← hm] at k1 HROW ⊢
  have HM := Lib.hid hm
  obtain ⟨ns, hns⟩ : ∃ ns, ns = L.map Prod.fst := ⟨_, rfl⟩
  have HNA := Lib.hid (show ∀ (j : Nat) (y : Nm × Nat), L[j]? = some y → ns[j]? = some y.1 from fun j y hy => by rw [hns, List.getElem?_map, hy]; rfl)
  have HNL := Lib.hid (show ns.length = m from by rw [hns, List.length_map]; exact hm.symm)
  rw [← hns]
  clear h hm hns
  go_enter Tryd.func20, Tryd.ntmps20
  go_wp2_with fail
  go_loopw [12, 3, 4, 6] (fun i v _ _ wr => ∃ q : Nat, q ≤ m ∧ i = .int .i64 q ∧ Hid (SRow wr w.heap.size v (toldN ns q)) ∧ Hid (Ext w wr)) (fun i _ _ _ _ => m - (RowKit.intOf i).toNat)
  case atStart => exact ⟨0, by omega, rfl, Lib.hid (World.ownsRow_nil _ _ _ _), Lib.hid (Ext.refl _)⟩
  case round =>
    obtain ⟨q, hq, rfl, HR, HXO⟩ := hrel
    obtain ⟨wo, rfl⟩ : ∃ wo : World, wo = wr := ⟨_, rfl⟩
    obtain ⟨Ao, co, hv⟩ := own_slice HR.out
    rw [toldN_len] at hv
    subst hv
    by_cases hltq : q < m
    · have k1o := HXO.out.cell k1
      obtain ⟨out, hout⟩ : ∃ o, o = toldN ns q := ⟨_, rfl⟩
      have HOUT := Lib.hid hout
      have hol : out.length = q := by rw [hout, toldN_len]
      have HOL := Lib.hid hol
      rw [← hout] at HR
      clear hout hol
      go_wp2_with fail
      go_loopw [19, 4, 6] (fun i bst _ wr => ∃ (j : Nat) (bq : Bs), j ≤ m ∧ i = .int .i64 j ∧ bst = .string ⟨bq.toArray⟩ ∧ Hid (bq = nextN ns out j) ∧ Hid (Ext wo wr)) (fun i _ _ _ => m - (RowKit.intOf i).toNat)
      case atStart => exact ⟨0, [], by omega, rfl, rfl, Lib.hid rfl, Lib.hid (Ext.refl _)⟩
      case round =>
        obtain ⟨j, bq, hj, rfl, rfl, HBQ, HXI⟩ := hrel
        have HX := Lib.hid (HXO.out.trans HXI.out)
        by_cases hlt : j < m
        · skip
          have hjs : j < L.length := by rw [← HM.out]; exact hlt
          obtain ⟨g, rfl⟩ := HROW.out.some_ hjs
          have hrg := (HROW.out.ext HX.out).range encNm_len hjs
          have htk : L.take (j + 1) = L.take j ++ [L[j]] := List.take_succ_eq_append_getElem hjs
          have hpj : L[j]? = some L[j] := by simp [hjs]
          obtain ⟨p, hp⟩ : ∃ p, p = L[j] := ⟨_, rfl⟩
          rw [← hp] at hrg htk hpj
          obtain ⟨yn, yk⟩ := p
          have HRG := Lib.hid hrg; have HTK := Lib.hid htk; have HPJ := Lib.hid hpj
          clear hrg htk hpj hp hjs
          go_wp2_with (first | (refine wpList_load_mid rfl 69 _ rfl g (j * 2) rfl (encNm (yn, yk)) _ HRG.out Tryd.underlying69 rfl size69 ?_) | (refine wpList_new 69 #[.string ⟨#[]⟩, .int .i64 0] zero69 rfl rfl ?_; intro W1 x1 n1 s1; refine stop_of ?_))
          unfold Stop
          obtain ⟨vb, hvb⟩ : ∃ vb, vb = wr.heap.size := ⟨_, rfl⟩
          rw [← hvb] at n1 ⊢
          have HVB := Lib.hid hvb
          have X1 := Lib.hid x1; have N1 := Lib.hid n1
          clear x1 n1 s1 hvb
          go_wp2_with (refine wpList_put 69 rfl _ _ rfl vb 0 69 _ (encNm (yn, yk)).toArray (encNm (yn, yk)) (.agg (encNm (yn, yk)).toArray) N1.out rfl rfl rfl (by simp [encNm]) rfl size69 (by simp [putA, encNm]) ?_; intro W2 x2 n2 s2; refine stop_of ?_)
          unfold Stop
          have X2 := Lib.hid (show Ext wr W2 from X1.out.thenB x2 (by intro y hy; rw [show y = vb by simpa using hy, HVB.out]; exact Nat.le_refl _)); have N2 := Lib.hid n2
          have kp0 := blk_cell n2 0
          have kp1 := blk_cell n2 1
          simp [encNm] at kp0 kp1
          clear x2 n2 s2 N1 X1
          have X3 := Lib.hid (HXI.out.trans (X2.out.trans (Ext.refl W2).drew))
          have HNX := Lib.hid (nextN_succ (out := out) (HNA.out j _ HPJ.out))
          clear kp1 N2
          simp only at HNX
          cases q with
          | zero =>
            have ho : out = [] := List.eq_nil_of_length_eq_zero HOL.out
            have HO := Lib.hid ho
            clear ho
            by_cases hb : bq = []
            · subst hb
              have HN := Lib.hid (show nextN ns out (j + 1) = yn from by rw [HNX.out]; exact if_pos ⟨.inl HO.out, .inl HBQ.out.symm⟩)
              go_wp2_with fail
              refine wp_region_segs [] [.inl [0, 1, 2, 3, 4, 5, 6, 7, 8, 9, 10, 11, 12, 13, 14, 15, 16, 17, 18, 19, 20, 21, 22, 23]] (by kernel_rfl) (by kernel_rfl) (fun c a d v w h => by cases d <;> exact h) ?_
              have G0 : ∀ y : Grow [] W2.drew, y.v.cell? ⟨vb, 0, none⟩ = some (.string ⟨yn.toArray⟩) := fun y => y.ext.ext.cell kp0
              (rw [wpSegs_inl]; simp only [pickOps, List.map_cons, List.map_nil, List.getD_cons_succ, List.getD_cons_zero]; (repeat (go_big_quiet_step (fail))); refine wpQuiet_nil ?_)
              clear G0
              rw [wpSegs_nil]
              go_wp2
              go_roundw
              case rel => exact ⟨j + 1, _, by omega, by go_num, rfl, Lib.hid (by rw [HN.out]), X3⟩
              case measure => simp [RowKit.intOf]; omega
            · have hbb : (bq == []) = false := by simpa using hb
              have hbl : Op.bytesLess yn bq = decide (yn < bq) := bytesLess_eq yn bq
              by_cases hlt2 : yn < bq
              · have HN := Lib.hid (show nextN ns out (j + 1) = yn from by rw [HNX.out]; exact if_pos ⟨.inl HO.out, .inr (by rw [← HBQ.out]; exact hlt2)⟩)
                rw [decide_eq_true hlt2] at hbl
                clear hb hlt2
                go_wp2_with fail
                refine wp_region_segs [] [.inl [0, 1, 2, 3, 4, 5, 6, 7, 8, 9, 10, 11, 12, 13, 14, 15, 16, 17, 18, 19, 20, 21, 22, 23]] (by kernel_rfl) (by kernel_rfl) (fun c a d v w h => by cases d <;> exact h) ?_
                have G0 : ∀ y : Grow [] W2.drew, y.v.cell? ⟨vb, 0, none⟩ = some (.string ⟨yn.toArray⟩) := fun y => y.ext.ext.cell kp0
                (rw [wpSegs_inl]; simp only [pickOps, List.map_cons, List.map_nil, List.getD_cons_succ, List.getD_cons_zero]; (repeat (go_big_quiet_step (fail))); refine wpQuiet_nil ?_)
                clear G0
                rw [wpSegs_nil]
                go_wp2
                go_roundw
                case rel => exact ⟨j + 1, _, by omega, by go_num, rfl, Lib.hid (by rw [HN.out]), X3⟩
                case measure => simp [RowKit.intOf]; omega
              · have HN := Lib.hid (show nextN ns out (j + 1) = bq from by rw [HNX.out, HBQ.out]; refine if_neg ?_; rw [← HBQ.out]; rintro ⟨_, h | h⟩; exact hb h; exact hlt2 h)
                rw [decide_eq_false hlt2] at hbl
                clear hb hlt2
                go_wp2_with fail
                refine wp_region_segs [] [.inl [0, 1, 2, 3, 4, 5, 6, 7, 8, 9, 10, 11, 12, 13, 14, 15, 16, 17, 18, 19, 20, 21, 22, 23]] (by kernel_rfl) (by kernel_rfl) (fun c a d v w h => by cases d <;> exact h) ?_
                have G0 : ∀ y : Grow [] W2.drew, y.v.cell? ⟨vb, 0, none⟩ = some (.string ⟨yn.toArray⟩) := fun y => y.ext.ext.cell kp0
                (rw [wpSegs_inl]; simp only [pickOps, List.map_cons, List.map_nil, List.getD_cons_succ, List.getD_cons_zero]; (repeat (go_big_quiet_step (fail))); refine wpQuiet_nil ?_)
                clear G0
                rw [wpSegs_nil]
                go_wp2
                go_roundw
                case rel => exact ⟨j + 1, _, by omega, by go_num, rfl, Lib.hid (by rw [HN.out]), X3⟩
                case measure => simp [RowKit.intOf]; omega
          | succ r =>
            have hr : r < out.length := by rw [HOL.out]; omega
            have hr1 : ((r : Int) + 1 == 0) = false := by rw [beq_eq_false_iff_ne]; omega
            obtain ⟨la, hla⟩ : ∃ la, la = out[r] := ⟨_, rfl⟩
            have HLA := Lib.hid (show out.getLastD [] = la from by
              rw [hla, List.getLastD_eq_getLast?, List.getLast?_eq_getElem?, HOL.out]; simp [List.getElem?_eq_getElem hr])
            have HONE := Lib.hid (show out ≠ [] from by rintro e; rw [e] at hr; simp at hr)
            obtain ⟨og, oo, hAo, kl0⟩ := HR.out.texts.cell2 hr
            obtain rfl : oo = 0 := by
              rcases HR.out.2 with ⟨hv, _⟩ | ⟨g', cap, cur', hv, _⟩
              · cases hv
              · injection hv with hv; rw [hv] at hAo; injection hAo with hAo; injection hAo with _ h2 _; exact h2.symm
            subst hAo
            rw [← hla, Nat.zero_add] at kl0
            have kla := (HXI.out.trans X2.out).cell kl0
            clear hla hr kl0
            by_cases h1 : la < yn
            · have HA := Lib.hid (show out = [] ∨ out.getLastD [] < yn from .inr (by rw [HLA.out]; exact h1))
              have hb1 : Op.bytesLess yn la = decide (yn < la) := bytesLess_eq yn la
              rw [decide_eq_false (List.lt_asymm h1)] at hb1
              have hb2 : (yn == la) = false := by
                have : yn ≠ la := by rintro rfl; exact List.lt_irrefl _ h1
                simpa using this
              clear h1
              by_cases hb : bq = []
              · subst hb
                have HN := Lib.hid (show nextN ns out (j + 1) = yn from by rw [HNX.out]; exact if_pos ⟨HA.out, .inl HBQ.out.symm⟩)
                go_wp2_with fail
                refine wp_region_segs [] [.inl [0, 1, 2, 3, 4, 5, 6, 7, 8, 9, 10, 11, 12, 13, 14, 15, 16, 17, 18, 19, 20, 21, 22, 23]] (by kernel_rfl) (by kernel_rfl) (fun c a d v w h => by cases d <;> exact h) ?_
                have G0 : ∀ y : Grow [] W2.drew, y.v.cell? ⟨vb, 0, none⟩ = some (.string ⟨yn.toArray⟩) := fun y => y.ext.ext.cell kp0
                have G1 : ∀ y : Grow [] W2.drew, y.v.cell? ⟨og, r, none⟩ = some (.string ⟨la.toArray⟩) := fun y => y.ext.ext.cell kla
                (rw [wpSegs_inl]; simp only [pickOps, List.map_cons, List.map_nil, List.getD_cons_succ, List.getD_cons_zero]; (repeat (go_big_quiet_step (fail))); refine wpQuiet_nil ?_)
                clear G0
                rw [wpSegs_nil]
                go_wp2
                go_roundw
                case rel => exact ⟨j + 1, _, by omega, by go_num, rfl, Lib.hid (by rw [HN.out]), X3⟩
                case measure => simp [RowKit.intOf]; omega
              · have hbb : (bq == []) = false := by simpa using hb
                have hbl : Op.bytesLess yn bq = decide (yn < bq) := bytesLess_eq yn bq
                by_cases hlt2 : yn < bq
                · have HN := Lib.hid (show nextN ns out (j + 1) = yn from by rw [HNX.out]; exact if_pos ⟨HA.out, .inr (by rw [← HBQ.out]; exact hlt2)⟩)
                  rw [decide_eq_true hlt2] at hbl
                  clear hb hlt2
                  go_wp2_with fail
                  refine wp_region_segs [] [.inl [0, 1, 2, 3, 4, 5, 6, 7, 8, 9, 10, 11, 12, 13, 14, 15, 16, 17, 18, 19, 20, 21, 22, 23]] (by kernel_rfl) (by kernel_rfl) (fun c a d v w h => by cases d <;> exact h) ?_
                  have G0 : ∀ y : Grow [] W2.drew, y.v.cell? ⟨vb, 0, none⟩ = some (.string ⟨yn.toArray⟩) := fun y => y.ext.ext.cell kp0
                  have G1 : ∀ y : Grow [] W2.drew, y.v.cell? ⟨og, r, none⟩ = some (.string ⟨la.toArray⟩) := fun y => y.ext.ext.cell kla
                  (rw [wpSegs_inl]; simp only [pickOps, List.map_cons, List.map_nil, List.getD_cons_succ, List.getD_cons_zero]; (repeat (go_big_quiet_step (fail))); refine wpQuiet_nil ?_)
                  clear G0
                  rw [wpSegs_nil]
                  go_wp2
                  go_roundw
                  case rel => exact ⟨j + 1, _, by omega, by go_num, rfl, Lib.hid (by rw [HN.out]), X3⟩
                  case measure => simp [RowKit.intOf]; omega
                · have HN := Lib.hid (show nextN ns out (j + 1) = bq from by rw [HNX.out, HBQ.out]; refine if_neg ?_; rw [← HBQ.out]; rintro ⟨_, h | h⟩; exact hb h; exact hlt2 h)
                  rw [decide_eq_false hlt2] at hbl
                  clear hb hlt2
                  go_wp2_with fail
                  refine wp_region_segs [] [.inl [0, 1, 2, 3, 4, 5, 6, 7, 8, 9, 10, 11, 12, 13, 14, 15, 16, 17, 18, 19, 20, 21, 22, 23]] (by kernel_rfl) (by kernel_rfl) (fun c a d v w h => by cases d <;> exact h) ?_
                  have G0 : ∀ y : Grow [] W2.drew, y.v.cell? ⟨vb, 0, none⟩ = some (.string ⟨yn.toArray⟩) := fun y => y.ext.ext.cell kp0
                  have G1 : ∀ y : Grow [] W2.drew, y.v.cell? ⟨og, r, none⟩ = some (.string ⟨la.toArray⟩) := fun y => y.ext.ext.cell kla
                  (rw [wpSegs_inl]; simp only [pickOps, List.map_cons, List.map_nil, List.getD_cons_succ, List.getD_cons_zero]; (repeat (go_big_quiet_step (fail))); refine wpQuiet_nil ?_)
                  clear G0
                  rw [wpSegs_nil]
                  go_wp2
                  go_roundw
                  case rel => exact ⟨j + 1, _, by omega, by go_num, rfl, Lib.hid (by rw [HN.out]), X3⟩
                  case measure => simp [RowKit.intOf]; omega
            · have HNA2 := Lib.hid (show nextN ns out (j + 1) = bq from by
                rw [HNX.out, HBQ.out]; refine if_neg ?_
                rintro ⟨h | h, _⟩
                · exact HONE.out h
                · rw [HLA.out] at h; exact h1 h)
              by_cases h2 : yn < la
              · have hb1 : Op.bytesLess yn la = decide (yn < la) := bytesLess_eq yn la
                rw [decide_eq_true h2] at hb1
                clear h1 h2
                go_wp2_with fail
                refine wp_region_segs [] [.inl [0, 1, 2, 3, 4, 5, 6, 7, 8, 9, 10, 11, 12, 13, 14, 15, 16, 17, 18, 19, 20, 21, 22, 23]] (by kernel_rfl) (by kernel_rfl) (fun c a d v w h => by cases d <;> exact h) ?_
                have G0 : ∀ y : Grow [] W2.drew, y.v.cell? ⟨vb, 0, none⟩ = some (.string ⟨yn.toArray⟩) := fun y => y.ext.ext.cell kp0
                have G1 : ∀ y : Grow [] W2.drew, y.v.cell? ⟨og, r, none⟩ = some (.string ⟨la.toArray⟩) := fun y => y.ext.ext.cell kla
                (rw [wpSegs_inl]; simp only [pickOps, List.map_cons, List.map_nil, List.getD_cons_succ, List.getD_cons_zero]; (repeat (go_big_quiet_step (fail))); refine wpQuiet_nil ?_)
                clear G0
                rw [wpSegs_nil]
                go_wp2
                go_roundw
                case rel => exact ⟨j + 1, _, by omega, by go_num, rfl, Lib.hid (by rw [HNA2.out]), X3⟩
                case measure => simp [RowKit.intOf]; omega
              · have h3 : yn = la := Classical.byContradiction fun h => h1 ((lt_iff yn la).2 ⟨h2, h⟩)
                subst h3
                have hb1 : Op.bytesLess yn yn = false := by rw [bytesLess_eq]; exact decide_eq_false (List.lt_irrefl yn)
                clear h1 h2
                go_wp2_with fail
                refine wp_region_segs [] [.inl [0, 1, 2, 3, 4, 5, 6, 7, 8, 9, 10, 11, 12, 13, 14, 15, 16, 17, 18, 19, 20, 21, 22, 23]] (by kernel_rfl) (by kernel_rfl) (fun c a d v w h => by cases d <;> exact h) ?_
                have G0 : ∀ y : Grow [] W2.drew, y.v.cell? ⟨vb, 0, none⟩ = some (.string ⟨yn.toArray⟩) := fun y => y.ext.ext.cell kp0
                have G1 : ∀ y : Grow [] W2.drew, y.v.cell? ⟨og, r, none⟩ = some (.string ⟨yn.toArray⟩) := fun y => y.ext.ext.cell kla
                (rw [wpSegs_inl]; simp only [pickOps, List.map_cons, List.map_nil, List.getD_cons_succ, List.getD_cons_zero]; (repeat (go_big_quiet_step (fail))); refine wpQuiet_nil ?_)
                clear G0
                rw [wpSegs_nil]
                go_wp2
                go_roundw
                case rel => exact ⟨j + 1, _, by omega, by go_num, rfl, Lib.hid (by rw [HNA2.out]), X3⟩
                case measure => simp [RowKit.intOf]; omega
        · have hjm : j = m := by omega
          subst hjm
          have HTN := Lib.hid (show toldN ns (q + 1) = out ++ [bq] from by rw [toldN, ← HOUT.out, HNL.out, ← HBQ.out])
          clear k1o
          have RA := Lib.hid (ownsRow_below HR.out (HXI.out.trans (ext_alloc1 wr (.cells #[.string ⟨bq.toArray⟩] 9))))
          have XA := Lib.hid (HX.out.trans (ext_alloc1 wr (.cells #[.string ⟨bq.toArray⟩] 9)))
          go_wp2_with (refine wpList_appendS rfl _ _ rfl bq (ss := out) RA.out rfl wr.heap.size rfl (heap_alloc_new wr _) (by have := HOL.out; omega) XA.out.size ?_; intro v5 W5 r5 g5; refine stop_of ?_)
          unfold Stop
          obtain ⟨A5, c5, hv5⟩ := own_slice r5
          have hl5 : (out ++ [bq]).length = q + 1 := by rw [List.length_append, HOL.out]; rfl
          rw [hl5] at hv5
          subst hv5
          have R5 := Lib.hid (show SRow W5 w.heap.size (.slice A5 (q + 1) c5) (toldN ns (q + 1)) from by rw [HTN.out]; exact r5)
          have X5 := Lib.hid (show Ext w W5 from RowKit.Below.trans XA.out (own_below RA.out g5 XA.out.size))
          clear r5 g5 hl5
          go_wp2_with fail
          go_roundw
          case rel => exact ⟨q + 1, by omega, by go_num, R5, X5⟩
          case measure => simp [RowKit.intOf]; omega
    · have hqm : q = m := by omega
      subst hqm
      go_wp2
      go_ret
      exact ⟨_, rfl, HR.out, HXO.out⟩
end
end Go.Proofs.YtjphpblangeblaaDoor
