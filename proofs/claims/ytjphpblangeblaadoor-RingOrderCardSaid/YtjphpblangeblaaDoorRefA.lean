/- The document's Has, Add and Remove, walked (printed by gen_ref.py). -/
import Derived.Test.YtjphpblangeblaaDoorNam
namespace Go.Proofs.YtjphpblangeblaaDoor
open Go.RowKit Go.Maps Go.ChangeMaps
set_option linter.unusedVariables false
set_option linter.unusedSimpArgs false
theorem zero69 (w : World) : (zeroValue 69).run Tryd.prog w = .ok (.agg #[.string ⟨#[]⟩, .int .i64 0]) w := by kernel_rfl
theorem size69 : (Tryd.prog.info? 69).map (·.size) = some 2 := by kernel_rfl
theorem size51 : (Tryd.prog.info? 51).map (·.size) = some 1 := by kernel_rfl
theorem info69 : (Tryd.prog.info? 69).map (fun i => (i.zero, i.size, i.bytes)) = some (some (.agg #[.string ⟨#[]⟩, .int .i64 0]), 2, 24) := by kernel_rfl
theorem wt_at {L : NL} {n : Nm} {j : Nat} {y : Nm × Nat} (hj : L[j]? = some y) (hb : ∀ z ∈ L.take j, z.1 ≠ n) (hy : y.1 = n) : wt L n = y.2 := by
  have h1 : L = L.take j ++ L.drop j := (List.take_append_drop j L).symm
  have h2 : n ∉ (L.take j).map Prod.fst := fun h => by obtain ⟨z, hz, e⟩ := List.mem_map.1 h; exact hb z hz e
  rw [h1, wt_app _ _ _ h2]
  have h3 : L.drop j = y :: L.drop (j + 1) := by
    obtain ⟨hl, he⟩ := List.getElem?_eq_some_iff.1 hj
    rw [List.drop_eq_getElem_cons hl, he]
  rw [h3, wt, if_pos hy]
theorem wt_none {L : NL} {n : Nm} (hb : ∀ z ∈ L, z.1 ≠ n) : wt L n = 0 := wt_no fun h => by obtain ⟨z, hz, e⟩ := List.mem_map.1 h; exact hb z hz e
theorem KRow.some_ {α : Type} {enc : α → List Value} {k : Nat} {e : TypeId} {w : World} {B n c : Nat} {A : Option Addr} {xs : List α} (h : KRow enc k e w B (.slice A n c) xs) {j : Nat} (hj : j < xs.length) : ∃ g, A = some ⟨g, 0, none⟩ := by
  rcases h.2 with ⟨_, h0⟩ | ⟨g, cap, cur, e, _⟩
  · omega
  · injection e with e; exact ⟨g, e⟩
section
variable {w : World} {B x each : Nat} {own : Nat → Prop} {L : NL} {n : Nm} {sv : Value}
set_option maxRecDepth 100000 in
set_option maxHeartbeats 2000000 in
theorem rhas_any (h : RRx w B x own each L sv) (hn : n.length ≤ 1000000) : Calls Tryd.prog 17 #[.pointer (some ⟨x, 0, none⟩), .string ⟨n.toArray⟩] w fun e w' => e = .returned (.int .i64 (wt L n : Int)) ∧ Ext w w' := by
  obtain ⟨A, c, rfl⟩ := h.row.slice
  have k1 := blk_cell h.blk 1
  simp at k1
  obtain ⟨m, hm⟩ : ∃ m, m = L.length := ⟨_, rfl⟩
  have hml : m ≤ 64 := by rw [hm]; exact h.ok.len
  have HROW := Lib.hid h.row; have HM := Lib.hid hm
  rw [← hm] at k1 HROW
  clear h hm
  go_enter Tryd.func17, Tryd.ntmps17
  go_wp2
  go_loopw [12, 6] (fun i _ wr => ∃ j : Nat, j ≤ m ∧ i = .int .i64 j ∧ Hid (∀ z ∈ L.take j, z.1 ≠ n) ∧ Hid (Ext w wr)) (fun i _ _ => m - (RowKit.intOf i).toNat)
  case atStart => exact ⟨0, by omega, rfl, Lib.hid (by simp), Lib.hid (Ext.refl _)⟩
  case round =>
    obtain ⟨j, hj, rfl, R, HX⟩ := hrel
    by_cases hlt : j < m
    · skip
      have hjs : j < L.length := by rw [← HM.out]; exact hlt
      obtain ⟨g, rfl⟩ := HROW.out.some_ hjs
      have hrg := (HROW.out.ext HX.out).range encNm_len hjs
      have htk : L.take (j + 1) = L.take j ++ [L[j]] := List.take_succ_eq_append_getElem hjs
      have hpj : L[j]? = some L[j] := by simp [hjs]
      obtain ⟨p, hp⟩ : ∃ p, p = L[j] := ⟨_, rfl⟩
      rw [← hp] at hrg htk hpj
      obtain ⟨yn, yk⟩ := p
      have HRG := Lib.hid hrg; have HTK := Lib.hid htk; have HPJ := Lib.hid hpj
      clear hrg htk hpj hp hjs
      go_wp2_with (first | (refine wpList_load_mid rfl 69 _ rfl g (j * 2) rfl (encNm (yn, yk)) _ HRG.out Tryd.underlying69 rfl size69 ?_) | (refine wpList_new 69 #[.string ⟨#[]⟩, .int .i64 0] zero69 rfl rfl ?_; intro W1 x1 n1 s1; refine stop_of ?_))
      unfold Stop
      obtain ⟨vb, hvb⟩ : ∃ vb, vb = wr.heap.size := ⟨_, rfl⟩
      rw [← hvb] at n1 ⊢
      have HVB := Lib.hid hvb
      have X1 := Lib.hid x1; have N1 := Lib.hid n1
      clear x1 n1 s1 hvb
      go_wp2_with (refine wpList_put 69 rfl _ _ rfl vb 0 69 _ (encNm (yn, yk)).toArray (encNm (yn, yk)) (.agg (encNm (yn, yk)).toArray) N1.out rfl rfl rfl (by simp [encNm]) rfl size69 (by simp [putA, encNm]) ?_; intro W2 x2 n2 s2; refine stop_of ?_)
      unfold Stop
      have X2 := Lib.hid (show Ext wr W2 from X1.out.thenB x2 (by intro y hy; rw [show y = vb by simpa using hy, HVB.out]; exact Nat.le_refl _)); have N2 := Lib.hid n2
      have kp0 := blk_cell n2 0
      have kp1 := blk_cell n2 1
      simp [encNm] at kp0 kp1
      clear x2 n2 s2 N1 X1
      have X3 := Lib.hid (HX.out.trans X2.out)
      by_cases hyn : yn = n
      · subst hyn
        have HW := Lib.hid (wt_at HPJ.out R.out rfl)
        go_wp2
        go_ret
        exact ⟨by rw [HW.out]; rfl, X3.out⟩
      · have hb : (yn == n) = false := by simpa using hyn
        have HB := Lib.hid hyn
        clear hyn
        go_wp2
        go_roundw
        case rel => exact ⟨j + 1, by omega, by go_num, Lib.hid (by
          rw [HTK.out]; intro z hz
          rcases List.mem_append.1 hz with h | h
          · exact R.out z h
          · rw [List.mem_singleton.1 h]; exact HB.out), X3⟩
        case measure => simp [RowKit.intOf]; omega
    · have hjn : L.take j = L := List.take_of_length_le (by have := HM.out; omega)
      rw [hjn] at R
      go_wp2
      go_ret
      exact ⟨by rw [wt_none R.out]; rfl, HX.out⟩
theorem RRx.stay {W : World} (h : RRx w B x own each L sv) (hx : Ext w W) : RRI W B x (grownOwn own w W) each L ∧ ExtP own w W := by
  have h2 := h.ext hx
  refine ⟨⟨sv, h2.blk, h2.row, .inl h2.ox, fun g e => .inl (h2.os g e), fun g hg => ?_, fun g hg => ?_, h2.e1, h2.ok⟩, .of hx⟩
  · rcases hg with hg | hg
    · exact h2.lt g hg
    · exact hg.2
  · rcases hg with hg | hg
    · exact h2.low g hg
    · have := h.low x h.ox; have := h.lt x h.ox; omega
/-- A row in the place of the one before. -/
theorem RRx.turn {W2 W3 : World} {M : NL} {sv' : Value} (h : RRx w B x own each L sv) (hx : ExtP own w W2) (hsz : w.heap.size ≤ W2.heap.size) (hb : W2.heap[x]? = some (.cells #[.int .i64 each, sv] 53 (0, 0))) (hr : NRow W2 B sv' M) (hw : ∀ g, sv'.ownBlock = some g → own g ∨ w.heap.size ≤ g) (x3 : ExtB [x] W2 W3) (b3 : W3.heap[x]? = some (.cells #[.int .i64 each, sv'] 53 (0, 0))) (hk : LOk M) : RRI W3 B x (grownOwn own w W3) each M ∧ ExtP own w W3 := by
  have s3 := x3.size
  have hxn : ∀ g, sv'.ownBlock = some g → g ≠ x := fun g e hh => by
    subst hh
    obtain ⟨cur, h1, _⟩ := hr.kind e
    rw [hb] at h1
    injection h1 with h1
    injection h1 with _ h1
    exact absurd h1 (by decide)
  refine ⟨⟨sv', b3, hr.extB x3 (fun g hg e => hxn g e (by simpa using hg)), .inl h.ox, fun g e => ?_, fun g hg => ?_, fun g hg => ?_, h.e1, hk⟩, hx.trans (own1 := own) (ExtP.ofB x3 fun g hg => .inl (by rw [show g = x by simpa using hg]; exact h.ox)) fun i hi => .inl hi⟩
  · rcases hw g e with h1 | h1
    · exact .inl h1
    · obtain ⟨cur, h2, _⟩ := hr.kind e
      have := blk_lt h2
      exact .inr ⟨h1, by omega⟩
  · rcases hg with hg | hg
    · have := h.lt g hg; omega
    · exact hg.2
  · rcases hg with hg | hg
    · exact h.low g hg
    · have := h.low x h.ox; have := h.lt x h.ox; omega
set_option maxRecDepth 100000 in
set_option maxHeartbeats 2000000 in
theorem radd_arg (h : RRx w B x own each L sv) (hn : n.length ≤ 1000000) (k : Int) (hc : rightN n = false ∨ k < 1 ∨ 20 < k) : Calls Tryd.prog 24 #[.pointer (some ⟨x, 0, none⟩), .string ⟨n.toArray⟩, .int .i64 k] w fun e w' => e = .returned (.int .i64 (addC L n k)) ∧ RRI w' B x (grownOwn own w w') each (addL L n k) ∧ ExtP own w w' := by
  have e0 : addC L n k = 1 := by unfold addC; rw [if_pos hc]
  have e1 : addL L n k = L := by unfold addL; rw [e0]; rfl
  rw [e0, e1]
  have HI := Lib.hid (h.stay (Ext.refl w))
  have HR := rright_any n w hn
  clear h e0 e1
  cases hr : rightN n with
  | false =>
    rw [hr] at HR
    have HR := Lib.hid HR
    clear hr hc
    go_enter Tryd.func24, Tryd.ntmps24
    go_wp2_with (go_at_call 41; refine HR.out.mono ?_; rintro e w1 ⟨rfl, rfl⟩)
    go_ret
    exact ⟨rfl, HI.out.1, HI.out.2⟩
  | true =>
    rw [hr] at HR hc
    have HR := Lib.hid HR
    clear hr
    by_cases h1 : k < 1
    · clear hc
      go_enter Tryd.func24, Tryd.ntmps24
      go_wp2_with (go_at_call 41; refine HR.out.mono ?_; rintro e w1 ⟨rfl, rfl⟩)
      go_ret
      exact ⟨rfl, HI.out.1, HI.out.2⟩
    · have h2 : 20 < k := by
        rcases hc with hc | hc | hc
        · cases hc
        · exact absurd hc h1
        · exact hc
      clear hc
      go_enter Tryd.func24, Tryd.ntmps24
      go_wp2_with (go_at_call 41; refine HR.out.mono ?_; rintro e w1 ⟨rfl, rfl⟩)
      go_ret
      exact ⟨rfl, HI.out.1, HI.out.2⟩
set_option maxRecDepth 100000 in
set_option maxHeartbeats 2000000 in
theorem radd_twice (h : RRx w B x own each L sv) (hn : n.length ≤ 1000000) (k : Int) (hr : rightN n = true) (h1 : 1 ≤ k) (h2 : k ≤ 20) (hw : wt L n ≠ 0) : Calls Tryd.prog 24 #[.pointer (some ⟨x, 0, none⟩), .string ⟨n.toArray⟩, .int .i64 k] w fun e w' => e = .returned (.int .i64 (addC L n k)) ∧ RRI w' B x (grownOwn own w w') each (addL L n k) ∧ ExtP own w w' := by
  have e0 : addC L n k = 7 := by unfold addC; rw [if_neg (by rw [hr]; simp; omega), if_pos hw]
  have e1 : addL L n k = L := by unfold addL; rw [e0]; rfl
  rw [e0, e1]
  have HR := rright_any n w hn
  rw [hr] at HR
  have HR := Lib.hid HR
  have HH := Lib.hid (rhas_any h hn)
  obtain ⟨q, hq⟩ : ∃ q, q = wt L n := ⟨_, rfl⟩
  rw [← hq] at HH hw
  have hq0 : (0 : Int) < q := by omega
  have HS := Lib.hid (fun W (x : Ext w W) => h.stay x)
  clear h e0 e1 hr hw hq
  go_enter Tryd.func24, Tryd.ntmps24
  go_wp2_with (first | (go_at_call 41; refine HR.out.mono ?_; rintro e w1 ⟨rfl, rfl⟩) | (go_at_call 17; refine HH.out.mono ?_; rintro e w1 ⟨rfl, x1⟩))
  go_ret
  exact ⟨rfl, (HS.out _ x1).1, (HS.out _ x1).2⟩
set_option maxRecDepth 100000 in
set_option maxHeartbeats 2000000 in
theorem radd_many (h : RRx w B x own each L sv) (hn : n.length ≤ 1000000) (k : Int) (hr : rightN n = true) (h1 : 1 ≤ k) (h2 : k ≤ 20) (hw : wt L n = 0) (h64 : L.length = 64) : Calls Tryd.prog 24 #[.pointer (some ⟨x, 0, none⟩), .string ⟨n.toArray⟩, .int .i64 k] w fun e w' => e = .returned (.int .i64 (addC L n k)) ∧ RRI w' B x (grownOwn own w w') each (addL L n k) ∧ ExtP own w w' := by
  have e0 : addC L n k = 4 := by unfold addC; rw [if_neg (by rw [hr]; simp; omega), if_neg (by simp [hw]), if_pos h64]
  have e1 : addL L n k = L := by unfold addL; rw [e0]; rfl
  rw [e0, e1]
  have HR := rright_any n w hn
  rw [hr] at HR
  have HR := Lib.hid HR
  have hh := rhas_any h hn
  rw [hw] at hh
  have HH := Lib.hid hh
  obtain ⟨A, c, rfl⟩ := h.row.slice
  have HB := Lib.hid h.blk
  rw [h64] at HB
  have HS := Lib.hid (fun W (x : Ext w W) => h.stay x)
  clear h e0 e1 hr hw hh h64
  go_enter Tryd.func24, Tryd.ntmps24
  go_wp2_with (first | (go_at_call 41; refine HR.out.mono ?_; rintro e w1 ⟨rfl, rfl⟩) | (go_at_call 17; refine HH.out.mono ?_; rintro e w1 ⟨rfl, x1⟩; refine stop_of ?_))
  unfold Stop
  have k1 := blk_cell (x1.heap HB.out) 1
  simp at k1
  have HF := Lib.hid (HS.out _ x1)
  clear x1 HS HB
  go_wp2
  go_ret
  exact ⟨rfl, HF.out.1, HF.out.2⟩
set_option maxRecDepth 100000 in
set_option maxHeartbeats 4000000 in
theorem radd_ok (h : RRx w B x own each L sv) (hn : n.length ≤ 1000000) (k : Nat) (hr : rightN n = true) (h1 : 1 ≤ k) (h2 : k ≤ 20) (hw : wt L n = 0) (h64 : L.length ≠ 64) : Calls Tryd.prog 24 #[.pointer (some ⟨x, 0, none⟩), .string ⟨n.toArray⟩, .int .i64 (k : Int)] w fun e w' => e = .returned (.int .i64 (addC L n (k : Int))) ∧ RRI w' B x (grownOwn own w w') each (addL L n (k : Int)) ∧ ExtP own w w' := by
  have e0 : addC L n (k : Int) = 0 := by unfold addC; rw [if_neg (by rw [hr]; simp; omega), if_neg (by simp [hw]), if_neg h64]
  have e1 : addL L n (k : Int) = L ++ [(n, k)] := by unfold addL; rw [if_pos e0]; rfl
  have HOK := Lib.hid (h.ok.add n k)
  rw [e1] at HOK
  rw [e0, e1]
  have HR := rright_any n w hn
  rw [hr] at HR
  have HR := Lib.hid HR
  have hh := rhas_any h hn
  rw [hw] at hh
  have HH := Lib.hid hh
  obtain ⟨A, c, hsv⟩ := h.row.slice
  have HS := Lib.hid h
  subst hsv
  have HB := Lib.hid h.blk
  have HROW := Lib.hid h.row
  have HLL := Lib.hid h.ok.len
  have HFAR := Lib.hid h.far
  obtain ⟨m, hm⟩ : ∃ m, m = L.length := ⟨_, rfl⟩
  rw [← hm] at HB HROW h64 HS HFAR
  have HM := Lib.hid hm
  have h64b : ((m : Int) == 64) = false := by simp; omega
  clear h e0 e1 hr hw hh h64 hm
  go_enter Tryd.func24, Tryd.ntmps24
  go_wp2_with (first | (go_at_call 41; refine HR.out.mono ?_; rintro e w1 ⟨rfl, rfl⟩) | (go_at_call 17; refine HH.out.mono ?_; rintro e w1 ⟨rfl, x1⟩; refine stop_of ?_))
  unfold Stop
  have k1 := blk_cell (x1.heap HB.out) 1
  simp at k1
  have X1 := Lib.hid x1
  have RA := Lib.hid ((HROW.out.ext x1).ext (ext_alloc1 w1 (.cells #[.string ⟨n.toArray⟩, .int .i64 k] 69)))
  have XA := Lib.hid (x1.trans (ext_alloc1 w1 (.cells #[.string ⟨n.toArray⟩, .int .i64 k] 69)))
  have HBB := Lib.hid (show B ≤ w.heap.size from by have := HS.out.low x HS.out.ox; have := HS.out.lt x HS.out.ox; omega)
  clear x1
  go_wp2_with (refine wpList_appendK (enc := encNm) (k := 2) (e := 69) 51 _ 24 Tryd.underlying51 info69 rfl (by decide) (by decide) rfl _ _ rfl (n, k) rfl (encNm_one _) RA.out rfl #[.string ⟨n.toArray⟩, .int .i64 k] w1.heap.size rfl (heap_alloc_new w1 _) rfl (by have := HLL.out; omega) (Nat.le_trans HBB.out XA.out.size) ?_; intro v3 w3 r3 g3 f3; refine stop_of ?_)
  unfold Stop
  obtain ⟨A3, c3, rfl⟩ := KRow.slice r3
  obtain ⟨q3, hq3⟩ : ∃ q, q = (L ++ [(n, k)]).length := ⟨_, rfl⟩
  rw [← hq3] at r3 f3 ⊢
  have gB := grownBy_extB g3
  have hB3 : w3.heap[x]? = some (.cells #[.int .i64 each, .slice A m c] 53 (0, 0)) := gB.heap (XA.out.heap HB.out) (fun hh => HFAR.out (by simpa using hh))
  have xp : ExtP own w w3 := (ExtP.of (own := own) XA.out).trans (own1 := own) (ExtP.ofB gB fun g hg => .inl (HS.out.os g (by simpa using hg))) fun i hi => .inl hi
  have hwh : ∀ g, (Value.slice A3 q3 c3).ownBlock = some g → own g ∨ w.heap.size ≤ g := fun g e => by
    rcases f3 g e with h | h
    · exact .inl (HS.out.os g h)
    · have := XA.out.size; exact .inr (by omega)
  have HB3 := Lib.hid hB3; have XP := Lib.hid xp; have HWH := Lib.hid hwh; have R3 := Lib.hid r3
  have HSZ := Lib.hid (show w.heap.size ≤ w3.heap.size from xp.size)
  clear r3 g3 f3 hq3 gB hB3 xp hwh
  go_wp2_with (refine wpList_put 51 rfl _ _ rfl x 1 53 _ #[.int .i64 each, .slice A3 q3 c3] [.slice A3 q3 c3] (.slice A3 q3 c3) HB3.out rfl rfl rfl (by simp) rfl size51 (by kernel_rfl) ?_; intro W4 x4 n4 s4; refine stop_of ?_)
  unfold Stop
  have HF := Lib.hid (HS.out.turn XP.out HSZ.out HB3.out R3.out HWH.out x4 n4 HOK.out)
  clear x4 n4 s4
  go_wp2
  go_ret
  exact ⟨rfl, HF.out.1, HF.out.2⟩
/-- Adding. -/
theorem radd_any (hI : RRI w B x own each L) (hn : n.length ≤ 1000000) (k : Int) : Calls Tryd.prog 24 #[.pointer (some ⟨x, 0, none⟩), .string ⟨n.toArray⟩, .int .i64 k] w fun e w' => e = .returned (.int .i64 (addC L n k)) ∧ RRI w' B x (grownOwn own w w') each (addL L n k) ∧ ExtP own w w' := by
  obtain ⟨sv, h⟩ := hI
  by_cases hc : rightN n = false ∨ k < 1 ∨ 20 < k
  · exact radd_arg h hn k hc
  · have hr : rightN n = true := by cases e : rightN n; exact absurd (.inl e) hc; rfl
    have h1 : 1 ≤ k := by have := fun e => hc (.inr (.inl e)); omega
    have h2 : k ≤ 20 := by have := fun e => hc (.inr (.inr e)); omega
    by_cases hw : wt L n = 0
    · by_cases h64 : L.length = 64
      · exact radd_many h hn k hr h1 h2 hw h64
      · obtain ⟨k', rfl⟩ : ∃ k' : Nat, k = k' := ⟨k.toNat, by omega⟩
        exact radd_ok h hn k' hr (by omega) (by omega) hw h64
    · exact radd_twice h hn k hr h1 h2 hw
set_option maxRecDepth 100000 in
set_option maxHeartbeats 4000000 in
/-- Removing. -/
theorem rrem_any (hI : RRI w B x own each L) (hn : n.length ≤ 1000000) : Calls Tryd.prog 25 #[.pointer (some ⟨x, 0, none⟩), .string ⟨n.toArray⟩] w fun e w' => e = .returned (.int .i64 (if wt L n = 0 then 0 else 1)) ∧ RRI w' B x (grownOwn own w w') each (remL L n) ∧ ExtP own w w' := by
  obtain ⟨sv, h⟩ := hI
  have hh := rhas_any h hn
  by_cases hw : wt L n = 0
  · rw [if_pos hw, remL_no hw h.ok]
    rw [hw] at hh
    have HH := Lib.hid hh
    have HS := Lib.hid (fun W (x : Ext w W) => h.stay x)
    clear h hw hh
    go_enter Tryd.func25, Tryd.ntmps25
    go_wp2_with (go_at_call 17; refine HH.out.mono ?_; rintro e w1 ⟨rfl, x1⟩)
    go_ret
    exact ⟨rfl, (HS.out _ x1).1, (HS.out _ x1).2⟩
  · rw [if_neg hw]
    obtain ⟨q, hq⟩ : ∃ q, q = wt L n := ⟨_, rfl⟩
    rw [← hq] at hh hw
    have hq0 : ((q : Int) == 0) = false := by simp; omega
    have HH := Lib.hid hh
    have HOK := Lib.hid (h.ok.rem n)
    obtain ⟨A, c, hsv⟩ := h.row.slice
    have HS := Lib.hid h
    subst hsv
    have HB := Lib.hid h.blk
    have HROW := Lib.hid h.row
    have HLL := Lib.hid h.ok.len
    obtain ⟨m, hm⟩ : ∃ m, m = L.length := ⟨_, rfl⟩
    rw [← hm] at HB HROW HS
    have HM := Lib.hid hm
    have HBB := Lib.hid (show B ≤ w.heap.size from by have := HS.out.low x HS.out.ox; have := HS.out.lt x HS.out.ox; omega)
    have hml : m ≤ 64 := by rw [hm]; exact HLL.out
    clear h hw hh hq hm
    go_enter Tryd.func25, Tryd.ntmps25
    go_wp2_with (go_at_call 17; refine HH.out.mono ?_; rintro e w1 ⟨rfl, x1⟩; refine stop_of ?_)
    unfold Stop
    have k1 := blk_cell (x1.heap HB.out) 1
    simp at k1
    have HX0 := Lib.hid x1
    clear x1
    go_wp2_with fail
    go_loopw [17, 5, 7] (fun i v _ wr => ∃ j : Nat, j ≤ m ∧ i = .int .i64 j ∧ Hid (NRow wr w.heap.size v ((L.take j).filter fun z => z.1 != n)) ∧ Hid (Ext w wr)) (fun i _ _ _ => m - (RowKit.intOf i).toNat)
    case atStart => exact ⟨0, by omega, rfl, Lib.hid KRow.nil, HX0⟩
    case round =>
      obtain ⟨j, hj, rfl, HR, HX⟩ := hrel
      by_cases hlt : j < m
      · skip
        have hjs : j < L.length := by rw [← HM.out]; exact hlt
        obtain ⟨g, rfl⟩ := HROW.out.some_ hjs
        have hrg := (HROW.out.ext HX.out).range encNm_len hjs
        have htk : L.take (j + 1) = L.take j ++ [L[j]] := List.take_succ_eq_append_getElem hjs
        have hpj : L[j]? = some L[j] := by simp [hjs]
        obtain ⟨p, hp⟩ : ∃ p, p = L[j] := ⟨_, rfl⟩
        rw [← hp] at hrg htk hpj
        obtain ⟨yn, yk⟩ := p
        have HRG := Lib.hid hrg; have HTK := Lib.hid htk; have HPJ := Lib.hid hpj
        clear hrg htk hpj hp hjs
        go_wp2_with (first | (refine wpList_load_mid rfl 69 _ rfl g (j * 2) rfl (encNm (yn, yk)) _ HRG.out Tryd.underlying69 rfl size69 ?_) | (refine wpList_new 69 #[.string ⟨#[]⟩, .int .i64 0] zero69 rfl rfl ?_; intro W1 x1 n1 s1; refine stop_of ?_))
        unfold Stop
        obtain ⟨vb, hvb⟩ : ∃ vb, vb = wr.heap.size := ⟨_, rfl⟩
        rw [← hvb] at n1 ⊢
        have HVB := Lib.hid hvb
        have X1 := Lib.hid x1; have N1 := Lib.hid n1
        clear x1 n1 s1 hvb
        go_wp2_with (refine wpList_put 69 rfl _ _ rfl vb 0 69 _ (encNm (yn, yk)).toArray (encNm (yn, yk)) (.agg (encNm (yn, yk)).toArray) N1.out rfl rfl rfl (by simp [encNm]) rfl size69 (by simp [putA, encNm]) ?_; intro W2 x2 n2 s2; refine stop_of ?_)
        unfold Stop
        have X2 := Lib.hid (show Ext wr W2 from X1.out.thenB x2 (by intro y hy; rw [show y = vb by simpa using hy, HVB.out]; exact Nat.le_refl _)); have N2 := Lib.hid n2
        have kp0 := blk_cell n2 0
        have kp1 := blk_cell n2 1
        simp [encNm] at kp0 kp1
        clear x2 n2 s2 N1 X1
        have X3 := Lib.hid (HX.out.trans X2.out)
        by_cases hyn : yn = n
        · subst hyn
          have hb : (!(yn == yn)) = false := by simp
          have HR3 := Lib.hid (HR.out.ext X2.out)
          go_wp2
          go_roundw
          case rel => exact ⟨j + 1, by omega, by go_num, by rw [HTK.out]; simpa using HR3, X3⟩
          case measure => simp [RowKit.intOf]; omega
        · have hb : (!(yn == n)) = true := by simp [hyn]
          have HB3 := Lib.hid hyn
          obtain ⟨A5, c5, hsv5⟩ := HR.out.slice
          have RA := Lib.hid ((HR.out.ext X2.out).ext (ext_alloc1 W2 (.cells #[.string ⟨yn.toArray⟩, .int .i64 yk] 69)))
          have XA := Lib.hid (X3.out.trans (ext_alloc1 W2 (.cells #[.string ⟨yn.toArray⟩, .int .i64 yk] 69)))
          subst hsv5
          obtain ⟨l5, hl5⟩ : ∃ l, l = ((L.take j).filter fun z => z.1 != n).length := ⟨_, rfl⟩
          have hl5' : l5 ≤ 64 := by rw [hl5]; exact Nat.le_trans (List.length_filter_le _ _) (by simp; omega)
          rw [← hl5] at RA ⊢
          have HL5 := Lib.hid hl5
          clear hyn hl5
          go_wp2_with (first | (refine wpList_get 69 _ rfl _ rfl vb 0 69 _ [.string ⟨yn.toArray⟩, .int .i64 yk] N2.out rfl (by simp [encNm]) Tryd.underlying69 rfl size69 ?_) | (refine wpList_appendK (enc := encNm) (k := 2) (e := 69) 51 _ 24 Tryd.underlying51 info69 rfl (by decide) (by decide) rfl _ _ rfl (yn, yk) rfl (encNm_one _) RA.out rfl #[.string ⟨yn.toArray⟩, .int .i64 yk] W2.heap.size rfl (heap_alloc_new W2 _) rfl (by rw [← HL5.out]; omega) XA.out.size ?_; intro v4 w4 r4 g4 f4; refine stop_of ?_))
          unfold Stop
          have X4 := Lib.hid (show Ext w w4 from RowKit.Below.trans XA.out (KRow.below RA.out g4 XA.out.size))
          have R4 := Lib.hid r4
          clear r4 g4 f4
          go_wp2_with fail
          go_roundw
          case rel => exact ⟨j + 1, by omega, by go_num, by rw [HTK.out, List.filter_append]; simpa [HB3.out] using R4, X4⟩
          case measure => simp [RowKit.intOf]; omega
      · have hjn : L.take j = L := List.take_of_length_le (by have := HM.out; omega)
        rw [hjn] at HR
        have HR : Hid (NRow wr w.heap.size _ (remL L n)) := HR
        obtain ⟨A5, c5, rfl⟩ := HR.out.slice
        have hB3 := HX.out.heap HB.out
        have HB3 := Lib.hid hB3
        obtain ⟨l5, hl5⟩ : ∃ l, l = (remL L n).length := ⟨_, rfl⟩
        rw [← hl5] at HR ⊢
        clear hB3 hl5
        go_wp2_with (refine wpList_put 51 rfl _ _ rfl x 1 53 _ #[.int .i64 each, .slice A5 l5 c5] [.slice A5 l5 c5] (.slice A5 l5 c5) HB3.out rfl rfl rfl (by simp) rfl size51 (by kernel_rfl) ?_; intro W4 x4 n4 s4; refine stop_of ?_)
        unfold Stop
        have HF := Lib.hid (HS.out.turn (.of HX.out) HX.out.size HB3.out (HR.out.base HBB.out) (fun g e => .inr (by obtain ⟨_, _, h⟩ := HR.out.kind e; exact h)) x4 n4 HOK.out)
        clear x4 n4 s4
        go_wp2
        go_ret
        exact ⟨rfl, HF.out.1, HF.out.2⟩
end
end Go.Proofs.YtjphpblangeblaaDoor
