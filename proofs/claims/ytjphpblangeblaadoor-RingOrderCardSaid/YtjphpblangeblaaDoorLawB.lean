/- made, walked (printed by gen_madeb.py). -/
import Derived.Test.YtjphpblangeblaaDoorLawA
namespace Go.Proofs.YtjphpblangeblaaDoor
open Go.RowKit Go.Maps Go.ChangeMaps
set_option linter.unusedVariables false
set_option linter.unusedSimpArgs false
theorem SRow.ext {w w' : World} {B : Nat} {v : Value} {ss : List Bs} (h : SRow w B v ss) (hx : Ext w w') : SRow w' B v ss := ownsRow_below h hx
/-- One call. -/
def stepL (L : NL) (o : OpP) : NL := if o.kind % 3 = 0 then addL L o.nm o.wgt else if o.kind % 3 = 1 then remL L o.nm else L
/-- All calls. -/
def doL (xs : List OpP) : NL := xs.foldl stepL []
theorem doL_snoc (xs : List OpP) (o : OpP) : doL (xs ++ [o]) = stepL (doL xs) o := by simp [doL]
def keepB2 (p1 p2 : Nat) (o1 o2 : Obj) : Keep where
  r w w' := (w.heap[p1]? = some o1 → w'.heap[p1]? = some o1) ∧ (w.heap[p2]? = some o2 → w'.heap[p2]? = some o2)
  refl w := ⟨id, id⟩
  trans a b c h k := ⟨fun e => k.1 (h.1 e), fun e => k.2 (h.2 e)⟩
theorem keepB2_of {p1 p2 : Nat} {o1 o2 : Obj} {w w' : World} (h1 : w'.heap[p1]? = w.heap[p1]?) (h2 : w'.heap[p2]? = w.heap[p2]?) : (keepB2 p1 p2 o1 o2).r w w' := ⟨fun e => h1.trans e, fun e => h2.trans e⟩
theorem RgI.base {w : World} {B B' b N each : Nat} {own : Nat → Prop} {L : NL} (h : RgI w B b N own each L) (hB : B' ≤ B) : RgI w B' b N own each L := by
  obtain ⟨P, mo, sv, h⟩ := h
  exact ⟨P, mo, sv, h.blk, h.names, h.row.base hB, h.ob, h.om, h.os, h.lt, fun g hg => Nat.le_trans hB (h.low g hg), h.e1, h.ok, h.pts, h.srt, h.many, h.nb⟩
theorem Pl2.moreN {w0 w : World} {b x N M each : Nat} {L K : NL} {Q : Nat → Prop} (h : Pl2 w0 w b x N each L K Q) (h1 : N ≤ M) (h2 : M ≤ 100) : Pl2 w0 w b x M each L K Q := by
  obtain ⟨own, rown, ⟨P, mo, sv, h3⟩, h4⟩ := h
  exact ⟨own, rown, ⟨P, mo, sv, h3.sub h1 h2 (fun g hg => hg) h3.lt h3.low⟩, h4⟩
/-- Two new rings. -/
theorem Pl2.start {w W0 w1 W2 : World} {b x p : Nat} {Q : Nat → Prop} (h1 : RgI w1 W0.heap.size b 0 (fun i => i = b) p []) (x0 : Ext w W0) (x1 : Ext W0 w1) (x2 : Ext w1 W2) (hx : W2.heap[x]? = some (.cells #[.int .i64 p, .slice none 0 0] 53 (0, 0))) (hxl : w1.heap.size ≤ x) (hp : 1 ≤ p ∧ p ≤ 200) (hT : Tab w) (hQ : ∀ g, Q g → g < W0.heap.size) (hb : W0.heap.size ≤ b) : Pl2 w W2 b x 0 p [] [] Q := by
  have hbl : b < w1.heap.size := (h1.lt rfl).1
  have s1 := x1.size; have s2 := x2.size; have s0 := x0.size
  refine ⟨fun i => i = b, fun i => i = x, (h1.ext x2).base s0, ⟨.slice none 0 0, hx, KRow.nil, rfl, fun g e => (by cases e), fun g e => by rw [e]; exact blk_lt hx, fun g e => by rw [e]; omega, hp, LOk.nil⟩, fun g e1 e2 => by omega, fun g hg => ?_, (x0.trans x1).trans x2, hT.ext ((x0.trans x1).trans x2), hT.lt⟩
  have := hQ g hg
  exact ⟨by omega, by omega, by omega⟩
section
variable {w : World} {A : Option Addr} {n c : Nat} {xs : List OpP}
set_option maxRecDepth 100000 in
set_option maxHeartbeats 2000000 in
theorem made_bad {p : Int} (hp : p < 1 ∨ 200 < p) : Calls Tryd.prog 11 #[.agg #[.int .i64 p, .slice A n c]] w fun e w' => e = .returned (.tuple #[.pointer none, .pointer none, .bool true]) ∧ Ext w w' := by
  have HN := Lib.hid (fun W => new_bad p hp W)
  by_cases h1 : p < 1
  · clear hp
    go_enter Tryd.func11, Tryd.ntmps11
    go_wp2_with (go_at_call 18; refine (HN.out _).mono ?_; rintro e w1 ⟨rfl, rfl⟩)
    exact bodyPost_ret (v := .tuple #[.pointer none, .pointer none, .bool true]) (by simp [results, Tryd.results11, go_sem]) rfl ⟨rfl, ext_alloc1 _ _⟩
  · have h2 : 200 < p := by omega
    clear hp
    go_enter Tryd.func11, Tryd.ntmps11
    go_wp2_with (go_at_call 18; refine (HN.out _).mono ?_; rintro e w1 ⟨rfl, rfl⟩)
    exact bodyPost_ret (v := .tuple #[.pointer none, .pointer none, .bool true]) (by simp [results, Tryd.results11, go_sem]) rfl ⟨rfl, ext_alloc1 _ _⟩
set_option maxRecDepth 100000 in
set_option maxHeartbeats 8000000 in
theorem made_any (h : OpsAt w (.slice A n c) xs) (hsm : xs.length ≤ 30 ∧ ∀ o ∈ xs, o.nm.length ≤ 120) (hT : Tab w) {p : Nat} (hp1 : 1 ≤ p) (hp2 : p ≤ 200) : Calls Tryd.prog 11 #[.agg #[.int .i64 (p : Int), .slice A n c]] w fun e w' => ∃ b x, e = .returned (.tuple #[.pointer (some ⟨b, 0, none⟩), .pointer (some ⟨x, 0, none⟩), .bool true]) ∧ Pl2 w w' b x 30 p (doL xs) (doL xs) noQ := by
  have hn : n = xs.length := by obtain ⟨_, _, e, _⟩ := h; injection e
  have hn30 : n ≤ 30 := by rw [hn]; exact hsm.1
  have HOPS := Lib.hid h; have HM := Lib.hid hn; have HSM := Lib.hid hsm.2; have HT := Lib.hid hT
  obtain ⟨W0, hW0⟩ : ∃ W0, W0 = w.alloc (.cells #[.int .i64 p, .slice A n c] 24) := ⟨_, rfl⟩
  obtain ⟨mb, hmb⟩ : ∃ mb, mb = w.heap.size := ⟨_, rfl⟩
  have n0 : W0.heap[mb]? = some (.cells #[.int .i64 p, .slice A n c] 24 (0, 0)) := by rw [hW0, hmb]; exact heap_alloc_new w _
  have x0 : Ext w W0 := by rw [hW0]; exact ext_alloc1 _ _
  have k0 : W0.cell? ⟨mb, 0, none⟩ = some (.int .i64 p) := blk_cell n0 0
  have HW0 := Lib.hid hW0; have HMB := Lib.hid hmb; have X0 := Lib.hid x0; have N0 := Lib.hid n0
  have hk0 : (w.alloc (.cells #[.int .i64 p, .slice A n c] 24)).cell? ⟨w.heap.size, 0, none⟩ = some (.int .i64 p) := by rw [← hW0, ← hmb]; exact k0
  have HN := Lib.hid (new_any p hp1 hp2 W0)
  have HN' := HN
  rw [hW0] at HN'
  clear h hn hsm hT hW0 hmb n0 x0 HN
  go_enter Tryd.func11, Tryd.ntmps11
  go_wp2_with (go_at_call 18; refine HN'.out.mono ?_; rintro e w1 ⟨rfl, h1, x1⟩; refine stop_of ?_)
  unfold Stop
  have x1' : Ext W0 w1 := by rw [HW0.out]; exact x1
  obtain ⟨b, hb⟩ : ∃ b, b = w.heap.size + 1 := ⟨_, rfl⟩
  have eb : W0.heap.size = b := by rw [HW0.out, hb]; simp
  have h1' : RgI w1 W0.heap.size b 0 (fun i => i = b) p [] := by
    rw [← HW0.out, eb] at h1
    rw [eb]; exact h1
  rw [← hb, ← HMB.out]
  have EB := Lib.hid eb; have H1 := Lib.hid h1'; have X1 := Lib.hid x1'
  have k0w := x1'.cell k0
  clear h1 x1 x1' eb h1' hb hk0 HN'
  go_wp2_with (refine wpList_boxA 53 rfl _ rfl #[.int .i64 p, .slice none 0 0] rfl ?_; intro W2 x2 n2 s2; refine stop_of ?_)
  unfold Stop
  obtain ⟨x, hx⟩ : ∃ x, x = w1.heap.size := ⟨_, rfl⟩
  rw [← hx] at n2 ⊢
  have HS0 := Lib.hid (Pl2.start (Q := fun g => g = mb) H1.out X0.out X1.out x2 n2 (by omega) ⟨hp1, hp2⟩ HT.out (by intro g hg; rw [hg]; exact blk_lt N0.out) (by rw [EB.out]; exact Nat.le_refl _))
  have MB2 := Lib.hid (x2.heap (X1.out.heap N0.out))
  have k1w : W2.cell? ⟨mb, 1, none⟩ = some (.slice A n c) := blk_cell MB2.out 1
  clear x2 n2 s2 hx k0w
  go_wp2_with fail
  go_loopw [43, 9] (fun i _ wr => ∃ j : Nat, j ≤ n ∧ i = .int .i64 j ∧ Hid (Pl2 w wr b x j p (doL (xs.take j)) (doL (xs.take j)) (fun g => g = mb)) ∧ Hid (wr.heap[mb]? = some (.cells #[.int .i64 p, .slice A n c] 24 (0, 0)))) (fun i _ _ => n - (RowKit.intOf i).toNat)
  case atStart => exact ⟨0, by omega, rfl, HS0, MB2⟩
  case round =>
    clear HS0 MB2 k1w
    obtain ⟨j, hj, rfl, HP, HMBW⟩ := hrel
    have HX := Lib.hid HP.out.base
    by_cases hlt : j < n
    · skip
      have hjs : j < xs.length := by rw [← HM.out]; exact hlt
      obtain ⟨g, off, rfl, _, hrg⟩ := (HOPS.out.ext HX.out).at_ hjs
      have htk : xs.take (j + 1) = xs.take j ++ [xs[j]] := List.take_succ_eq_append_getElem hjs
      have hpj : xs[j]? = some xs[j] := by simp [hjs]
      obtain ⟨p, hp⟩ : ∃ p, p = xs[j] := ⟨_, rfl⟩
      rw [← hp] at hrg htk hpj
      obtain ⟨yk, yn, yw⟩ := p
      have HRG := Lib.hid hrg; have HTK := Lib.hid htk; have HPJ := Lib.hid hpj
      clear hrg htk hpj hp hjs
      go_wp2_with (first | (refine wpList_load_mid rfl 38 _ rfl g (off + j * 3) rfl (encOp ⟨yk, yn, yw⟩) _ HRG.out Tryd.underlying38 rfl size38 ?_) | (refine wpList_new 38 #[.int .u8 0, .string ⟨#[]⟩, .int .i64 0] zero38 rfl rfl ?_; intro W1 x1 n1 s1; refine stop_of ?_))
      unfold Stop
      obtain ⟨vb, hvb⟩ : ∃ vb, vb = wr.heap.size := ⟨_, rfl⟩
      rw [← hvb] at n1 ⊢
      have HVB := Lib.hid hvb
      have X1 := Lib.hid x1; have N1 := Lib.hid n1
      clear x1 n1 s1 hvb
      go_wp2_with (refine wpList_put 38 rfl _ _ rfl vb 0 38 _ (encOp ⟨yk, yn, yw⟩).toArray (encOp ⟨yk, yn, yw⟩) (.agg (encOp ⟨yk, yn, yw⟩).toArray) N1.out rfl rfl rfl (by simp [encOp]) rfl size38 (by simp [putA, encOp]) ?_; intro W2 x2 n2 s2; refine stop_of ?_)
      unfold Stop
      have X2 := Lib.hid (show Ext wr W2 from X1.out.thenB x2 (by intro y hy; rw [show y = vb by simpa using hy, HVB.out]; exact Nat.le_refl _)); have N2 := Lib.hid n2
      have kp0 := blk_cell n2 0
      have kp1 := blk_cell n2 1
      have kp2 := blk_cell n2 2
      simp [encOp] at kp0 kp1 kp2
      clear x2 n2 s2 N1 X1
      have HPQ := Lib.hid (HP.out.hold X2.out)
      have HVQ : Hid (vb < W2.heap.size ∧ wr.heap.size ≤ vb) := Lib.hid ⟨blk_lt N2.out, by rw [HVB.out]; exact Nat.le_refl _⟩
      have HMB2 := Lib.hid (X2.out.heap HMBW.out)
      have HNL := Lib.hid (show yn.length ≤ 1000000 from by have := HSM.out _ (List.mem_of_getElem? HPJ.out); simp only at this; omega)
      have HDO := Lib.hid (show doL (xs.take (j + 1)) = stepL (doL (xs.take j)) ⟨yk, yn, yw⟩ from by rw [HTK.out, doL_snoc])
      obtain ⟨L, hL⟩ : ∃ L, L = doL (xs.take j) := ⟨_, rfl⟩
      rw [← hL] at HPQ HDO
      obtain ⟨Q, hQ⟩ : ∃ Q : Nat → Prop, Q = fun g => (fun g => g = mb) g ∨ (wr.heap.size ≤ g ∧ g < W2.heap.size) := ⟨_, rfl⟩
      rw [← hQ] at HPQ
      have QV := Lib.hid (show Q vb from by rw [hQ]; exact .inr ⟨HVQ.out.2, HVQ.out.1⟩)
      have QM := Lib.hid (show Q mb from by rw [hQ]; exact .inl rfl)
      have QW := Lib.hid (show ∀ g, g = mb → Q g from fun g hg => by rw [hQ]; exact .inl hg)
      clear hL hQ
      have hyk : yk % 3 = 0 ∨ yk % 3 = 1 ∨ yk % 3 = 2 := by omega
      rcases hyk with hk | hk | hk
      · have HST := Lib.hid (show stepL L ⟨yk, yn, yw⟩ = addL L yn yw from by unfold stepL; simp only; rw [if_pos hk])
        have hki : (yk : Int) % 3 = 0 := by omega
        clear hk
        go_wp2_with fail
        have P0 : W2.drew.heap[mb]? = some (.cells #[.int .i64 p, .slice (some ⟨g, off, none⟩) n c] 24 (0, 0)) := HMB2.out
        have V0 : W2.drew.heap[vb]? = some (.cells #[.int .u8 yk, .string ⟨yn.toArray⟩, .int .i64 yw] 38 (0, 0)) := N2.out
        refine wp_region_segsR (keepB2 mb vb (.cells #[.int .i64 p, .slice (some ⟨g, off, none⟩) n c] 24) (.cells #[.int .u8 yk, .string ⟨yn.toArray⟩, .int .i64 yw] 38)) [.inl [0, 1, 2, 3, 4, 6, 7, 8, 9, 10], .inr (.inl 5), .inr (.inl 11), .inl [12]] (by kernel_rfl) (by kernel_rfl) (fun c a d v w h => by cases d <;> exact h) ?_
        have G1 : ∀ y : GrowR (keepB2 mb vb (.cells #[.int .i64 p, .slice (some ⟨g, off, none⟩) n c] 24) (.cells #[.int .u8 yk, .string ⟨yn.toArray⟩, .int .i64 yw] 38)) W2.drew, y.v.cell? ⟨vb, 1, none⟩ = some (.string ⟨yn.toArray⟩) := fun y => blk_cell (y.ext.2 V0) 1
        have G2 : ∀ y : GrowR (keepB2 mb vb (.cells #[.int .i64 p, .slice (some ⟨g, off, none⟩) n c] 24) (.cells #[.int .u8 yk, .string ⟨yn.toArray⟩, .int .i64 yw] 38)) W2.drew, y.v.cell? ⟨vb, 2, none⟩ = some (.int .i64 yw) := fun y => blk_cell (y.ext.2 V0) 2
        (rw [wpSegsR_inl]; simp only [pickOps, List.map_cons, List.map_nil, List.getD_cons_succ, List.getD_cons_zero]; (repeat (go_big_quiet_step (fail))); refine wpQuiet_nil ?_)
        clear G1 G2
        (rw [wpSegsR_grow]; simp only [pickOps, List.map_cons, List.map_nil, List.getD_cons_succ, List.getD_cons_zero]; go_wp2_with ((go_at_call 16; refine (p_add (HPQ.out.ext (Ext.refl W2).drew) (by omega) HNL.out yw).mono ?_; rintro e w3 ⟨rfl, h3, q3⟩; refine stop_of ?_)))
        unfold Stop
        go_wp2_with fail
        refine ⟨keepB2_of (q3 mb QM.out) (q3 vb QV.out), ?_⟩
        have H3 := Lib.hid h3
        have M3 := Lib.hid ((q3 mb QM.out).trans P0); have V3 := Lib.hid ((q3 vb QV.out).trans V0)
        clear h3 q3 P0 V0
        (rw [wpSegsR_grow]; simp only [pickOps, List.map_cons, List.map_nil, List.getD_cons_succ, List.getD_cons_zero]; go_wp2_with ((go_at_call 24; refine (d_add H3.out HNL.out yw).mono ?_; rintro e w4 ⟨rfl, h4, q4⟩; refine stop_of ?_)))
        unfold Stop
        go_wp2_with fail
        refine ⟨keepB2_of (q4 mb QM.out) (q4 vb QV.out), ?_⟩
        have H4 := Lib.hid h4
        have M4 := Lib.hid ((q4 mb QM.out).trans M3.out); have V4 := Lib.hid ((q4 vb QV.out).trans V3.out)
        obtain ⟨ec, hec⟩ : ∃ ec, ec = addC L yn yw := ⟨_, rfl⟩
        rw [← hec]
        clear h4 q4 H3 M3 V3 hec
        (rw [wpSegsR_inl]; simp only [pickOps, List.map_cons, List.map_nil, List.getD_cons_succ, List.getD_cons_zero]; (repeat (go_big_quiet_step (fail))); refine wpQuiet_nil ?_)
        rw [wpSegsR_nil]
        go_wp2_with fail
        have H4' := Lib.hid (H4.out.weak QW.out)
        obtain ⟨L', hL'⟩ : ∃ L', L' = stepL L ⟨yk, yn, yw⟩ := ⟨_, rfl⟩
        have H5 := Lib.hid (show Pl2 w w4 b x (j + 1) p L' L' Q from by rw [hL', HST.out]; exact H4.out)
        have HLD := Lib.hid (show L' = doL (xs.take (j + 1)) from by rw [hL', HDO.out])
        clear hL' H4 H4'
        have P0 : w4.drew.heap[mb]? = some (.cells #[.int .i64 p, .slice (some ⟨g, off, none⟩) n c] 24 (0, 0)) := M4.out
        have V0 : w4.drew.heap[vb]? = some (.cells #[.int .u8 yk, .string ⟨yn.toArray⟩, .int .i64 yw] 38 (0, 0)) := V4.out
        refine wp_region_segsR (keepB2 mb vb (.cells #[.int .i64 p, .slice (some ⟨g, off, none⟩) n c] 24) (.cells #[.int .u8 yk, .string ⟨yn.toArray⟩, .int .i64 yw] 38)) [.inl [0, 1, 2, 4, 5, 6, 8, 9], .inr (.inl 3), .inr (.inl 7), .inl [10, 11]] (by kernel_rfl) (by kernel_rfl) (fun c a d v w h => by cases d <;> exact h) ?_
        have G1 : ∀ y : GrowR (keepB2 mb vb (.cells #[.int .i64 p, .slice (some ⟨g, off, none⟩) n c] 24) (.cells #[.int .u8 yk, .string ⟨yn.toArray⟩, .int .i64 yw] 38)) w4.drew, y.v.cell? ⟨vb, 1, none⟩ = some (.string ⟨yn.toArray⟩) := fun y => blk_cell (y.ext.2 V0) 1
        have G2 : ∀ y : GrowR (keepB2 mb vb (.cells #[.int .i64 p, .slice (some ⟨g, off, none⟩) n c] 24) (.cells #[.int .u8 yk, .string ⟨yn.toArray⟩, .int .i64 yw] 38)) w4.drew, y.v.cell? ⟨mb, 0, none⟩ = some (.int .i64 p) := fun y => blk_cell (y.ext.1 P0) 0
        (rw [wpSegsR_inl]; simp only [pickOps, List.map_cons, List.map_nil, List.getD_cons_succ, List.getD_cons_zero]; (repeat (go_big_quiet_step (fail))); refine wpQuiet_nil ?_)
        clear G1 G2
        have H6 := Lib.hid (H5.out.ext (Ext.refl w4).drew)
        have HWL := Lib.hid (show wt L' yn ≤ 20 from H5.out.ok.wt_le yn)
        obtain ⟨q, hq⟩ : ∃ q, q = wt L' yn := ⟨_, rfl⟩
        obtain ⟨pq, hpq⟩ : ∃ pq, pq = p * q := ⟨_, rfl⟩
        have hpp := Lib.hid (p_points H6.out HNL.out); have hdh := Lib.hid (d_has H6.out HNL.out)
        rw [← hq] at hpp hdh HWL
        rw [← hpq] at hpp
        have hmu : pq ≤ 4000 := by rw [hpq]; exact Nat.mul_le_mul hp2 HWL.out
        have e9 : IntKind.i64.wrap ((q : Int) * (p : Int)) = (pq : Int) := by
          have : (q : Int) * (p : Int) = (pq : Int) := by rw [hpq, Nat.mul_comm]; push_cast; rfl
          rw [this]; exact IntWalk.i64_in _ (by omega)
        clear hq hpq
        (rw [wpSegsR_grow]; simp only [pickOps, List.map_cons, List.map_nil, List.getD_cons_succ, List.getD_cons_zero]; go_wp2_with ((go_at_call 22; refine hpp.out.mono ?_; rintro e w5 ⟨rfl, rfl⟩)))
        refine ⟨(keepB2 _ _ _ _).refl _, ?_⟩
        (rw [wpSegsR_grow]; simp only [pickOps, List.map_cons, List.map_nil, List.getD_cons_succ, List.getD_cons_zero]; go_wp2_with ((go_at_call 17; refine hdh.out.mono ?_; rintro e w5 ⟨rfl, x5⟩; refine stop_of ?_)))
        unfold Stop
        go_wp2_with fail
        have H7 := Lib.hid ((H6.out.ext x5).weak QW.out)
        have M7 := Lib.hid (x5.heap P0)
        refine ⟨keepB2_of ((x5.heap P0).trans P0.symm) ((x5.heap V0).trans V0.symm), ?_⟩
        clear x5 P0 V0 hpp hdh
        (rw [wpSegsR_inl]; simp only [pickOps, List.map_cons, List.map_nil, List.getD_cons_succ, List.getD_cons_zero]; (repeat (go_big_quiet_step (fail))); refine wpQuiet_nil ?_)
        rw [wpSegsR_nil]
        go_wp2
        go_roundw
        case rel => exact ⟨j + 1, by omega, by go_num, by rw [← HLD.out]; exact H7, M7⟩
        case measure => simp [RowKit.intOf]; omega
      · have HST := Lib.hid (show stepL L ⟨yk, yn, yw⟩ = remL L yn from by unfold stepL; simp only; rw [if_neg (by omega), if_pos hk])
        have hki : (yk : Int) % 3 = 1 := by omega
        clear hk
        by_cases hw0 : wt L yn = 0
        · skip
          have E1 := Lib.hid (show decide (wt L yn ≠ 0) = false from by simp [hw0])
          have E2 := Lib.hid (show (if wt L yn = 0 then (0 : Int) else 1) = 0 from by rw [if_pos hw0])
          go_wp2_with fail
          have P0 : W2.drew.heap[mb]? = some (.cells #[.int .i64 p, .slice (some ⟨g, off, none⟩) n c] 24 (0, 0)) := HMB2.out
          have V0 : W2.drew.heap[vb]? = some (.cells #[.int .u8 yk, .string ⟨yn.toArray⟩, .int .i64 yw] 38 (0, 0)) := N2.out
          refine wp_region_segsR (keepB2 mb vb (.cells #[.int .i64 p, .slice (some ⟨g, off, none⟩) n c] 24) (.cells #[.int .u8 yk, .string ⟨yn.toArray⟩, .int .i64 yw] 38)) [.inl [0, 1, 2, 4, 5, 6], .inr (.inl 3), .inr (.inl 7), .inl [8, 9]] (by kernel_rfl) (by kernel_rfl) (fun c a d v w h => by cases d <;> exact h) ?_
          have G1 : ∀ y : GrowR (keepB2 mb vb (.cells #[.int .i64 p, .slice (some ⟨g, off, none⟩) n c] 24) (.cells #[.int .u8 yk, .string ⟨yn.toArray⟩, .int .i64 yw] 38)) W2.drew, y.v.cell? ⟨vb, 1, none⟩ = some (.string ⟨yn.toArray⟩) := fun y => blk_cell (y.ext.2 V0) 1
          (rw [wpSegsR_inl]; simp only [pickOps, List.map_cons, List.map_nil, List.getD_cons_succ, List.getD_cons_zero]; (repeat (go_big_quiet_step (fail))); refine wpQuiet_nil ?_)
          clear G1
          have hpr := p_rem (HPQ.out.ext (Ext.refl W2).drew) HNL.out
          rw [E1.out] at hpr
          have HPR := Lib.hid hpr
          clear hpr
          (rw [wpSegsR_grow]; simp only [pickOps, List.map_cons, List.map_nil, List.getD_cons_succ, List.getD_cons_zero]; go_wp2_with ((go_at_call 21; refine HPR.out.mono ?_; rintro e w3 ⟨rfl, h3, q3⟩; refine stop_of ?_)))
          unfold Stop
          go_wp2_with fail
          refine ⟨keepB2_of (q3 mb QM.out) (q3 vb QV.out), ?_⟩
          have H3 := Lib.hid h3
          have M3 := Lib.hid ((q3 mb QM.out).trans P0); have V3 := Lib.hid ((q3 vb QV.out).trans V0)
          clear h3 q3 P0 V0 HPR
          have hdr := d_rem H3.out HNL.out
          rw [E2.out] at hdr
          have HDR := Lib.hid hdr
          clear hdr
          (rw [wpSegsR_grow]; simp only [pickOps, List.map_cons, List.map_nil, List.getD_cons_succ, List.getD_cons_zero]; go_wp2_with ((go_at_call 25; refine HDR.out.mono ?_; rintro e w4 ⟨rfl, h4, q4⟩; refine stop_of ?_)))
          unfold Stop
          go_wp2_with fail
          refine ⟨keepB2_of (q4 mb QM.out) (q4 vb QV.out), ?_⟩
          have H4 := Lib.hid (h4.moreN (Nat.le_succ _) (by omega))
          have M4 := Lib.hid ((q4 mb QM.out).trans M3.out); have V4 := Lib.hid ((q4 vb QV.out).trans V3.out)
          clear h4 q4 H3 M3 V3
          (rw [wpSegsR_inl]; simp only [pickOps, List.map_cons, List.map_nil, List.getD_cons_succ, List.getD_cons_zero]; (repeat (go_big_quiet_step (fail))); refine wpQuiet_nil ?_)
          rw [wpSegsR_nil]
          go_wp2_with fail
          have H4' := Lib.hid (H4.out.weak QW.out)
          obtain ⟨L', hL'⟩ : ∃ L', L' = stepL L ⟨yk, yn, yw⟩ := ⟨_, rfl⟩
          have H5 := Lib.hid (show Pl2 w w4 b x (j + 1) p L' L' Q from by rw [hL', HST.out]; exact H4.out)
          have HLD := Lib.hid (show L' = doL (xs.take (j + 1)) from by rw [hL', HDO.out])
          clear hL' H4 H4'
          have P0 : w4.drew.heap[mb]? = some (.cells #[.int .i64 p, .slice (some ⟨g, off, none⟩) n c] 24 (0, 0)) := M4.out
          have V0 : w4.drew.heap[vb]? = some (.cells #[.int .u8 yk, .string ⟨yn.toArray⟩, .int .i64 yw] 38 (0, 0)) := V4.out
          refine wp_region_segsR (keepB2 mb vb (.cells #[.int .i64 p, .slice (some ⟨g, off, none⟩) n c] 24) (.cells #[.int .u8 yk, .string ⟨yn.toArray⟩, .int .i64 yw] 38)) [.inl [0, 1, 2, 4, 5, 6, 8, 9], .inr (.inl 3), .inr (.inl 7), .inl [10, 11]] (by kernel_rfl) (by kernel_rfl) (fun c a d v w h => by cases d <;> exact h) ?_
          have G1 : ∀ y : GrowR (keepB2 mb vb (.cells #[.int .i64 p, .slice (some ⟨g, off, none⟩) n c] 24) (.cells #[.int .u8 yk, .string ⟨yn.toArray⟩, .int .i64 yw] 38)) w4.drew, y.v.cell? ⟨vb, 1, none⟩ = some (.string ⟨yn.toArray⟩) := fun y => blk_cell (y.ext.2 V0) 1
          have G2 : ∀ y : GrowR (keepB2 mb vb (.cells #[.int .i64 p, .slice (some ⟨g, off, none⟩) n c] 24) (.cells #[.int .u8 yk, .string ⟨yn.toArray⟩, .int .i64 yw] 38)) w4.drew, y.v.cell? ⟨mb, 0, none⟩ = some (.int .i64 p) := fun y => blk_cell (y.ext.1 P0) 0
          (rw [wpSegsR_inl]; simp only [pickOps, List.map_cons, List.map_nil, List.getD_cons_succ, List.getD_cons_zero]; (repeat (go_big_quiet_step (fail))); refine wpQuiet_nil ?_)
          clear G1 G2
          have H6 := Lib.hid (H5.out.ext (Ext.refl w4).drew)
          have HWL := Lib.hid (show wt L' yn ≤ 20 from H5.out.ok.wt_le yn)
          obtain ⟨q, hq⟩ : ∃ q, q = wt L' yn := ⟨_, rfl⟩
          obtain ⟨pq, hpq⟩ : ∃ pq, pq = p * q := ⟨_, rfl⟩
          have hpp := Lib.hid (p_points H6.out HNL.out); have hdh := Lib.hid (d_has H6.out HNL.out)
          rw [← hq] at hpp hdh HWL
          rw [← hpq] at hpp
          have hmu : pq ≤ 4000 := by rw [hpq]; exact Nat.mul_le_mul hp2 HWL.out
          have e9 : IntKind.i64.wrap ((q : Int) * (p : Int)) = (pq : Int) := by
            have : (q : Int) * (p : Int) = (pq : Int) := by rw [hpq, Nat.mul_comm]; push_cast; rfl
            rw [this]; exact IntWalk.i64_in _ (by omega)
          clear hq hpq
          (rw [wpSegsR_grow]; simp only [pickOps, List.map_cons, List.map_nil, List.getD_cons_succ, List.getD_cons_zero]; go_wp2_with ((go_at_call 22; refine hpp.out.mono ?_; rintro e w5 ⟨rfl, rfl⟩)))
          refine ⟨(keepB2 _ _ _ _).refl _, ?_⟩
          (rw [wpSegsR_grow]; simp only [pickOps, List.map_cons, List.map_nil, List.getD_cons_succ, List.getD_cons_zero]; go_wp2_with ((go_at_call 17; refine hdh.out.mono ?_; rintro e w5 ⟨rfl, x5⟩; refine stop_of ?_)))
          unfold Stop
          go_wp2_with fail
          have H7 := Lib.hid ((H6.out.ext x5).weak QW.out)
          have M7 := Lib.hid (x5.heap P0)
          refine ⟨keepB2_of ((x5.heap P0).trans P0.symm) ((x5.heap V0).trans V0.symm), ?_⟩
          clear x5 P0 V0 hpp hdh
          (rw [wpSegsR_inl]; simp only [pickOps, List.map_cons, List.map_nil, List.getD_cons_succ, List.getD_cons_zero]; (repeat (go_big_quiet_step (fail))); refine wpQuiet_nil ?_)
          rw [wpSegsR_nil]
          go_wp2
          go_roundw
          case rel => exact ⟨j + 1, by omega, by go_num, by rw [← HLD.out]; exact H7, M7⟩
          case measure => simp [RowKit.intOf]; omega
        · skip
          have E1 := Lib.hid (show decide (wt L yn ≠ 0) = true from by simp [hw0])
          have E2 := Lib.hid (show (if wt L yn = 0 then (0 : Int) else 1) = 1 from by rw [if_neg hw0])
          go_wp2_with fail
          have P0 : W2.drew.heap[mb]? = some (.cells #[.int .i64 p, .slice (some ⟨g, off, none⟩) n c] 24 (0, 0)) := HMB2.out
          have V0 : W2.drew.heap[vb]? = some (.cells #[.int .u8 yk, .string ⟨yn.toArray⟩, .int .i64 yw] 38 (0, 0)) := N2.out
          refine wp_region_segsR (keepB2 mb vb (.cells #[.int .i64 p, .slice (some ⟨g, off, none⟩) n c] 24) (.cells #[.int .u8 yk, .string ⟨yn.toArray⟩, .int .i64 yw] 38)) [.inl [0, 1, 2, 4, 5, 6], .inr (.inl 3), .inr (.inl 7), .inl [8, 9]] (by kernel_rfl) (by kernel_rfl) (fun c a d v w h => by cases d <;> exact h) ?_
          have G1 : ∀ y : GrowR (keepB2 mb vb (.cells #[.int .i64 p, .slice (some ⟨g, off, none⟩) n c] 24) (.cells #[.int .u8 yk, .string ⟨yn.toArray⟩, .int .i64 yw] 38)) W2.drew, y.v.cell? ⟨vb, 1, none⟩ = some (.string ⟨yn.toArray⟩) := fun y => blk_cell (y.ext.2 V0) 1
          (rw [wpSegsR_inl]; simp only [pickOps, List.map_cons, List.map_nil, List.getD_cons_succ, List.getD_cons_zero]; (repeat (go_big_quiet_step (fail))); refine wpQuiet_nil ?_)
          clear G1
          have hpr := p_rem (HPQ.out.ext (Ext.refl W2).drew) HNL.out
          rw [E1.out] at hpr
          have HPR := Lib.hid hpr
          clear hpr
          (rw [wpSegsR_grow]; simp only [pickOps, List.map_cons, List.map_nil, List.getD_cons_succ, List.getD_cons_zero]; go_wp2_with ((go_at_call 21; refine HPR.out.mono ?_; rintro e w3 ⟨rfl, h3, q3⟩; refine stop_of ?_)))
          unfold Stop
          go_wp2_with fail
          refine ⟨keepB2_of (q3 mb QM.out) (q3 vb QV.out), ?_⟩
          have H3 := Lib.hid h3
          have M3 := Lib.hid ((q3 mb QM.out).trans P0); have V3 := Lib.hid ((q3 vb QV.out).trans V0)
          clear h3 q3 P0 V0 HPR
          have hdr := d_rem H3.out HNL.out
          rw [E2.out] at hdr
          have HDR := Lib.hid hdr
          clear hdr
          (rw [wpSegsR_grow]; simp only [pickOps, List.map_cons, List.map_nil, List.getD_cons_succ, List.getD_cons_zero]; go_wp2_with ((go_at_call 25; refine HDR.out.mono ?_; rintro e w4 ⟨rfl, h4, q4⟩; refine stop_of ?_)))
          unfold Stop
          go_wp2_with fail
          refine ⟨keepB2_of (q4 mb QM.out) (q4 vb QV.out), ?_⟩
          have H4 := Lib.hid (h4.moreN (Nat.le_succ _) (by omega))
          have M4 := Lib.hid ((q4 mb QM.out).trans M3.out); have V4 := Lib.hid ((q4 vb QV.out).trans V3.out)
          clear h4 q4 H3 M3 V3
          (rw [wpSegsR_inl]; simp only [pickOps, List.map_cons, List.map_nil, List.getD_cons_succ, List.getD_cons_zero]; (repeat (go_big_quiet_step (fail))); refine wpQuiet_nil ?_)
          rw [wpSegsR_nil]
          go_wp2_with fail
          have H4' := Lib.hid (H4.out.weak QW.out)
          obtain ⟨L', hL'⟩ : ∃ L', L' = stepL L ⟨yk, yn, yw⟩ := ⟨_, rfl⟩
          have H5 := Lib.hid (show Pl2 w w4 b x (j + 1) p L' L' Q from by rw [hL', HST.out]; exact H4.out)
          have HLD := Lib.hid (show L' = doL (xs.take (j + 1)) from by rw [hL', HDO.out])
          clear hL' H4 H4'
          have P0 : w4.drew.heap[mb]? = some (.cells #[.int .i64 p, .slice (some ⟨g, off, none⟩) n c] 24 (0, 0)) := M4.out
          have V0 : w4.drew.heap[vb]? = some (.cells #[.int .u8 yk, .string ⟨yn.toArray⟩, .int .i64 yw] 38 (0, 0)) := V4.out
          refine wp_region_segsR (keepB2 mb vb (.cells #[.int .i64 p, .slice (some ⟨g, off, none⟩) n c] 24) (.cells #[.int .u8 yk, .string ⟨yn.toArray⟩, .int .i64 yw] 38)) [.inl [0, 1, 2, 4, 5, 6, 8, 9], .inr (.inl 3), .inr (.inl 7), .inl [10, 11]] (by kernel_rfl) (by kernel_rfl) (fun c a d v w h => by cases d <;> exact h) ?_
          have G1 : ∀ y : GrowR (keepB2 mb vb (.cells #[.int .i64 p, .slice (some ⟨g, off, none⟩) n c] 24) (.cells #[.int .u8 yk, .string ⟨yn.toArray⟩, .int .i64 yw] 38)) w4.drew, y.v.cell? ⟨vb, 1, none⟩ = some (.string ⟨yn.toArray⟩) := fun y => blk_cell (y.ext.2 V0) 1
          have G2 : ∀ y : GrowR (keepB2 mb vb (.cells #[.int .i64 p, .slice (some ⟨g, off, none⟩) n c] 24) (.cells #[.int .u8 yk, .string ⟨yn.toArray⟩, .int .i64 yw] 38)) w4.drew, y.v.cell? ⟨mb, 0, none⟩ = some (.int .i64 p) := fun y => blk_cell (y.ext.1 P0) 0
          (rw [wpSegsR_inl]; simp only [pickOps, List.map_cons, List.map_nil, List.getD_cons_succ, List.getD_cons_zero]; (repeat (go_big_quiet_step (fail))); refine wpQuiet_nil ?_)
          clear G1 G2
          have H6 := Lib.hid (H5.out.ext (Ext.refl w4).drew)
          have HWL := Lib.hid (show wt L' yn ≤ 20 from H5.out.ok.wt_le yn)
          obtain ⟨q, hq⟩ : ∃ q, q = wt L' yn := ⟨_, rfl⟩
          obtain ⟨pq, hpq⟩ : ∃ pq, pq = p * q := ⟨_, rfl⟩
          have hpp := Lib.hid (p_points H6.out HNL.out); have hdh := Lib.hid (d_has H6.out HNL.out)
          rw [← hq] at hpp hdh HWL
          rw [← hpq] at hpp
          have hmu : pq ≤ 4000 := by rw [hpq]; exact Nat.mul_le_mul hp2 HWL.out
          have e9 : IntKind.i64.wrap ((q : Int) * (p : Int)) = (pq : Int) := by
            have : (q : Int) * (p : Int) = (pq : Int) := by rw [hpq, Nat.mul_comm]; push_cast; rfl
            rw [this]; exact IntWalk.i64_in _ (by omega)
          clear hq hpq
          (rw [wpSegsR_grow]; simp only [pickOps, List.map_cons, List.map_nil, List.getD_cons_succ, List.getD_cons_zero]; go_wp2_with ((go_at_call 22; refine hpp.out.mono ?_; rintro e w5 ⟨rfl, rfl⟩)))
          refine ⟨(keepB2 _ _ _ _).refl _, ?_⟩
          (rw [wpSegsR_grow]; simp only [pickOps, List.map_cons, List.map_nil, List.getD_cons_succ, List.getD_cons_zero]; go_wp2_with ((go_at_call 17; refine hdh.out.mono ?_; rintro e w5 ⟨rfl, x5⟩; refine stop_of ?_)))
          unfold Stop
          go_wp2_with fail
          have H7 := Lib.hid ((H6.out.ext x5).weak QW.out)
          have M7 := Lib.hid (x5.heap P0)
          refine ⟨keepB2_of ((x5.heap P0).trans P0.symm) ((x5.heap V0).trans V0.symm), ?_⟩
          clear x5 P0 V0 hpp hdh
          (rw [wpSegsR_inl]; simp only [pickOps, List.map_cons, List.map_nil, List.getD_cons_succ, List.getD_cons_zero]; (repeat (go_big_quiet_step (fail))); refine wpQuiet_nil ?_)
          rw [wpSegsR_nil]
          go_wp2
          go_roundw
          case rel => exact ⟨j + 1, by omega, by go_num, by rw [← HLD.out]; exact H7, M7⟩
          case measure => simp [RowKit.intOf]; omega
      · have HST := Lib.hid (show stepL L ⟨yk, yn, yw⟩ = L from by unfold stepL; simp only; rw [if_neg (by omega), if_neg (by omega)])
        have hki : (yk : Int) % 3 = 2 := by omega
        clear hk
        have H4 := Lib.hid (HPQ.out.ext (Ext.refl W2))
        have M4 := HMB2
        have V4 : Hid (W2.heap[vb]? = some (.cells #[.int .u8 yk, .string ⟨yn.toArray⟩, .int .i64 yw] 38 (0, 0))) := N2
        obtain ⟨w4, rfl⟩ : ∃ w4 : World, w4 = W2 := ⟨_, rfl⟩
        go_wp2_with fail
        have H4' := Lib.hid (H4.out.weak QW.out)
        obtain ⟨L', hL'⟩ : ∃ L', L' = stepL L ⟨yk, yn, yw⟩ := ⟨_, rfl⟩
        have H5 := Lib.hid (show Pl2 w w4 b x (j + 1) p L' L' Q from by rw [hL', HST.out]; exact H4.out.moreN (Nat.le_succ _) (by omega))
        have HLD := Lib.hid (show L' = doL (xs.take (j + 1)) from by rw [hL', HDO.out])
        clear hL' H4 H4'
        have P0 : w4.drew.heap[mb]? = some (.cells #[.int .i64 p, .slice (some ⟨g, off, none⟩) n c] 24 (0, 0)) := M4.out
        have V0 : w4.drew.heap[vb]? = some (.cells #[.int .u8 yk, .string ⟨yn.toArray⟩, .int .i64 yw] 38 (0, 0)) := V4.out
        refine wp_region_segsR (keepB2 mb vb (.cells #[.int .i64 p, .slice (some ⟨g, off, none⟩) n c] 24) (.cells #[.int .u8 yk, .string ⟨yn.toArray⟩, .int .i64 yw] 38)) [.inl [0, 1, 2, 4, 5, 6, 8, 9], .inr (.inl 3), .inr (.inl 7), .inl [10, 11]] (by kernel_rfl) (by kernel_rfl) (fun c a d v w h => by cases d <;> exact h) ?_
        have G1 : ∀ y : GrowR (keepB2 mb vb (.cells #[.int .i64 p, .slice (some ⟨g, off, none⟩) n c] 24) (.cells #[.int .u8 yk, .string ⟨yn.toArray⟩, .int .i64 yw] 38)) w4.drew, y.v.cell? ⟨vb, 1, none⟩ = some (.string ⟨yn.toArray⟩) := fun y => blk_cell (y.ext.2 V0) 1
        have G2 : ∀ y : GrowR (keepB2 mb vb (.cells #[.int .i64 p, .slice (some ⟨g, off, none⟩) n c] 24) (.cells #[.int .u8 yk, .string ⟨yn.toArray⟩, .int .i64 yw] 38)) w4.drew, y.v.cell? ⟨mb, 0, none⟩ = some (.int .i64 p) := fun y => blk_cell (y.ext.1 P0) 0
        (rw [wpSegsR_inl]; simp only [pickOps, List.map_cons, List.map_nil, List.getD_cons_succ, List.getD_cons_zero]; (repeat (go_big_quiet_step (fail))); refine wpQuiet_nil ?_)
        clear G1 G2
        have H6 := Lib.hid (H5.out.ext (Ext.refl w4).drew)
        have HWL := Lib.hid (show wt L' yn ≤ 20 from H5.out.ok.wt_le yn)
        obtain ⟨q, hq⟩ : ∃ q, q = wt L' yn := ⟨_, rfl⟩
        obtain ⟨pq, hpq⟩ : ∃ pq, pq = p * q := ⟨_, rfl⟩
        have hpp := Lib.hid (p_points H6.out HNL.out); have hdh := Lib.hid (d_has H6.out HNL.out)
        rw [← hq] at hpp hdh HWL
        rw [← hpq] at hpp
        have hmu : pq ≤ 4000 := by rw [hpq]; exact Nat.mul_le_mul hp2 HWL.out
        have e9 : IntKind.i64.wrap ((q : Int) * (p : Int)) = (pq : Int) := by
          have : (q : Int) * (p : Int) = (pq : Int) := by rw [hpq, Nat.mul_comm]; push_cast; rfl
          rw [this]; exact IntWalk.i64_in _ (by omega)
        clear hq hpq
        (rw [wpSegsR_grow]; simp only [pickOps, List.map_cons, List.map_nil, List.getD_cons_succ, List.getD_cons_zero]; go_wp2_with ((go_at_call 22; refine hpp.out.mono ?_; rintro e w5 ⟨rfl, rfl⟩)))
        refine ⟨(keepB2 _ _ _ _).refl _, ?_⟩
        (rw [wpSegsR_grow]; simp only [pickOps, List.map_cons, List.map_nil, List.getD_cons_succ, List.getD_cons_zero]; go_wp2_with ((go_at_call 17; refine hdh.out.mono ?_; rintro e w5 ⟨rfl, x5⟩; refine stop_of ?_)))
        unfold Stop
        go_wp2_with fail
        have H7 := Lib.hid ((H6.out.ext x5).weak QW.out)
        have M7 := Lib.hid (x5.heap P0)
        refine ⟨keepB2_of ((x5.heap P0).trans P0.symm) ((x5.heap V0).trans V0.symm), ?_⟩
        clear x5 P0 V0 hpp hdh
        (rw [wpSegsR_inl]; simp only [pickOps, List.map_cons, List.map_nil, List.getD_cons_succ, List.getD_cons_zero]; (repeat (go_big_quiet_step (fail))); refine wpQuiet_nil ?_)
        rw [wpSegsR_nil]
        go_wp2
        go_roundw
        case rel => exact ⟨j + 1, by omega, by go_num, by rw [← HLD.out]; exact H7, M7⟩
        case measure => simp [RowKit.intOf]; omega
    · have hjn : xs.take j = xs := List.take_of_length_le (by have := HM.out; omega)
      rw [hjn] at HP
      go_wp2
      have hfin : Pl2 w wr b x 30 p (doL xs) (doL xs) noQ := (HP.out.moreN (by omega) (by omega)).weak (fun g hg => hg.elim)
      exact bodyPost_ret (v := .tuple #[.pointer (some ⟨b, 0, none⟩), .pointer (some ⟨x, 0, none⟩), .bool true]) (by simp [results, Tryd.results11, go_sem]) rfl ⟨b, x, rfl, hfin⟩
end
end Go.Proofs.YtjphpblangeblaaDoor
