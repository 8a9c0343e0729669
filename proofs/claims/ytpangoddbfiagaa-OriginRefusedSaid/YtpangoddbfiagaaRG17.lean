import Derived.Test.YtpangoddbfiagaaRG16
import Derived.Test.YtpangoddbfiagaaRG15
namespace Go.Proofs.Ytpangoddbfiagaa
open Go.RowKit Go.Maps Go.ChangeMaps
set_option linter.unusedVariables false
set_option linter.unusedSimpArgs false
theorem RStrAt.grow {w : World} {s : Nat} {p : Option Addr} {st : Int} {m : MetaP} {kv : Value} {fr to at_ : Int} (h : RStrAt w s st m kv fr to p at_) (x : Grow [] w) : RStrAt x.v s st m kv fr to p at_ := x.ext.heap h (by simp)
theorem RVerAt.grow {w : World} {b : Nat} {o : Bs} {m : MetaP} {kv bv : Value} {went : Bool} (h : RVerAt w b o m kv bv went) (x : Grow [] w) : RVerAt x.v b o m kv bv went := x.ext.heap h (by simp)
set_option maxRecDepth 100000 in
theorem rthere_any (w : World) (s b : Nat) (st : Int) (m vm : MetaP) (kv vkv : Value) (A : Option Addr) (n c : Nat) (o : Bs) (went : Bool) (fr to at_ : Int) (h : RStrAt w s st m kv fr to (some ⟨b, 0, none⟩) at_) (hv : RVerAt w b o vm vkv (.slice A n c) went) : Calls Try.prog 55 #[.pointer (some ⟨s, 0, none⟩)] w fun e w' => e = .returned (.int .i64 (min to n)) ∧ w = w' := by
 have k15 := blk_cell h 15; have k13 := blk_cell h 13; have k12 := blk_cell hv 12
 simp [rstrC] at k15 k13
 simp [rverC] at k12
 clear h hv
 by_cases hle : to < (n : Int)
 ·rw [Int.min_eq_left (by omega)]
  go_enter Try.func55, Try.ntmps55
  go_wp2
  go_ret
  exact ⟨rfl, rfl⟩
 ·rw [Int.min_eq_right (by omega)]
  go_enter Try.func55, Try.ntmps55
  go_wp2
  go_ret
  exact ⟨rfl, rfl⟩
set_option maxRecDepth 100000 in
theorem rhas_none (w : World) (s : Nat) (st : Int) (m : MetaP) (kv : Value) (fr to at_ : Int) (h : RStrAt w s st m kv fr to none at_) : Calls Try.prog 31 #[.pointer (some ⟨s, 0, none⟩)] w fun e w' => e = .returned (.int .i64 3) ∧ Ext w w' := by
 have k15 := blk_cell h 15
 simp [rstrC] at k15
 clear h
 go_enter Try.func31, Try.ntmps31
 go_wp2
 go_ret
 exact ⟨rfl, Ext.refl _⟩
set_option maxRecDepth 100000 in
set_option maxHeartbeats 2000000 in
theorem rhas_some (w : World) (s b : Nat) (st : Int) (m vm : MetaP) (kv vkv : Value) (A : Option Addr) (n c : Nat) (o : Bs) (went : Bool) (fr to at_ : Int) (h : RStrAt w s st m kv fr to (some ⟨b, 0, none⟩) at_) (hv : RVerAt w b o vm vkv (.slice A n c) went) : Calls Try.prog 31 #[.pointer (some ⟨s, 0, none⟩)] w fun e w' => e = .returned (.int .i64 (hasZ to at_ n (vm.len == -1) went)) ∧ Ext w w' := by
 have k15 := blk_cell h 15
 simp [rstrC] at k15
 have G0 : ∀ x : Grow [] w, x.v.cell? ⟨s, 16, none⟩ = some (.int .i64 at_) := fun x => x.ext.cell (blk_cell h 16) (by simp)
 have H := Lh h; have HV := Lh hv
 clear h hv
 by_cases h1 : at_ < min to n
 ·have e0 : hasZ to at_ n (vm.len == -1) went = 1 := by unfold hasZ; rw [if_pos h1]
  rw [e0]
  have d0 : decide (at_ < min to n) = true := decide_eq_true h1
  clear e0 h1
  go_enter Try.func31, Try.ntmps31
  go_wp2
  (refine wp_region_grow (by kernel_rfl) (by kernel_rfl) ?_; (repeat (go_big_quiet_step ((go_at_call 55; exact Calls.inGrow_same (rthere_any _ s b st m vm kv vkv A n c o went fr to at_ (H.out.grow _) (HV.out.grow _)))))); refine wpQuiet_nil ?_)
  clear G0
  intro w1 hx1
  go_wp2
  go_ret
  exact ⟨rfl, hx1⟩
 ·have d0 : decide (at_ < min to n) = false := decide_eq_false h1
  obtain ⟨z, hz⟩ : ∃ z, z = hasZ to at_ n (vm.len == -1) went := ⟨_, rfl⟩
  have hz' : z = if to ≤ at_ ∨ (vm.len == -1) = false then 3 else if went = true then 4 else 2 := by rw [hz]; unfold hasZ; rw [if_neg h1]
  rw [← hz]
  have HZ := Lh hz'
  clear hz hz' h1
  go_enter Try.func31, Try.ntmps31
  go_wp2
  (refine wp_region_grow (by kernel_rfl) (by kernel_rfl) ?_; (repeat (go_big_quiet_step ((go_at_call 55; exact Calls.inGrow_same (rthere_any _ s b st m vm kv vkv A n c o went fr to at_ (H.out.grow _) (HV.out.grow _)))))); refine wpQuiet_nil ?_)
  clear G0 k15
  intro w1 hx1
  have H1 := Lh (show RStrAt w1 s st m kv fr to _ at_ from hx1.heap H.out); have HV1 := Lh (show RVerAt w1 b o vm vkv _ went from hx1.heap HV.out); have X1 := Lh hx1
  clear hx1 H HV d0
  have G0 : ∀ x : Grow [] w1, x.v.cell? ⟨s, 15, none⟩ = some (.pointer (some ⟨b, 0, none⟩)) := fun x => x.ext.cell (blk_cell H1.out 15) (by simp)
  have G1 : ∀ x : Grow [] w1, x.v.cell? ⟨s, 13, none⟩ = some (.int .i64 to) := fun x => x.ext.cell (blk_cell H1.out 13) (by simp)
  have G2 : ∀ x : Grow [] w1, x.v.cell? ⟨s, 16, none⟩ = some (.int .i64 at_) := fun x => x.ext.cell (blk_cell H1.out 16) (by simp)
  have G3 : ∀ x : Grow [] w1, x.v.cell? ⟨b, 4, none⟩ = some (.int .i64 vm.len) := fun x => x.ext.cell (blk_cell HV1.out 4) (by simp)
  by_cases h2 : to ≤ at_
  ·have d2 : decide (to ≤ at_) = true := decide_eq_true h2
   have Z : Hid (z = 3) := Lh (by rw [HZ.out, if_pos (.inl h2)])
   clear h2
   go_wp2
   (refine wp_region_grow (by kernel_rfl) (by kernel_rfl) ?_; (repeat (go_big_quiet_step (fail))); refine wpQuiet_nil ?_)
   clear G0 G1 G2 G3 d2
   intro w2 hx2
   go_wp2
   go_ret
   exact ⟨ret_int Z.out.symm, X1.out.trans hx2⟩
  ·have d2 : decide (to ≤ at_) = false := decide_eq_false h2
   have H2 := Lh h2
   clear h2
   obtain ⟨vl, hvl⟩ : ∃ vl, vl = vm.len := ⟨_, rfl⟩
   rw [← hvl] at G3 HZ
   clear hvl
   by_cases hgr : vl = -1
   ·subst hgr
    have Z : Hid (z = if went = true then 4 else 2) := Lh (by rw [HZ.out, if_neg (by have := H2.out; simp; omega)])
    go_wp2
    (refine wp_region_grow (by kernel_rfl) (by kernel_rfl) ?_; (repeat (go_big_quiet_step (fail))); refine wpQuiet_nil ?_)
    clear G0 G1 G2 G3 d2
    intro w2 hx2
    have k0 := blk_cell (hx2.heap H1.out) 15; have k12 := blk_cell (hx2.heap HV1.out) 13
    simp [rstrC, rverC] at k0 k12
    have X2 := Lh (X1.out.trans hx2)
    clear hx2 X1
    cases went with
    | true =>
     go_wp2
     go_ret
     exact ⟨ret_int (by rw [Z.out]; rfl), X2.out⟩
    | false =>
     go_wp2
     go_ret
     exact ⟨ret_int (by rw [Z.out]; rfl), X2.out⟩
   ·have d3 : (vl != -1) = true := by simpa using hgr
    have Z : Hid (z = 3) := Lh (by rw [HZ.out, if_pos (.inr (by simpa using hgr))])
    clear hgr
    go_wp2
    (refine wp_region_grow (by kernel_rfl) (by kernel_rfl) ?_; (repeat (go_big_quiet_step (fail))); refine wpQuiet_nil ?_)
    clear G0 G1 G2 G3 d2 d3
    intro w2 hx2
    go_wp2
    go_ret
    exact ⟨ret_int Z.out.symm, X1.out.trans hx2⟩
def lenOf (v : Value) : Nat := match v with
 | .slice _ n _ => n
 | _ => 0
set_option maxRecDepth 100000 in
set_option maxHeartbeats 2000000 in
theorem rtake_none (w : World) (s : Nat) (st : Int) (m : MetaP) (kv : Value) (fr to at_ k : Int) (h : RStrAt w s st m kv fr to none at_) : Calls Try.prog 51 #[.pointer (some ⟨s, 0, none⟩), .int .i64 k] w fun e w' => ∃ v, e = .returned (.tuple #[v, .int .i64 3]) ∧ BRow w' w.heap.size v [] ∧ Ext w w' := by
 have H := Lh h
 clear h
 go_enter Try.func51, Try.ntmps51
 go_wp2_with fail
 refine wp_loop_rounds 1 ?_
 rw [rounds_succ]
 have H1 := Lh (show RStrAt (w.alloc (.cells #[] 5)) s st m kv fr to none at_ from (ext_alloc1 w _).heap H.out)
 have R1 : Hid (BRow (w.alloc (.cells #[] 5)) w.heap.size (.slice (some ⟨w.heap.size, 0, none⟩) 0 0) []) := Lh (World.ownsRow_made w #[] 0 (Nat.le_refl _) (by unfold maxLen; omega) rfl)
 go_wp2_with (go_at_call 31; refine (rhas_none _ s st m kv fr to at_ H1.out).mono ?_; rintro e w1 ⟨rfl, x1⟩; refine stop_of ?_)
 unfold Stop
 have H2 := Lh (show RStrAt w1 s st m kv fr to none at_ from x1.heap H1.out); have X1 := Lh x1
 have R2 := Lh (show BRow w1 w.heap.size (.slice (some ⟨w.heap.size, 0, none⟩) 0 0) [] from ownsRow_below R1.out x1)
 clear x1 R1 H1
 go_wp2_with (go_at_call 31; refine (rhas_none _ s st m kv fr to at_ H2.out).mono ?_; rintro e w2 ⟨rfl, x2⟩; refine stop_of ?_)
 unfold Stop
 have R3 := Lh (show BRow w2 w.heap.size (.slice (some ⟨w.heap.size, 0, none⟩) 0 0) [] from ownsRow_below R2.out x2)
 have X3 := Lh (((ext_alloc1 w (.cells #[] 5)).trans X1.out).trans x2)
 clear x2
 go_wp2
 go_ret2
 exact ⟨_, rfl, R3.out, X3.out⟩
end Go.Proofs.Ytpangoddbfiagaa
namespace Go.Proofs.Ytpangoddbfiagaa
open Go.RowKit Go.Maps Go.ChangeMaps
set_option linter.unusedVariables false
set_option linter.unusedSimpArgs false
structure TkRel (w : World) (s b : Nat) (st : Int) (m : MetaP) (kv : Value) (fr to : Int) (a : Nat) (bs : Bs) (q : Nat) (o : Value) (wr : World) : Prop where
 row : BRow wr w.heap.size o ((bs.drop a).take q)
 str : RStrAt wr s st m kv fr to (some ⟨b, 0, none⟩) ((a : Int) + q)
 ext : ExtB [s] w wr
theorem hasZ_ne {to a : Int} {n : Nat} {gr went : Bool} (h : ¬ a < min to n) : (hasZ to a n gr went == 1) = false := by
 unfold hasZ
 rw [if_neg h]
 by_cases h1 : to ≤ a ∨ gr = false
 ·rw [if_pos h1]; rfl
 ·rw [if_neg h1]; cases went <;> rfl
set_option maxRecDepth 100000 in
set_option maxHeartbeats 4000000 in
theorem rtake_some (w : World) (s b : Nat) (st : Int) (m vm : MetaP) (kv vkv bv : Value) (bs : Bs) (o : Bs) (went : Bool) (fr to k : Int) (a kk : Nat) (h : RStrAt w s st m kv fr to (some ⟨b, 0, none⟩) a) (hv : RVerAt w b o vm vkv bv went) (hr : BRow w 0 bv bs) (hn : bs.length ≤ 1000000) (ha : a ≤ 5000000) (ht : 0 ≤ to) (hk : (takeN to a k bs.length).toNat = kk) (hsb : s ≠ b) (hsr : ∀ x, bv.ownBlock = some x → x ≠ s) :
  Calls Try.prog 51 #[.pointer (some ⟨s, 0, none⟩), .int .i64 k] w fun e w' => ∃ v, e = .returned (.tuple #[v, .int .i64 (hasZ to ((a : Int) + kk) bs.length (vm.len == -1) went)]) ∧ BRow w' w.heap.size v ((bs.drop a).take kk) ∧ RStrAt w' s st m kv fr to (some ⟨b, 0, none⟩) ((a : Int) + kk) ∧ ExtB [s] w w' := by
 unfold takeN at hk
 obtain ⟨A, c, hbv⟩ := own_slice hr
 subst hbv
 obtain ⟨n, hnn⟩ : ∃ n, n = bs.length := ⟨_, rfl⟩
 have hkn : a + kk ≤ bs.length ∨ kk = 0 := by omega
 rw [← hnn] at hv hr hn hk hkn ⊢
 have HNN := Lh hnn
 have H := Lh h; have HV := Lh hv; have HR := Lh hr; have HKN := Lh hkn; have HK := Lh hk; have HSB := Lh hsb; have HSR := Lh hsr
 have hslt : s < w.heap.size := blk_lt h
 have hml : maxLen = 9223372036854775807 := rfl
 have HC : Hid (∀ W (q : Nat), RStrAt W s st m kv fr to (some ⟨b, 0, none⟩) ((a : Int) + q) → RVerAt W b o vm vkv (.slice A n c) went → Calls Try.prog 31 #[.pointer (some ⟨s, 0, none⟩)] W fun e w' => e = .returned (.int .i64 (hasZ to ((a : Int) + q) n (vm.len == -1) went)) ∧ Ext W w') := Lh fun W q x y => rhas_some W s b st m vm kv vkv A n c o went fr to _ x y
 obtain ⟨gr, hgr⟩ : ∃ gr, gr = (vm.len == -1) := ⟨_, rfl⟩
 rw [← hgr] at HC ⊢
 clear h hv hr hkn hk hsb hsr hnn hgr
 go_enter Try.func51, Try.ntmps51
 go_wp2_with fail
 have R0 : Hid (TkRel w s b st m kv fr to a bs 0 (.slice (some ⟨w.heap.size, 0, none⟩) 0 0) (w.alloc (.cells #[] 5))) := Lh ⟨by rw [List.take_zero]; exact World.ownsRow_made w #[] 0 (Nat.le_refl _) (by unfold maxLen; omega) rfl, by have := (ext_alloc1 w (.cells #[] 5)).heap H.out; simpa [RStrAt] using this, .of (ext_alloc1 _ _) _⟩
 go_loopw [6] (fun v wr => ∃ q A5 c5, v = .slice A5 q c5 ∧ q ≤ kk ∧ Hid (TkRel w s b st m kv fr to a bs q v wr)) (fun v _ => kk - lenOf v)
 case atStart => exact ⟨0, _, _, rfl, by omega, R0.out⟩
 case round =>
  clear R0
  obtain ⟨q, A5, c5, rfl, hq, R⟩ := hrel
  have HV1 := Lh (show RVerAt wr b o vm vkv (.slice A n c) went from R.out.ext.heap HV.out (by simpa using fun e => HSB.out e.symm))
  go_wp2_with (go_at_call 31; refine (HC.out _ q R.out.str HV1.out).mono ?_; rintro e w1 ⟨rfl, x1⟩; refine stop_of ?_)
  unfold Stop
  have X1 := Lh x1; have S1 := Lh (x1.heap R.out.str); have V1 := Lh (x1.heap HV1.out)
  have R1 := Lh (show BRow w1 w.heap.size (.slice A5 q c5) ((bs.drop a).take q) from ownsRow_below R.out.row x1)
  have hsz1 : w.heap.size ≤ w1.heap.size := Nat.le_trans R.out.ext.size x1.size
  clear x1
  obtain ⟨z, hz⟩ : ∃ z, z = hasZ to ((a : Int) + q) n gr went := ⟨_, rfl⟩
  rw [← hz]
  by_cases hmore : (a : Int) + q < min to n
  ·have hz1 : z = 1 := by rw [hz]; unfold hasZ; rw [if_pos hmore]
   subst hz1
   by_cases hqk : (q : Int) < k
   ·have hq1 : q + 1 ≤ kk := by have := HK.out; omega
    have han : a + q < n := by omega
    have hbn : a + q < bs.length := by rw [← HNN.out]; exact han
    obtain ⟨g, hA⟩ : ∃ g, A = some ⟨g, 0, none⟩ := by
     rcases HR.out.2 with ⟨e, h0⟩ | ⟨g, cap, cur, e, _⟩
     ·have : bs.length = 0 := by simpa using h0
      omega
     ·exact ⟨g, by injection e⟩
    subst hA
    have hgs : g ≠ s := HSR.out g rfl
    have kb0 : w.cell? ⟨g, a + q, none⟩ = some (byteV bs[a + q]) := by
     have hr : w.ownsRow 0 5 1 (.slice (some ⟨g, 0, none⟩) n c) n (bs.map byteV) := by have := HR.out; unfold BRow at this; rw [← HNN.out] at this; exact this
     rw [World.ownsRow.cellAt hr (a + q) (by omega)]
     simp [hbn]
    have kb : w1.cell? ⟨g, a + q, none⟩ = some (byteV bs[a + q]) := X1.out.cell (R.out.ext.cell kb0 (by simpa using hgs))
    obtain ⟨u, hu⟩ : ∃ u, u = bs[a + q] := ⟨_, rfl⟩
    rw [← hu] at kb
    unfold byteV at kb
    have HTK : Hid ((bs.drop a).take (q + 1) = (bs.drop a).take q ++ [u]) := Lh (by
     rw [List.take_succ_eq_append_getElem (by simp; omega), List.getElem_drop, hu])
    have HU := Lh (show ((bs.drop a).take q).length = q from by simp; omega)
    have eaq : ((a : Int) + (q : Int)) = ((a + q : Nat) : Int) := by omega
    obtain ⟨X5, hX5⟩ : ∃ X5, X5 = (Value.slice A5 q c5).ownBlock.toList := ⟨_, rfl⟩
    have hXlow : ∀ y ∈ X5, w.heap.size ≤ y := fun y hy => (R1.out.lt y (by rw [hX5] at hy; simpa using hy)).1
    have nX : ∀ y, y < w.heap.size → y ∉ X5 := fun y hy hh => by have := hXlow y hh; omega
    have hbl : b < w.heap.size := blk_lt HV.out
    have hgl : g < w.heap.size := World.block_lt_of_cell? _ _ kb0
    have G0 : ∀ x : Grow X5 w1.drew, x.v.cell? ⟨s, 15, none⟩ = some (.pointer (some ⟨b, 0, none⟩)) := fun x => x.ext.cell (a := w1.drew) (blk_cell S1.out 15) (nX _ hslt)
    have G1 : ∀ x : Grow X5 w1.drew, x.v.cell? ⟨s, 16, none⟩ = some (.int .i64 ((a + q : Nat) : Int)) := fun x => x.ext.cell (a := w1.drew) (by rw [← eaq]; exact blk_cell S1.out 16) (nX _ hslt)
    have G2 : ∀ x : Grow X5 w1.drew, x.v.cell? ⟨b, 12, none⟩ = some (.slice (some ⟨g, 0, none⟩) n c) := fun x => x.ext.cell (a := w1.drew) (blk_cell V1.out 12) (nX _ hbl)
    have G3 : ∀ x : Grow X5 w1.drew, x.v.cell? ⟨g, a + q, none⟩ = some (.int .u8 u.toNat) := fun x => x.ext.cell (a := w1.drew) kb (nX _ hgl)
    have HBN := Lh hbn; have HKQ := Lh (And.intro hq1 eaq); have HXL := Lh (And.intro hX5 hXlow); have HNX := Lh nX
    clear hz kb kb0 hu eaq hgs hbn hX5 hXlow nX hbl hgl
    go_wp2_with fail
    refine wp_region_segs X5 [.inl [0, 1, 2, 3, 4, 5, 6, 7, 8, 9, 10, 11, 12, 13], .inr (.inl 14), .inr (.inl 15), .inl [16]] (by kernel_rfl) (by kernel_rfl) (fun c a d v w h => by cases d <;> exact h) ?_
    (rw [wpSegs_inl]; simp only [pickOps, mCc, mNn, gSs, gZz]; (repeat (go_big_quiet_step (fail))); refine wpQuiet_nil ?_)
    clear G0 G1 G2 G3
    have XD := Lh ((Ext.refl w1).drew)
    (rw [wpSegs_grow]; simp only [pickOps, mCc, mNn, gSs, gZz]; go_wp2_with (fail))
    refine ⟨.of (ext_alloc1 _ _) _, ?_⟩
    have HL := Lh (lit_bytes w1.drew [u] (0, 0))
    have RD := Lh (show BRow (w1.drew.alloc (.cells #[.int .u8 u.toNat] 5)) w.heap.size (.slice A5 q c5) ((bs.drop a).take q) from ownsRow_below R1.out (XD.out.trans (ext_alloc1 _ _)))
    (rw [wpSegs_grow]; simp only [pickOps, mCc, mNn, gSs, gZz]; go_wp2_with ((at_builtin; refine wpList_appendB rfl _ _ rfl w.heap.size (.slice A5 q c5) (.slice (some ⟨w1.heap.size, 0, none⟩) 1 1) ((bs.drop a).take q) [u] RD.out HL.out rfl rfl (by have := HU.out; simp at this ⊢; have := HKN.out; omega) (by have := hsz1; simp; omega) ?_)))
    intro v2 W2 r2 g2
    obtain ⟨A6, c6, hv6⟩ := own_slice r2
    have XB : ExtB X5 w1 W2 := by
     have h1 := grownBy_extB g2
     rw [← HXL.out.1] at h1
     exact (ExtB.of (XD.out.trans (ext_alloc1 _ _)) _).trans h1
    have XB2 : ExtB X5 (w1.drew.alloc (.cells #[.int .u8 u.toNat] 5)) W2 := by
     have h1 := grownBy_extB g2
     rw [← HXL.out.1] at h1
     exact h1
    rw [← HTK.out] at r2
    have hl6 : ((bs.drop a).take (q + 1)).length = q + 1 := by simp; have := HBN.out; omega
    rw [← HTK.out, hl6] at hv6
    subst hv6
    have S2 := Lh (show RStrAt W2 s st m kv fr to (some ⟨b, 0, none⟩) ((a : Int) + q) from XB.heap S1.out (HNX.out _ hslt))
    have X2 : Hid (ExtB [s] w W2) := Lh (extB_step ((R.out.ext.trans (.of X1.out _))) XB (fun y hy => .inr (HXL.out.2 y hy)))
    have R2 := Lh r2
    go_wp2_with fail
    refine ⟨XB2, ?_⟩
    clear XB XB2 r2 g2 RD HL XD hl6
    (rw [wpSegs_inl]; simp only [pickOps, mCc, mNn, gSs, gZz]; (repeat (go_big_quiet_step (fail))); refine wpQuiet_nil ?_)
    rw [wpSegs_nil]
    have k16 : W2.cell? ⟨s, 16, none⟩ = some (.int .i64 ((a + q : Nat) : Int)) := by rw [← HKQ.out.2]; exact blk_cell S2.out 16
    have hqn : q ≤ 1000000 := by have := HBN.out; have := HNN.out; omega
    go_wp2_with (refine wpList_put 2 rfl _ _ rfl _ 16 77 _ (rstrC st m kv fr to (some ⟨b, 0, none⟩) ((a : Int) + (q : Int) + 1)) [.int .i64 ((a : Int) + (q : Int) + 1)] (.int .i64 ((a : Int) + (q : Int) + 1)) S2.out rfl rfl rfl (by simp [rstrC]) rfl size2 (by simp [putA, rstrC]) ?_; intro W3 x3 n3 s3; refine stop_of ?_)
    unfold Stop
    have S3 : Hid (RStrAt W3 s st m kv fr to (some ⟨b, 0, none⟩) ((a : Int) + ((q + 1 : Nat) : Int))) := Lh (by
     have e : (a : Int) + ((q + 1 : Nat) : Int) = (a : Int) + (q : Int) + 1 := by omega
     rw [e]; exact n3)
    have X3 : Hid (ExtB [s] w W3) := Lh (X2.out.trans x3)
    have R3 : Hid (BRow W3 w.heap.size (.slice A6 (q + 1) c6) ((bs.drop a).take (q + 1))) := Lh (own_extB R2.out x3 (fun y hy e => by
     have h1 := (R2.out.lt y e).1
     have h2 : y = s := by simpa using hy
     omega))
    have hq1 := HKQ.out.1
    clear x3 n3 s3 k16 S2 X2 R2
    go_wp2
    go_roundw
    case rel => exact ⟨q + 1, A6, c6, rfl, hq1, Lh ⟨R3.out, S3.out, X3.out⟩⟩
    case measure => (simp [lenOf]; omega)
   ·have hqk2 : q = kk := by have := HK.out; omega
    subst hqk2
    clear hz
    go_wp2_with (go_at_call 31; refine (HC.out _ q S1.out V1.out).mono ?_; rintro e w2 ⟨rfl, x2⟩; refine stop_of ?_)
    unfold Stop
    have R2 := Lh (show BRow w2 w.heap.size (.slice A5 q c5) ((bs.drop a).take q) from ownsRow_below R1.out x2)
    have S2 := Lh (x2.heap S1.out)
    have X2 := Lh ((R.out.ext.trans (.of X1.out _)).trans (.of x2 _))
    clear x2
    go_wp2
    go_ret2
    exact ⟨_, rfl, R2.out, S2.out, X2.out⟩
  ·have hz1 : (z == 1) = false := by rw [hz]; exact hasZ_ne hmore
   have hqk2 : q = kk := by have := HK.out; omega
   subst hqk2
   clear hz
   go_wp2_with (go_at_call 31; refine (HC.out _ q S1.out V1.out).mono ?_; rintro e w2 ⟨rfl, x2⟩; refine stop_of ?_)
   unfold Stop
   have R2 := Lh (show BRow w2 w.heap.size (.slice A5 q c5) ((bs.drop a).take q) from ownsRow_below R1.out x2)
   have S2 := Lh (x2.heap S1.out)
   have X2 := Lh ((R.out.ext.trans (.of X1.out _)).trans (.of x2 _))
   clear x2
   go_wp2
   go_ret2
   exact ⟨_, rfl, R2.out, S2.out, X2.out⟩
theorem Ext.trans' {w W W' : World} {v : Value} {n : Nat} {xs : List Value} {e : TypeId} (h : Ext w W) (r : W.ownsRow w.heap.size e 1 v n xs) (g : W.grownBy W' v.ownBlock) : Ext w W' :=
 ⟨g.os.trans h.os, g.tape.trans h.tape, g.output.trans h.output, Nat.le_trans h.size g.size, fun k hk => (g.block k (Nat.lt_of_lt_of_le hk h.size) (fun e => by have := (r.lt k e.symm).1; omega)).trans (h.block k hk)⟩
section
variable {w w' : World} {x B : Nat} {own own' : Nat → Prop} {vs : List Vn} {ss : List Sn} {sa va : List Nat} {gs : List Rg} {A : Option Addr} {c : Nat} {X : List Nat}
set_option maxRecDepth 100000 in
set_option maxHeartbeats 4000000 in
theorem rgrow_any (hI : RI w x B own vs ss sa) {o bs : Bs} {u : Value} (ho : o.length ≤ 1000000) (hu : BytesAt w u bs) (hbs : bs.length ≤ 1000) (hcap : ∀ i v, nowI vs o = some i → vs[i]? = some v → v.bytes.length + bs.length ≤ 100000) :
  Calls Try.prog 47 #[.pointer (some ⟨x, 0, none⟩), .string ⟨o.toArray⟩, u] w fun e w' => e = .returned (.int .i64 (growA vs o bs).1) ∧ RI w' x B (grownOwn own w w') (growA vs o bs).2 ss sa ∧ ExtP own w w' := by
 obtain ⟨gs, A, c, h⟩ := hI
 have hnow := rnow_any h ho
 have same : ∀ k : Int, growA vs o bs = (k, vs) → Ending.returned (.int .i64 k) = .returned (.int .i64 (growA vs o bs).1) ∧ RI w x B (grownOwn own w w) (growA vs o bs).2 ss sa ∧ ExtP own w w := fun k e => by
  rw [e]
  refine ⟨rfl, ⟨gs, A, c, h.keep (fun _ _ => rfl) (Nat.le_refl _) (fun i hi => .inl hi) (fun i hi => ?_) (fun i hi => ?_)⟩, .of (Ext.refl _)⟩
  ·rcases hi with hi | hi
   ·exact h.lt i hi
   ·omega
  ·rcases hi with hi | hi
   ·exact h.low i hi
   ·omega
 have HSAME := Lh same
 clear same
 cases hn : nowI vs o with
 | none =>
  rw [hn, rp_none] at hnow
  have HNOW := Lh hnow
  have HE := Lh (show growA vs o bs = (6, vs) by simp [growA, hn])
  clear h hn hnow hcap hu
  go_enter Try.func47, Try.ntmps47
  go_wp2_with (go_at_call 54; refine HNOW.out.mono ?_; rintro e w1 ⟨rfl, rfl⟩)
  go_ret
  exact HSAME.out _ HE.out
 | some i =>
  obtain ⟨v, hv, _, _⟩ := nowI_some hn
  obtain ⟨g, hg, hok⟩ := h.vers.get hv
  rw [hn, rp_some hg] at hnow
  have k4 := blk_cell hok.blk 4
  simp [rverC, nowM] at k4
  have HI := Lh h; have HV := Lh hv; have HG := Lh hg; have OK := Lh hok
  obtain ⟨q, hq⟩ : ∃ q, q = g.b := ⟨_, rfl⟩
  have HBLK := Lh hok.blk
  rw [← hq] at hnow k4 HBLK
  have HNOW := Lh hnow; have HQ := Lh hq; have HCAP := Lh (hcap i v hn hv)
  cases hlen : (v.m.len == -1) with
  | false =>
   have HE := Lh (show growA vs o bs = (11, vs) by simp [growA, hn, hv, hlen])
   clear h hn hok hv hg hnow hq hcap hu
   go_enter Try.func47, Try.ntmps47
   go_wp2_with (go_at_call 54; refine HNOW.out.mono ?_; rintro e w1 ⟨rfl, rfl⟩)
   go_ret
   exact HSAME.out _ HE.out
  | true =>
   have em : growA vs o bs = (0, vs.set i (growV v bs)) := by simp [growA, hn, hv, hlen]
   rw [em]
   have hl1 : v.m.len = -1 := by simpa using hlen
   rw [hl1] at k4
   have HU := Lh hu
   obtain ⟨UA, uc, hux⟩ := (show ∃ UA uc, u = .slice UA bs.length uc by obtain ⟨A, c, e, _⟩ := hu; exact ⟨A, c, by rw [e]; simp⟩)
   subst hux
   obtain ⟨bv, hbv⟩ : ∃ bv, bv = g.bv := ⟨_, rfl⟩
   have HBV := Lh hbv
   have HR := Lh (show BytesAt w bv v.bytes by rw [hbv]; exact hok.row.at_)
   obtain ⟨bA, bc, hbvs⟩ := (show ∃ A c, bv = .slice A v.bytes.length c by rw [hbv]; exact own_slice hok.row)
   have k12 := blk_cell hok.blk 12
   simp [rverC] at k12
   rw [← hq, ← hbv, hbvs] at k12
   have k12b : (w.alloc (.cells #[] 5)).cell? ⟨q, 12, none⟩ = some (.slice bA v.bytes.length bc) := (ext_alloc1 w (.cells #[] 5)).cell k12
   rw [hbvs] at HR
   obtain ⟨vb, hvb⟩ : ∃ vb, vb = v.bytes := ⟨_, rfl⟩
   rw [← hvb] at HR k12 k12b HCAP
   have HVB := Lh hvb
   clear h hn em hok hv hg hnow hq hlen hl1 hu hcap hbv hbvs hvb HSAME
   go_enter Try.func47, Try.ntmps47
   go_wp2_with (first | (go_at_call 54; refine HNOW.out.mono ?_; rintro e w1 ⟨rfl, rfl⟩) | (at_builtin; refine wpList_copyE rfl _ _ rfl _ vb HR.out rfl rfl (by have := HCAP.out; omega) ?_; intro v2 W2 r2 x2; refine stop_of ?_))
   unfold Stop
   obtain ⟨A2, c2, rfl⟩ := own_slice r2
   have X2 := Lh x2; have R2 := Lh r2
   clear x2 r2 k4 k12 k12b
   go_wp2_with (at_builtin; refine wpList_appendB rfl _ _ rfl w.heap.size (.slice A2 vb.length c2) (.slice UA bs.length uc) vb bs R2.out (HU.out.ext X2.out) rfl rfl (by have := HCAP.out; omega) X2.out.size ?_; intro v3 W3 r3 g3; refine stop_of ?_)
   unfold Stop
   obtain ⟨A3, c3, hv3⟩ := own_slice r3
   obtain ⟨l3, hl3⟩ : ∃ l3, l3 = vb.length + bs.length := ⟨_, rfl⟩
   rw [show (vb ++ bs).length = l3 by rw [hl3]; simp] at hv3
   subst hv3
   have HL3 := Lh (show l3 = (vb ++ bs).length by rw [hl3]; simp)
   have X3 := Lh (show Ext w W3 from X2.out.trans' R2.out g3)
   have R3 := Lh r3; have B3 := Lh (X3.out.heap HBLK.out)
   clear r3 g3 hl3
   go_wp2_with (refine wpList_put 22 rfl _ _ rfl q 12 110 _ (rverC v.obj (nowM v) g.kv (.slice A3 l3 c3) v.went) [.slice A3 l3 c3] _ B3.out rfl rfl rfl (by simp [rverC]) rfl size22 (by simp [putA, rverC]) ?_; intro W4 x4 n4 s4; refine stop_of ?_)
   unfold Stop
   have k12 := blk_cell n4 12
   simp [rverC] at k12
   have X4 := Lh (show ExtB [q] w W4 from (ExtB.of X3.out [q]).trans x4)
   have N4 := Lh n4
   have hqlt : q < w.heap.size := blk_lt HBLK.out
   have R4 := Lh (show BRow W4 w.heap.size (.slice A3 l3 c3) (vb ++ bs) from own_extB R3.out x4 (fun y hy e => by
    have h1 := (R3.out.lt y e).1
    have h2 : y = q := by simpa using hy
    omega))
   clear x4 n4 s4 X2 R2 X3 R3 B3
   go_wp2_with (refine wpList_put 2 rfl _ _ rfl q 5 110 _ (rverC v.obj { nowM v with hav := l3 } g.kv (.slice A3 l3 c3) v.went) [.int .i64 l3] _ N4.out rfl rfl rfl (by simp [rverC]) rfl size2 (by simp [putA, rverC, nowM]) ?_; intro W5 x5 n5 s5; refine stop_of ?_)
   unfold Stop
   have X5 := Lh (show ExtB [q] w W5 from X4.out.trans x5); have N5 := Lh n5
   have R5 := Lh (show BRow W5 w.heap.size (.slice A3 l3 c3) (vb ++ bs) from own_extB R4.out x5 (fun y hy e => by
    have h1 := (R4.out.lt y e).1
    have h2 : y = q := by simpa using hy
    omega))
   clear x5 n5 s5 k12
   go_wp2
   go_ret
   have ok := OK.out
   rw [HQ.out] at X5 N5
   have hb5 := N5.out
   rw [HL3.out] at hb5
   have hr5 := R5.out
   rw [HL3.out] at hr5
   refine ⟨rfl, ⟨gs.set i ⟨g.b, g.kv, .slice A3 (vb ++ bs).length c3⟩, A, c, HI.out.setV (v' := growV v bs) HV.out HG.out rfl ⟨?_, own_extB ok.keys X5.out ?_, ?_, .inl ok.ob, fun y e => .inl (ok.ok y e), fun y e => .inr ⟨(hr5.lt y e).1, (hr5.lt y e).2⟩, ⟨ok.z.tt, ok.z.keys, ok.z.key, ok.z.ten⟩, by show (v.bytes ++ bs).length ≤ 100000; rw [← HVB.out]; simp; exact HCAP.out⟩ X5.out (fun _ hi => .inl hi) (fun j hj => ?_) (fun j hj => ?_) (HI.out.objs v (List.mem_of_getElem? HV.out))⟩, .ofB X5.out (fun k hk => .inl ?_)⟩
   ·have e : nowM (growV v bs) = { nowM v with hav := ((vb ++ bs).length : Int) } := by simp only [nowM, growV, HVB.out]
    rw [e]; exact hb5
   ·intro y hy e
    have := ok.kk e; rw [show y = g.b by simpa using hy, ok.kb] at this; cases this
   ·show BRow W5 B (.slice A3 (vb ++ bs).length c3) (v.bytes ++ bs)
    rw [← HVB.out]; exact ownsRow_base hr5 HI.out.lowB
   ·rcases hj with hj | hj
    ·exact Nat.lt_of_lt_of_le (HI.out.lt j hj) X5.out.size
    ·exact hj.2
   ·rcases hj with hj | hj
    ·exact HI.out.low j hj
    ·exact Nat.le_trans HI.out.lowB hj.1
   ·rw [show k = g.b by simpa using hk]; exact ok.ob
end
end Go.Proofs.Ytpangoddbfiagaa
namespace Go.Proofs.Ytpangoddbfiagaa
open Go.RowKit Go.Maps Go.ChangeMaps
set_option linter.unusedVariables false
set_option linter.unusedSimpArgs false
set_option maxRecDepth 100000 in
theorem rasks_any (t : Bs) (b : Bool) (w : World) (ht : t.length ≤ 1000000) : Calls Try.prog 75 #[tagV t b] w fun e w' => e = .returned (.bool (askB t b)) ∧ Ext w w' := by
 have HT := Lh fun W => rtag_any t W b ht
 unfold tagV
 obtain ⟨x, hx⟩ : ∃ x, x = askB t b := ⟨_, rfl⟩
 rw [← hx]
 have HX := Lh hx
 clear hx
 cases t with
 | nil =>
  cases b with
  | false =>
   go_enter Try.func75, Try.ntmps75
   go_wp2
   go_ret
   exact ⟨ret_bool (by rw [HX.out]; rfl), ext_alloc1 _ _⟩
  | true =>
   go_enter Try.func75, Try.ntmps75
   go_wp2_with (go_at_call 71; refine (HT.out _).mono ?_; rintro e w1 ⟨rfl, x1⟩; refine stop_of ?_)
   unfold Stop
   have X1 := Lh ((ext_alloc1 w _).trans x1)
   clear x1
   go_wp2
   go_ret
   exact ⟨ret_bool (by rw [HX.out]; simp [askB]), X1.out⟩
 | cons c0 t0 =>
  obtain ⟨yt, hyt⟩ : ∃ y, y = tagB (c0 :: t0) := ⟨_, rfl⟩
  rw [← hyt] at HT
  have YT := Lh hyt
  clear hyt
  go_enter Try.func75, Try.ntmps75
  go_wp2_with (go_at_call 71; refine (HT.out _).mono ?_; rintro e w1 ⟨rfl, x1⟩; refine stop_of ?_)
  unfold Stop
  have X1 := Lh ((ext_alloc1 w _).trans x1)
  clear x1
  go_wp2
  go_ret
  exact ⟨ret_bool (by rw [HX.out, YT.out]; simp [askB]), X1.out⟩
set_option maxRecDepth 100000 in
theorem rspan_any (a b : Int) (w : World) : Calls Try.prog 74 #[.agg #[.int .i64 a, .int .i64 b]] w fun e w' => e = .returned (.bool (spanB a b)) ∧ Ext w w' := by
 obtain ⟨z, hz⟩ : ∃ z, z = spanB a b := ⟨_, rfl⟩
 rw [← hz]
 have Z : Hid (z = (decide (0 ≤ a) && decide (a ≤ b) && decide (b ≤ 4611686018427387904))) := Lh hz
 clear hz
 go_enter Try.func74, Try.ntmps74
 go_wp2_with (refine wpList_boxA 25 rfl _ rfl #[.int .i64 a, .int .i64 b] rfl ?_; intro W0 x0 n0 s0; refine stop_of ?_)
 unfold Stop
 clear s0
 have X0 := Lh x0
 have G0 : ∀ x : Grow [] W0, x.v.cell? ⟨w.heap.size, 0, none⟩ = some (.int .i64 a) := fun x => x.ext.cell (blk_cell n0 0) (by simp)
 have G1 : ∀ x : Grow [] W0, x.v.cell? ⟨w.heap.size, 1, none⟩ = some (.int .i64 b) := fun x => x.ext.cell (blk_cell n0 1) (by simp)
 clear x0 n0
 cases h1 : decide (0 ≤ a) with
 | false =>
  rw [h1] at Z
  go_wp2
  (refine wp_region_grow (by kernel_rfl) (by kernel_rfl) ?_; (repeat (go_big_quiet_step (fail))); refine wpQuiet_nil ?_)
  clear G0 G1 h1
  intro w1 hx1
  go_wp2
  go_ret
  exact ⟨ret_bool (by rw [Z.out]; rfl), X0.out.trans hx1⟩
 | true =>
  cases h2 : decide (a ≤ b) with
  | false =>
   rw [h1, h2] at Z
   go_wp2
   (refine wp_region_grow (by kernel_rfl) (by kernel_rfl) ?_; (repeat (go_big_quiet_step (fail))); refine wpQuiet_nil ?_)
   clear G0 G1 h1 h2
   intro w1 hx1
   go_wp2
   go_ret
   exact ⟨ret_bool (by rw [Z.out]; rfl), X0.out.trans hx1⟩
  | true =>
   obtain ⟨y, hy⟩ : ∃ y, y = decide (b ≤ 4611686018427387904) := ⟨_, rfl⟩
   rw [h1, h2, ← hy] at Z
   go_wp2
   (refine wp_region_grow (by kernel_rfl) (by kernel_rfl) ?_; (repeat (go_big_quiet_step ((go_at_call 82; exact Calls.inGrow_same (end_any _))))); refine wpQuiet_nil ?_)
   clear G0 G1 h1 h2
   intro w1 hx1
   go_wp2
   go_ret
   exact ⟨ret_bool (by rw [Z.out, hy]; rfl), X0.out.trans hx1⟩
theorem ftB_lt {f : Ft} : ftB f = (objB f.obj && spanB f.fr f.to && decide (f.fr < f.to) && askB f.mt f.mw && askB f.nt f.nw) := by
 unfold ftB
 cases h : spanB f.fr f.to
 ·simp
 ·have h1 : f.fr ≤ f.to := by
   have := h; simp [spanB] at this; exact this.1.2
  have : (!(f.fr == f.to)) = decide (f.fr < f.to) := by
   rw [Bool.eq_iff_iff]; simp; omega
  rw [this]
set_option maxRecDepth 100000 in
set_option maxHeartbeats 2000000 in
theorem rright_any (w : World) (f : Ft) (hz : FtZ f) : Calls Try.prog 63 #[.agg (ftC f)] w fun e w' => e = .returned (.bool (ftB f)) ∧ Ext w w' := by
 have HOBJ := Lh fun W => robj_any f.obj W (by have := hz.obj; omega)
 have HSP := Lh fun W => rspan_any f.fr f.to W
 have HM := Lh fun W => rasks_any f.mt f.mw W (by have := hz.mt; omega)
 have HN := Lh fun W => rasks_any f.nt f.nw W (by have := hz.nt; omega)
 obtain ⟨z, hz0⟩ : ∃ z, z = ftB f := ⟨_, rfl⟩
 have Z := Lh (hz0.trans ftB_lt)
 rw [← hz0]
 obtain ⟨y1, hy1⟩ : ∃ y, y = objB f.obj := ⟨_, rfl⟩
 obtain ⟨y2, hy2⟩ : ∃ y, y = spanB f.fr f.to := ⟨_, rfl⟩
 obtain ⟨y3, hy3⟩ : ∃ y, y = askB f.mt f.mw := ⟨_, rfl⟩
 obtain ⟨y4, hy4⟩ : ∃ y, y = askB f.nt f.nw := ⟨_, rfl⟩
 rw [← hy1] at HOBJ Z
 rw [← hy2] at HSP Z
 rw [← hy3] at HM Z
 rw [← hy4] at HN Z
 unfold tagV at HM HN
 clear hz hy1 hy2 hy3 hy4 hz0
 go_enter Try.func63, Try.ntmps63
 go_wp2_with (refine wpList_boxA 29 rfl _ rfl (ftC f) rfl ?_; intro W0 x0 n0 s0; refine stop_of ?_)
 unfold Stop
 clear s0
 have k0 := blk_cell n0 0; have k1 := blk_cell n0 1; have k2 := blk_cell n0 2
 simp [ftC] at k0 k1 k2
 have X0 := Lh x0; have N0 := Lh n0
 clear x0 n0
 go_wp2_with (go_at_call 61; refine (HOBJ.out _).mono ?_; rintro e w1 ⟨rfl, rfl⟩; refine stop_of ?_)
 unfold Stop
 cases y1 with
 | false =>
  go_wp2
  go_ret
  exact ⟨ret_bool (by rw [Z.out]; rfl), X0.out⟩
 | true =>
  go_wp2_with (go_at_call 74; refine (HSP.out _).mono ?_; rintro e w1 ⟨rfl, x1⟩; refine stop_of ?_)
  unfold Stop
  have N1 := Lh (x1.heap N0.out); have X1 := Lh (X0.out.trans x1)
  clear x1 k0 k1 k2 N0 X0
  cases y2 with
  | false =>
   go_wp2
   go_ret
   exact ⟨ret_bool (by rw [Z.out]; rfl), X1.out⟩
  | true =>
   have k1 := blk_cell N1.out 1; have k2 := blk_cell N1.out 2; have k3 := blk_cell N1.out 3; have k4 := blk_cell N1.out 4
   simp [ftC] at k1 k2 k3 k4
   cases hft : decide (f.fr < f.to) with
   | false =>
    rw [hft] at Z
    go_wp2
    go_ret
    exact ⟨ret_bool (by rw [Z.out]; rfl), X1.out⟩
   | true =>
    rw [hft] at Z
    go_wp2_with (go_at_call 75; refine (HM.out _).mono ?_; rintro e w2 ⟨rfl, x2⟩; refine stop_of ?_)
    unfold Stop
    have N2 := Lh (x2.heap N1.out); have X2 := Lh (X1.out.trans x2)
    clear x2 k1 k2 k3 k4 N1 X1
    cases y3 with
    | false =>
     go_wp2
     go_ret
     exact ⟨ret_bool (by rw [Z.out]; rfl), X2.out⟩
    | true =>
     have k5 := blk_cell N2.out 5; have k6 := blk_cell N2.out 6
     simp [ftC] at k5 k6
     go_wp2_with (go_at_call 75; refine (HN.out _).mono ?_; rintro e w3 ⟨rfl, x3⟩; refine stop_of ?_)
     unfold Stop
     have X3 := Lh (X2.out.trans x3)
     clear x3 k5 k6 N2 X2
     go_wp2
     go_ret
     exact ⟨ret_bool (by rw [Z.out]; rfl), X3.out⟩
end Go.Proofs.Ytpangoddbfiagaa
