/- Take, walked over a stream's block and its version's. -/
import Derived.Test.YtpangoddbfiagaaStrm
namespace Go.Proofs.Ytpangoddbfiagaa
open Go.RowKit
set_option linter.unusedVariables false
set_option linter.unusedSimpArgs false

set_option maxRecDepth 100000 in
set_option maxHeartbeats 1000000 in
theorem take_none (w : World) (s : Nat) (st : Int) (m : MetaP) (kv : Value) (fr to at_ k : Int) (h : StrAt w s none st m kv fr to at_) : Calls Try.prog 18 #[.pointer (some ⟨s, 0, none⟩), .int .i64 k] w fun e w' => e = .returned (.tuple #[.slice none 0 0, .int .i64 3]) ∧ Ext w w' := by
  have G0 : ∀ x : Grow [] w, x.v.cell? ⟨s, 16, none⟩ = some (.int .i64 at_) := fun x => x.ext.cell (blk_cell h 16) (by simp)
  have H := Lib.hid h
  have e8 : IntKind.i64.wrap (at_ - at_) = 0 := by rw [Int.sub_self]; rfl
  clear h
  by_cases hk : k ≤ 0
  · have hk1 : k < 1 := by omega
    go_enter Try.func18, Try.ntmps18
    go_wp2
    (refine wp_region_grow (by kernel_rfl) (by kernel_rfl) ?_; (repeat (go_big_quiet_step ((go_at_call 45; exact Calls.inGrow_same (there_none _ s st m kv fr to at_ (H.out.grow _)))))); refine wpQuiet_nil ?_)
    clear G0 e8
    intro w1 hx1
    have X1 := Lib.hid hx1
    clear hx1
    go_wp2_with (go_at_call 30; refine (has_none _ s st m kv fr to at_ (X1.out.heap H.out)).mono ?_; rintro e w2 ⟨rfl, x2⟩)
    go_ret2
    exact ⟨rfl, X1.out.trans x2⟩
  · go_enter Try.func18, Try.ntmps18
    go_wp2
    (refine wp_region_grow (by kernel_rfl) (by kernel_rfl) ?_; (repeat (go_big_quiet_step ((go_at_call 45; exact Calls.inGrow_same (there_none _ s st m kv fr to at_ (H.out.grow _)))))); refine wpQuiet_nil ?_)
    clear G0 e8
    intro w1 hx1
    have X1 := Lib.hid hx1
    clear hx1
    go_wp2_with (go_at_call 30; refine (has_none _ s st m kv fr to at_ (X1.out.heap H.out)).mono ?_; rintro e w2 ⟨rfl, x2⟩)
    go_ret2
    exact ⟨rfl, X1.out.trans x2⟩
/-- How many bytes a taking tells. -/
def takeN (to at_ k : Int) (n : Nat) : Int := min k (min to n - at_)
set_option maxRecDepth 100000 in
set_option maxHeartbeats 1000000 in
theorem take_low (w : World) (s b : Nat) (st : Int) (m vm : MetaP) (kv vkv : Value) (A : Option Addr) (n c : Nat) (went : Bool) (fr to at_ k : Int) (h : StrAt w s (some ⟨b, 0, none⟩) st m kv fr to at_) (hv : VerAt w b vm vkv (.slice A n c) went) (hn : n ≤ 1000000) (ha : 0 ≤ at_) (ha2 : at_ ≤ 4611686018427387904) (ht : 0 ≤ to) (ht2 : to ≤ 4611686018427387904) (hk : takeN to at_ k n < 1) :
    Calls Try.prog 18 #[.pointer (some ⟨s, 0, none⟩), .int .i64 k] w fun e w' => e = .returned (.tuple #[.slice none 0 0, .int .i64 (hasZ to at_ n (vm.len == -1) went)]) ∧ Ext w w' := by
  have G0 : ∀ x : Grow [] w, x.v.cell? ⟨s, 16, none⟩ = some (.int .i64 at_) := fun x => x.ext.cell (blk_cell h 16) (by simp)
  have H := Lib.hid h; have HV := Lib.hid hv; have HN := Lib.hid hn
  have e8 : IntKind.i64.wrap (min to n - at_) = min to n - at_ := IntWalk.i64_in _ (by omega)
  obtain ⟨z, hz⟩ : ∃ z, z = hasZ to at_ n (vm.len == -1) went := ⟨_, rfl⟩
  have HC : Hid (∀ W, Ext w W → Calls Try.prog 30 #[.pointer (some ⟨s, 0, none⟩)] W fun e w' => e = .returned (.int .i64 z) ∧ Ext W w') := Lib.hid fun W x => by rw [hz]; exact has_some W s b st m vm kv vkv A n c went fr to at_ (x.heap H.out) (x.heap HV.out) HN.out
  rw [← hz]
  unfold takeN at hk
  clear h hv hn hz ha ha2 ht ht2
  by_cases hle : k ≤ min to n - at_
  · have hk1 : k < 1 := by omega
    clear hk
    go_enter Try.func18, Try.ntmps18
    go_wp2
    (refine wp_region_grow (by kernel_rfl) (by kernel_rfl) ?_; (repeat (go_big_quiet_step ((go_at_call 45; exact Calls.inGrow (there_some _ s b st m vm kv vkv A n c went fr to at_ (H.out.grow _) (HV.out.grow _) HN.out))))); refine wpQuiet_nil ?_)
    clear G0 e8
    intro w1 hx1
    have X1 := Lib.hid hx1
    clear hx1
    go_wp2_with (go_at_call 30; refine (HC.out _ X1.out).mono ?_; rintro e w2 ⟨rfl, x2⟩)
    go_ret2
    exact ⟨rfl, X1.out.trans x2⟩
  · have hk1 : min to n - at_ < 1 := by omega
    clear hk
    go_enter Try.func18, Try.ntmps18
    go_wp2
    (refine wp_region_grow (by kernel_rfl) (by kernel_rfl) ?_; (repeat (go_big_quiet_step ((go_at_call 45; exact Calls.inGrow (there_some _ s b st m vm kv vkv A n c went fr to at_ (H.out.grow _) (HV.out.grow _) HN.out))))); refine wpQuiet_nil ?_)
    clear G0 e8
    intro w1 hx1
    have X1 := Lib.hid hx1
    clear hx1
    go_wp2_with (go_at_call 30; refine (HC.out _ X1.out).mono ?_; rintro e w2 ⟨rfl, x2⟩)
    go_ret2
    exact ⟨rfl, X1.out.trans x2⟩
theorem sub_bytes {w : World} {base g cap i k : Nat} {bs : Bs} (h : BRow w base (.slice (some ⟨g, 0, none⟩) bs.length cap) bs) (hi : i + k ≤ bs.length) : BytesAt w (.slice (some ⟨g, i, none⟩) k (cap - i)) ((bs.drop i).take k) := by
  have hc : bs.length ≤ cap := by
    rcases h.2 with ⟨e, _⟩ | ⟨g', cap', cur, e, _, _, h1, _⟩
    · cases e
    · cases e; exact h1
  have hl : (((bs.drop i).take k).map byteV).length = k := by simp; omega
  refine ⟨some ⟨g, i, none⟩, cap - i, by rw [hl], by rw [hl]; omega, fun e => (by cases e), fun j hj => ⟨g, i, rfl, ?_⟩⟩
  rw [hl] at hj
  have h' : w.ownsRow base 5 1 (.slice (some ⟨g, 0, none⟩) bs.length cap) bs.length (bs.map byteV) := h
  rw [World.ownsRow.cellAt h' _ (by omega), List.getElem?_eq_getElem (by simp; omega)]
  congr 1
  simp
set_option maxRecDepth 100000 in
set_option maxHeartbeats 2000000 in
theorem take_some (w : World) (s b g base : Nat) (st : Int) (m vm : MetaP) (kv vkv : Value) (cap : Nat) (bs : Bs) (went : Bool) (fr to k : Int) (at_ kk : Nat) (h : StrAt w s (some ⟨b, 0, none⟩) st m kv fr to at_) (hv : VerAt w b vm vkv (.slice (some ⟨g, 0, none⟩) bs.length cap) went) (hr : BRow w base (.slice (some ⟨g, 0, none⟩) bs.length cap) bs) (hn : bs.length ≤ 1000000) (ht : 0 ≤ to) (ht2 : to ≤ 4611686018427387904) (hk : takeN to at_ k bs.length = kk) (hk1 : 1 ≤ kk) (hsb : s ≠ b) (hsg : s ≠ g) :
    Calls Try.prog 18 #[.pointer (some ⟨s, 0, none⟩), .int .i64 k] w fun e w' => ∃ v, e = .returned (.tuple #[v, .int .i64 (hasZ to ((at_ : Int) + kk) bs.length (vm.len == -1) went)]) ∧ BRow w' w.heap.size v ((bs.drop at_).take kk) ∧ StrAt w' s (some ⟨b, 0, none⟩) st m kv fr to ((at_ : Int) + kk) ∧ ExtB [s] w w' := by
  unfold takeN at hk
  have hak : at_ + kk ≤ bs.length := by omega
  have hcap : bs.length ≤ cap ∧ cap ≤ maxLen := by
    rcases hr.2 with ⟨e, _⟩ | ⟨g', cap', cur, e, _, _, h1, h2, _⟩
    · cases e
    · cases e; exact ⟨h1, h2⟩
  unfold maxLen at hcap
  have G0 : ∀ x : Grow [] w, x.v.cell? ⟨s, 16, none⟩ = some (.int .i64 at_) := fun x => x.ext.cell (blk_cell h 16) (by simp)
  have H := Lib.hid h; have HV := Lib.hid hv; have HN := Lib.hid hn; have HR := Lib.hid hr
  have e8 : IntKind.i64.wrap (min to (bs.length : Int) - at_) = min to bs.length - at_ := IntWalk.i64_in _ (by omega)
  obtain ⟨z, hz⟩ : ∃ z, z = hasZ to ((at_ : Int) + kk) bs.length (vm.len == -1) went := ⟨_, rfl⟩
  have HC : Hid (∀ W, StrAt W s (some ⟨b, 0, none⟩) st m kv fr to ((at_ : Int) + kk) → VerAt W b vm vkv (.slice (some ⟨g, 0, none⟩) bs.length cap) went → Calls Try.prog 30 #[.pointer (some ⟨s, 0, none⟩)] W fun e w' => e = .returned (.int .i64 z) ∧ Ext W w') := Lib.hid fun W x y => by rw [hz]; exact has_some W s b st m vm kv vkv _ _ cap went fr to _ x y HN.out
  rw [← hz]
  obtain ⟨n, hnn⟩ : ∃ n, n = bs.length := ⟨_, rfl⟩
  rw [← hnn] at HV HR HN HC e8 hak hcap hk
  have HNN := Lib.hid hnn
  have HM : Hid (min k (min to (n : Int) - at_) = kk) := Lib.hid hk
  clear h hv hn hz hr hnn
  have hkk : ¬ (kk : Int) < 1 := by omega
  have hle : (k ≤ min to n - at_ ∧ k = kk) ∨ (¬ k ≤ min to n - at_ ∧ min to n - at_ = kk) := by omega
  clear hk ht ht2
  rcases hle with ⟨hle, rfl⟩ | ⟨hle, hle2⟩
  · clear HM
    go_enter Try.func18, Try.ntmps18
    go_wp2
    (refine wp_region_grow (by kernel_rfl) (by kernel_rfl) ?_; (repeat (go_big_quiet_step ((go_at_call 45; exact Calls.inGrow (there_some _ s b st m vm kv vkv _ n cap went fr to at_ (H.out.grow _) (HV.out.grow _) HN.out))))); refine wpQuiet_nil ?_)
    clear G0 e8
    intro w1 hx1
    have X1 := Lib.hid hx1
    clear hx1
    go_wp2
    have G0 : ∀ x : Grow [] w1.drew, x.v.cell? ⟨s, 0, none⟩ = some (.pointer (some ⟨b, 0, none⟩)) := fun x => x.ext.cell (a := w1.drew) (blk_cell (X1.out.heap H.out) 0) (by simp)
    have G1 : ∀ x : Grow [] w1.drew, x.v.cell? ⟨s, 16, none⟩ = some (.int .i64 at_) := fun x => x.ext.cell (a := w1.drew) (blk_cell (X1.out.heap H.out) 16) (by simp)
    have G2 : ∀ x : Grow [] w1.drew, x.v.cell? ⟨b, 11, none⟩ = some (.slice (some ⟨g, 0, none⟩) n cap) := fun x => x.ext.cell (a := w1.drew) (blk_cell (X1.out.heap HV.out) 11) (by simp)
    refine wp_region_segs [] [.inl [0, 1, 2, 3, 4, 5, 6, 7, 8, 9, 10, 11, 12, 13, 14, 15, 16, 17], .inr (.inr 18), .inl [19]] (by kernel_rfl) (by kernel_rfl) (fun c a d v w h => by cases d <;> exact h) ?_
    (rw [wpSegs_inl]; simp only [pickOps, List.map_cons, List.map_nil, List.getD_cons_succ, List.getD_cons_zero]; (repeat (go_big_quiet_step (fail))); refine wpQuiet_nil ?_)
    clear G0 G1 G2
    have HS : Hid (BytesAt w1.drew (.slice (some ⟨g, at_, none⟩) (at_ + kk - at_) (cap - at_)) ((bs.drop at_).take kk)) := Lib.hid (by
      rw [Nat.add_sub_cancel_left]
      have := HR.out
      rw [HNN.out] at this
      exact (sub_bytes this (by have := HNN.out; omega)).ext (X1.out.drew))
    (rw [wpSegs_last]; simp only [pickOps, List.map_cons, List.map_nil, List.getD_cons_succ, List.getD_cons_zero]; go_wp2_with ((at_builtin; refine wpList_copyB rfl _ _ rfl _ ((bs.drop at_).take kk) HS.out rfl rfl (by simp; have := HN.out; have := HNN.out; omega) ?_)))
    intro v W2 r2 x2
    have X2 : Hid (Ext w W2) := Lib.hid (X1.out.drew.trans x2)
    have hsz : w.heap.size ≤ w1.drew.heap.size := X1.out.size
    have R2 := Lib.hid (ownsRow_base r2 hsz)
    have k16 := blk_cell (X2.out.heap H.out) 16
    simp [strC] at k16
    clear x2 r2 HS hsz
    go_wp2_with fail
    (rw [wpSegs_inl]; simp only [pickOps, List.map_cons, List.map_nil, List.getD_cons_succ, List.getD_cons_zero]; (repeat (go_big_quiet_step (fail))); refine wpQuiet_nil ?_)
    rw [wpSegs_nil]
    go_wp2_with (refine wpList_put 2 rfl _ _ rfl _ 16 94 _ (strC (some ⟨b, 0, none⟩) st m kv fr to ((at_ : Int) + kk)) [.int .i64 ((at_ : Int) + kk)] (.int .i64 ((at_ : Int) + kk)) (X2.out.heap H.out) rfl rfl rfl (by simp [strC]) rfl size2 (by simp [putA, strC]) ?_; intro W3 x3 n3 s3; refine stop_of ?_)
    unfold Stop
    have hlt : s < w.heap.size := blk_lt H.out
    have XB : Hid (ExtB [s] w W3) := Lib.hid ((ExtB.of X2.out [s]).trans x3)
    have R3 := Lib.hid (show BRow W3 w.heap.size v ((bs.drop at_).take kk) from own_extB R2.out x3 (by
      intro q hq
      have : q = s := by simpa using hq
      exact own_low R2.out (by omega)))
    have N3 := Lib.hid n3
    have V3 := Lib.hid (x3.heap (X2.out.heap HV.out) (by simpa using fun e => hsb e.symm))
    clear x3 n3 k16
    go_wp2_with (go_at_call 30; refine (HC.out _ N3.out V3.out).mono ?_; rintro e W4 ⟨rfl, x4⟩; refine stop_of ?_)
    unfold Stop
    have XC := Lib.hid (XB.out.trans (.of x4 [s])); have R4 := Lib.hid (show BRow W4 w.heap.size v ((bs.drop at_).take kk) from ownsRow_below R3.out x4); have N4 := Lib.hid (x4.heap N3.out)
    clear x4
    go_wp2
    go_ret2
    exact ⟨_, rfl, R4.out, N4.out, XC.out⟩
  · clear HM
    rw [hle2] at hle
    have HLE2 := Lib.hid hle2
    rw [← hle2] at hle
    clear hle2
    go_enter Try.func18, Try.ntmps18
    go_wp2
    (refine wp_region_grow (by kernel_rfl) (by kernel_rfl) ?_; (repeat (go_big_quiet_step ((go_at_call 45; exact Calls.inGrow (there_some _ s b st m vm kv vkv _ n cap went fr to at_ (H.out.grow _) (HV.out.grow _) HN.out))))); refine wpQuiet_nil ?_)
    clear G0 e8
    intro w1 hx1
    have X1 := Lib.hid hx1
    clear hx1
    rw [HLE2.out]
    go_wp2
    have G0 : ∀ x : Grow [] w1.drew, x.v.cell? ⟨s, 0, none⟩ = some (.pointer (some ⟨b, 0, none⟩)) := fun x => x.ext.cell (a := w1.drew) (blk_cell (X1.out.heap H.out) 0) (by simp)
    have G1 : ∀ x : Grow [] w1.drew, x.v.cell? ⟨s, 16, none⟩ = some (.int .i64 at_) := fun x => x.ext.cell (a := w1.drew) (blk_cell (X1.out.heap H.out) 16) (by simp)
    have G2 : ∀ x : Grow [] w1.drew, x.v.cell? ⟨b, 11, none⟩ = some (.slice (some ⟨g, 0, none⟩) n cap) := fun x => x.ext.cell (a := w1.drew) (blk_cell (X1.out.heap HV.out) 11) (by simp)
    refine wp_region_segs [] [.inl [0, 1, 2, 3, 4, 5, 6, 7, 8, 9, 10, 11, 12, 13, 14, 15, 16, 17], .inr (.inr 18), .inl [19]] (by kernel_rfl) (by kernel_rfl) (fun c a d v w h => by cases d <;> exact h) ?_
    (rw [wpSegs_inl]; simp only [pickOps, List.map_cons, List.map_nil, List.getD_cons_succ, List.getD_cons_zero]; (repeat (go_big_quiet_step (fail))); refine wpQuiet_nil ?_)
    clear G0 G1 G2
    have HS : Hid (BytesAt w1.drew (.slice (some ⟨g, at_, none⟩) (at_ + kk - at_) (cap - at_)) ((bs.drop at_).take kk)) := Lib.hid (by
      rw [Nat.add_sub_cancel_left]
      have := HR.out
      rw [HNN.out] at this
      exact (sub_bytes this (by have := HNN.out; omega)).ext (X1.out.drew))
    (rw [wpSegs_last]; simp only [pickOps, List.map_cons, List.map_nil, List.getD_cons_succ, List.getD_cons_zero]; go_wp2_with ((at_builtin; refine wpList_copyB rfl _ _ rfl _ ((bs.drop at_).take kk) HS.out rfl rfl (by simp; have := HN.out; have := HNN.out; omega) ?_)))
    intro v W2 r2 x2
    have X2 : Hid (Ext w W2) := Lib.hid (X1.out.drew.trans x2)
    have hsz : w.heap.size ≤ w1.drew.heap.size := X1.out.size
    have R2 := Lib.hid (ownsRow_base r2 hsz)
    have k16 := blk_cell (X2.out.heap H.out) 16
    simp [strC] at k16
    clear x2 r2 HS hsz
    go_wp2_with fail
    (rw [wpSegs_inl]; simp only [pickOps, List.map_cons, List.map_nil, List.getD_cons_succ, List.getD_cons_zero]; (repeat (go_big_quiet_step (fail))); refine wpQuiet_nil ?_)
    rw [wpSegs_nil]
    go_wp2_with (refine wpList_put 2 rfl _ _ rfl _ 16 94 _ (strC (some ⟨b, 0, none⟩) st m kv fr to ((at_ : Int) + kk)) [.int .i64 ((at_ : Int) + kk)] (.int .i64 ((at_ : Int) + kk)) (X2.out.heap H.out) rfl rfl rfl (by simp [strC]) rfl size2 (by simp [putA, strC]) ?_; intro W3 x3 n3 s3; refine stop_of ?_)
    unfold Stop
    have hlt : s < w.heap.size := blk_lt H.out
    have XB : Hid (ExtB [s] w W3) := Lib.hid ((ExtB.of X2.out [s]).trans x3)
    have R3 := Lib.hid (show BRow W3 w.heap.size v ((bs.drop at_).take kk) from own_extB R2.out x3 (by
      intro q hq
      have : q = s := by simpa using hq
      exact own_low R2.out (by omega)))
    have N3 := Lib.hid n3
    have V3 := Lib.hid (x3.heap (X2.out.heap HV.out) (by simpa using fun e => hsb e.symm))
    clear x3 n3 k16
    go_wp2_with (go_at_call 30; refine (HC.out _ N3.out V3.out).mono ?_; rintro e W4 ⟨rfl, x4⟩; refine stop_of ?_)
    unfold Stop
    have XC := Lib.hid (XB.out.trans (.of x4 [s])); have R4 := Lib.hid (show BRow W4 w.heap.size v ((bs.drop at_).take kk) from ownsRow_below R3.out x4); have N4 := Lib.hid (x4.heap N3.out)
    clear x4
    go_wp2
    go_ret2
    exact ⟨_, rfl, R4.out, N4.out, XC.out⟩
end Go.Proofs.Ytpangoddbfiagaa
