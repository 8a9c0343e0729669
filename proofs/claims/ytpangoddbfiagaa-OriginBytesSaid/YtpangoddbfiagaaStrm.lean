/- A stream's methods, walked over its block and its version's. -/
import Derived.Test.YtpangoddbfiagaaVers
namespace Go.Proofs.Ytpangoddbfiagaa
open Go.RowKit
set_option linter.unusedVariables false
set_option linter.unusedSimpArgs false

def replyC (st : Int) (m : MetaP) (kv : Value) (fr to : Int) : List Value := [.int .i64 st, .string ⟨m.tt.toArray⟩, .bool m.tw, .int .i64 m.mod, .int .i64 m.len, .int .i64 m.hav, .int .i64 m.fr, .int .i64 m.wh, .int .i64 m.er, kv, .string ⟨m.ten.toArray⟩, .bool m.keep, .int .i64 fr, .int .i64 to, .int .i64 0]
set_option maxRecDepth 100000 in
set_option maxHeartbeats 1000000 in
theorem head_any (w : World) (s : Nat) (p : Option Addr) (st : Int) (m : MetaP) (kv : Value) (fr to at_ : Int) (h : StrAt w s p st m kv fr to at_) (hk : TextsAt w kv m.keys) (hz : MetaZ m) : Calls Try.prog 16 #[.pointer (some ⟨s, 0, none⟩)] w fun e w' => ∃ kv', e = .returned (.agg (replyC st m kv' fr to).toArray) ∧ SRow w' w.heap.size kv' m.keys ∧ Ext w w' := by
  have H := Lib.hid h; have HK := Lib.hid hk; have HZ := Lib.hid hz
  have hb : s < w.heap.size := blk_lt h
  obtain ⟨KA, KC, rfl, _, _, _⟩ := hk
  clear h hz
  go_enter Try.func16, Try.ntmps16
  go_wp2_with (refine wpList_new 49 _ zero49 rfl rfl ?_; intro W1 x1 n1 s1; refine stop_of ?_)
  unfold Stop
  have H1 := Lib.hid (x1.heap H.out); have X1 := Lib.hid x1; have N1 := Lib.hid n1
  clear x1 n1
  go_wp2_with (first | (refine wpList_get 49 _ rfl _ rfl s 1 94 _ (replyC st m (.slice KA m.keys.length KC) fr to) H1.out rfl (by kernel_rfl) Try.underlying49 rfl size49 ?_) | (refine wpList_new 49 _ zero49 rfl rfl ?_; intro W2 x2 n2 s2; refine stop_of ?_))
  unfold Stop
  rw [s1] at n2 s2
  have X2 := Lib.hid (X1.out.trans x2); have N2 := Lib.hid (And.intro (x2.heap N1.out) n2)
  clear x2 n2 H1 X1 N1
  refine wpList_put 49 rfl _ _ rfl _ 0 49 _ (replyC st m (.slice KA m.keys.length KC) fr to).toArray (replyC st m (.slice KA m.keys.length KC) fr to) _ N2.out.2 rfl rfl rfl (by simp [replyC]) rfl size49 (by kernel_rfl) ?_
  intro W3 x3 n3 s3
  have X3 := Lib.hid (X2.out.thenB x3 (by simp)); have N3 := Lib.hid (And.intro (x3.heap N2.out.1 (by simp)) n3)
  have k8 := blk_cell n3 9
  simp [replyC] at k8
  clear x3 n3 X2 N2
  go_wp2_with (at_builtin; refine wpList_copyS rfl _ _ rfl _ m.keys (HK.out.ext X3.out) rfl rfl (by have := HZ.out.keys; omega) ?_; intro kv' W4 t4 x4; refine stop_of ?_)
  unfold Stop
  have T4 := Lib.hid t4; have X4 := Lib.hid (X3.out.trans x4); have N4 := Lib.hid (And.intro (x4.heap N3.out.1) (x4.heap N3.out.2))
  obtain ⟨A5, c5, rfl, _, _, _⟩ := t4.texts
  clear k8 x4 X3 N3 t4
  go_wp2_with (refine wpList_put 36 rfl _ _ rfl _ 9 49 _ (replyC st m (.slice A5 m.keys.length c5) fr to).toArray [.slice A5 m.keys.length c5] _ N4.out.2 rfl rfl rfl (by simp [replyC]) rfl size36 (by kernel_rfl) ?_; intro W5 x5 n5 s5; refine stop_of ?_)
  unfold Stop
  have X5 := Lib.hid (X4.out.thenB x5 (by simp)); have N5 := Lib.hid (And.intro (x5.heap N4.out.1 (by simp)) n5)
  have T5 : Hid (SRow W5 W3.heap.size (.slice A5 m.keys.length c5) m.keys) := Lib.hid (own_extB T4.out x5 (by
    intro g hg
    have : g = w.heap.size + 1 := by simpa using hg
    exact own_low T4.out (by omega)))
  clear x5 n5 X4 N4 T4
  go_wp2_with (first | (refine wpList_get 49 _ rfl _ rfl _ 0 49 _ (replyC st m (.slice A5 m.keys.length c5) fr to) N5.out.2 rfl (by kernel_rfl) Try.underlying49 rfl size49 ?_) | (refine wpList_put 49 rfl _ _ rfl _ 0 49 _ (replyC st m (.slice A5 m.keys.length c5) fr to).toArray (replyC st m (.slice A5 m.keys.length c5) fr to) _ N5.out.1 rfl rfl rfl (by simp [replyC]) rfl size49 (by kernel_rfl) ?_; intro W7 x7 n7 s7; refine stop_of ?_))
  unfold Stop
  have X7 := Lib.hid (X5.out.thenB x7 (by simp)); have N7 := Lib.hid n7
  have T7 : Hid (SRow W7 W3.heap.size (.slice A5 m.keys.length c5) m.keys) := Lib.hid (own_extB T5.out x7 (by
    intro g hg
    have : g = w.heap.size := by simpa using hg
    exact own_low T5.out (by omega)))
  clear x7 n7 X5 N5 T5
  go_wp2
  exact bodyPost_ret (results_cell_row rfl _ _ w.heap.size 49 _ (0, 0) _ rfl N7.out Try.underlying49 rfl size49) rfl ⟨_, rfl, ownsRow_base T7.out (by omega), X7.out⟩
theorem StrAt.grow {w : World} {s : Nat} {p : Option Addr} {st : Int} {m : MetaP} {kv : Value} {fr to at_ : Int} (h : StrAt w s p st m kv fr to at_) (x : Grow [] w) : StrAt x.v s p st m kv fr to at_ := x.ext.heap h (by simp)
theorem VerAt.grow {w : World} {b : Nat} {m : MetaP} {kv bv : Value} {went : Bool} (h : VerAt w b m kv bv went) (x : Grow [] w) : VerAt x.v b m kv bv went := x.ext.heap h (by simp)
set_option maxRecDepth 100000 in
theorem there_none (w : World) (s : Nat) (st : Int) (m : MetaP) (kv : Value) (fr to at_ : Int) (h : StrAt w s none st m kv fr to at_) : Calls Try.prog 45 #[.pointer (some ⟨s, 0, none⟩)] w fun e w' => e = .returned (.int .i64 at_) ∧ w = w' := by
  have k0 := blk_cell h 0; have k16 := blk_cell h 16
  simp [strC] at k0 k16
  clear h
  go_enter Try.func45, Try.ntmps45
  go_wp2
  go_ret
  exact ⟨rfl, rfl⟩
set_option maxRecDepth 100000 in
theorem there_some (w : World) (s b : Nat) (st : Int) (m vm : MetaP) (kv vkv : Value) (A : Option Addr) (n c : Nat) (went : Bool) (fr to at_ : Int) (h : StrAt w s (some ⟨b, 0, none⟩) st m kv fr to at_) (hv : VerAt w b vm vkv (.slice A n c) went) (hn : n ≤ 1000000) : Calls Try.prog 45 #[.pointer (some ⟨s, 0, none⟩)] w fun e w' => e = .returned (.int .i64 (min to n)) ∧ Ext w w' := by
  have k0 := blk_cell h 0
  simp [strC] at k0
  have G0 : ∀ x : Grow [] w, x.v.cell? ⟨s, 0, none⟩ = some (.pointer (some ⟨b, 0, none⟩)) := fun x => x.ext.cell (blk_cell h 0) (by simp)
  have G1 : ∀ x : Grow [] w, x.v.cell? ⟨s, 14, none⟩ = some (.int .i64 to) := fun x => x.ext.cell (blk_cell h 14) (by simp)
  have G2 : ∀ x : Grow [] w, x.v.cell? ⟨b, 11, none⟩ = some (.slice A n c) := fun x => x.ext.cell (blk_cell hv 11) (by simp)
  clear h hv
  by_cases hle : to ≤ (n : Int)
  · rw [Int.min_eq_left hle]
    go_enter Try.func45, Try.ntmps45
    go_wp2
    (refine wp_region_grow (by kernel_rfl) (by kernel_rfl) ?_; (repeat (go_big_quiet_step (fail))); refine wpQuiet_nil ?_)
    clear G0 G1 G2
    intro w1 hx1
    go_wp2
    go_ret
    exact ⟨ret_int (by omega), hx1⟩
  · rw [Int.min_eq_right (by omega)]
    go_enter Try.func45, Try.ntmps45
    go_wp2
    (refine wp_region_grow (by kernel_rfl) (by kernel_rfl) ?_; (repeat (go_big_quiet_step (fail))); refine wpQuiet_nil ?_)
    clear G0 G1 G2
    intro w1 hx1
    go_wp2
    go_ret
    exact ⟨ret_int (by omega), hx1⟩
set_option maxRecDepth 100000 in
theorem has_none (w : World) (s : Nat) (st : Int) (m : MetaP) (kv : Value) (fr to at_ : Int) (h : StrAt w s none st m kv fr to at_) : Calls Try.prog 30 #[.pointer (some ⟨s, 0, none⟩)] w fun e w' => e = .returned (.int .i64 3) ∧ Ext w w' := by
  have G0 : ∀ x : Grow [] w, x.v.cell? ⟨s, 16, none⟩ = some (.int .i64 at_) := fun x => x.ext.cell (blk_cell h 16) (by simp)
  have H := Lib.hid h
  have d0 : decide (at_ < at_) = false := by simp
  clear h
  go_enter Try.func30, Try.ntmps30
  go_wp2
  (refine wp_region_grow (by kernel_rfl) (by kernel_rfl) ?_; (repeat (go_big_quiet_step ((go_at_call 45; exact Calls.inGrow_same (there_none _ s st m kv fr to at_ (H.out.grow _)))))); refine wpQuiet_nil ?_)
  clear G0
  intro w1 hx1
  have G0 : ∀ x : Grow [] w1, x.v.cell? ⟨s, 0, none⟩ = some (.pointer none) := fun x => x.ext.cell (blk_cell (hx1.heap H.out) 0) (by simp)
  have X1 := Lib.hid hx1
  clear hx1
  go_wp2
  (refine wp_region_grow (by kernel_rfl) (by kernel_rfl) ?_; (repeat (go_big_quiet_step (fail))); refine wpQuiet_nil ?_)
  clear G0
  intro w2 hx2
  go_wp2
  go_ret
  exact ⟨rfl, X1.out.trans hx2⟩
/-- What a stream has. -/
def hasZ (to at_ : Int) (n : Nat) (gr went : Bool) : Int := if at_ < min to n then 1 else if to ≤ at_ ∨ gr = false then 3 else if went = true then 4 else 2
set_option maxRecDepth 100000 in
set_option maxHeartbeats 1000000 in
theorem has_some (w : World) (s b : Nat) (st : Int) (m vm : MetaP) (kv vkv : Value) (A : Option Addr) (n c : Nat) (went : Bool) (fr to at_ : Int) (h : StrAt w s (some ⟨b, 0, none⟩) st m kv fr to at_) (hv : VerAt w b vm vkv (.slice A n c) went) (hn : n ≤ 1000000) : Calls Try.prog 30 #[.pointer (some ⟨s, 0, none⟩)] w fun e w' => e = .returned (.int .i64 (hasZ to at_ n (vm.len == -1) went)) ∧ Ext w w' := by
  have G0 : ∀ x : Grow [] w, x.v.cell? ⟨s, 16, none⟩ = some (.int .i64 at_) := fun x => x.ext.cell (blk_cell h 16) (by simp)
  have H := Lib.hid h; have HV := Lib.hid hv; have HN := Lib.hid hn
  clear h hv hn
  by_cases h1 : at_ < min to n
  · have e0 : hasZ to at_ n (vm.len == -1) went = 1 := by unfold hasZ; rw [if_pos h1]
    rw [e0]
    have d0 : decide (at_ < min to n) = true := decide_eq_true h1
    clear e0 h1
    go_enter Try.func30, Try.ntmps30
    go_wp2
    (refine wp_region_grow (by kernel_rfl) (by kernel_rfl) ?_; (repeat (go_big_quiet_step ((go_at_call 45; exact Calls.inGrow (there_some _ s b st m vm kv vkv A n c went fr to at_ (H.out.grow _) (HV.out.grow _) HN.out))))); refine wpQuiet_nil ?_)
    clear G0
    intro w1 hx1
    go_wp2
    go_ret
    exact ⟨rfl, hx1⟩
  · have d0 : decide (at_ < min to n) = false := decide_eq_false h1
    obtain ⟨z, hz⟩ : ∃ z, z = hasZ to at_ n (vm.len == -1) went := ⟨_, rfl⟩
    have hz' : z = if to ≤ at_ ∨ (vm.len == -1) = false then 3 else if went = true then 4 else 2 := by rw [hz]; unfold hasZ; rw [if_neg h1]
    rw [← hz]
    have HZ := Lib.hid hz'
    clear hz hz' h1
    go_enter Try.func30, Try.ntmps30
    go_wp2
    (refine wp_region_grow (by kernel_rfl) (by kernel_rfl) ?_; (repeat (go_big_quiet_step ((go_at_call 45; exact Calls.inGrow (there_some _ s b st m vm kv vkv A n c went fr to at_ (H.out.grow _) (HV.out.grow _) HN.out))))); refine wpQuiet_nil ?_)
    clear G0
    intro w1 hx1
    have H1 := Lib.hid (show StrAt w1 s _ st m kv fr to at_ from hx1.heap H.out); have HV1 := Lib.hid (show VerAt w1 b vm vkv _ went from hx1.heap HV.out); have X1 := Lib.hid hx1
    have G0 : ∀ x : Grow [] w1, x.v.cell? ⟨s, 0, none⟩ = some (.pointer (some ⟨b, 0, none⟩)) := fun x => x.ext.cell (blk_cell H1.out 0) (by simp)
    have G1 : ∀ x : Grow [] w1, x.v.cell? ⟨s, 14, none⟩ = some (.int .i64 to) := fun x => x.ext.cell (blk_cell H1.out 14) (by simp)
    have G2 : ∀ x : Grow [] w1, x.v.cell? ⟨s, 16, none⟩ = some (.int .i64 at_) := fun x => x.ext.cell (blk_cell H1.out 16) (by simp)
    clear hx1 H HV d0
    by_cases h2 : to ≤ at_
    · have d2 : decide (to ≤ at_) = true := decide_eq_true h2
      have Z : Hid (z = 3) := Lib.hid (by rw [HZ.out, if_pos (.inl h2)])
      clear h2
      go_wp2
      (refine wp_region_grow (by kernel_rfl) (by kernel_rfl) ?_; (repeat (go_big_quiet_step (fail))); refine wpQuiet_nil ?_)
      clear G0 G1 G2 d2
      intro w2 hx2
      go_wp2
      go_ret
      exact ⟨ret_int Z.out.symm, X1.out.trans hx2⟩
    · have d2 : decide (to ≤ at_) = false := decide_eq_false h2
      obtain ⟨gr, hgr⟩ : ∃ gr, gr = (vm.len == -1) := ⟨_, rfl⟩
      have HC : Hid (∀ x : Grow [] w1, Calls Try.prog 43 #[.pointer (some ⟨b, 0, none⟩)] x.v fun e w' => e = .returned (.bool gr) ∧ x.v = w') := Lib.hid fun x => by rw [hgr]; exact grows_any x.v b vm vkv _ went (HV1.out.grow x)
      rw [← hgr] at HZ
      have H2 := Lib.hid h2
      clear hgr h2
      cases gr with
      | false =>
        have Z : Hid (z = 3) := Lib.hid (by rw [HZ.out, if_pos (.inr rfl)])
        go_wp2
        (refine wp_region_grow (by kernel_rfl) (by kernel_rfl) ?_; (repeat (go_big_quiet_step ((go_at_call 43; exact Calls.inGrow_same (HC.out _))))); refine wpQuiet_nil ?_)
        clear G0 G1 G2 d2
        intro w2 hx2
        go_wp2
        go_ret
        exact ⟨ret_int Z.out.symm, X1.out.trans hx2⟩
      | true =>
        have Z : Hid (z = if went = true then 4 else 2) := Lib.hid (by rw [HZ.out, if_neg (by have := H2.out; simp; omega)])
        go_wp2
        (refine wp_region_grow (by kernel_rfl) (by kernel_rfl) ?_; (repeat (go_big_quiet_step ((go_at_call 43; exact Calls.inGrow_same (HC.out _))))); refine wpQuiet_nil ?_)
        clear G0 G1 G2 d2
        intro w2 hx2
        have k0 := blk_cell (hx2.heap H1.out) 0; have k12 := blk_cell (hx2.heap HV1.out) 12
        simp [strC, verC] at k0 k12
        have X2 := Lib.hid (X1.out.trans hx2)
        clear hx2 X1
        cases went with
        | true =>
          go_wp2
          go_ret
          exact ⟨ret_int (by rw [Z.out]; rfl), X2.out⟩
        | false =>
          go_wp2
          go_ret
          exact ⟨ret_int (by rw [Z.out]; rfl), X2.out⟩
end Go.Proofs.Ytpangoddbfiagaa
