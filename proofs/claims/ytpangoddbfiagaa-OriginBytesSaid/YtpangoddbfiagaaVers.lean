/- A version and a stream in memory; what only reads them, walked. -/
import Derived.Test.YtpangoddbfiagaaBig
namespace Go.Proofs.Ytpangoddbfiagaa
open Go.RowKit
set_option linter.unusedVariables false
set_option linter.unusedSimpArgs false

def verC (m : MetaP) (kv bv : Value) (went : Bool) : Array Value := #[.string ⟨m.tt.toArray⟩, .bool m.tw, .int .i64 m.mod, .int .i64 m.len, .int .i64 m.hav, .int .i64 m.fr, .int .i64 m.wh, .int .i64 m.er, kv, .string ⟨m.ten.toArray⟩, .bool m.keep, bv, .bool went]
def VerAt (w : World) (b : Nat) (m : MetaP) (kv bv : Value) (went : Bool) : Prop := w.heap[b]? = some (.cells (verC m kv bv went) 90 (0, 0))
def strC (p : Option Addr) (st : Int) (m : MetaP) (kv : Value) (fr to at_ : Int) : Array Value := #[.pointer p, .int .i64 st, .string ⟨m.tt.toArray⟩, .bool m.tw, .int .i64 m.mod, .int .i64 m.len, .int .i64 m.hav, .int .i64 m.fr, .int .i64 m.wh, .int .i64 m.er, kv, .string ⟨m.ten.toArray⟩, .bool m.keep, .int .i64 fr, .int .i64 to, .int .i64 0, .int .i64 at_]
def StrAt (w : World) (b : Nat) (p : Option Addr) (st : Int) (m : MetaP) (kv : Value) (fr to at_ : Int) : Prop := w.heap[b]? = some (.cells (strC p st m kv fr to at_) 94 (0, 0))
theorem Ext.thenB {w W W1 : World} {X : List Nat} (h : Ext w W) (k : ExtB X W W1) (hx : ∀ g ∈ X, w.heap.size ≤ g) : Ext w W1 :=
  ⟨k.os.trans h.os, k.tape.trans h.tape, k.output.trans h.output, Nat.le_trans h.size k.size, fun i hi => (k.block i (h.lt hi) (fun hh => by have := hx i hh; omega)).trans (h.block i hi)⟩
set_option maxRecDepth 100000 in
theorem grows_any (w : World) (b : Nat) (m : MetaP) (kv bv : Value) (went : Bool) (h : VerAt w b m kv bv went) : Calls Try.prog 43 #[.pointer (some ⟨b, 0, none⟩)] w fun e w' => e = .returned (.bool (m.len == -1)) ∧ w = w' := by
  have k3 := blk_cell h 3
  simp [verC] at k3
  clear h
  go_enter Try.func43, Try.ntmps43
  go_wp2
  go_ret
  exact ⟨rfl, rfl⟩
set_option maxRecDepth 100000 in
set_option maxHeartbeats 1000000 in
theorem now_any (w : World) (b : Nat) (m : MetaP) (kv : Value) (A : Option Addr) (n c : Nat) (went : Bool) (h : VerAt w b m kv (.slice A n c) went) (hk : TextsAt w kv m.keys) (hz : MetaZ m) (hn : n ≤ 1000000) : Calls Try.prog 41 #[.pointer (some ⟨b, 0, none⟩)] w fun e w' => ∃ kv', e = .returned (metaV { m with hav := n } kv') ∧ SRow w' w.heap.size kv' m.keys ∧ Ext w w' := by
  have k0 := blk_cell h 0; have k1 := blk_cell h 1; have k2 := blk_cell h 2; have k3 := blk_cell h 3; have k4 := blk_cell h 4; have k5 := blk_cell h 5; have k6 := blk_cell h 6; have k7 := blk_cell h 7; have k8 := blk_cell h 8; have k9 := blk_cell h 9; have k10 := blk_cell h 10; have k11 := blk_cell h 11
  simp [verC] at k0 k1 k2 k3 k4 k5 k6 k7 k8 k9 k10 k11
  have H := Lib.hid h; have HK := Lib.hid hk; have HZ := Lib.hid hz
  have hb : b < w.heap.size := blk_lt h
  obtain ⟨KA, KC, rfl, _, _, _⟩ := hk
  clear h hz k0 k1 k2 k3 k4 k5 k6 k7 k8 k9 k10 k11
  go_enter Try.func41, Try.ntmps41
  go_wp2_with (refine wpList_new 38 _ zero38 rfl rfl ?_; intro W1 x1 n1 s1; refine stop_of ?_)
  unfold Stop
  have H1 := Lib.hid (x1.heap H.out); have X1 := Lib.hid x1; have N1 := Lib.hid n1
  clear x1 n1
  go_wp2_with (first | (refine wpList_get 38 _ rfl _ rfl b 0 90 _ (metaC m (.slice KA m.keys.length KC)) H1.out rfl rfl Try.underlying38 rfl size38 ?_) | (refine wpList_new 38 _ zero38 rfl rfl ?_; intro W2 x2 n2 s2; refine stop_of ?_))
  unfold Stop
  rw [s1] at n2 s2
  have H2 := Lib.hid (x2.heap H1.out); have X2 := Lib.hid (X1.out.trans x2); have N2 := Lib.hid (And.intro (x2.heap N1.out) n2)
  clear x2 n2 H1 X1 N1
  refine wpList_put 38 rfl _ _ rfl _ 0 38 _ (metaC m (.slice KA m.keys.length KC)).toArray (metaC m (.slice KA m.keys.length KC)) _ N2.out.2 rfl rfl rfl (by simp [metaC]) rfl size38 (by kernel_rfl) ?_
  intro W3 x3 n3 s3
  have X3 := Lib.hid (X2.out.thenB x3 (by simp))
  have N3 := Lib.hid (And.intro (x3.heap N2.out.1 (by simp)) n3)
  have k8 := blk_cell n3 8
  simp [metaC] at k8
  clear x3 n3 H2 X2 N2
  go_wp2_with (at_builtin; refine wpList_copyS rfl _ _ rfl _ m.keys (HK.out.ext X3.out) rfl rfl (by have := HZ.out.keys; omega) ?_; intro kv' W4 t4 x4; refine stop_of ?_)
  unfold Stop
  have T4 := Lib.hid t4; have X4 := Lib.hid (X3.out.trans x4); have N4 := Lib.hid (And.intro (x4.heap N3.out.1) (x4.heap N3.out.2))
  obtain ⟨A5, c5, rfl, _, _, _⟩ := t4.texts
  clear k8 x4 X3 N3 t4
  go_wp2_with (refine wpList_put 36 rfl _ _ rfl _ 8 38 _ (metaC m (.slice A5 m.keys.length c5)).toArray [.slice A5 m.keys.length c5] _ N4.out.2 rfl rfl rfl (by simp [metaC]) rfl size36 (by kernel_rfl) ?_; intro W5 x5 n5 s5; refine stop_of ?_)
  unfold Stop
  have X5 := Lib.hid (X4.out.thenB x5 (by simp)); have N5 := Lib.hid (And.intro (x5.heap N4.out.1 (by simp)) n5)
  have T5 : Hid (SRow W5 W3.heap.size (.slice A5 m.keys.length c5) m.keys) := Lib.hid (own_extB T4.out x5 (by
    intro g hg
    have : g = w.heap.size + 1 := by simpa using hg
    exact own_low T4.out (by omega)))
  have k11 := blk_cell (X5.out.heap H.out) 11
  simp [verC] at k11
  clear x5 n5 X4 N4 T4
  go_wp2_with (refine wpList_put 2 rfl _ _ rfl _ 4 38 _ (metaC { m with hav := n } (.slice A5 m.keys.length c5)).toArray [.int .i64 n] _ N5.out.2 rfl rfl rfl (by simp [metaC]) rfl size2 (by kernel_rfl) ?_; intro W6 x6 n6 s6; refine stop_of ?_)
  unfold Stop
  have X6 := Lib.hid (X5.out.thenB x6 (by simp)); have N6 := Lib.hid (And.intro (x6.heap N5.out.1 (by simp)) n6)
  have T6 : Hid (SRow W6 W3.heap.size (.slice A5 m.keys.length c5) m.keys) := Lib.hid (own_extB T5.out x6 (by
    intro g hg
    have : g = w.heap.size + 1 := by simpa using hg
    exact own_low T5.out (by omega)))
  clear x6 n6 X5 N5 T5 k11
  go_wp2_with (first | (refine wpList_get 38 _ rfl _ rfl _ 0 38 _ (metaC { m with hav := n } (.slice A5 m.keys.length c5)) N6.out.2 rfl (by kernel_rfl) Try.underlying38 rfl size38 ?_) | (refine wpList_put 38 rfl _ _ rfl _ 0 38 _ (metaC { m with hav := n } (.slice A5 m.keys.length c5)).toArray (metaC { m with hav := n } (.slice A5 m.keys.length c5)) _ N6.out.1 rfl rfl rfl (by simp [metaC]) rfl size38 (by kernel_rfl) ?_; intro W7 x7 n7 s7; refine stop_of ?_))
  unfold Stop
  have X7 := Lib.hid (X6.out.thenB x7 (by simp)); have N7 := Lib.hid n7
  have T7 : Hid (SRow W7 W3.heap.size (.slice A5 m.keys.length c5) m.keys) := Lib.hid (own_extB T6.out x7 (by
    intro g hg
    have : g = w.heap.size := by simpa using hg
    exact own_low T6.out (by omega)))
  clear x7 n7 X6 N6 T6
  go_wp2
  exact bodyPost_ret (results_cell_row rfl _ _ w.heap.size 38 _ (0, 0) _ rfl N7.out Try.underlying38 rfl size38) rfl ⟨_, rfl, ownsRow_base T7.out (by omega), X7.out⟩
end Go.Proofs.Ytpangoddbfiagaa
