/- Texts put together: RefI, RefJ, RefK. -/
import Derived.Test.YtpangoddbfiagaaTG17
import Derived.Test.YtpangoddbfiagaaTG21
import Derived.Test.YtpangoddbfiagaaTG20
import Derived.Test.YtpangoddbfiagaaTG18
namespace Go.Proofs.Ytpangoddbfiagaa
open Go.RowKit Go.Maps Go.ChangeMaps
set_option linter.unusedVariables false
set_option linter.unusedSimpArgs false

theorem texts_cell {w : World} {A : Option Addr} {n c : Nat} {ks : List Bs} (h : TextsAt w (.slice A n c) ks) {j : Nat} {k : Bs} (hj : ks[j]? = some k) : ∃ b off, A = some ⟨b, off, none⟩ ∧ w.cell? ⟨b, off + j, none⟩ = some (.string ⟨k.toArray⟩) := by
  obtain ⟨A', c', e, _, _, hc⟩ := h
  injection e with e1 e2 e3
  obtain ⟨a1, a2⟩ := List.getElem?_eq_some_iff.1 hj
  obtain ⟨b, off, f1, f2⟩ := hc j a1
  rw [a2] at f2
  exact ⟨b, off, e1.trans f1, f2⟩
set_option maxRecDepth 100000 in
set_option maxHeartbeats 4000000 in
theorem rsame_eq (m : MetaP) (u v : Value) (w : World) (hl : m.keys.length ≤ 1000000) (hu : TextsAt w u m.keys) (hv : TextsAt w v m.keys) : Calls Try.prog 28 #[metaV m u, metaV m v] w fun e w' => e = .returned (.bool true) ∧ Ext w w' := by
  unfold metaV
  obtain ⟨ks, hks⟩ : ∃ ks, ks = m.keys := ⟨_, rfl⟩
  rw [← hks] at hl hu hv
  obtain ⟨n, hn⟩ : ∃ n, n = ks.length := ⟨_, rfl⟩
  obtain ⟨A, c, rfl⟩ : ∃ A c, u = .slice A n c := by obtain ⟨A, c, e, _⟩ := hu; exact ⟨A, c, by rw [e, hn]⟩
  obtain ⟨A', c', rfl⟩ : ∃ A' c', v = .slice A' n c' := by obtain ⟨A, c, e, _⟩ := hv; exact ⟨A, c, by rw [e, hn]⟩
  have HN := Lib.hid hn; have HU := Lib.hid hu; have HV := Lib.hid hv
  rw [← hn] at hl
  clear hn hu hv hks
  go_enter Try.func28, Try.ntmps28
  go_wp2_with (refine wpList_boxA 38 rfl _ rfl #[.string ⟨m.tt.toArray⟩, .bool m.tw, .int .i64 m.mod, .int .i64 m.len, .int .i64 m.hav, .int .i64 m.fr, .int .i64 m.wh, .int .i64 m.er, .slice A n c, .string ⟨m.ten.toArray⟩, .bool m.keep] rfl ?_; intro W0 x0 n0 s0; refine stop_of ?_)
  unfold Stop
  obtain ⟨p0, hp0⟩ : ∃ p, p = w.heap.size := ⟨_, rfl⟩
  rw [← hp0] at n0 ⊢
  have X0 := Lib.hid x0; have N0 := Lib.hid n0
  clear x0 n0 s0 hp0
  go_wp2_with (refine wpList_boxA 38 rfl _ rfl #[.string ⟨m.tt.toArray⟩, .bool m.tw, .int .i64 m.mod, .int .i64 m.len, .int .i64 m.hav, .int .i64 m.fr, .int .i64 m.wh, .int .i64 m.er, .slice A' n c', .string ⟨m.ten.toArray⟩, .bool m.keep] rfl ?_; intro W1 x1 n1 s1; refine stop_of ?_)
  unfold Stop
  obtain ⟨p1, hp1⟩ : ∃ p, p = W0.heap.size := ⟨_, rfl⟩
  rw [← hp1] at n1 ⊢
  have X1 := Lib.hid (X0.out.trans x1); have N1 := Lib.hid n1; have N0 := Lib.hid (x1.heap N0.out)
  have R1 := Lib.hid (Ext.refl W1)
  clear x1 n1 s1 hp1 X0
  have k0 := blk_cell N0.out 0; have k1 := blk_cell N0.out 1; have k2 := blk_cell N0.out 2; have k3 := blk_cell N0.out 3; have k4 := blk_cell N0.out 4; have k5 := blk_cell N0.out 5; have k6 := blk_cell N0.out 6; have k7 := blk_cell N0.out 7; have k8 := blk_cell N0.out 8; have k9 := blk_cell N0.out 9; have k10 := blk_cell N0.out 10
  have j0 := blk_cell N1.out 0; have j1 := blk_cell N1.out 1; have j2 := blk_cell N1.out 2; have j3 := blk_cell N1.out 3; have j4 := blk_cell N1.out 4; have j5 := blk_cell N1.out 5; have j6 := blk_cell N1.out 6; have j7 := blk_cell N1.out 7; have j8 := blk_cell N1.out 8; have j9 := blk_cell N1.out 9; have j10 := blk_cell N1.out 10
  simp at k0 k1 k2 k3 k4 k5 k6 k7 k8 k9 k10 j0 j1 j2 j3 j4 j5 j6 j7 j8 j9 j10
  go_wp2
  clear k0 k1 k2 k3 k4 k5 k6 k7 k8 k9 k10 j0 j1 j2 j3 j4 j5 j6 j7 j8 j9 j10
  go_loopw [5] (fun i wr => ∃ j : Nat, j ≤ n ∧ i = .int .i64 j ∧ Hid (Ext W1 wr)) (fun i _ => n - (intOf i).toNat)
  case atStart => exact ⟨0, by omega, rfl, R1⟩
  case round =>
    clear R1
    obtain ⟨j, hj, rfl, XW⟩ := hrel
    have k8 := blk_cell (XW.out.heap N0.out) 8; have j8 := blk_cell (XW.out.heap N1.out) 8
    simp at k8 j8
    by_cases hlt : j < n
    · obtain ⟨k, hk⟩ : ∃ k, ks[j]? = some k := ⟨ks[j]'(by rw [← HN.out]; exact hlt), by simp [show j < ks.length by rw [← HN.out]; exact hlt]⟩
      obtain ⟨b, off, rfl, c1⟩ := texts_cell (HU.out.ext (X1.out.trans XW.out)) hk
      obtain ⟨b', off', rfl, c2⟩ := texts_cell (HV.out.ext (X1.out.trans XW.out)) hk
      have G0 : ∀ x : Grow [] wr, x.v.cell? ⟨b, off + j, none⟩ = some (.string ⟨k.toArray⟩) := fun x => x.ext.cell c1 (by simp)
      have G1 : ∀ x : Grow [] wr, x.v.cell? ⟨b', off' + j, none⟩ = some (.string ⟨k.toArray⟩) := fun x => x.ext.cell c2 (by simp)
      have G2 : ∀ x : Grow [] wr, x.v.cell? ⟨p0, 8, none⟩ = some (.slice (some ⟨b, off, none⟩) n c) := fun x => x.ext.cell k8 (by simp)
      have G3 : ∀ x : Grow [] wr, x.v.cell? ⟨p1, 8, none⟩ = some (.slice (some ⟨b', off', none⟩) n c') := fun x => x.ext.cell j8 (by simp)
      clear hk c1 c2
      go_wp2
      (refine wp_region_grow (by kernel_rfl) (by kernel_rfl) ?_; (repeat (go_big_quiet_step (fail))); refine wpQuiet_nil ?_)
      clear G0 G1 G2 G3 k8 j8
      intro w3 hx3
      have X3 := Lib.hid (XW.out.trans hx3)
      clear hx3 XW
      go_wp2
      go_roundw
      case rel => exact ⟨j + 1, by omega, by go_num, X3⟩
      case measure => simp [intOf]; omega
    · go_wp2
      go_ret
      exact ⟨rfl, X1.out.trans XW.out⟩
end Go.Proofs.Ytpangoddbfiagaa
namespace Go.Proofs.Ytpangoddbfiagaa
open Go.RowKit Go.Maps Go.ChangeMaps
set_option linter.unusedVariables false
set_option linter.unusedSimpArgs false

set_option maxRecDepth 100000 in
set_option maxHeartbeats 4000000 in
theorem ralike_eq (st fr to : Int) (m : MetaP) (u v : Value) (w : World) (hl : m.keys.length ≤ 1000000) (hu : TextsAt w u m.keys) (hv : TextsAt w v m.keys) : Calls Try.prog 32 #[.agg (replyC st m u fr to).toArray, .agg (replyC st m v fr to).toArray] w fun e w' => e = .returned (.bool true) ∧ Ext w w' := by
  have HS := Lib.hid fun W (x : Ext w W) => rsame_eq m u v W hl (hu.ext x) (hv.ext x)
  unfold metaV at HS
  clear hl
  obtain ⟨n, hn⟩ : ∃ n, n = m.keys.length := ⟨_, rfl⟩
  obtain ⟨A, c, rfl⟩ : ∃ A c, u = .slice A n c := by obtain ⟨A, c, e, _⟩ := hu; exact ⟨A, c, by rw [e, hn]⟩
  obtain ⟨A', c', rfl⟩ : ∃ A' c', v = .slice A' n c' := by obtain ⟨A, c, e, _⟩ := hv; exact ⟨A, c, by rw [e, hn]⟩
  clear hu hv hn
  go_enter Try.func32, Try.ntmps32
  go_wp2_with (refine wpList_boxA 49 rfl _ rfl (replyC st m (.slice A n c) fr to).toArray rfl ?_; intro W0 x0 n0 s0; refine stop_of ?_)
  unfold Stop
  obtain ⟨p0, hp0⟩ : ∃ p, p = w.heap.size := ⟨_, rfl⟩
  rw [← hp0] at n0 ⊢
  have X0 := Lib.hid x0; have N0 := Lib.hid n0
  clear x0 n0 s0 hp0
  go_wp2_with (refine wpList_boxA 49 rfl _ rfl (replyC st m (.slice A' n c') fr to).toArray rfl ?_; intro W1 x1 n1 s1; refine stop_of ?_)
  unfold Stop
  obtain ⟨p1, hp1⟩ : ∃ p, p = W0.heap.size := ⟨_, rfl⟩
  rw [← hp1] at n1 ⊢
  have X1 := Lib.hid (X0.out.trans x1); have N1 := Lib.hid n1; have N0 := Lib.hid (x1.heap N0.out)
  clear x1 n1 s1 hp1 X0
  have k0 := blk_cell N0.out 0; have k12 := blk_cell N0.out 12; have k13 := blk_cell N0.out 13; have k14 := blk_cell N0.out 14
  have j0 := blk_cell N1.out 0; have j12 := blk_cell N1.out 12; have j13 := blk_cell N1.out 13; have j14 := blk_cell N1.out 14
  simp [replyC] at k0 k12 k13 k14 j0 j12 j13 j14
  go_wp2_with (first | (refine wpList_getW 38 _ rfl _ rfl p0 1 49 _ [.string ⟨m.tt.toArray⟩, .bool m.tw, .int .i64 m.mod, .int .i64 m.len, .int .i64 m.hav, .int .i64 m.fr, .int .i64 m.wh, .int .i64 m.er, .slice A n c, .string ⟨m.ten.toArray⟩, .bool m.keep] N0.out rfl (by kernel_rfl) Try.underlying38 rfl size38 ?_) | (refine wpList_getW 38 _ rfl _ rfl p1 1 49 _ [.string ⟨m.tt.toArray⟩, .bool m.tw, .int .i64 m.mod, .int .i64 m.len, .int .i64 m.hav, .int .i64 m.fr, .int .i64 m.wh, .int .i64 m.er, .slice A' n c', .string ⟨m.ten.toArray⟩, .bool m.keep] N1.out rfl (by kernel_rfl) Try.underlying38 rfl size38 ?_) | (go_at_call 28; refine (HS.out _ X1.out).mono ?_; rintro e w2 ⟨rfl, x2⟩; refine stop_of ?_))
  unfold Stop
  have X2 := Lib.hid (X1.out.trans x2)
  clear x2
  go_wp2
  go_ret
  exact ⟨rfl, X2.out⟩
set_option maxRecDepth 100000 in
set_option maxHeartbeats 4000000 in
theorem ralike_ne (st fr to st' fr' to' : Int) (m m' : MetaP) (u v : Value) (w : World) (hst : st ≠ st') : Calls Try.prog 32 #[.agg (replyC st m u fr to).toArray, .agg (replyC st' m' v fr' to').toArray] w fun e w' => e = .returned (.bool false) ∧ Ext w w' := by
  have e0 : (st == st') = false := by simpa using hst
  clear hst
  go_enter Try.func32, Try.ntmps32
  go_wp2_with (refine wpList_boxA 49 rfl _ rfl (replyC st m u fr to).toArray rfl ?_; intro W0 x0 n0 s0; refine stop_of ?_)
  unfold Stop
  obtain ⟨p0, hp0⟩ : ∃ p, p = w.heap.size := ⟨_, rfl⟩
  rw [← hp0] at n0 ⊢
  have X0 := Lib.hid x0; have N0 := Lib.hid n0
  clear x0 n0 s0 hp0
  go_wp2_with (refine wpList_boxA 49 rfl _ rfl (replyC st' m' v fr' to').toArray rfl ?_; intro W1 x1 n1 s1; refine stop_of ?_)
  unfold Stop
  have X1 := Lib.hid (X0.out.trans x1); have N0 := Lib.hid (x1.heap N0.out)
  have k0 := blk_cell N0.out 0; have j0 := blk_cell n1 0
  simp [replyC] at k0 j0
  clear x1 n1 s1 X0
  go_wp2
  go_ret
  exact ⟨rfl, X1.out⟩
end Go.Proofs.Ytpangoddbfiagaa
namespace Go.Proofs.Ytpangoddbfiagaa
open Go.RowKit Go.Maps Go.ChangeMaps
set_option linter.unusedVariables false
set_option linter.unusedSimpArgs false

section
variable {w w' : World} {x B : Nat} {own own' : Nat → Prop} {vs : List Vn} {ss : List Sn} {sa va : List Nat} {gs : List Rg} {A : Option Addr} {c : Nat} {X : List Nat}
end
end Go.Proofs.Ytpangoddbfiagaa
