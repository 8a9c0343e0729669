import Derived.Test.YtpangoddbfiagaaRG17
import Derived.Test.YtpangoddbfiagaaRG21
import Derived.Test.YtpangoddbfiagaaRG20
import Derived.Test.YtpangoddbfiagaaRG18
namespace Go.Proofs.Ytpangoddbfiagaa
open Go.RowKit Go.Maps Go.ChangeMaps
set_option linter.unusedVariables false
set_option linter.unusedSimpArgs false
theorem texts_cell {w : World} {A : Option Addr} {n c : Nat} {ks : List Bs} (h : TextsAt w (.slice A n c) ks) {j : Nat} {k : Bs} (hj : ks[j]? = some k) : ∃ b off, A = some ⟨b, off, none⟩ ∧ w.cell? ⟨b, off + j, none⟩ = some (.string ⟨k.toArray⟩) := by
 obtain ⟨A', c', e, _, _, hc⟩ := h
 injection e with e1 e2 e3
 obtain ⟨a1, a2⟩ := List.getElem?_eq_some_iff.1 hj
 obtain ⟨b, off, f1, f2⟩ := hc j a1
 rw [a2] at f2
 exact ⟨b, off, e1.trans f1, f2⟩
set_option maxRecDepth 100000 in
set_option maxHeartbeats 2000000 in
theorem rnames_eq (ks : List Bs) (u v : Value) (w : World) (hl : ks.length ≤ 1000000) (hu : TextsAt w u ks) (hv : TextsAt w v ks) : Calls Try.prog 24 #[u, v] w fun e w' => e = .returned (.bool true) ∧ Ext w w' := by
 obtain ⟨n, hn⟩ : ∃ n, n = ks.length := ⟨_, rfl⟩
 obtain ⟨A, c, rfl⟩ : ∃ A c, u = .slice A n c := by obtain ⟨A, c, e, _⟩ := hu; exact ⟨A, c, by rw [e, hn]⟩
 obtain ⟨A', c', rfl⟩ : ∃ A' c', v = .slice A' n c' := by obtain ⟨A, c, e, _⟩ := hv; exact ⟨A, c, by rw [e, hn]⟩
 have HN := Lh hn; have HU := Lh hu; have HV := Lh hv
 rw [← hn] at hl
 clear hn hu hv
 have XR := Lh (Ext.refl w)
 go_enter Try.func24, Try.ntmps24
 go_wp2
 go_loopw [5] (fun i wr => ∃ j : Nat, j ≤ n ∧ i = .int .i64 j ∧ Hid (Ext w wr)) (fun i _ => n - (intOf i).toNat)
 case atStart => exact ⟨0, by omega, rfl, XR⟩
 case round =>
  clear XR
  obtain ⟨j, hj, rfl, XW⟩ := hrel
  by_cases hlt : j < n
  ·obtain ⟨k, hk⟩ : ∃ k, ks[j]? = some k := ⟨ks[j]'(by rw [← HN.out]; exact hlt), by simp [show j < ks.length by rw [← HN.out]; exact hlt]⟩
   obtain ⟨b, off, rfl, c1⟩ := texts_cell (HU.out.ext XW.out) hk
   obtain ⟨b', off', rfl, c2⟩ := texts_cell (HV.out.ext XW.out) hk
   have G0 : ∀ x : Grow [] wr, x.v.cell? ⟨b, off + j, none⟩ = some (.string ⟨k.toArray⟩) := fun x => x.ext.cell c1 (by simp)
   have G1 : ∀ x : Grow [] wr, x.v.cell? ⟨b', off' + j, none⟩ = some (.string ⟨k.toArray⟩) := fun x => x.ext.cell c2 (by simp)
   clear hk c1 c2
   go_wp2
   (refine wp_region_grow (by kernel_rfl) (by kernel_rfl) ?_; (repeat (go_big_quiet_step (fail))); refine wpQuiet_nil ?_)
   clear G0 G1
   intro w3 hx3
   have X3 := Lh (XW.out.trans hx3)
   clear hx3 XW
   go_wp2
   go_roundw
   case rel => exact ⟨j + 1, by omega, by go_num, X3⟩
   case measure => simp [intOf]; omega
  ·go_wp2
   go_ret
   exact ⟨rfl, XW.out⟩
set_option maxRecDepth 100000 in
set_option maxHeartbeats 4000000 in
theorem rsame_eq (m : MetaP) (u v : Value) (w : World) (hl : m.keys.length ≤ 1000000) (hu : TextsAt w u m.keys) (hv : TextsAt w v m.keys) : Calls Try.prog 28 #[metaV m u, metaV m v] w fun e w' => e = .returned (.bool true) ∧ Ext w w' := by
 unfold metaV
 obtain ⟨ks, hks⟩ : ∃ ks, ks = m.keys := ⟨_, rfl⟩
 rw [← hks] at hl hu hv
 obtain ⟨n, hn⟩ : ∃ n, n = ks.length := ⟨_, rfl⟩
 obtain ⟨A, c, rfl⟩ : ∃ A c, u = .slice A n c := by obtain ⟨A, c, e, _⟩ := hu; exact ⟨A, c, by rw [e, hn]⟩
 obtain ⟨A', c', rfl⟩ : ∃ A' c', v = .slice A' n c' := by obtain ⟨A, c, e, _⟩ := hv; exact ⟨A, c, by rw [e, hn]⟩
 have HN := Lh hn; have HU := Lh hu; have HV := Lh hv
 rw [← hn] at hl
 clear hn hu hv hks
 go_enter Try.func28, Try.ntmps28
 go_wp2_with (refine wpList_boxA 38 rfl _ rfl #[.string ⟨m.tt.toArray⟩, .bool m.tw, .int .i64 m.mod, .int .i64 m.len, .int .i64 m.hav, .int .i64 m.fr, .int .i64 m.wh, .int .i64 m.er, .slice A n c, .string ⟨m.ten.toArray⟩, .bool m.keep] rfl ?_; intro W0 x0 n0 s0; refine stop_of ?_)
 unfold Stop
 obtain ⟨p0, hp0⟩ : ∃ p, p = w.heap.size := ⟨_, rfl⟩
 rw [← hp0] at n0 ⊢
 have X0 := Lh x0; have N0 := Lh n0
 clear x0 n0 s0 hp0
 go_wp2_with (refine wpList_boxA 38 rfl _ rfl #[.string ⟨m.tt.toArray⟩, .bool m.tw, .int .i64 m.mod, .int .i64 m.len, .int .i64 m.hav, .int .i64 m.fr, .int .i64 m.wh, .int .i64 m.er, .slice A' n c', .string ⟨m.ten.toArray⟩, .bool m.keep] rfl ?_; intro W1 x1 n1 s1; refine stop_of ?_)
 unfold Stop
 obtain ⟨p1, hp1⟩ : ∃ p, p = W0.heap.size := ⟨_, rfl⟩
 rw [← hp1] at n1 ⊢
 have X1 := Lh (X0.out.trans x1); have N1 := Lh n1; have N0 := Lh (x1.heap N0.out)
 have R1 := Lh (Ext.refl W1)
 clear x1 n1 s1 hp1 X0
 have k0 := blk_cell N0.out 0; have k1 := blk_cell N0.out 1; have k2 := blk_cell N0.out 2; have k3 := blk_cell N0.out 3; have k4 := blk_cell N0.out 4; have k5 := blk_cell N0.out 5; have k6 := blk_cell N0.out 6; have k7 := blk_cell N0.out 7; have k8 := blk_cell N0.out 8; have k9 := blk_cell N0.out 9; have k10 := blk_cell N0.out 10
 have j0 := blk_cell N1.out 0; have j1 := blk_cell N1.out 1; have j2 := blk_cell N1.out 2; have j3 := blk_cell N1.out 3; have j4 := blk_cell N1.out 4; have j5 := blk_cell N1.out 5; have j6 := blk_cell N1.out 6; have j7 := blk_cell N1.out 7; have j8 := blk_cell N1.out 8; have j9 := blk_cell N1.out 9; have j10 := blk_cell N1.out 10
 simp at k0 k1 k2 k3 k4 k5 k6 k7 k8 k9 k10 j0 j1 j2 j3 j4 j5 j6 j7 j8 j9 j10
 go_wp2
 clear k0 k1 k2 k3 k4 k5 k6 k7 k8 k9 k10 j0 j1 j2 j3 j4 j5 j6 j7 j8 j9 j10
 go_loopw [5] (fun i wr => ∃ j : Nat, j ≤ n ∧ i = .int .i64 j ∧ Hid (Ext W1 wr)) (fun i _ => n - (intOf i).toNat)
 case atStart => exact ⟨0, by omega, rfl, R1⟩
 case round =>
  clear R1
  obtain ⟨j, hj, rfl, XW⟩ := hrel
  have k8 := blk_cell (XW.out.heap N0.out) 8; have j8 := blk_cell (XW.out.heap N1.out) 8
  simp at k8 j8
  by_cases hlt : j < n
  ·obtain ⟨k, hk⟩ : ∃ k, ks[j]? = some k := ⟨ks[j]'(by rw [← HN.out]; exact hlt), by simp [show j < ks.length by rw [← HN.out]; exact hlt]⟩
   obtain ⟨b, off, rfl, c1⟩ := texts_cell (HU.out.ext (X1.out.trans XW.out)) hk
   obtain ⟨b', off', rfl, c2⟩ := texts_cell (HV.out.ext (X1.out.trans XW.out)) hk
   have G0 : ∀ x : Grow [] wr, x.v.cell? ⟨b, off + j, none⟩ = some (.string ⟨k.toArray⟩) := fun x => x.ext.cell c1 (by simp)
   have G1 : ∀ x : Grow [] wr, x.v.cell? ⟨b', off' + j, none⟩ = some (.string ⟨k.toArray⟩) := fun x => x.ext.cell c2 (by simp)
   have G2 : ∀ x : Grow [] wr, x.v.cell? ⟨p0, 8, none⟩ = some (.slice (some ⟨b, off, none⟩) n c) := fun x => x.ext.cell k8 (by simp)
   have G3 : ∀ x : Grow [] wr, x.v.cell? ⟨p1, 8, none⟩ = some (.slice (some ⟨b', off', none⟩) n c') := fun x => x.ext.cell j8 (by simp)
   clear hk c1 c2
   go_wp2
   (refine wp_region_grow (by kernel_rfl) (by kernel_rfl) ?_; (repeat (go_big_quiet_step (fail))); refine wpQuiet_nil ?_)
   clear G0 G1 G2 G3 k8 j8
   intro w3 hx3
   have X3 := Lh (XW.out.trans hx3)
   clear hx3 XW
   go_wp2
   go_roundw
   case rel => exact ⟨j + 1, by omega, by go_num, X3⟩
   case measure => simp [intOf]; omega
  ·go_wp2
   go_ret
   exact ⟨rfl, X1.out.trans XW.out⟩
end Go.Proofs.Ytpangoddbfiagaa
namespace Go.Proofs.Ytpangoddbfiagaa
open Go.RowKit Go.Maps Go.ChangeMaps
set_option linter.unusedVariables false
set_option linter.unusedSimpArgs false
set_option maxRecDepth 100000 in
set_option maxHeartbeats 4000000 in
theorem ralike_eq (st fr to : Int) (m : MetaP) (u v : Value) (w : World) (hl : m.keys.length ≤ 1000000) (hu : TextsAt w u m.keys) (hv : TextsAt w v m.keys) : Calls Try.prog 32 #[.agg (replyC st m u fr to).toArray, .agg (replyC st m v fr to).toArray] w fun e w' => e = .returned (.bool true) ∧ Ext w w' := by
 have HS := Lh fun W (x : Ext w W) => rsame_eq m u v W hl (hu.ext x) (hv.ext x)
 unfold metaV at HS
 clear hl
 obtain ⟨n, hn⟩ : ∃ n, n = m.keys.length := ⟨_, rfl⟩
 obtain ⟨A, c, rfl⟩ : ∃ A c, u = .slice A n c := by obtain ⟨A, c, e, _⟩ := hu; exact ⟨A, c, by rw [e, hn]⟩
 obtain ⟨A', c', rfl⟩ : ∃ A' c', v = .slice A' n c' := by obtain ⟨A, c, e, _⟩ := hv; exact ⟨A, c, by rw [e, hn]⟩
 clear hu hv hn
 go_enter Try.func32, Try.ntmps32
 go_wp2_with (refine wpList_boxA 49 rfl _ rfl (replyC st m (.slice A n c) fr to).toArray rfl ?_; intro W0 x0 n0 s0; refine stop_of ?_)
 unfold Stop
 obtain ⟨p0, hp0⟩ : ∃ p, p = w.heap.size := ⟨_, rfl⟩
 rw [← hp0] at n0 ⊢
 have X0 := Lh x0; have N0 := Lh n0
 clear x0 n0 s0 hp0
 go_wp2_with (refine wpList_boxA 49 rfl _ rfl (replyC st m (.slice A' n c') fr to).toArray rfl ?_; intro W1 x1 n1 s1; refine stop_of ?_)
 unfold Stop
 obtain ⟨p1, hp1⟩ : ∃ p, p = W0.heap.size := ⟨_, rfl⟩
 rw [← hp1] at n1 ⊢
 have X1 := Lh (X0.out.trans x1); have N1 := Lh n1; have N0 := Lh (x1.heap N0.out)
 clear x1 n1 s1 hp1 X0
 have k0 := blk_cell N0.out 0; have k12 := blk_cell N0.out 12; have k13 := blk_cell N0.out 13; have k14 := blk_cell N0.out 14
 have j0 := blk_cell N1.out 0; have j12 := blk_cell N1.out 12; have j13 := blk_cell N1.out 13; have j14 := blk_cell N1.out 14
 simp [replyC] at k0 k12 k13 k14 j0 j12 j13 j14
 go_wp2_with (first | (refine wpList_getW 38 _ rfl _ rfl p0 1 49 _ [.string ⟨m.tt.toArray⟩, .bool m.tw, .int .i64 m.mod, .int .i64 m.len, .int .i64 m.hav, .int .i64 m.fr, .int .i64 m.wh, .int .i64 m.er, .slice A n c, .string ⟨m.ten.toArray⟩, .bool m.keep] N0.out rfl (by kernel_rfl) Try.underlying38 rfl size38 ?_) | (refine wpList_getW 38 _ rfl _ rfl p1 1 49 _ [.string ⟨m.tt.toArray⟩, .bool m.tw, .int .i64 m.mod, .int .i64 m.len, .int .i64 m.hav, .int .i64 m.fr, .int .i64 m.wh, .int .i64 m.er, .slice A' n c', .string ⟨m.ten.toArray⟩, .bool m.keep] N1.out rfl (by kernel_rfl) Try.underlying38 rfl size38 ?_) | (go_at_call 28; refine (HS.out _ X1.out).mono ?_; rintro e w2 ⟨rfl, x2⟩; refine stop_of ?_))
 unfold Stop
 have X2 := Lh (X1.out.trans x2)
 clear x2
 go_wp2
 go_ret
 exact ⟨rfl, X2.out⟩
end Go.Proofs.Ytpangoddbfiagaa
namespace Go.Proofs.Ytpangoddbfiagaa
open Go.RowKit Go.Maps Go.ChangeMaps
set_option linter.unusedVariables false
set_option linter.unusedSimpArgs false
theorem wpList_copyT {W : World} {ops : Array Oper} {rest : List Oper} {o : Oper} {a : Act} {Q : Exit → Act → World → Prop}
  (hgd : o.guard = none) (s x : Operand) (ho : o.op = .call { callee := .builtin .append, args := #[s, x], argTypes := #[36, 36] }) (u : Value) (ss : List Bs) (hsrc : TextsAt W u ss) (hs : a.eval s = .slice (some ⟨W.heap.size, 0, none⟩) 0 0) (hx : a.eval x = u) (hlen : ss.length ≤ 1000000)
  (h : ∀ v' w', SRow w' W.heap.size v' ss → Ext W w' → wpList Try.prog ops Q rest (a.put o.dst v') w') : wpList Try.prog ops Q (o :: rest) a (W.alloc (.cells #[] 9)) := by
 have hm : (W.alloc (.cells #[] 9)).ownsRow W.heap.size 9 1 (.slice (some ⟨W.heap.size, 0, none⟩) 0 0) ([] : List Value).length [] := World.ownsRow_made W #[] 0 (Nat.le_refl _) (by unfold maxLen; omega) rfl
 refine wpList_append_at 36 9 _ 16 Try.underlying36 info9 rfl (by decide) hgd s x ho W.heap.size (.slice (some ⟨W.heap.size, 0, none⟩) 0 0) u [] (ss.map strV) hm (hsrc.ext (ext_alloc1 _ _)).row (by intro q hq; obtain ⟨z, _, rfl⟩ := List.mem_map.1 hq; rfl) hs hx (by simpa using hlen) (by simp) fun v' w' h1 h2 => ?_
 refine h v' w' (by unfold SRow; simpa using h1) ?_
 exact Ext.trans' (Ext.alloc (Ext.refl W) _) hm h2
def hitB (o : Bs) (m : MetaP) (u : Vn) : Bool := !noTag m && (u.obj == o && (!noTag u.m && (u.m.tt == m.tt && !(u.m.tw && m.tw))))
theorem refused_hit (vs : List Vn) (o : Bs) (m : MetaP) : refused vs o m = vs.any (hitB o m) := by
 unfold refused hadA
 cases hn : noTag m with
 | true =>
  simp only [Bool.not_true, Bool.false_and]
  symm
  rw [List.any_eq_false]
  intro u _
  simp [hitB, hn]
 | false =>
  simp only [Bool.not_false, Bool.true_and]
  have e : ∀ u, hitB o m u = (tagsB u o m.tt && (!u.m.tw || !m.tw)) := fun u => by
   unfold hitB tagsB
   rw [hn]
   cases (u.obj == o) <;> cases noTag u.m <;> cases (u.m.tt == m.tt) <;> cases u.m.tw <;> cases m.tw <;> rfl
  rw [show hitB o m = fun u => (tagsB u o m.tt && (!u.m.tw || !m.tw)) from funext e]
  clear e
  cases htw : m.tw with
  | false =>
   simp only [Bool.not_false, Bool.or_true, Bool.and_true]
   by_cases h : vs.any (fun v => tagsB v o m.tt) = true
   ·rw [if_pos h, h]
   ·rw [if_neg h]; simpa using h
  | true =>
   simp only [Bool.not_true, Bool.or_false]
   by_cases h : vs.any (fun v => tagsB v o m.tt) = true
   ·rw [if_pos h]
   ·rw [if_neg h]
    symm
    rw [List.any_eq_false]
    intro u hu
    have h2 : ¬ tagsB u o m.tt = true := fun hh => h (List.any_eq_true.2 ⟨u, hu, hh⟩)
    simp [h2]
section
variable {w w' : World} {x B : Nat} {own own' : Nat → Prop} {vs : List Vn} {ss : List Sn} {sa va : List Nat} {gs : List Rg} {A : Option Addr} {c : Nat} {X : List Nat}
set_option maxRecDepth 100000 in
set_option maxHeartbeats 4000000 in
theorem rset_bad {o bs : Bs} {m : MetaP} {kv u : Value} (ho : o.length ≤ 1000) (hz : MetaZ m) (hk : TextsAt w kv m.keys) (hu : BytesAt w u bs) (hb : setOk o m bs = false) :
  Calls Try.prog 46 #[.pointer (some ⟨x, 0, none⟩), .string ⟨o.toArray⟩, metaV m kv, u] w fun e w' => e = .returned (.int .i64 1) ∧ Ext w w' := by
 have HO := Lh fun W => robj_any o W (by omega)
 obtain ⟨n, hn⟩ : ∃ n, n = bs.length := ⟨_, rfl⟩
 obtain ⟨UA, uc, rfl⟩ : ∃ UA uc, u = .slice UA n uc := by obtain ⟨A, c, e, _⟩ := hu; exact ⟨A, c, by rw [e, hn]; simp⟩
 have HR := Lh fun W (y : Ext w W) => rmright_any { m with hav := (n : Int) } kv W ⟨hz.tt, hz.keys, hz.key, hz.ten⟩ (hk.ext y)
 obtain ⟨nk, hnk⟩ : ∃ nk, nk = m.keys.length := ⟨_, rfl⟩
 obtain ⟨KA, KC, rfl⟩ : ∃ KA KC, kv = .slice KA nk KC := by obtain ⟨A, c, e, _⟩ := hk; exact ⟨A, c, by rw [e, hnk]⟩
 unfold setOk at hb
 rw [← hn] at hb
 obtain ⟨yo, hyo⟩ : ∃ y, y = objB o := ⟨_, rfl⟩
 obtain ⟨ym, hym⟩ : ∃ y, y = metaB { m with hav := (n : Int) } := ⟨_, rfl⟩
 rw [← hyo] at HO hb
 rw [← hym] at HR hb
 have HB := Lh hb
 unfold metaV at HR ⊢
 clear ho hz hk hu hn hnk hyo hym hb
 go_enter Try.func46, Try.ntmps46
 go_wp2_with (refine wpList_boxA 38 rfl _ rfl #[.string ⟨m.tt.toArray⟩, .bool m.tw, .int .i64 m.mod, .int .i64 m.len, .int .i64 m.hav, .int .i64 m.fr, .int .i64 m.wh, .int .i64 m.er, .slice KA nk KC, .string ⟨m.ten.toArray⟩, .bool m.keep] rfl ?_; intro W0 x0 n0 s0; refine stop_of ?_)
 unfold Stop
 obtain ⟨mb, hmb⟩ : ∃ p, p = w.heap.size := ⟨_, rfl⟩
 have hle : w.heap.size ≤ mb := by omega
 rw [← hmb] at n0 ⊢
 have X0 := Lh x0; have N0 := Lh n0
 clear x0 n0 s0 hmb
 go_wp2_with (refine wpList_put 2 rfl _ _ rfl mb 4 38 _ #[.string ⟨m.tt.toArray⟩, .bool m.tw, .int .i64 m.mod, .int .i64 m.len, .int .i64 n, .int .i64 m.fr, .int .i64 m.wh, .int .i64 m.er, .slice KA nk KC, .string ⟨m.ten.toArray⟩, .bool m.keep] [.int .i64 n] _ N0.out rfl rfl rfl (by simp) rfl size2 (by simp [putA]) ?_; intro W1 x1 n1 s1; refine stop_of ?_)
 unfold Stop
 have X1 := Lh (X0.out.thenB x1 (by simp; omega)); have N1 := Lh n1
 clear x1 n1 s1 X0 N0
 go_wp2_with (go_at_call 61; refine (HO.out _).mono ?_; rintro e w1 ⟨rfl, rfl⟩; refine stop_of ?_)
 unfold Stop
 cases yo with
 | false =>
  go_wp2
  go_ret
  exact ⟨rfl, X1.out⟩
 | true =>
  have k3 := blk_cell N1.out 3; have k4 := blk_cell N1.out 4
  simp at k3 k4
  cases l1 : (m.len != -1) with
  | true =>
   cases l2 : (m.len != (n : Int)) with
   | true =>
    go_wp2
    go_ret
    exact ⟨rfl, X1.out⟩
   | false =>
    have ym0 : ym = false := by
     have h1 := HB.out
     have h2 : (m.len == (n : Int)) = true := by simpa using l2
     rw [h2] at h1; simpa using h1
    subst ym0
    go_wp2_with (first | (refine wpList_getW 38 _ rfl _ rfl mb 0 38 _ [.string ⟨m.tt.toArray⟩, .bool m.tw, .int .i64 m.mod, .int .i64 m.len, .int .i64 n, .int .i64 m.fr, .int .i64 m.wh, .int .i64 m.er, .slice KA nk KC, .string ⟨m.ten.toArray⟩, .bool m.keep] N1.out rfl (by kernel_rfl) Try.underlying38 rfl size38 ?_) | (go_at_call 62; refine (HR.out _ X1.out).mono ?_; rintro e w2 ⟨rfl, x2⟩; refine stop_of ?_))
    unfold Stop
    have X2 := Lh (X1.out.trans x2)
    clear x2
    go_wp2
    go_ret
    exact ⟨rfl, X2.out⟩
  | false =>
   have ym0 : ym = false := by
    have h1 := HB.out
    have h2 : (m.len == -1) = true := by simpa using l1
    rw [h2] at h1; simpa using h1
   subst ym0
   go_wp2_with (first | (refine wpList_getW 38 _ rfl _ rfl mb 0 38 _ [.string ⟨m.tt.toArray⟩, .bool m.tw, .int .i64 m.mod, .int .i64 m.len, .int .i64 n, .int .i64 m.fr, .int .i64 m.wh, .int .i64 m.er, .slice KA nk KC, .string ⟨m.ten.toArray⟩, .bool m.keep] N1.out rfl (by kernel_rfl) Try.underlying38 rfl size38 ?_) | (go_at_call 62; refine (HR.out _ X1.out).mono ?_; rintro e w2 ⟨rfl, x2⟩; refine stop_of ?_))
   unfold Stop
   have X2 := Lh (X1.out.trans x2)
   clear x2
   go_wp2
   go_ret
   exact ⟨rfl, X2.out⟩
end
end Go.Proofs.Ytpangoddbfiagaa
