import Derived.Test.YtpangoddbfiagaaRG09
namespace Go.Proofs.Ytpangoddbfiagaa
open Go.RowKit Go.Maps Go.ChangeMaps
set_option linter.unusedVariables false
set_option linter.unusedSimpArgs false
section
variable {w w' : World} {b B N : Nat} {own own' : Nat → Prop} {vs : List Vn} {ss : List Sn} {sa va : List Nat} {gs : List Vg} {mo mh : Option Nat} {H : Bs → Option Nat} {K : Bs → Bs → Option Bool}
set_option maxRecDepth 100000 in
set_option maxHeartbeats 8000000 in
theorem ask_v3c (h : OIx w b B N own vs ss sa gs mo mh H K) (obj : Bs) (fr : Int) (to : Int) (c0 : UInt8) (t0 : Bs) (mw : Bool) (nt : Bs) (nw : Bool) (hfr : 0 < fr) (hz : FtZ (⟨obj, fr, to, (c0 :: t0), mw, nt, nw⟩ : Ft)) (hb : ftB (⟨obj, fr, to, (c0 :: t0), mw, nt, nw⟩ : Ft) = true) {i : Nat} {v : Vn} {g : Vg} (hn : nowI vs obj = some i) (hv : vs[i]? = some v) (hg : gs[i]? = some g) : Calls Try.prog 15 #[.pointer (some ⟨b, 0, none⟩), .agg (ftC (⟨obj, fr, to, (c0 :: t0), mw, nt, nw⟩ : Ft))] w (AskR w g.b v (askV i v (⟨obj, fr, to, (c0 :: t0), mw, nt, nw⟩ : Ft))) := by
 have HOBJ := Lh fun W => obj_any obj W (by have := hz.obj; simp only at this; omega)
 have HSP := Lh fun W => span_any fr to W
 have HM := Lh fun W => asks_any (c0 :: t0) mw W (by have := hz.mt; simp only at this; omega)
 have HN := Lh fun W => asks_any nt nw W (by have := hz.nt; simp only at this; omega)
 obtain ⟨⟨⟨⟨g1, g2⟩, g3⟩, g4⟩, g5⟩ : (((objB obj = true ∧ spanB fr to = true) ∧ (fr == to) = false) ∧ askB (c0 :: t0) mw = true) ∧ askB nt nw = true := by simpa [ftB] using hb
 rw [g1] at HOBJ
 rw [g2] at HSP
 rw [g4] at HM
 rw [g5] at HN
 unfold tagV at HM HN
 have hft := g3
 have HL := Lh fun W (x : Ext w W) => look_some (h.ext x) (by have := hz.obj; simp only at this; omega) hn hg
 have hok := h.vers.at_ i v g hv hg
 obtain ⟨A, c, hbv⟩ := hok.bvs
 have HNOW := Lh fun W (x : Ext w W) => now_any W g.b { v.m with hav := g.h } g.kv A v.bytes.length c v.went (by rw [← hbv]; exact x.heap hok.blk) (hok.keys.texts.ext x) ⟨hok.z.tt, hok.z.keys, hok.z.key, hok.z.ten⟩ (by have := hok.len; omega)
 have hbl : v.bytes.length ≤ 100000 := hok.len
 obtain ⟨gr, hgr⟩ : ∃ gr, gr = (v.m.len == -1) := ⟨_, rfl⟩
 have HGR : Hid (∀ W, Ext w W → Calls Try.prog 43 #[.pointer (some ⟨g.b, 0, none⟩)] W fun e w' => e = .returned (.bool gr) ∧ W = w') := Lh fun W x => by rw [hgr]; exact grows_any W g.b { v.m with hav := g.h } g.kv g.bv v.went (x.heap hok.blk)
 have HBLK := Lh h.blk
 have htl : v.m.tt.length ≤ 1000 := hok.z.tt
 obtain ⟨x1, hx1⟩ : ∃ x, x = strongB nt nw v.m.tt v.m.tw := ⟨_, rfl⟩
 obtain ⟨x2, hx2⟩ : ∃ x, x = strongB (c0 :: t0) mw v.m.tt v.m.tw := ⟨_, rfl⟩
 have HS1 := Lh fun W => strong_any nt v.m.tt nw v.m.tw W (by have := hz.nt; simp only at this; omega) (by omega)
 have HS2 := Lh fun W => strong_any (c0 :: t0) v.m.tt mw v.m.tw W (by have := hz.mt; simp only at this; omega) (by omega)
 rw [← hx1] at HS1
 rw [← hx2] at HS2
 unfold tagV at HS1 HS2
 have ES : Hid (∀ s, askV i v (⟨obj, fr, to, (c0 :: t0), mw, nt, nw⟩ : Ft) = s ↔ (if x1 = true then ⟨304, nowM v, 0, 0, 0, none⟩ else if (!((c0 :: t0) == [] && !mw) && !x2) = true then ⟨412, nowM v, 0, 0, 0, none⟩ else if (0 : Int) < fr ∧ (v.bytes.length : Int) ≤ fr then ⟨416, nowM v, 0, 0, 0, none⟩ else if (fr : Int) = 0 ∧ ((to : Int) = 4611686018427387904 ∨ v.bytes.length = 0) then ⟨200, nowM v, 0, if gr = true then 4611686018427387904 else v.m.len, 0, some i⟩ else ⟨206, nowM v, fr, if gr = false ∨ (to : Int) ≠ 4611686018427387904 then min to v.bytes.length else to, fr, some i⟩) = s) := Lh fun s => by unfold askV; rw [hx1, hx2, hgr]; try exact Iff.rfl
 obtain ⟨ask, hask⟩ : ∃ ask, ask = askV i v (⟨obj, fr, to, (c0 :: t0), mw, nt, nw⟩ : Ft) := ⟨_, rfl⟩
 rw [← hask] at ES ⊢
 obtain ⟨q, hq⟩ : ∃ q, q = g.b := ⟨_, rfl⟩
 rw [← hq] at HL HNOW HGR ⊢
 clear hz hb h hn g1 g2 g3 g4 g5 hok hbv hq hv hg htl hx1 hx2 hgr hask
 go_enter Try.func15, Try.ntmps15
 go_wp2_with (refine wpList_boxA 29 rfl _ rfl (ftC (⟨obj, fr, to, (c0 :: t0), mw, nt, nw⟩ : Ft)) rfl ?_; intro W0 x0 n0 s0; refine stop_of ?_)
 unfold Stop
 have k0 := blk_cell n0 0; have k1 := blk_cell n0 1; have k2 := blk_cell n0 2
 simp [ftC] at k0 k1 k2
 have X0 := Lh x0; have N0 := Lh n0
 clear x0 n0
 go_wp2_with (go_at_call 35; refine (HOBJ.out _).mono ?_; rintro e w1 ⟨rfl, rfl⟩; refine stop_of ?_)
 unfold Stop
 go_wp2_with (go_at_call 40; refine (HSP.out _).mono ?_; rintro e w1 ⟨rfl, x1⟩; refine stop_of ?_)
 unfold Stop
 have N1 := Lh (x1.heap N0.out); have X1 := Lh (X0.out.trans x1)
 clear x1 k0 k1 k2 N0 X0
 have k1 := blk_cell N1.out 1; have k2 := blk_cell N1.out 2; have k3 := blk_cell N1.out 3; have k4 := blk_cell N1.out 4
 simp [ftC] at k1 k2 k3 k4
 go_wp2_with (go_at_call 38; refine (HM.out _).mono ?_; rintro e w2 ⟨rfl, x2⟩; refine stop_of ?_)
 unfold Stop
 have N2 := Lh (x2.heap N1.out); have X2 := Lh (X1.out.trans x2)
 clear x2 k1 k2 k3 k4 N1 X1
 have k5 := blk_cell N2.out 5; have k6 := blk_cell N2.out 6
 simp [ftC] at k5 k6
 go_wp2_with (go_at_call 38; refine (HN.out _).mono ?_; rintro e w3 ⟨rfl, x3⟩; refine stop_of ?_)
 unfold Stop
 have X3 := Lh (X2.out.trans x3); have N3 := Lh (x3.heap N2.out)
 clear x3 k5 k6 N2 X2
 go_wp2
 have G0 : ∀ x : Grow [] w3, x.v.cell? ⟨b, 0, none⟩ = some (.map mo) := fun x => x.ext.cell (blk_cell (X3.out.heap HBLK.out) 0) (by simp)
 have G1 : ∀ x : Grow [] w3, x.v.cell? ⟨w.heap.size, 0, none⟩ = some (.string ⟨obj.toArray⟩) := fun x => x.ext.cell (blk_cell N3.out 0) (by simp)
 have GL : ∀ x : Grow [] w3, (Instr.lookup 82 (.map mo) (.string ⟨obj.toArray⟩) false).run Try.prog x.v = .ok (.pointer (some ⟨q, 0, none⟩)) x.v := fun x => HL.out x.v (X3.out.trans x.ext.ext)
 (refine wp_region_grow (by kernel_rfl) (by kernel_rfl) ?_; (repeat (go_big_quiet_step (fail))); refine wpQuiet_nil ?_)
 clear G0 G1 GL
 intro w4 hx4
 have X4 := Lh (X3.out.trans hx4); have N4 := Lh (hx4.heap N3.out)
 clear hx4 X3 N3
 go_wp2_with (go_at_call 41; refine (HNOW.out _ X4.out).mono ?_; rintro e w5 ⟨kv, rfl, t5, x5⟩; refine stop_of ?_)
 unfold Stop
 obtain ⟨KA, KC, rfl, _, _, _⟩ := t5.texts
 have X5 := Lh (X4.out.trans x5); have N5 := Lh (x5.heap N4.out)
 have hsz5 : w.heap.size < w4.heap.size := blk_lt N4.out
 have hsz6 : w4.heap.size ≤ w5.heap.size := x5.size
 have T5 := Lh t5; have HTL := Lh fun x e => (t5.lt x e).2
 clear x5 t5 X4 N4
 unfold metaV
 go_wp2_with (refine wpList_new 38 _ zero38 rfl rfl ?_; intro W6 x6 n6 s6; refine stop_of ?_)
 unfold Stop
 have X6 := Lh (X5.out.trans x6); have N6 := Lh (And.intro (x6.heap N5.out) n6); have T6 := Lh (show SRow W6 w4.heap.size _ v.m.keys from ownsRow_below T5.out x6)
 clear x6 n6 X5 N5 T5
 go_wp2_with (refine wpList_put 38 rfl _ _ rfl _ 0 38 _ ([.string ⟨v.m.tt.toArray⟩, .bool v.m.tw, .int .i64 v.m.mod, .int .i64 v.m.len, .int .i64 v.bytes.length, .int .i64 v.m.fr, .int .i64 v.m.wh, .int .i64 v.m.er, .slice KA v.m.keys.length KC, .string ⟨v.m.ten.toArray⟩, .bool v.m.keep]).toArray ([.string ⟨v.m.tt.toArray⟩, .bool v.m.tw, .int .i64 v.m.mod, .int .i64 v.m.len, .int .i64 v.bytes.length, .int .i64 v.m.fr, .int .i64 v.m.wh, .int .i64 v.m.er, .slice KA v.m.keys.length KC, .string ⟨v.m.ten.toArray⟩, .bool v.m.keep]) _ N6.out.2 rfl rfl rfl (by simp) rfl size38 (by kernel_rfl) ?_; intro W7 x7 n7 s7; refine stop_of ?_)
 unfold Stop
 have X7 := Lh (X6.out.thenB x7 (by simp; omega)); have N7 := Lh (And.intro (x7.heap N6.out.1 (by simp; omega)) n7)
 have T7 := Lh (show SRow W7 w4.heap.size _ v.m.keys from own_extB T6.out x7 (by
  intro y hy e
  have hy' : y = w5.heap.size := by simpa using hy
  have := HTL.out y e
  omega))
 have k1 := blk_cell N7.out.1 1; have k2 := blk_cell N7.out.1 2
 simp [ftC] at k1 k2
 clear x7 n7 X6 N6 T6
 rw [s6] at s7
 go_wp2_with (first | (refine wpList_get 38 _ rfl _ rfl _ 0 38 _ ([.string ⟨v.m.tt.toArray⟩, .bool v.m.tw, .int .i64 v.m.mod, .int .i64 v.m.len, .int .i64 v.bytes.length, .int .i64 v.m.fr, .int .i64 v.m.wh, .int .i64 v.m.er, .slice KA v.m.keys.length KC, .string ⟨v.m.ten.toArray⟩, .bool v.m.keep]) N7.out.2 rfl (by kernel_rfl) Try.underlying38 rfl size38 ?_) | (refine wpList_new 49 _ zero49 rfl rfl ?_; intro W8 x8 n8 s8; refine stop_of ?_))
 unfold Stop
 rw [s7] at n8 s8
 have X8 := Lh (X7.out.trans x8); have N8 := Lh (And.intro (And.intro (x8.heap N7.out.1) (x8.heap N7.out.2)) n8); have T8 := Lh (show SRow W8 w4.heap.size _ v.m.keys from ownsRow_below T7.out x8)
 clear x8 n8 X7 N7 T7 k1 k2
 go_wp2_with (refine wpList_put 49 rfl _ _ rfl _ 0 49 _ ([.int .i64 0, .string ⟨v.m.tt.toArray⟩, .bool v.m.tw, .int .i64 v.m.mod, .int .i64 v.m.len, .int .i64 v.bytes.length, .int .i64 v.m.fr, .int .i64 v.m.wh, .int .i64 v.m.er, .slice KA v.m.keys.length KC, .string ⟨v.m.ten.toArray⟩, .bool v.m.keep, .int .i64 fr, .int .i64 to, .int .i64 0]).toArray ([.int .i64 0, .string ⟨v.m.tt.toArray⟩, .bool v.m.tw, .int .i64 v.m.mod, .int .i64 v.m.len, .int .i64 v.bytes.length, .int .i64 v.m.fr, .int .i64 v.m.wh, .int .i64 v.m.er, .slice KA v.m.keys.length KC, .string ⟨v.m.ten.toArray⟩, .bool v.m.keep, .int .i64 fr, .int .i64 to, .int .i64 0]) _ N8.out.2 rfl rfl rfl (by simp) rfl size49 (by kernel_rfl) ?_; intro W9 x9 n9 s9; refine stop_of ?_)
 unfold Stop
 rw [s8] at s9
 have X9 := Lh (X8.out.thenB x9 (by simp; omega)); have N9 := Lh (And.intro (And.intro (x9.heap N8.out.1.1 (by simp; omega)) (x9.heap N8.out.1.2 (by simp))) n9)
 have T9 := Lh (show SRow W9 w4.heap.size _ v.m.keys from own_extB T8.out x9 (by
  intro y hy e
  have hy' : y = w5.heap.size + 1 := by simpa using hy
  have := HTL.out y e
  omega))
 clear x9 n9 X8 N8 T8
 have hfr0 : ¬ fr = 0 := by omega
 have k1 := blk_cell N9.out.1.1 1
 have k2 := blk_cell N9.out.1.1 2
 have k5 := blk_cell N9.out.1.1 5
 have k6 := blk_cell N9.out.1.1 6
 have j0 := blk_cell N9.out.1.2 0
 have j1 := blk_cell N9.out.1.2 1
 have j4 := blk_cell N9.out.1.2 4
 simp [ftC] at k1 k2 k5 k6 j0 j1 j4
 go_wp2_with (go_at_call 42; refine (HS1.out _).mono ?_; rintro e w10 ⟨rfl, x10⟩; refine stop_of ?_)
 unfold Stop
 clear k1 k2 k5 k6 j0 j1 j4
 have X10 := Lh (X9.out.trans x10); have N10 := Lh (And.intro (And.intro (x10.heap N9.out.1.1) (x10.heap N9.out.1.2)) (x10.heap N9.out.2)); have T10 := Lh (show SRow w10 w4.heap.size _ v.m.keys from ownsRow_below T9.out x10)
 clear x10 X9 N9 T9
 cases x1 with
 | true =>
  go_wp2_with (first | (refine wpList_get 38 _ rfl _ rfl _ 0 38 _ ([.string ⟨v.m.tt.toArray⟩, .bool v.m.tw, .int .i64 v.m.mod, .int .i64 v.m.len, .int .i64 v.bytes.length, .int .i64 v.m.fr, .int .i64 v.m.wh, .int .i64 v.m.er, .slice KA v.m.keys.length KC, .string ⟨v.m.ten.toArray⟩, .bool v.m.keep]) N10.out.1.2 rfl (by kernel_rfl) Try.underlying38 rfl size38 ?_) | (refine wpList_boxA 94 rfl _ rfl (strC none 304 (nowM v) (.slice KA v.m.keys.length KC) 0 0 0) rfl ?_; intro Wz xz nz sz; refine stop_of ?_))
  unfold Stop
  have Xz := Lh (X10.out.trans xz); have Nz := Lh nz; have Tz := Lh (show SRow Wz w.heap.size (.slice KA v.m.keys.length KC) v.m.keys from ownsRow_base (ownsRow_below T10.out xz) (by omega))
  have hlz := X10.out.size
  clear xz nz
  go_wp2
  go_ret2
  exact askR_mk (sv := none) (by exact (ES.out _).2 (by simp)) rfl Nz.out Tz.out hlz Xz.out
 | false =>
  have k1 := blk_cell N10.out.1.1 1
  have k3 := blk_cell N10.out.1.1 3
  have k4 := blk_cell N10.out.1.1 4
  have j0 := blk_cell N10.out.1.2 0
  have j1 := blk_cell N10.out.1.2 1
  have j4 := blk_cell N10.out.1.2 4
  simp [ftC] at k1 k3 k4 j0 j1 j4
  go_wp2_with (go_at_call 42; refine (HS2.out _).mono ?_; rintro e w11 ⟨rfl, x11⟩; refine stop_of ?_)
  unfold Stop
  clear k1 k3 k4 j0 j1 j4
  have X11 := Lh (X10.out.trans x11); have N11 := Lh (And.intro (And.intro (x11.heap N10.out.1.1) (x11.heap N10.out.1.2)) (x11.heap N10.out.2)); have T11 := Lh (show SRow w11 w4.heap.size _ v.m.keys from ownsRow_below T10.out x11)
  clear x11 X10 N10 T10
  cases x2 with
  | false =>
   go_wp2_with (first | (refine wpList_get 38 _ rfl _ rfl _ 0 38 _ ([.string ⟨v.m.tt.toArray⟩, .bool v.m.tw, .int .i64 v.m.mod, .int .i64 v.m.len, .int .i64 v.bytes.length, .int .i64 v.m.fr, .int .i64 v.m.wh, .int .i64 v.m.er, .slice KA v.m.keys.length KC, .string ⟨v.m.ten.toArray⟩, .bool v.m.keep]) N11.out.1.2 rfl (by kernel_rfl) Try.underlying38 rfl size38 ?_) | (refine wpList_boxA 94 rfl _ rfl (strC none 412 (nowM v) (.slice KA v.m.keys.length KC) 0 0 0) rfl ?_; intro Wz xz nz sz; refine stop_of ?_))
   unfold Stop
   have Xz := Lh (X11.out.trans xz); have Nz := Lh nz; have Tz := Lh (show SRow Wz w.heap.size (.slice KA v.m.keys.length KC) v.m.keys from ownsRow_base (ownsRow_below T11.out xz) (by omega))
   have hlz := X11.out.size
   clear xz nz
   go_wp2
   go_ret2
   exact askR_mk (sv := none) (by exact (ES.out _).2 (by simp)) rfl Nz.out Tz.out hlz Xz.out
  | true =>
   by_cases h416 : (v.bytes.length : Int) ≤ fr
   ·have k1 := blk_cell N11.out.1.1 1
    have j4 := blk_cell N11.out.1.2 4
    simp [ftC] at k1 j4
    go_wp2_with (first | (refine wpList_get 38 _ rfl _ rfl _ 0 38 _ ([.string ⟨v.m.tt.toArray⟩, .bool v.m.tw, .int .i64 v.m.mod, .int .i64 v.m.len, .int .i64 v.bytes.length, .int .i64 v.m.fr, .int .i64 v.m.wh, .int .i64 v.m.er, .slice KA v.m.keys.length KC, .string ⟨v.m.ten.toArray⟩, .bool v.m.keep]) N11.out.1.2 rfl (by kernel_rfl) Try.underlying38 rfl size38 ?_) | (refine wpList_boxA 94 rfl _ rfl (strC none 416 (nowM v) (.slice KA v.m.keys.length KC) 0 0 0) rfl ?_; intro Wz xz nz sz; refine stop_of ?_))
    unfold Stop
    have Xz := Lh (X11.out.trans xz); have Nz := Lh nz; have Tz := Lh (show SRow Wz w.heap.size (.slice KA v.m.keys.length KC) v.m.keys from ownsRow_base (ownsRow_below T11.out xz) (by omega))
    have hlz := X11.out.size
    clear xz nz
    go_wp2
    go_ret2
    exact askR_mk (sv := none) (by exact (ES.out _).2 (by simp [hfr, h416])) rfl Nz.out Tz.out hlz Xz.out
   ·have k1 := blk_cell N11.out.1.1 1
    have j4 := blk_cell N11.out.1.2 4
    simp [ftC] at k1 j4
    go_wp2_with (refine wpList_put 3 rfl _ _ rfl _ 0 49 _ ([.int .i64 206, .string ⟨v.m.tt.toArray⟩, .bool v.m.tw, .int .i64 v.m.mod, .int .i64 v.m.len, .int .i64 v.bytes.length, .int .i64 v.m.fr, .int .i64 v.m.wh, .int .i64 v.m.er, .slice KA v.m.keys.length KC, .string ⟨v.m.ten.toArray⟩, .bool v.m.keep, .int .i64 fr, .int .i64 to, .int .i64 0]).toArray [.int .i64 206] (.int .i64 206) N11.out.2 rfl rfl rfl (by simp) rfl size3 (by kernel_rfl) ?_; intro W12 x12 n12 s12; refine stop_of ?_)
    unfold Stop
    have X12 := Lh (X11.out.thenB x12 (by simp; omega)); have N12 := Lh (And.intro (And.intro (x12.heap N11.out.1.1 (by simp; omega)) (x12.heap N11.out.1.2 (by simp))) n12)
    have T12 := Lh (show SRow W12 w4.heap.size _ v.m.keys from own_extB T11.out x12 (by
     intro y hy e
     have hy' : y = w5.heap.size + 1 := by simpa using hy
     have := HTL.out y e
     omega))
    clear x12 n12 X11 N11 T11
    have k2 := blk_cell N12.out.1.1 2
    simp [ftC] at k2
    go_wp2_with (go_at_call 43; refine (HGR.out _ X12.out).mono ?_; rintro e wc ⟨rfl, rfl⟩; refine stop_of ?_)
    unfold Stop
    cases gr with
    | false =>
     clear k2
     by_cases hmin : (v.bytes.length : Int) < to
     ·have k2 := blk_cell N12.out.1.1 2
      have j4 := blk_cell N12.out.1.2 4
      simp [ftC] at k2 j4
      go_wp2_with (refine wpList_put 2 rfl _ _ rfl _ 13 49 _ ([.int .i64 206, .string ⟨v.m.tt.toArray⟩, .bool v.m.tw, .int .i64 v.m.mod, .int .i64 v.m.len, .int .i64 v.bytes.length, .int .i64 v.m.fr, .int .i64 v.m.wh, .int .i64 v.m.er, .slice KA v.m.keys.length KC, .string ⟨v.m.ten.toArray⟩, .bool v.m.keep, .int .i64 fr, .int .i64 v.bytes.length, .int .i64 0]).toArray [.int .i64 v.bytes.length] (.int .i64 v.bytes.length) N12.out.2 rfl rfl rfl (by simp) rfl size2 (by kernel_rfl) ?_; intro W13 x13 n13 s13; refine stop_of ?_)
      unfold Stop
      have X13 := Lh (X12.out.thenB x13 (by simp; omega)); have N13 := Lh (And.intro (And.intro (x13.heap N12.out.1.1 (by simp; omega)) (x13.heap N12.out.1.2 (by simp))) n13)
      have T13 := Lh (show SRow W13 w4.heap.size _ v.m.keys from own_extB T12.out x13 (by
       intro y hy e
       have hy' : y = w5.heap.size + 1 := by simpa using hy
       have := HTL.out y e
       omega))
      clear x13 n13 X12 N12 T12
      clear k2 j4
      have r12 := blk_cell N13.out.2 12
      simp [ftC] at r12
      go_wp2_with (first | (refine wpList_get 49 _ rfl _ rfl _ 0 49 _ ([.int .i64 206, .string ⟨v.m.tt.toArray⟩, .bool v.m.tw, .int .i64 v.m.mod, .int .i64 v.m.len, .int .i64 v.bytes.length, .int .i64 v.m.fr, .int .i64 v.m.wh, .int .i64 v.m.er, .slice KA v.m.keys.length KC, .string ⟨v.m.ten.toArray⟩, .bool v.m.keep, .int .i64 fr, .int .i64 v.bytes.length, .int .i64 0]) N13.out.2 rfl (by kernel_rfl) Try.underlying49 rfl size49 ?_) | (refine wpList_boxA 94 rfl _ rfl (strC (some ⟨q, 0, none⟩) 206 (nowM v) (.slice KA v.m.keys.length KC) (fr) (v.bytes.length) (fr)) rfl ?_; intro Wz xz nz sz; refine stop_of ?_))
      unfold Stop
      have Xz := Lh (X13.out.trans xz); have Nz := Lh nz; have Tz := Lh (show SRow Wz w.heap.size (.slice KA v.m.keys.length KC) v.m.keys from ownsRow_base (ownsRow_below T13.out xz) (by omega))
      have hlz := X13.out.size
      clear xz nz
      rw [s13, s12] at Nz
      go_wp2
      go_ret2
      exact askR_mk (sv := some i) (by refine (ES.out _).2 ?_; rw [if_neg (by simp), if_neg (by simp), if_neg (by omega), if_neg (by omega)]; simp [Int.min_eq_right (show (v.bytes.length : Int) ≤ to by omega)]) rfl Nz.out Tz.out (by omega) Xz.out
     ·have k2 := blk_cell N12.out.1.1 2
      have j4 := blk_cell N12.out.1.2 4
      simp [ftC] at k2 j4
      go_wp2_with (refine wpList_put 2 rfl _ _ rfl _ 13 49 _ ([.int .i64 206, .string ⟨v.m.tt.toArray⟩, .bool v.m.tw, .int .i64 v.m.mod, .int .i64 v.m.len, .int .i64 v.bytes.length, .int .i64 v.m.fr, .int .i64 v.m.wh, .int .i64 v.m.er, .slice KA v.m.keys.length KC, .string ⟨v.m.ten.toArray⟩, .bool v.m.keep, .int .i64 fr, .int .i64 to, .int .i64 0]).toArray [.int .i64 to] (.int .i64 to) N12.out.2 rfl rfl rfl (by simp) rfl size2 (by kernel_rfl) ?_; intro W13 x13 n13 s13; refine stop_of ?_)
      unfold Stop
      have X13 := Lh (X12.out.thenB x13 (by simp; omega)); have N13 := Lh (And.intro (And.intro (x13.heap N12.out.1.1 (by simp; omega)) (x13.heap N12.out.1.2 (by simp))) n13)
      have T13 := Lh (show SRow W13 w4.heap.size _ v.m.keys from own_extB T12.out x13 (by
       intro y hy e
       have hy' : y = w5.heap.size + 1 := by simpa using hy
       have := HTL.out y e
       omega))
      clear x13 n13 X12 N12 T12
      clear k2 j4
      have r12 := blk_cell N13.out.2 12
      simp [ftC] at r12
      go_wp2_with (first | (refine wpList_get 49 _ rfl _ rfl _ 0 49 _ ([.int .i64 206, .string ⟨v.m.tt.toArray⟩, .bool v.m.tw, .int .i64 v.m.mod, .int .i64 v.m.len, .int .i64 v.bytes.length, .int .i64 v.m.fr, .int .i64 v.m.wh, .int .i64 v.m.er, .slice KA v.m.keys.length KC, .string ⟨v.m.ten.toArray⟩, .bool v.m.keep, .int .i64 fr, .int .i64 to, .int .i64 0]) N13.out.2 rfl (by kernel_rfl) Try.underlying49 rfl size49 ?_) | (refine wpList_boxA 94 rfl _ rfl (strC (some ⟨q, 0, none⟩) 206 (nowM v) (.slice KA v.m.keys.length KC) (fr) (to) (fr)) rfl ?_; intro Wz xz nz sz; refine stop_of ?_))
      unfold Stop
      have Xz := Lh (X13.out.trans xz); have Nz := Lh nz; have Tz := Lh (show SRow Wz w.heap.size (.slice KA v.m.keys.length KC) v.m.keys from ownsRow_base (ownsRow_below T13.out xz) (by omega))
      have hlz := X13.out.size
      clear xz nz
      rw [s13, s12] at Nz
      go_wp2
      go_ret2
      exact askR_mk (sv := some i) (by refine (ES.out _).2 ?_; rw [if_neg (by simp), if_neg (by simp), if_neg (by omega), if_neg (by omega)]; simp [Int.min_eq_left (show to ≤ (v.bytes.length : Int) by omega)]) rfl Nz.out Tz.out (by omega) Xz.out
    | true =>
     cases hto : (to == 4611686018427387904) with
     | false =>
      have hto2 : ¬ to = 4611686018427387904 := by simpa using hto
      clear k2
      by_cases hmin : (v.bytes.length : Int) < to
      ·have k2 := blk_cell N12.out.1.1 2
       have j4 := blk_cell N12.out.1.2 4
       simp [ftC] at k2 j4
       go_wp2_with (refine wpList_put 2 rfl _ _ rfl _ 13 49 _ ([.int .i64 206, .string ⟨v.m.tt.toArray⟩, .bool v.m.tw, .int .i64 v.m.mod, .int .i64 v.m.len, .int .i64 v.bytes.length, .int .i64 v.m.fr, .int .i64 v.m.wh, .int .i64 v.m.er, .slice KA v.m.keys.length KC, .string ⟨v.m.ten.toArray⟩, .bool v.m.keep, .int .i64 fr, .int .i64 v.bytes.length, .int .i64 0]).toArray [.int .i64 v.bytes.length] (.int .i64 v.bytes.length) N12.out.2 rfl rfl rfl (by simp) rfl size2 (by kernel_rfl) ?_; intro W13 x13 n13 s13; refine stop_of ?_)
       unfold Stop
       have X13 := Lh (X12.out.thenB x13 (by simp; omega)); have N13 := Lh (And.intro (And.intro (x13.heap N12.out.1.1 (by simp; omega)) (x13.heap N12.out.1.2 (by simp))) n13)
       have T13 := Lh (show SRow W13 w4.heap.size _ v.m.keys from own_extB T12.out x13 (by
        intro y hy e
        have hy' : y = w5.heap.size + 1 := by simpa using hy
        have := HTL.out y e
        omega))
       clear x13 n13 X12 N12 T12
       clear k2 j4
       have r12 := blk_cell N13.out.2 12
       simp [ftC] at r12
       go_wp2_with (first | (refine wpList_get 49 _ rfl _ rfl _ 0 49 _ ([.int .i64 206, .string ⟨v.m.tt.toArray⟩, .bool v.m.tw, .int .i64 v.m.mod, .int .i64 v.m.len, .int .i64 v.bytes.length, .int .i64 v.m.fr, .int .i64 v.m.wh, .int .i64 v.m.er, .slice KA v.m.keys.length KC, .string ⟨v.m.ten.toArray⟩, .bool v.m.keep, .int .i64 fr, .int .i64 v.bytes.length, .int .i64 0]) N13.out.2 rfl (by kernel_rfl) Try.underlying49 rfl size49 ?_) | (refine wpList_boxA 94 rfl _ rfl (strC (some ⟨q, 0, none⟩) 206 (nowM v) (.slice KA v.m.keys.length KC) (fr) (v.bytes.length) (fr)) rfl ?_; intro Wz xz nz sz; refine stop_of ?_))
       unfold Stop
       have Xz := Lh (X13.out.trans xz); have Nz := Lh nz; have Tz := Lh (show SRow Wz w.heap.size (.slice KA v.m.keys.length KC) v.m.keys from ownsRow_base (ownsRow_below T13.out xz) (by omega))
       have hlz := X13.out.size
       clear xz nz
       rw [s13, s12] at Nz
       go_wp2
       go_ret2
       exact askR_mk (sv := some i) (by refine (ES.out _).2 ?_; rw [if_neg (by simp), if_neg (by simp), if_neg (by omega), if_neg (by omega)]; simp [Int.min_eq_right (show (v.bytes.length : Int) ≤ to by omega), hto2]) rfl Nz.out Tz.out (by omega) Xz.out
      ·have k2 := blk_cell N12.out.1.1 2
       have j4 := blk_cell N12.out.1.2 4
       simp [ftC] at k2 j4
       go_wp2_with (refine wpList_put 2 rfl _ _ rfl _ 13 49 _ ([.int .i64 206, .string ⟨v.m.tt.toArray⟩, .bool v.m.tw, .int .i64 v.m.mod, .int .i64 v.m.len, .int .i64 v.bytes.length, .int .i64 v.m.fr, .int .i64 v.m.wh, .int .i64 v.m.er, .slice KA v.m.keys.length KC, .string ⟨v.m.ten.toArray⟩, .bool v.m.keep, .int .i64 fr, .int .i64 to, .int .i64 0]).toArray [.int .i64 to] (.int .i64 to) N12.out.2 rfl rfl rfl (by simp) rfl size2 (by kernel_rfl) ?_; intro W13 x13 n13 s13; refine stop_of ?_)
       unfold Stop
       have X13 := Lh (X12.out.thenB x13 (by simp; omega)); have N13 := Lh (And.intro (And.intro (x13.heap N12.out.1.1 (by simp; omega)) (x13.heap N12.out.1.2 (by simp))) n13)
       have T13 := Lh (show SRow W13 w4.heap.size _ v.m.keys from own_extB T12.out x13 (by
        intro y hy e
        have hy' : y = w5.heap.size + 1 := by simpa using hy
        have := HTL.out y e
        omega))
       clear x13 n13 X12 N12 T12
       clear k2 j4
       have r12 := blk_cell N13.out.2 12
       simp [ftC] at r12
       go_wp2_with (first | (refine wpList_get 49 _ rfl _ rfl _ 0 49 _ ([.int .i64 206, .string ⟨v.m.tt.toArray⟩, .bool v.m.tw, .int .i64 v.m.mod, .int .i64 v.m.len, .int .i64 v.bytes.length, .int .i64 v.m.fr, .int .i64 v.m.wh, .int .i64 v.m.er, .slice KA v.m.keys.length KC, .string ⟨v.m.ten.toArray⟩, .bool v.m.keep, .int .i64 fr, .int .i64 to, .int .i64 0]) N13.out.2 rfl (by kernel_rfl) Try.underlying49 rfl size49 ?_) | (refine wpList_boxA 94 rfl _ rfl (strC (some ⟨q, 0, none⟩) 206 (nowM v) (.slice KA v.m.keys.length KC) (fr) (to) (fr)) rfl ?_; intro Wz xz nz sz; refine stop_of ?_))
       unfold Stop
       have Xz := Lh (X13.out.trans xz); have Nz := Lh nz; have Tz := Lh (show SRow Wz w.heap.size (.slice KA v.m.keys.length KC) v.m.keys from ownsRow_base (ownsRow_below T13.out xz) (by omega))
       have hlz := X13.out.size
       clear xz nz
       rw [s13, s12] at Nz
       go_wp2
       go_ret2
       exact askR_mk (sv := some i) (by refine (ES.out _).2 ?_; rw [if_neg (by simp), if_neg (by simp), if_neg (by omega), if_neg (by omega)]; simp [Int.min_eq_left (show to ≤ (v.bytes.length : Int) by omega), hto2]) rfl Nz.out Tz.out (by omega) Xz.out
     | true =>
      have hto2 : to = 4611686018427387904 := by simpa using hto
      subst hto2
      have r12 := blk_cell N12.out.2 12
      simp [ftC] at r12
      go_wp2_with (first | (refine wpList_get 49 _ rfl _ rfl _ 0 49 _ ([.int .i64 206, .string ⟨v.m.tt.toArray⟩, .bool v.m.tw, .int .i64 v.m.mod, .int .i64 v.m.len, .int .i64 v.bytes.length, .int .i64 v.m.fr, .int .i64 v.m.wh, .int .i64 v.m.er, .slice KA v.m.keys.length KC, .string ⟨v.m.ten.toArray⟩, .bool v.m.keep, .int .i64 fr, .int .i64 4611686018427387904, .int .i64 0]) N12.out.2 rfl (by kernel_rfl) Try.underlying49 rfl size49 ?_) | (refine wpList_boxA 94 rfl _ rfl (strC (some ⟨q, 0, none⟩) 206 (nowM v) (.slice KA v.m.keys.length KC) (fr) (4611686018427387904) (fr)) rfl ?_; intro Wz xz nz sz; refine stop_of ?_))
      unfold Stop
      have Xz := Lh (X12.out.trans xz); have Nz := Lh nz; have Tz := Lh (show SRow Wz w.heap.size (.slice KA v.m.keys.length KC) v.m.keys from ownsRow_base (ownsRow_below T12.out xz) (by omega))
      have hlz := X12.out.size
      clear xz nz
      rw [s12] at Nz
      go_wp2
      go_ret2
      exact askR_mk (sv := some i) (by refine (ES.out _).2 ?_; rw [if_neg (by simp), if_neg (by simp), if_neg (by omega), if_neg (by omega)]; simp) rfl Nz.out Tz.out (by omega) Xz.out
end
end Go.Proofs.Ytpangoddbfiagaa
