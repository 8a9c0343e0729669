import Derived.Test.YtpangoddbfiagaaRG17
namespace Go.Proofs.Ytpangoddbfiagaa
open Go.RowKit Go.Maps Go.ChangeMaps
set_option linter.unusedVariables false
set_option linter.unusedSimpArgs false
theorem size29r : (Try.prog.info? 29).map (·.size) = some 7 := by kernel_rfl
theorem size75r : (Try.prog.info? 75).map (·.size) = some 1 := by kernel_rfl
theorem zero27 (w : World) : (zeroValue 27).run Try.prog w = .ok (.agg #[.string ⟨#[]⟩, .bool false]) w := by kernel_rfl
def RAskR (w : World) (q : Nat) (kv : Value) (s : Sn) (e : Ending) (w' : World) : Prop :=
 ∃ sb, e = .returned (.tuple #[.pointer (some ⟨sb, 0, none⟩), .int .i64 0]) ∧ RStrAt w' sb s.st s.m kv s.fr s.to (s.v.map fun _ => ⟨q, 0, none⟩) s.at_ ∧ w.heap.size ≤ sb ∧ Ext w w'
section
variable {w w' : World} {x B : Nat} {own own' : Nat → Prop} {vs : List Vn} {ss : List Sn} {sa va : List Nat} {gs : List Rg} {A : Option Addr} {c : Nat} {X : List Nat}
set_option maxRecDepth 100000 in
set_option maxHeartbeats 2000000 in
theorem rask_bad (w : World) (x : Nat) (f : Ft) (hz : FtZ f) (hb : ftB f = false) : Calls Try.prog 50 #[.pointer (some ⟨x, 0, none⟩), .agg (ftC f)] w fun e w' => e = .returned (.tuple #[.pointer none, .int .i64 1]) ∧ Ext w w' := by
 have HR := Lh fun W => rright_any W f hz
 rw [hb] at HR
 clear hz hb
 go_enter Try.func50, Try.ntmps50
 go_wp2_with (refine wpList_boxA 29 rfl _ rfl (ftC f) rfl ?_; intro W0 x0 n0 s0; refine stop_of ?_)
 unfold Stop
 have X0 := Lh x0; have N0 := Lh n0
 clear x0 n0 s0
 go_wp2_with (first | (refine wpList_get 29 _ rfl _ rfl _ 0 29 _ [.string ⟨f.obj.toArray⟩, .int .i64 f.fr, .int .i64 f.to, .string ⟨f.mt.toArray⟩, .bool f.mw, .string ⟨f.nt.toArray⟩, .bool f.nw] N0.out rfl (by kernel_rfl) Try.underlying29 rfl size29r ?_) | (go_at_call 63; refine (HR.out _).mono ?_; rintro e w1 ⟨rfl, x1⟩; refine stop_of ?_))
 unfold Stop
 have X1 := Lh (X0.out.trans x1)
 clear x1
 go_wp2
 go_ret2
 exact ⟨rfl, X1.out⟩
set_option maxRecDepth 100000 in
set_option maxHeartbeats 2000000 in
theorem rask_404 (h : RIx w x B own vs ss sa gs A c) (f : Ft) (hz : FtZ f) (hb : ftB f = true) (hn : nowI vs f.obj = none) : Calls Try.prog 50 #[.pointer (some ⟨x, 0, none⟩), .agg (ftC f)] w fun e w' => ∃ sb, e = .returned (.tuple #[.pointer (some ⟨sb, 0, none⟩), .int .i64 0]) ∧ RStrAt w' sb 404 zeroM (.slice none 0 0) 0 0 none 0 ∧ w.heap.size ≤ sb ∧ Ext w w' := by
 have HR := Lh fun W => rright_any W f hz
 rw [hb] at HR
 have HNOW := Lh fun W (y : Ext w W) => (by have h1 := rnow_any (h.ext y) (o := f.obj) (by have := hz.obj; omega); rw [hn, rp_none] at h1; exact h1 : Calls Try.prog 54 #[.pointer (some ⟨x, 0, none⟩), .string ⟨f.obj.toArray⟩] W fun e w' => e = .returned (.pointer none) ∧ W = w')
 clear h hz hb hn
 go_enter Try.func50, Try.ntmps50
 go_wp2_with (refine wpList_boxA 29 rfl _ rfl (ftC f) rfl ?_; intro W0 x0 n0 s0; refine stop_of ?_)
 unfold Stop
 have X0 := Lh x0; have N0 := Lh n0
 clear x0 n0 s0
 go_wp2_with (first | (refine wpList_get 29 _ rfl _ rfl _ 0 29 _ [.string ⟨f.obj.toArray⟩, .int .i64 f.fr, .int .i64 f.to, .string ⟨f.mt.toArray⟩, .bool f.mw, .string ⟨f.nt.toArray⟩, .bool f.nw] N0.out rfl (by kernel_rfl) Try.underlying29 rfl size29r ?_) | (go_at_call 63; refine (HR.out _).mono ?_; rintro e w1 ⟨rfl, x1⟩; refine stop_of ?_))
 unfold Stop
 have X1 := Lh (X0.out.trans x1)
 have k0 := blk_cell (x1.heap N0.out) 0
 simp [ftC] at k0
 clear x1 N0 X0
 go_wp2_with (first | (go_at_call 54; refine (HNOW.out _ X1.out).mono ?_; rintro e w2 ⟨rfl, rfl⟩) | (refine wpList_boxA 77 rfl _ rfl (rstrC 404 zeroM (.slice none 0 0) 0 0 none 0) rfl ?_; intro W5 x5 n5 s5; refine stop_of ?_))
 unfold Stop
 have X5 := Lh (X1.out.trans x5); have N5 := Lh n5; have hle := X1.out.size
 clear x5 n5 s5 k0
 go_wp2
 go_ret2
 exact ⟨_, rfl, N5.out, hle, X5.out⟩
set_option maxRecDepth 100000 in
set_option maxHeartbeats 8000000 in
theorem rask_v (h : RIx w x B own vs ss sa gs A c) (f : Ft) (hz : FtZ f) (hb : ftB f = true) {i : Nat} {v : Vn} {g : Rg} (hn : nowI vs f.obj = some i) (hv : vs[i]? = some v) (hg : gs[i]? = some g) (hwf : (v.m.len == -1) = false → v.m.len = v.bytes.length) : Calls Try.prog 50 #[.pointer (some ⟨x, 0, none⟩), .agg (ftC f)] w (RAskR w g.b g.kv (askV i v f)) := by
 have HR := Lh fun W => rright_any W f hz
 rw [hb] at HR
 have hok := h.vers.at_ i v g hv hg
 have HNOW := Lh fun W (y : Ext w W) => (by have h1 := rnow_any (h.ext y) (o := f.obj) (by have := hz.obj; omega); rw [hn, rp_some hg] at h1; exact h1 : Calls Try.prog 54 #[.pointer (some ⟨x, 0, none⟩), .string ⟨f.obj.toArray⟩] W fun e w' => e = .returned (.pointer (some ⟨g.b, 0, none⟩)) ∧ W = w')
 have htl : v.m.tt.length ≤ 1000 := hok.z.tt
 obtain ⟨x1, hx1⟩ : ∃ x, x = strongB f.nt f.nw v.m.tt v.m.tw := ⟨_, rfl⟩
 obtain ⟨x2, hx2⟩ : ∃ x, x = strongB f.mt f.mw v.m.tt v.m.tw := ⟨_, rfl⟩
 have HS1 := Lh fun W => rstrong_any f.nt v.m.tt f.nw v.m.tw W (by have := hz.nt; omega) (by omega)
 have HS2 := Lh fun W => rstrong_any f.mt v.m.tt f.mw v.m.tw W (by have := hz.mt; omega) (by omega)
 rw [← hx1] at HS1
 rw [← hx2] at HS2
 unfold tagV at HS1 HS2
 obtain ⟨y2, hy2⟩ : ∃ y, y = !(f.mt == [] && !f.mw) := ⟨_, rfl⟩
 obtain ⟨gr, hgr⟩ : ∃ gr, gr = (v.m.len == -1) := ⟨_, rfl⟩
 have hq := fun W => q27 W f.mt f.mw
 rw [← hy2] at hq
 have HBLK := Lh hok.blk; have HKT := Lh hok.keys.texts
 obtain ⟨ask, hask⟩ : ∃ ask, ask = askV i v f := ⟨_, rfl⟩
 obtain ⟨m, hm⟩ : ∃ m, m = nowM v := ⟨_, rfl⟩
 obtain ⟨n, hnl⟩ : ∃ n, n = v.bytes.length := ⟨_, rfl⟩
 have hmt : v.m.tt = m.tt ∧ v.m.tw = m.tw ∧ v.m.len = m.len ∧ m.hav = n ∧ v.m.keys = m.keys := by rw [hm, hnl]; exact ⟨rfl, rfl, rfl, rfl, rfl⟩
 have ES : Hid (ask = if x1 = true then ⟨304, m, 0, 0, 0, none⟩ else if (y2 && !x2) = true then ⟨412, m, 0, 0, 0, none⟩ else if 0 < f.fr ∧ (n : Int) ≤ f.fr then ⟨416, m, 0, 0, 0, none⟩ else if f.fr = 0 ∧ (f.to = 4611686018427387904 ∨ n = 0) then ⟨200, m, 0, if gr = true then 4611686018427387904 else m.len, 0, some i⟩ else ⟨206, m, f.fr, if gr = false ∨ f.to ≠ 4611686018427387904 then min f.to n else f.to, f.fr, some i⟩) := Lh (by rw [hask]; unfold askV; rw [hx1, hx2, hgr, hy2, hm, hnl]; rfl)
 rw [← hask]
 rw [hmt.1, hmt.2.1] at HS1 HS2
 rw [hmt.2.2.2.2] at HKT
 obtain ⟨KA, KC, hkv⟩ : ∃ KA KC, g.kv = .slice KA m.keys.length KC := by obtain ⟨KA, KC, e, _⟩ := HKT.out; exact ⟨KA, KC, e⟩
 have HWF : Hid (gr = (m.len == -1) ∧ (gr = false → m.len = n) ∧ m.hav = n) := Lh ⟨by rw [hgr, hmt.2.2.1], fun e => by rw [← hmt.2.2.1, hnl]; exact hwf (by rw [← hgr]; exact e), hmt.2.2.2.1⟩
 rw [hkv] at HBLK ⊢
 rw [← hm] at HBLK
 have HHAV : Hid (m.hav = n) := Lh hmt.2.2.2.1
 have HNL := Lh (show n ≤ 100000 by rw [hnl]; exact hok.len)
 obtain ⟨q, hqq⟩ : ∃ q, q = g.b := ⟨_, rfl⟩
 rw [← hqq] at HNOW HBLK ⊢
 clear h hz hb hn hv hg hwf hok htl hx1 hx2 hy2 hgr HKT hask hm hnl hmt hkv hqq
 go_enter Try.func50, Try.ntmps50
 go_wp2_with (refine wpList_boxA 29 rfl _ rfl (ftC f) rfl ?_; intro W0 x0 n0 s0; refine stop_of ?_)
 unfold Stop
 have X0 := Lh x0; have N0 := Lh n0
 clear x0 n0 s0
 go_wp2_with (first | (refine wpList_get 29 _ rfl _ rfl _ 0 29 _ [.string ⟨f.obj.toArray⟩, .int .i64 f.fr, .int .i64 f.to, .string ⟨f.mt.toArray⟩, .bool f.mw, .string ⟨f.nt.toArray⟩, .bool f.nw] N0.out rfl (by kernel_rfl) Try.underlying29 rfl size29r ?_) | (go_at_call 63; refine (HR.out _).mono ?_; rintro e w1 ⟨rfl, x1⟩; refine stop_of ?_))
 unfold Stop
 have X1 := Lh (X0.out.trans x1); have N1 := Lh (x1.heap N0.out); have B1 := Lh ((X0.out.trans x1).heap HBLK.out)
 have k0 := blk_cell N1.out 0
 simp [ftC] at k0
 clear x1 N0 X0
 go_wp2_with (first | (go_at_call 54; refine (HNOW.out _ X1.out).mono ?_; rintro e w2 ⟨rfl, rfl⟩) | (refine wpList_get 38 _ rfl _ rfl q 1 110 _ ([.string ⟨m.tt.toArray⟩, .bool m.tw, .int .i64 m.mod, .int .i64 m.len, .int .i64 m.hav, .int .i64 m.fr, .int .i64 m.wh, .int .i64 m.er, .slice KA m.keys.length KC, .string ⟨m.ten.toArray⟩, .bool m.keep]) B1.out rfl (by kernel_rfl) Try.underlying38 rfl size38 ?_) | (refine wpList_boxA 77 rfl _ rfl (rstrC 0 m (.slice KA m.keys.length KC) 0 0 none 0) rfl ?_; intro W5 x5 n5 s5; refine stop_of ?_))
 unfold Stop
 obtain ⟨sb, hsb⟩ : ∃ sb, sb = w1.heap.size := ⟨_, rfl⟩
 rw [← hsb] at n5 ⊢
 have hle : w.heap.size < sb := by rw [hsb]; exact blk_lt N1.out
 have X5 := Lh (X1.out.trans x5); have N5 := Lh n5; have F5 := Lh (x5.heap N1.out); have B5 := Lh (x5.heap B1.out)
 clear x5 n5 k0 s5 X1 N1 B1 hsb
 go_wp2_with (refine wpList_new 27 _ zero27 rfl rfl ?_; intro W6 x6 n6 s6; refine stop_of ?_)
 unfold Stop
 obtain ⟨zb, hzb⟩ : ∃ zb, zb = W5.heap.size := ⟨_, rfl⟩
 rw [← hzb] at n6 ⊢
 have hlz : sb < zb := by rw [hzb]; exact blk_lt N5.out
 have X6 := Lh (X5.out.trans x6); have N6 := Lh (x6.heap N5.out); have F6 := Lh (x6.heap F5.out); have B6 := Lh (x6.heap B5.out); have Z6 := Lh n6
 clear x6 n6 s6 hzb X5 N5 F5 B5
 go_wp2_with (refine wpList_put 27 rfl _ _ rfl zb 0 27 _ #[.string ⟨#[]⟩, .bool false] [.string ⟨#[]⟩, .bool false] _ Z6.out rfl rfl rfl (by simp) rfl size27 (by kernel_rfl) ?_; intro W7 x7 n7 s7; refine stop_of ?_)
 unfold Stop
 have hbq : q < w.heap.size := blk_lt HBLK.out
 have X7 := Lh (X6.out.thenB x7 (by simp; omega)); have N7 := Lh (x7.heap N6.out (by simp; omega)); have F7 := Lh (x7.heap F6.out (by simp; omega)); have B7 := Lh (x7.heap B6.out (by simp; omega)); have Z7 := Lh n7
 clear x7 n7 s7 X6 N6 F6 B6 Z6
 have G5 : ∀ x : Grow [] W7, x.v.cell? ⟨w.heap.size, 5, none⟩ = some (.string ⟨f.nt.toArray⟩) := fun x => x.ext.cell (blk_cell F7.out 5) (by simp)
 have G6 : ∀ x : Grow [] W7, x.v.cell? ⟨w.heap.size, 6, none⟩ = some (.bool f.nw) := fun x => x.ext.cell (blk_cell F7.out 6) (by simp)
 have Q1 : ∀ x : Grow [] W7, x.v.cell? ⟨q, 1, none⟩ = some (.string ⟨m.tt.toArray⟩) := fun x => x.ext.cell (blk_cell B7.out 1) (by simp)
 have Q2 : ∀ x : Grow [] W7, x.v.cell? ⟨q, 2, none⟩ = some (.bool m.tw) := fun x => x.ext.cell (blk_cell B7.out 2) (by simp)
 go_wp2
 (refine wp_region_grow (by kernel_rfl) (by kernel_rfl) ?_; (repeat (go_big_quiet_step ((go_at_call 64; exact Calls.inGrow (HS1.out _))))); refine wpQuiet_nil ?_)
 clear G5 G6 Q1 Q2
 intro w8 hx8
 have X8 := Lh (X7.out.trans hx8); have N8 := Lh (hx8.heap N7.out); have F8 := Lh (hx8.heap F7.out); have B8 := Lh (hx8.heap B7.out); have Z8 := Lh (hx8.heap Z7.out)
 clear hx8 X7 N7 F7 B7 Z7
 cases x1 with
 | true =>
  have ES := Lh (ES.out.trans (if_pos rfl))
  go_wp2_with (refine wpList_put 3 rfl _ _ rfl sb 0 77 _ (rstrC 304 m (.slice KA m.keys.length KC) 0 0 none 0) [.int .i64 304] _ N8.out rfl rfl rfl (by simp [rstrC]) rfl size3 (by simp [putA, rstrC]) ?_; intro W9 x9 n9 s9; refine stop_of ?_)
  unfold Stop
  have X9 := Lh (X8.out.thenB x9 (by simp; omega)); have N9 := Lh n9; have F9 := Lh (x9.heap F8.out (by simp; omega)); have B9 := Lh (x9.heap B8.out (by simp; omega))
  clear x9 n9 s9 X8 N8 F8 B8
  go_wp2
  go_ret2
  exact ⟨sb, rfl, by rw [ES.out]; exact N9.out, by omega, X9.out⟩
 | false =>
  have ES := Lh (ES.out.trans (if_neg (by decide)))
  cases y2 with
  | false =>
   have ES := Lh (ES.out.trans (if_neg (by simp)))
   have G3 : ∀ x : Grow [] w8, x.v.cell? ⟨w.heap.size, 3, none⟩ = some (.string ⟨f.mt.toArray⟩) := fun x => x.ext.cell (blk_cell F8.out 3) (by simp)
   have G4 : ∀ x : Grow [] w8, x.v.cell? ⟨w.heap.size, 4, none⟩ = some (.bool f.mw) := fun x => x.ext.cell (blk_cell F8.out 4) (by simp)
   have Z0 : ∀ x : Grow [] w8, x.v.cell? ⟨zb, 0, none⟩ = some (.string ⟨#[]⟩) := fun x => x.ext.cell (blk_cell Z8.out 0) (by simp)
   have Z1 : ∀ x : Grow [] w8, x.v.cell? ⟨zb, 1, none⟩ = some (.bool false) := fun x => x.ext.cell (blk_cell Z8.out 1) (by simp)
   have Q1 : ∀ x : Grow [] w8, x.v.cell? ⟨q, 1, none⟩ = some (.string ⟨m.tt.toArray⟩) := fun x => x.ext.cell (blk_cell B8.out 1) (by simp)
   have Q2 : ∀ x : Grow [] w8, x.v.cell? ⟨q, 2, none⟩ = some (.bool m.tw) := fun x => x.ext.cell (blk_cell B8.out 2) (by simp)
   go_wp2
   (refine wp_region_grow (by kernel_rfl) (by kernel_rfl) ?_; (repeat (go_big_quiet_step (fail))); refine wpQuiet_nil ?_)
   clear G3 G4 Z0 Z1 Q1 Q2
   intro w10 hx10
   have X10 := Lh (X8.out.trans hx10); have N10 := Lh (hx10.heap N8.out); have F10 := Lh (hx10.heap F8.out); have B10 := Lh (hx10.heap B8.out)
   clear hx10 X8 N8 F8 B8
   clear Z8 hq
   cases h1 : decide (0 < f.fr) with
   | true =>
    cases h2 : decide (m.hav ≤ f.fr) with
    | true =>
     have ES := Lh (ES.out.trans (if_pos ⟨of_decide_eq_true h1, by rw [← HHAV.out]; exact of_decide_eq_true h2⟩))
     have G1 : ∀ x : Grow [] w10, x.v.cell? ⟨w.heap.size, 1, none⟩ = some (.int .i64 f.fr) := fun x => x.ext.cell (blk_cell F10.out 1) (by simp)
     have Q5 : ∀ x : Grow [] w10, x.v.cell? ⟨q, 5, none⟩ = some (.int .i64 m.hav) := fun x => x.ext.cell (blk_cell B10.out 5) (by simp)
     go_wp2
     (refine wp_region_grow (by kernel_rfl) (by kernel_rfl) ?_; (repeat (go_big_quiet_step (fail))); refine wpQuiet_nil ?_)
     clear G1 Q5 h1 h2
     intro w11 hx11
     have X11 := Lh (X10.out.trans hx11); have N11 := Lh (hx11.heap N10.out); have F11 := Lh (hx11.heap F10.out); have B11 := Lh (hx11.heap B10.out)
     clear hx11 X10 N10 F10 B10
     go_wp2_with (refine wpList_put 3 rfl _ _ rfl sb 0 77 _ (rstrC 416 m (.slice KA m.keys.length KC) 0 0 none 0) [.int .i64 416] _ N11.out rfl rfl rfl (by simp [rstrC]) rfl size3 (by simp [putA, rstrC]) ?_; intro W12 x12 n12 s12; refine stop_of ?_)
     unfold Stop
     have X12 := Lh (X11.out.thenB x12 (by simp; omega)); have N12 := Lh n12; have F12 := Lh (x12.heap F11.out (by simp; omega)); have B12 := Lh (x12.heap B11.out (by simp; omega))
     clear x12 n12 s12 X11 N11 F11 B11
     go_wp2
     go_ret2
     exact ⟨sb, rfl, by rw [ES.out]; exact N12.out, by omega, X12.out⟩
    | false =>
     have ES := Lh (ES.out.trans (if_neg (fun hh => absurd hh.2 (by rw [← HHAV.out]; exact of_decide_eq_false h2))))
     have ES := Lh (ES.out.trans (if_neg (fun hh => by have := of_decide_eq_true h1; omega)))
     have e1 : (f.fr == 0) = false := by have := of_decide_eq_true h1; simp; omega
     have G1 : ∀ x : Grow [] w10, x.v.cell? ⟨w.heap.size, 1, none⟩ = some (.int .i64 f.fr) := fun x => x.ext.cell (blk_cell F10.out 1) (by simp)
     have Q5 : ∀ x : Grow [] w10, x.v.cell? ⟨q, 5, none⟩ = some (.int .i64 m.hav) := fun x => x.ext.cell (blk_cell B10.out 5) (by simp)
     go_wp2
     (refine wp_region_grow (by kernel_rfl) (by kernel_rfl) ?_; (repeat (go_big_quiet_step (fail))); refine wpQuiet_nil ?_)
     clear G1 Q5 h1 h2
     intro w11 hx11
     have X11 := Lh (X10.out.trans hx11); have N11 := Lh (hx11.heap N10.out); have F11 := Lh (hx11.heap F10.out); have B11 := Lh (hx11.heap B10.out)
     clear hx11 X10 N10 F10 B10
     go_wp2_with (refine wpList_put 75 rfl _ _ rfl sb 15 77 _ (rstrC 0 m (.slice KA m.keys.length KC) 0 0 (some ⟨q, 0, none⟩) 0) [.pointer (some ⟨q, 0, none⟩)] _ N11.out rfl rfl rfl (by simp [rstrC]) rfl size75r (by simp [putA, rstrC]) ?_; intro W12 x12 n12 s12; refine stop_of ?_)
     unfold Stop
     have X12 := Lh (X11.out.thenB x12 (by simp; omega)); have N12 := Lh n12; have F12 := Lh (x12.heap F11.out (by simp; omega)); have B12 := Lh (x12.heap B11.out (by simp; omega))
     clear x12 n12 s12 X11 N11 F11 B11
     go_wp2_with (refine wpList_put 3 rfl _ _ rfl sb 0 77 _ (rstrC 206 m (.slice KA m.keys.length KC) 0 0 (some ⟨q, 0, none⟩) 0) [.int .i64 206] _ N12.out rfl rfl rfl (by simp [rstrC]) rfl size3 (by simp [putA, rstrC]) ?_; intro W13 x13 n13 s13; refine stop_of ?_)
     unfold Stop
     have X13 := Lh (X12.out.thenB x13 (by simp; omega)); have N13 := Lh n13; have F13 := Lh (x13.heap F12.out (by simp; omega)); have B13 := Lh (x13.heap B12.out (by simp; omega))
     clear x13 n13 s13 X12 N12 F12 B12
     have k1 := blk_cell F13.out 1
     have k2 := blk_cell F13.out 2
     simp [ftC, rverC, rstrC] at k1 k2
     go_wp2_with (refine wpList_put 25 rfl _ _ rfl sb 12 77 _ (rstrC 206 m (.slice KA m.keys.length KC) f.fr f.to (some ⟨q, 0, none⟩) 0) [.int .i64 f.fr, .int .i64 f.to] _ N13.out rfl rfl rfl (by simp [rstrC]) rfl size25 (by simp [putA, rstrC]) ?_; intro W14 x14 n14 s14; refine stop_of ?_)
     unfold Stop
     have X14 := Lh (X13.out.thenB x14 (by simp; omega)); have N14 := Lh n14; have F14 := Lh (x14.heap F13.out (by simp; omega)); have B14 := Lh (x14.heap B13.out (by simp; omega))
     clear x14 n14 s14 X13 N13 F13 B13
     clear k1 k2
     have k1 := blk_cell F14.out 1
     have k2 := blk_cell F14.out 2
     have k5 := blk_cell B14.out 5
     have k4 := blk_cell B14.out 4
     simp [ftC, rverC, rstrC] at k1 k2 k5 k4
     have j13 := blk_cell N14.out 13
     simp [ftC, rverC, rstrC] at j13
     cases e4 : (m.len == -1) with
     | true =>
      cases e2 : (f.to == 4611686018427387904) with
      | true =>
       have ES := Lh (show ask = ⟨206, m, f.fr, f.to, f.fr, some i⟩ by rw [ES.out, HWF.out.1, e4, if_neg (fun hh => hh.elim (fun h => by cases h) (fun h => h (by simpa using e2)))])
       go_wp2
       (refine wp_region_grow (by kernel_rfl) (by kernel_rfl) ?_; (repeat (go_big_quiet_step (fail))); refine wpQuiet_nil ?_)
       intro w17 hx17
       have X17 := Lh (X14.out.trans hx17); have N17 := Lh (hx17.heap N14.out); have F17 := Lh (hx17.heap F14.out); have B17 := Lh (hx17.heap B14.out)
       clear hx17 X14 N14 F14 B14 k1 k4 k5 j13
       try clear k2
       have k1 := blk_cell F17.out 1
       simp [ftC, rverC, rstrC] at k1
       go_wp2_with (refine wpList_put 2 rfl _ _ rfl sb 16 77 _ (rstrC 206 m (.slice KA m.keys.length KC) f.fr f.to (some ⟨q, 0, none⟩) f.fr) [.int .i64 f.fr] _ N17.out rfl rfl rfl (by simp [rstrC]) rfl size2 (by simp [putA, rstrC]) ?_; intro W20 x20 n20 s20; refine stop_of ?_)
       unfold Stop
       have X20 := Lh (X17.out.thenB x20 (by simp; omega)); have N20 := Lh n20; have F20 := Lh (x20.heap F17.out (by simp; omega)); have B20 := Lh (x20.heap B17.out (by simp; omega))
       clear x20 n20 s20 X17 N17 F17 B17
       go_wp2
       go_ret2
       exact ⟨sb, rfl, by rw [ES.out]; exact N20.out, by omega, X20.out⟩
      | false =>
       have ES := Lh (show ask = ⟨206, m, f.fr, min f.to n, f.fr, some i⟩ by rw [ES.out, if_pos (.inr (by simpa using e2))])
       cases e5 : decide (m.hav < f.to) with
       | true =>
        have ES := Lh (show ask = ⟨206, m, f.fr, m.hav, f.fr, some i⟩ by rw [ES.out, show min f.to (n : Int) = m.hav from by have := of_decide_eq_true e5; have := HHAV.out; omega])
        have J13 : ∀ x : Grow [] W14, x.v.cell? ⟨sb, 13, none⟩ = some (.int .i64 f.to) := fun x => x.ext.cell (blk_cell N14.out 13) (by simp)
        have Q5 : ∀ x : Grow [] W14, x.v.cell? ⟨q, 5, none⟩ = some (.int .i64 m.hav) := fun x => x.ext.cell (blk_cell B14.out 5) (by simp)
        go_wp2
        (refine wp_region_grow (by kernel_rfl) (by kernel_rfl) ?_; (repeat (go_big_quiet_step (fail))); refine wpQuiet_nil ?_)
        clear J13 Q5
        intro w17 hx17
        have X17 := Lh (X14.out.trans hx17); have N17 := Lh (hx17.heap N14.out); have F17 := Lh (hx17.heap F14.out); have B17 := Lh (hx17.heap B14.out)
        clear hx17 X14 N14 F14 B14 k1 k4 k5 j13
        try clear k2
        have k5 := blk_cell B17.out 5
        simp [ftC, rverC, rstrC] at k5
        go_wp2_with (refine wpList_put 2 rfl _ _ rfl sb 13 77 _ (rstrC 206 m (.slice KA m.keys.length KC) f.fr m.hav (some ⟨q, 0, none⟩) 0) [.int .i64 m.hav] _ N17.out rfl rfl rfl (by simp [rstrC]) rfl size2 (by simp [putA, rstrC]) ?_; intro W18 x18 n18 s18; refine stop_of ?_)
        unfold Stop
        have X18 := Lh (X17.out.thenB x18 (by simp; omega)); have N18 := Lh n18; have F18 := Lh (x18.heap F17.out (by simp; omega)); have B18 := Lh (x18.heap B17.out (by simp; omega))
        clear x18 n18 s18 X17 N17 F17 B17
        clear k5
        have k1 := blk_cell F18.out 1
        simp [ftC, rverC, rstrC] at k1
        go_wp2_with (refine wpList_put 2 rfl _ _ rfl sb 16 77 _ (rstrC 206 m (.slice KA m.keys.length KC) f.fr m.hav (some ⟨q, 0, none⟩) f.fr) [.int .i64 f.fr] _ N18.out rfl rfl rfl (by simp [rstrC]) rfl size2 (by simp [putA, rstrC]) ?_; intro W20 x20 n20 s20; refine stop_of ?_)
        unfold Stop
        have X20 := Lh (X18.out.thenB x20 (by simp; omega)); have N20 := Lh n20; have F20 := Lh (x20.heap F18.out (by simp; omega)); have B20 := Lh (x20.heap B18.out (by simp; omega))
        clear x20 n20 s20 X18 N18 F18 B18
        go_wp2
        go_ret2
        exact ⟨sb, rfl, by rw [ES.out]; exact N20.out, by omega, X20.out⟩
       | false =>
        have ES := Lh (show ask = ⟨206, m, f.fr, f.to, f.fr, some i⟩ by rw [ES.out, show min f.to (n : Int) = f.to from by have := of_decide_eq_false e5; have := HHAV.out; omega])
        have J13 : ∀ x : Grow [] W14, x.v.cell? ⟨sb, 13, none⟩ = some (.int .i64 f.to) := fun x => x.ext.cell (blk_cell N14.out 13) (by simp)
        have Q5 : ∀ x : Grow [] W14, x.v.cell? ⟨q, 5, none⟩ = some (.int .i64 m.hav) := fun x => x.ext.cell (blk_cell B14.out 5) (by simp)
        go_wp2
        (refine wp_region_grow (by kernel_rfl) (by kernel_rfl) ?_; (repeat (go_big_quiet_step (fail))); refine wpQuiet_nil ?_)
        clear J13 Q5
        intro w17 hx17
        have X17 := Lh (X14.out.trans hx17); have N17 := Lh (hx17.heap N14.out); have F17 := Lh (hx17.heap F14.out); have B17 := Lh (hx17.heap B14.out)
        clear hx17 X14 N14 F14 B14 k1 k4 k5 j13
        try clear k2
        have k1 := blk_cell F17.out 1
        simp [ftC, rverC, rstrC] at k1
        go_wp2_with (refine wpList_put 2 rfl _ _ rfl sb 16 77 _ (rstrC 206 m (.slice KA m.keys.length KC) f.fr f.to (some ⟨q, 0, none⟩) f.fr) [.int .i64 f.fr] _ N17.out rfl rfl rfl (by simp [rstrC]) rfl size2 (by simp [putA, rstrC]) ?_; intro W20 x20 n20 s20; refine stop_of ?_)
        unfold Stop
        have X20 := Lh (X17.out.thenB x20 (by simp; omega)); have N20 := Lh n20; have F20 := Lh (x20.heap F17.out (by simp; omega)); have B20 := Lh (x20.heap B17.out (by simp; omega))
        clear x20 n20 s20 X17 N17 F17 B17
        go_wp2
        go_ret2
        exact ⟨sb, rfl, by rw [ES.out]; exact N20.out, by omega, X20.out⟩
     | false =>
      have ES := Lh (show ask = ⟨206, m, f.fr, min f.to n, f.fr, some i⟩ by rw [ES.out, if_pos (.inl (by rw [HWF.out.1]; exact e4))])
      cases e5 : decide (m.hav < f.to) with
      | true =>
       have ES := Lh (show ask = ⟨206, m, f.fr, m.hav, f.fr, some i⟩ by rw [ES.out, show min f.to (n : Int) = m.hav from by have := of_decide_eq_true e5; have := HHAV.out; omega])
       have J13 : ∀ x : Grow [] W14, x.v.cell? ⟨sb, 13, none⟩ = some (.int .i64 f.to) := fun x => x.ext.cell (blk_cell N14.out 13) (by simp)
       have Q5 : ∀ x : Grow [] W14, x.v.cell? ⟨q, 5, none⟩ = some (.int .i64 m.hav) := fun x => x.ext.cell (blk_cell B14.out 5) (by simp)
       go_wp2
       (refine wp_region_grow (by kernel_rfl) (by kernel_rfl) ?_; (repeat (go_big_quiet_step (fail))); refine wpQuiet_nil ?_)
       clear J13 Q5
       intro w17 hx17
       have X17 := Lh (X14.out.trans hx17); have N17 := Lh (hx17.heap N14.out); have F17 := Lh (hx17.heap F14.out); have B17 := Lh (hx17.heap B14.out)
       clear hx17 X14 N14 F14 B14 k1 k4 k5 j13
       try clear k2
       have k5 := blk_cell B17.out 5
       simp [ftC, rverC, rstrC] at k5
       go_wp2_with (refine wpList_put 2 rfl _ _ rfl sb 13 77 _ (rstrC 206 m (.slice KA m.keys.length KC) f.fr m.hav (some ⟨q, 0, none⟩) 0) [.int .i64 m.hav] _ N17.out rfl rfl rfl (by simp [rstrC]) rfl size2 (by simp [putA, rstrC]) ?_; intro W18 x18 n18 s18; refine stop_of ?_)
       unfold Stop
       have X18 := Lh (X17.out.thenB x18 (by simp; omega)); have N18 := Lh n18; have F18 := Lh (x18.heap F17.out (by simp; omega)); have B18 := Lh (x18.heap B17.out (by simp; omega))
       clear x18 n18 s18 X17 N17 F17 B17
       clear k5
       have k1 := blk_cell F18.out 1
       simp [ftC, rverC, rstrC] at k1
       go_wp2_with (refine wpList_put 2 rfl _ _ rfl sb 16 77 _ (rstrC 206 m (.slice KA m.keys.length KC) f.fr m.hav (some ⟨q, 0, none⟩) f.fr) [.int .i64 f.fr] _ N18.out rfl rfl rfl (by simp [rstrC]) rfl size2 (by simp [putA, rstrC]) ?_; intro W20 x20 n20 s20; refine stop_of ?_)
       unfold Stop
       have X20 := Lh (X18.out.thenB x20 (by simp; omega)); have N20 := Lh n20; have F20 := Lh (x20.heap F18.out (by simp; omega)); have B20 := Lh (x20.heap B18.out (by simp; omega))
       clear x20 n20 s20 X18 N18 F18 B18
       go_wp2
       go_ret2
       exact ⟨sb, rfl, by rw [ES.out]; exact N20.out, by omega, X20.out⟩
      | false =>
       have ES := Lh (show ask = ⟨206, m, f.fr, f.to, f.fr, some i⟩ by rw [ES.out, show min f.to (n : Int) = f.to from by have := of_decide_eq_false e5; have := HHAV.out; omega])
       have J13 : ∀ x : Grow [] W14, x.v.cell? ⟨sb, 13, none⟩ = some (.int .i64 f.to) := fun x => x.ext.cell (blk_cell N14.out 13) (by simp)
       have Q5 : ∀ x : Grow [] W14, x.v.cell? ⟨q, 5, none⟩ = some (.int .i64 m.hav) := fun x => x.ext.cell (blk_cell B14.out 5) (by simp)
       go_wp2
       (refine wp_region_grow (by kernel_rfl) (by kernel_rfl) ?_; (repeat (go_big_quiet_step (fail))); refine wpQuiet_nil ?_)
       clear J13 Q5
       intro w17 hx17
       have X17 := Lh (X14.out.trans hx17); have N17 := Lh (hx17.heap N14.out); have F17 := Lh (hx17.heap F14.out); have B17 := Lh (hx17.heap B14.out)
       clear hx17 X14 N14 F14 B14 k1 k4 k5 j13
       try clear k2
       have k1 := blk_cell F17.out 1
       simp [ftC, rverC, rstrC] at k1
       go_wp2_with (refine wpList_put 2 rfl _ _ rfl sb 16 77 _ (rstrC 206 m (.slice KA m.keys.length KC) f.fr f.to (some ⟨q, 0, none⟩) f.fr) [.int .i64 f.fr] _ N17.out rfl rfl rfl (by simp [rstrC]) rfl size2 (by simp [putA, rstrC]) ?_; intro W20 x20 n20 s20; refine stop_of ?_)
       unfold Stop
       have X20 := Lh (X17.out.thenB x20 (by simp; omega)); have N20 := Lh n20; have F20 := Lh (x20.heap F17.out (by simp; omega)); have B20 := Lh (x20.heap B17.out (by simp; omega))
       clear x20 n20 s20 X17 N17 F17 B17
       go_wp2
       go_ret2
       exact ⟨sb, rfl, by rw [ES.out]; exact N20.out, by omega, X20.out⟩
   | false =>
    have ES := Lh (ES.out.trans (if_neg (fun hh => absurd hh.1 (of_decide_eq_false h1))))
    have G1 : ∀ x : Grow [] w10, x.v.cell? ⟨w.heap.size, 1, none⟩ = some (.int .i64 f.fr) := fun x => x.ext.cell (blk_cell F10.out 1) (by simp)
    have Q5 : ∀ x : Grow [] w10, x.v.cell? ⟨q, 5, none⟩ = some (.int .i64 m.hav) := fun x => x.ext.cell (blk_cell B10.out 5) (by simp)
    go_wp2
    (refine wp_region_grow (by kernel_rfl) (by kernel_rfl) ?_; (repeat (go_big_quiet_step (fail))); refine wpQuiet_nil ?_)
    clear G1 Q5 h1
    intro w11 hx11
    have X11 := Lh (X10.out.trans hx11); have N11 := Lh (hx11.heap N10.out); have F11 := Lh (hx11.heap F10.out); have B11 := Lh (hx11.heap B10.out)
    clear hx11 X10 N10 F10 B10
    go_wp2_with (refine wpList_put 75 rfl _ _ rfl sb 15 77 _ (rstrC 0 m (.slice KA m.keys.length KC) 0 0 (some ⟨q, 0, none⟩) 0) [.pointer (some ⟨q, 0, none⟩)] _ N11.out rfl rfl rfl (by simp [rstrC]) rfl size75r (by simp [putA, rstrC]) ?_; intro W12 x12 n12 s12; refine stop_of ?_)
    unfold Stop
    have X12 := Lh (X11.out.thenB x12 (by simp; omega)); have N12 := Lh n12; have F12 := Lh (x12.heap F11.out (by simp; omega)); have B12 := Lh (x12.heap B11.out (by simp; omega))
    clear x12 n12 s12 X11 N11 F11 B11
    go_wp2_with (refine wpList_put 3 rfl _ _ rfl sb 0 77 _ (rstrC 206 m (.slice KA m.keys.length KC) 0 0 (some ⟨q, 0, none⟩) 0) [.int .i64 206] _ N12.out rfl rfl rfl (by simp [rstrC]) rfl size3 (by simp [putA, rstrC]) ?_; intro W13 x13 n13 s13; refine stop_of ?_)
    unfold Stop
    have X13 := Lh (X12.out.thenB x13 (by simp; omega)); have N13 := Lh n13; have F13 := Lh (x13.heap F12.out (by simp; omega)); have B13 := Lh (x13.heap B12.out (by simp; omega))
    clear x13 n13 s13 X12 N12 F12 B12
    have k1 := blk_cell F13.out 1
    have k2 := blk_cell F13.out 2
    simp [ftC, rverC, rstrC] at k1 k2
    go_wp2_with (refine wpList_put 25 rfl _ _ rfl sb 12 77 _ (rstrC 206 m (.slice KA m.keys.length KC) f.fr f.to (some ⟨q, 0, none⟩) 0) [.int .i64 f.fr, .int .i64 f.to] _ N13.out rfl rfl rfl (by simp [rstrC]) rfl size25 (by simp [putA, rstrC]) ?_; intro W14 x14 n14 s14; refine stop_of ?_)
    unfold Stop
    have X14 := Lh (X13.out.thenB x14 (by simp; omega)); have N14 := Lh n14; have F14 := Lh (x14.heap F13.out (by simp; omega)); have B14 := Lh (x14.heap B13.out (by simp; omega))
    clear x14 n14 s14 X13 N13 F13 B13
    clear k1 k2
    have k1 := blk_cell F14.out 1
    have k2 := blk_cell F14.out 2
    have k5 := blk_cell B14.out 5
    have k4 := blk_cell B14.out 4
    simp [ftC, rverC, rstrC] at k1 k2 k5 k4
    cases e1 : (f.fr == 0) with
    | false =>
     have ES := Lh (ES.out.trans (if_neg (fun hh => absurd hh.1 (by simpa using e1))))
     have j13 := blk_cell N14.out 13
     simp [ftC, rverC, rstrC] at j13
     cases e4 : (m.len == -1) with
     | true =>
      cases e2 : (f.to == 4611686018427387904) with
      | true =>
       have ES := Lh (show ask = ⟨206, m, f.fr, f.to, f.fr, some i⟩ by rw [ES.out, HWF.out.1, e4, if_neg (fun hh => hh.elim (fun h => by cases h) (fun h => h (by simpa using e2)))])
       go_wp2
       (refine wp_region_grow (by kernel_rfl) (by kernel_rfl) ?_; (repeat (go_big_quiet_step (fail))); refine wpQuiet_nil ?_)
       intro w17 hx17
       have X17 := Lh (X14.out.trans hx17); have N17 := Lh (hx17.heap N14.out); have F17 := Lh (hx17.heap F14.out); have B17 := Lh (hx17.heap B14.out)
       clear hx17 X14 N14 F14 B14 k1 k4 k5 j13
       try clear k2
       have k1 := blk_cell F17.out 1
       simp [ftC, rverC, rstrC] at k1
       go_wp2_with (refine wpList_put 2 rfl _ _ rfl sb 16 77 _ (rstrC 206 m (.slice KA m.keys.length KC) f.fr f.to (some ⟨q, 0, none⟩) f.fr) [.int .i64 f.fr] _ N17.out rfl rfl rfl (by simp [rstrC]) rfl size2 (by simp [putA, rstrC]) ?_; intro W20 x20 n20 s20; refine stop_of ?_)
       unfold Stop
       have X20 := Lh (X17.out.thenB x20 (by simp; omega)); have N20 := Lh n20; have F20 := Lh (x20.heap F17.out (by simp; omega)); have B20 := Lh (x20.heap B17.out (by simp; omega))
       clear x20 n20 s20 X17 N17 F17 B17
       go_wp2
       go_ret2
       exact ⟨sb, rfl, by rw [ES.out]; exact N20.out, by omega, X20.out⟩
      | false =>
       have ES := Lh (show ask = ⟨206, m, f.fr, min f.to n, f.fr, some i⟩ by rw [ES.out, if_pos (.inr (by simpa using e2))])
       cases e5 : decide (m.hav < f.to) with
       | true =>
        have ES := Lh (show ask = ⟨206, m, f.fr, m.hav, f.fr, some i⟩ by rw [ES.out, show min f.to (n : Int) = m.hav from by have := of_decide_eq_true e5; have := HHAV.out; omega])
        have J13 : ∀ x : Grow [] W14, x.v.cell? ⟨sb, 13, none⟩ = some (.int .i64 f.to) := fun x => x.ext.cell (blk_cell N14.out 13) (by simp)
        have Q5 : ∀ x : Grow [] W14, x.v.cell? ⟨q, 5, none⟩ = some (.int .i64 m.hav) := fun x => x.ext.cell (blk_cell B14.out 5) (by simp)
        go_wp2
        (refine wp_region_grow (by kernel_rfl) (by kernel_rfl) ?_; (repeat (go_big_quiet_step (fail))); refine wpQuiet_nil ?_)
        clear J13 Q5
        intro w17 hx17
        have X17 := Lh (X14.out.trans hx17); have N17 := Lh (hx17.heap N14.out); have F17 := Lh (hx17.heap F14.out); have B17 := Lh (hx17.heap B14.out)
        clear hx17 X14 N14 F14 B14 k1 k4 k5 j13
        try clear k2
        have k5 := blk_cell B17.out 5
        simp [ftC, rverC, rstrC] at k5
        go_wp2_with (refine wpList_put 2 rfl _ _ rfl sb 13 77 _ (rstrC 206 m (.slice KA m.keys.length KC) f.fr m.hav (some ⟨q, 0, none⟩) 0) [.int .i64 m.hav] _ N17.out rfl rfl rfl (by simp [rstrC]) rfl size2 (by simp [putA, rstrC]) ?_; intro W18 x18 n18 s18; refine stop_of ?_)
        unfold Stop
        have X18 := Lh (X17.out.thenB x18 (by simp; omega)); have N18 := Lh n18; have F18 := Lh (x18.heap F17.out (by simp; omega)); have B18 := Lh (x18.heap B17.out (by simp; omega))
        clear x18 n18 s18 X17 N17 F17 B17
        clear k5
        have k1 := blk_cell F18.out 1
        simp [ftC, rverC, rstrC] at k1
        go_wp2_with (refine wpList_put 2 rfl _ _ rfl sb 16 77 _ (rstrC 206 m (.slice KA m.keys.length KC) f.fr m.hav (some ⟨q, 0, none⟩) f.fr) [.int .i64 f.fr] _ N18.out rfl rfl rfl (by simp [rstrC]) rfl size2 (by simp [putA, rstrC]) ?_; intro W20 x20 n20 s20; refine stop_of ?_)
        unfold Stop
        have X20 := Lh (X18.out.thenB x20 (by simp; omega)); have N20 := Lh n20; have F20 := Lh (x20.heap F18.out (by simp; omega)); have B20 := Lh (x20.heap B18.out (by simp; omega))
        clear x20 n20 s20 X18 N18 F18 B18
        go_wp2
        go_ret2
        exact ⟨sb, rfl, by rw [ES.out]; exact N20.out, by omega, X20.out⟩
       | false =>
        have ES := Lh (show ask = ⟨206, m, f.fr, f.to, f.fr, some i⟩ by rw [ES.out, show min f.to (n : Int) = f.to from by have := of_decide_eq_false e5; have := HHAV.out; omega])
        have J13 : ∀ x : Grow [] W14, x.v.cell? ⟨sb, 13, none⟩ = some (.int .i64 f.to) := fun x => x.ext.cell (blk_cell N14.out 13) (by simp)
        have Q5 : ∀ x : Grow [] W14, x.v.cell? ⟨q, 5, none⟩ = some (.int .i64 m.hav) := fun x => x.ext.cell (blk_cell B14.out 5) (by simp)
        go_wp2
        (refine wp_region_grow (by kernel_rfl) (by kernel_rfl) ?_; (repeat (go_big_quiet_step (fail))); refine wpQuiet_nil ?_)
        clear J13 Q5
        intro w17 hx17
        have X17 := Lh (X14.out.trans hx17); have N17 := Lh (hx17.heap N14.out); have F17 := Lh (hx17.heap F14.out); have B17 := Lh (hx17.heap B14.out)
        clear hx17 X14 N14 F14 B14 k1 k4 k5 j13
        try clear k2
        have k1 := blk_cell F17.out 1
        simp [ftC, rverC, rstrC] at k1
        go_wp2_with (refine wpList_put 2 rfl _ _ rfl sb 16 77 _ (rstrC 206 m (.slice KA m.keys.length KC) f.fr f.to (some ⟨q, 0, none⟩) f.fr) [.int .i64 f.fr] _ N17.out rfl rfl rfl (by simp [rstrC]) rfl size2 (by simp [putA, rstrC]) ?_; intro W20 x20 n20 s20; refine stop_of ?_)
        unfold Stop
        have X20 := Lh (X17.out.thenB x20 (by simp; omega)); have N20 := Lh n20; have F20 := Lh (x20.heap F17.out (by simp; omega)); have B20 := Lh (x20.heap B17.out (by simp; omega))
        clear x20 n20 s20 X17 N17 F17 B17
        go_wp2
        go_ret2
        exact ⟨sb, rfl, by rw [ES.out]; exact N20.out, by omega, X20.out⟩
     | false =>
      have ES := Lh (show ask = ⟨206, m, f.fr, min f.to n, f.fr, some i⟩ by rw [ES.out, if_pos (.inl (by rw [HWF.out.1]; exact e4))])
      cases e5 : decide (m.hav < f.to) with
      | true =>
       have ES := Lh (show ask = ⟨206, m, f.fr, m.hav, f.fr, some i⟩ by rw [ES.out, show min f.to (n : Int) = m.hav from by have := of_decide_eq_true e5; have := HHAV.out; omega])
       have J13 : ∀ x : Grow [] W14, x.v.cell? ⟨sb, 13, none⟩ = some (.int .i64 f.to) := fun x => x.ext.cell (blk_cell N14.out 13) (by simp)
       have Q5 : ∀ x : Grow [] W14, x.v.cell? ⟨q, 5, none⟩ = some (.int .i64 m.hav) := fun x => x.ext.cell (blk_cell B14.out 5) (by simp)
       go_wp2
       (refine wp_region_grow (by kernel_rfl) (by kernel_rfl) ?_; (repeat (go_big_quiet_step (fail))); refine wpQuiet_nil ?_)
       clear J13 Q5
       intro w17 hx17
       have X17 := Lh (X14.out.trans hx17); have N17 := Lh (hx17.heap N14.out); have F17 := Lh (hx17.heap F14.out); have B17 := Lh (hx17.heap B14.out)
       clear hx17 X14 N14 F14 B14 k1 k4 k5 j13
       try clear k2
       have k5 := blk_cell B17.out 5
       simp [ftC, rverC, rstrC] at k5
       go_wp2_with (refine wpList_put 2 rfl _ _ rfl sb 13 77 _ (rstrC 206 m (.slice KA m.keys.length KC) f.fr m.hav (some ⟨q, 0, none⟩) 0) [.int .i64 m.hav] _ N17.out rfl rfl rfl (by simp [rstrC]) rfl size2 (by simp [putA, rstrC]) ?_; intro W18 x18 n18 s18; refine stop_of ?_)
       unfold Stop
       have X18 := Lh (X17.out.thenB x18 (by simp; omega)); have N18 := Lh n18; have F18 := Lh (x18.heap F17.out (by simp; omega)); have B18 := Lh (x18.heap B17.out (by simp; omega))
       clear x18 n18 s18 X17 N17 F17 B17
       clear k5
       have k1 := blk_cell F18.out 1
       simp [ftC, rverC, rstrC] at k1
       go_wp2_with (refine wpList_put 2 rfl _ _ rfl sb 16 77 _ (rstrC 206 m (.slice KA m.keys.length KC) f.fr m.hav (some ⟨q, 0, none⟩) f.fr) [.int .i64 f.fr] _ N18.out rfl rfl rfl (by simp [rstrC]) rfl size2 (by simp [putA, rstrC]) ?_; intro W20 x20 n20 s20; refine stop_of ?_)
       unfold Stop
       have X20 := Lh (X18.out.thenB x20 (by simp; omega)); have N20 := Lh n20; have F20 := Lh (x20.heap F18.out (by simp; omega)); have B20 := Lh (x20.heap B18.out (by simp; omega))
       clear x20 n20 s20 X18 N18 F18 B18
       go_wp2
       go_ret2
       exact ⟨sb, rfl, by rw [ES.out]; exact N20.out, by omega, X20.out⟩
      | false =>
       have ES := Lh (show ask = ⟨206, m, f.fr, f.to, f.fr, some i⟩ by rw [ES.out, show min f.to (n : Int) = f.to from by have := of_decide_eq_false e5; have := HHAV.out; omega])
       have J13 : ∀ x : Grow [] W14, x.v.cell? ⟨sb, 13, none⟩ = some (.int .i64 f.to) := fun x => x.ext.cell (blk_cell N14.out 13) (by simp)
       have Q5 : ∀ x : Grow [] W14, x.v.cell? ⟨q, 5, none⟩ = some (.int .i64 m.hav) := fun x => x.ext.cell (blk_cell B14.out 5) (by simp)
       go_wp2
       (refine wp_region_grow (by kernel_rfl) (by kernel_rfl) ?_; (repeat (go_big_quiet_step (fail))); refine wpQuiet_nil ?_)
       clear J13 Q5
       intro w17 hx17
       have X17 := Lh (X14.out.trans hx17); have N17 := Lh (hx17.heap N14.out); have F17 := Lh (hx17.heap F14.out); have B17 := Lh (hx17.heap B14.out)
       clear hx17 X14 N14 F14 B14 k1 k4 k5 j13
       try clear k2
       have k1 := blk_cell F17.out 1
       simp [ftC, rverC, rstrC] at k1
       go_wp2_with (refine wpList_put 2 rfl _ _ rfl sb 16 77 _ (rstrC 206 m (.slice KA m.keys.length KC) f.fr f.to (some ⟨q, 0, none⟩) f.fr) [.int .i64 f.fr] _ N17.out rfl rfl rfl (by simp [rstrC]) rfl size2 (by simp [putA, rstrC]) ?_; intro W20 x20 n20 s20; refine stop_of ?_)
       unfold Stop
       have X20 := Lh (X17.out.thenB x20 (by simp; omega)); have N20 := Lh n20; have F20 := Lh (x20.heap F17.out (by simp; omega)); have B20 := Lh (x20.heap B17.out (by simp; omega))
       clear x20 n20 s20 X17 N17 F17 B17
       go_wp2
       go_ret2
       exact ⟨sb, rfl, by rw [ES.out]; exact N20.out, by omega, X20.out⟩
    | true =>
     cases e2 : (f.to == 4611686018427387904) with
     | true =>
      have ES := Lh (ES.out.trans (if_pos ⟨by simpa using e1, .inl (by simpa using e2)⟩))
      go_wp2_with (refine wpList_put 3 rfl _ _ rfl sb 0 77 _ (rstrC 200 m (.slice KA m.keys.length KC) f.fr f.to (some ⟨q, 0, none⟩) 0) [.int .i64 200] _ N14.out rfl rfl rfl (by simp [rstrC]) rfl size3 (by simp [putA, rstrC]) ?_; intro W15 x15 n15 s15; refine stop_of ?_)
      unfold Stop
      have X15 := Lh (X14.out.thenB x15 (by simp; omega)); have N15 := Lh n15; have F15 := Lh (x15.heap F14.out (by simp; omega)); have B15 := Lh (x15.heap B14.out (by simp; omega))
      clear x15 n15 s15 X14 N14 F14 B14
      go_wp2_with (refine wpList_put 2 rfl _ _ rfl sb 13 77 _ (rstrC 200 m (.slice KA m.keys.length KC) f.fr 4611686018427387904 (some ⟨q, 0, none⟩) 0) [.int .i64 4611686018427387904] _ N15.out rfl rfl rfl (by simp [rstrC]) rfl size2 (by simp [putA, rstrC]) ?_; intro W16 x16 n16 s16; refine stop_of ?_)
      unfold Stop
      have X16 := Lh (X15.out.thenB x16 (by simp; omega)); have N16 := Lh n16; have F16 := Lh (x16.heap F15.out (by simp; omega)); have B16 := Lh (x16.heap B15.out (by simp; omega))
      clear x16 n16 s16 X15 N15 F15 B15
      clear k1 k2 k4 k5
      have hfr : f.fr = 0 := by simpa using e1
      have k1 := blk_cell F16.out 1
      have k4 := blk_cell B16.out 4
      have k5 := blk_cell B16.out 5
      have j13 := blk_cell N16.out 13
      simp [ftC, rverC, rstrC] at k1 k4 k5 j13
      cases e4 : (m.len == -1) with
      | true =>
       have ES := Lh (show ask = ⟨200, m, f.fr, 4611686018427387904, f.fr, some i⟩ by rw [ES.out, HWF.out.1, e4, hfr]; rfl)
       clear hfr
       go_wp2
       (refine wp_region_grow (by kernel_rfl) (by kernel_rfl) ?_; (repeat (go_big_quiet_step (fail))); refine wpQuiet_nil ?_)
       intro w17 hx17
       have X17 := Lh (X16.out.trans hx17); have N17 := Lh (hx17.heap N16.out); have F17 := Lh (hx17.heap F16.out); have B17 := Lh (hx17.heap B16.out)
       clear hx17 X16 N16 F16 B16 k1 k4 k5 j13
       have k1 := blk_cell F17.out 1
       simp [ftC, rverC, rstrC] at k1
       go_wp2_with (refine wpList_put 2 rfl _ _ rfl sb 16 77 _ (rstrC 200 m (.slice KA m.keys.length KC) f.fr 4611686018427387904 (some ⟨q, 0, none⟩) f.fr) [.int .i64 f.fr] _ N17.out rfl rfl rfl (by simp [rstrC]) rfl size2 (by simp [putA, rstrC]) ?_; intro W20 x20 n20 s20; refine stop_of ?_)
       unfold Stop
       have X20 := Lh (X17.out.thenB x20 (by simp; omega)); have N20 := Lh n20; have F20 := Lh (x20.heap F17.out (by simp; omega)); have B20 := Lh (x20.heap B17.out (by simp; omega))
       clear x20 n20 s20 X17 N17 F17 B17
       go_wp2
       go_ret2
       exact ⟨sb, rfl, by rw [ES.out]; exact N20.out, by omega, X20.out⟩
      | false =>
       have ES := Lh (show ask = ⟨200, m, f.fr, m.hav, f.fr, some i⟩ by rw [ES.out, HWF.out.1, e4, hfr, HHAV.out, ← HWF.out.2.1 (by rw [HWF.out.1]; exact e4)]; rfl)
       have e5 : decide (m.hav < 4611686018427387904) = true := decide_eq_true (by have := HHAV.out; have := HNL.out; omega)
       clear hfr
       have J13 : ∀ x : Grow [] W16, x.v.cell? ⟨sb, 13, none⟩ = some (.int .i64 4611686018427387904) := fun x => x.ext.cell (blk_cell N16.out 13) (by simp)
       have Q5 : ∀ x : Grow [] W16, x.v.cell? ⟨q, 5, none⟩ = some (.int .i64 m.hav) := fun x => x.ext.cell (blk_cell B16.out 5) (by simp)
       go_wp2
       (refine wp_region_grow (by kernel_rfl) (by kernel_rfl) ?_; (repeat (go_big_quiet_step (fail))); refine wpQuiet_nil ?_)
       clear J13 Q5
       intro w17 hx17
       have X17 := Lh (X16.out.trans hx17); have N17 := Lh (hx17.heap N16.out); have F17 := Lh (hx17.heap F16.out); have B17 := Lh (hx17.heap B16.out)
       clear hx17 X16 N16 F16 B16 k1 k4 k5 j13
       have k5 := blk_cell B17.out 5
       simp [ftC, rverC, rstrC] at k5
       go_wp2_with (refine wpList_put 2 rfl _ _ rfl sb 13 77 _ (rstrC 200 m (.slice KA m.keys.length KC) f.fr m.hav (some ⟨q, 0, none⟩) 0) [.int .i64 m.hav] _ N17.out rfl rfl rfl (by simp [rstrC]) rfl size2 (by simp [putA, rstrC]) ?_; intro W18 x18 n18 s18; refine stop_of ?_)
       unfold Stop
       have X18 := Lh (X17.out.thenB x18 (by simp; omega)); have N18 := Lh n18; have F18 := Lh (x18.heap F17.out (by simp; omega)); have B18 := Lh (x18.heap B17.out (by simp; omega))
       clear x18 n18 s18 X17 N17 F17 B17
       clear k5
       have k1 := blk_cell F18.out 1
       simp [ftC, rverC, rstrC] at k1
       go_wp2_with (refine wpList_put 2 rfl _ _ rfl sb 16 77 _ (rstrC 200 m (.slice KA m.keys.length KC) f.fr m.hav (some ⟨q, 0, none⟩) f.fr) [.int .i64 f.fr] _ N18.out rfl rfl rfl (by simp [rstrC]) rfl size2 (by simp [putA, rstrC]) ?_; intro W20 x20 n20 s20; refine stop_of ?_)
       unfold Stop
       have X20 := Lh (X18.out.thenB x20 (by simp; omega)); have N20 := Lh n20; have F20 := Lh (x20.heap F18.out (by simp; omega)); have B20 := Lh (x20.heap B18.out (by simp; omega))
       clear x20 n20 s20 X18 N18 F18 B18
       go_wp2
       go_ret2
       exact ⟨sb, rfl, by rw [ES.out]; exact N20.out, by omega, X20.out⟩
     | false =>
      cases e3 : (m.hav == 0) with
      | true =>
       have ES := Lh (ES.out.trans (if_pos ⟨by simpa using e1, .inr (by have := HHAV.out; have h3 : m.hav = 0 := (by simpa using e3); omega)⟩))
       go_wp2_with (refine wpList_put 3 rfl _ _ rfl sb 0 77 _ (rstrC 200 m (.slice KA m.keys.length KC) f.fr f.to (some ⟨q, 0, none⟩) 0) [.int .i64 200] _ N14.out rfl rfl rfl (by simp [rstrC]) rfl size3 (by simp [putA, rstrC]) ?_; intro W15 x15 n15 s15; refine stop_of ?_)
       unfold Stop
       have X15 := Lh (X14.out.thenB x15 (by simp; omega)); have N15 := Lh n15; have F15 := Lh (x15.heap F14.out (by simp; omega)); have B15 := Lh (x15.heap B14.out (by simp; omega))
       clear x15 n15 s15 X14 N14 F14 B14
       go_wp2_with (refine wpList_put 2 rfl _ _ rfl sb 13 77 _ (rstrC 200 m (.slice KA m.keys.length KC) f.fr 4611686018427387904 (some ⟨q, 0, none⟩) 0) [.int .i64 4611686018427387904] _ N15.out rfl rfl rfl (by simp [rstrC]) rfl size2 (by simp [putA, rstrC]) ?_; intro W16 x16 n16 s16; refine stop_of ?_)
       unfold Stop
       have X16 := Lh (X15.out.thenB x16 (by simp; omega)); have N16 := Lh n16; have F16 := Lh (x16.heap F15.out (by simp; omega)); have B16 := Lh (x16.heap B15.out (by simp; omega))
       clear x16 n16 s16 X15 N15 F15 B15
       clear k1 k2 k4 k5
       have hfr : f.fr = 0 := by simpa using e1
       have k1 := blk_cell F16.out 1
       have k4 := blk_cell B16.out 4
       have k5 := blk_cell B16.out 5
       have j13 := blk_cell N16.out 13
       simp [ftC, rverC, rstrC] at k1 k4 k5 j13
       cases e4 : (m.len == -1) with
       | true =>
        have ES := Lh (show ask = ⟨200, m, f.fr, 4611686018427387904, f.fr, some i⟩ by rw [ES.out, HWF.out.1, e4, hfr]; rfl)
        clear hfr
        go_wp2
        (refine wp_region_grow (by kernel_rfl) (by kernel_rfl) ?_; (repeat (go_big_quiet_step (fail))); refine wpQuiet_nil ?_)
        intro w17 hx17
        have X17 := Lh (X16.out.trans hx17); have N17 := Lh (hx17.heap N16.out); have F17 := Lh (hx17.heap F16.out); have B17 := Lh (hx17.heap B16.out)
        clear hx17 X16 N16 F16 B16 k1 k4 k5 j13
        have k1 := blk_cell F17.out 1
        simp [ftC, rverC, rstrC] at k1
        go_wp2_with (refine wpList_put 2 rfl _ _ rfl sb 16 77 _ (rstrC 200 m (.slice KA m.keys.length KC) f.fr 4611686018427387904 (some ⟨q, 0, none⟩) f.fr) [.int .i64 f.fr] _ N17.out rfl rfl rfl (by simp [rstrC]) rfl size2 (by simp [putA, rstrC]) ?_; intro W20 x20 n20 s20; refine stop_of ?_)
        unfold Stop
        have X20 := Lh (X17.out.thenB x20 (by simp; omega)); have N20 := Lh n20; have F20 := Lh (x20.heap F17.out (by simp; omega)); have B20 := Lh (x20.heap B17.out (by simp; omega))
        clear x20 n20 s20 X17 N17 F17 B17
        go_wp2
        go_ret2
        exact ⟨sb, rfl, by rw [ES.out]; exact N20.out, by omega, X20.out⟩
       | false =>
        have ES := Lh (show ask = ⟨200, m, f.fr, m.hav, f.fr, some i⟩ by rw [ES.out, HWF.out.1, e4, hfr, HHAV.out, ← HWF.out.2.1 (by rw [HWF.out.1]; exact e4)]; rfl)
        have e5 : decide (m.hav < 4611686018427387904) = true := decide_eq_true (by have := HHAV.out; have := HNL.out; omega)
        clear hfr
        have J13 : ∀ x : Grow [] W16, x.v.cell? ⟨sb, 13, none⟩ = some (.int .i64 4611686018427387904) := fun x => x.ext.cell (blk_cell N16.out 13) (by simp)
        have Q5 : ∀ x : Grow [] W16, x.v.cell? ⟨q, 5, none⟩ = some (.int .i64 m.hav) := fun x => x.ext.cell (blk_cell B16.out 5) (by simp)
        go_wp2
        (refine wp_region_grow (by kernel_rfl) (by kernel_rfl) ?_; (repeat (go_big_quiet_step (fail))); refine wpQuiet_nil ?_)
        clear J13 Q5
        intro w17 hx17
        have X17 := Lh (X16.out.trans hx17); have N17 := Lh (hx17.heap N16.out); have F17 := Lh (hx17.heap F16.out); have B17 := Lh (hx17.heap B16.out)
        clear hx17 X16 N16 F16 B16 k1 k4 k5 j13
        have k5 := blk_cell B17.out 5
        simp [ftC, rverC, rstrC] at k5
        go_wp2_with (refine wpList_put 2 rfl _ _ rfl sb 13 77 _ (rstrC 200 m (.slice KA m.keys.length KC) f.fr m.hav (some ⟨q, 0, none⟩) 0) [.int .i64 m.hav] _ N17.out rfl rfl rfl (by simp [rstrC]) rfl size2 (by simp [putA, rstrC]) ?_; intro W18 x18 n18 s18; refine stop_of ?_)
        unfold Stop
        have X18 := Lh (X17.out.thenB x18 (by simp; omega)); have N18 := Lh n18; have F18 := Lh (x18.heap F17.out (by simp; omega)); have B18 := Lh (x18.heap B17.out (by simp; omega))
        clear x18 n18 s18 X17 N17 F17 B17
        clear k5
        have k1 := blk_cell F18.out 1
        simp [ftC, rverC, rstrC] at k1
        go_wp2_with (refine wpList_put 2 rfl _ _ rfl sb 16 77 _ (rstrC 200 m (.slice KA m.keys.length KC) f.fr m.hav (some ⟨q, 0, none⟩) f.fr) [.int .i64 f.fr] _ N18.out rfl rfl rfl (by simp [rstrC]) rfl size2 (by simp [putA, rstrC]) ?_; intro W20 x20 n20 s20; refine stop_of ?_)
        unfold Stop
        have X20 := Lh (X18.out.thenB x20 (by simp; omega)); have N20 := Lh n20; have F20 := Lh (x20.heap F18.out (by simp; omega)); have B20 := Lh (x20.heap B18.out (by simp; omega))
        clear x20 n20 s20 X18 N18 F18 B18
        go_wp2
        go_ret2
        exact ⟨sb, rfl, by rw [ES.out]; exact N20.out, by omega, X20.out⟩
      | false =>
       have ES := Lh (ES.out.trans (if_neg (fun hh => hh.2.elim (fun h3 => absurd h3 (by simpa using e2)) (fun h3 => absurd (show m.hav = 0 by rw [HHAV.out, h3]; rfl) (by simpa using e3)))))
       have j13 := blk_cell N14.out 13
       simp [ftC, rverC, rstrC] at j13
       cases e4 : (m.len == -1) with
       | true =>
        have ES := Lh (show ask = ⟨206, m, f.fr, min f.to n, f.fr, some i⟩ by rw [ES.out, if_pos (.inr (by simpa using e2))])
        cases e5 : decide (m.hav < f.to) with
        | true =>
         have ES := Lh (show ask = ⟨206, m, f.fr, m.hav, f.fr, some i⟩ by rw [ES.out, show min f.to (n : Int) = m.hav from by have := of_decide_eq_true e5; have := HHAV.out; omega])
         have J13 : ∀ x : Grow [] W14, x.v.cell? ⟨sb, 13, none⟩ = some (.int .i64 f.to) := fun x => x.ext.cell (blk_cell N14.out 13) (by simp)
         have Q5 : ∀ x : Grow [] W14, x.v.cell? ⟨q, 5, none⟩ = some (.int .i64 m.hav) := fun x => x.ext.cell (blk_cell B14.out 5) (by simp)
         go_wp2
         (refine wp_region_grow (by kernel_rfl) (by kernel_rfl) ?_; (repeat (go_big_quiet_step (fail))); refine wpQuiet_nil ?_)
         clear J13 Q5
         intro w17 hx17
         have X17 := Lh (X14.out.trans hx17); have N17 := Lh (hx17.heap N14.out); have F17 := Lh (hx17.heap F14.out); have B17 := Lh (hx17.heap B14.out)
         clear hx17 X14 N14 F14 B14 k1 k4 k5 j13
         try clear k2
         have k5 := blk_cell B17.out 5
         simp [ftC, rverC, rstrC] at k5
         go_wp2_with (refine wpList_put 2 rfl _ _ rfl sb 13 77 _ (rstrC 206 m (.slice KA m.keys.length KC) f.fr m.hav (some ⟨q, 0, none⟩) 0) [.int .i64 m.hav] _ N17.out rfl rfl rfl (by simp [rstrC]) rfl size2 (by simp [putA, rstrC]) ?_; intro W18 x18 n18 s18; refine stop_of ?_)
         unfold Stop
         have X18 := Lh (X17.out.thenB x18 (by simp; omega)); have N18 := Lh n18; have F18 := Lh (x18.heap F17.out (by simp; omega)); have B18 := Lh (x18.heap B17.out (by simp; omega))
         clear x18 n18 s18 X17 N17 F17 B17
         clear k5
         have k1 := blk_cell F18.out 1
         simp [ftC, rverC, rstrC] at k1
         go_wp2_with (refine wpList_put 2 rfl _ _ rfl sb 16 77 _ (rstrC 206 m (.slice KA m.keys.length KC) f.fr m.hav (some ⟨q, 0, none⟩) f.fr) [.int .i64 f.fr] _ N18.out rfl rfl rfl (by simp [rstrC]) rfl size2 (by simp [putA, rstrC]) ?_; intro W20 x20 n20 s20; refine stop_of ?_)
         unfold Stop
         have X20 := Lh (X18.out.thenB x20 (by simp; omega)); have N20 := Lh n20; have F20 := Lh (x20.heap F18.out (by simp; omega)); have B20 := Lh (x20.heap B18.out (by simp; omega))
         clear x20 n20 s20 X18 N18 F18 B18
         go_wp2
         go_ret2
         exact ⟨sb, rfl, by rw [ES.out]; exact N20.out, by omega, X20.out⟩
        | false =>
         have ES := Lh (show ask = ⟨206, m, f.fr, f.to, f.fr, some i⟩ by rw [ES.out, show min f.to (n : Int) = f.to from by have := of_decide_eq_false e5; have := HHAV.out; omega])
         have J13 : ∀ x : Grow [] W14, x.v.cell? ⟨sb, 13, none⟩ = some (.int .i64 f.to) := fun x => x.ext.cell (blk_cell N14.out 13) (by simp)
         have Q5 : ∀ x : Grow [] W14, x.v.cell? ⟨q, 5, none⟩ = some (.int .i64 m.hav) := fun x => x.ext.cell (blk_cell B14.out 5) (by simp)
         go_wp2
         (refine wp_region_grow (by kernel_rfl) (by kernel_rfl) ?_; (repeat (go_big_quiet_step (fail))); refine wpQuiet_nil ?_)
         clear J13 Q5
         intro w17 hx17
         have X17 := Lh (X14.out.trans hx17); have N17 := Lh (hx17.heap N14.out); have F17 := Lh (hx17.heap F14.out); have B17 := Lh (hx17.heap B14.out)
         clear hx17 X14 N14 F14 B14 k1 k4 k5 j13
         try clear k2
         have k1 := blk_cell F17.out 1
         simp [ftC, rverC, rstrC] at k1
         go_wp2_with (refine wpList_put 2 rfl _ _ rfl sb 16 77 _ (rstrC 206 m (.slice KA m.keys.length KC) f.fr f.to (some ⟨q, 0, none⟩) f.fr) [.int .i64 f.fr] _ N17.out rfl rfl rfl (by simp [rstrC]) rfl size2 (by simp [putA, rstrC]) ?_; intro W20 x20 n20 s20; refine stop_of ?_)
         unfold Stop
         have X20 := Lh (X17.out.thenB x20 (by simp; omega)); have N20 := Lh n20; have F20 := Lh (x20.heap F17.out (by simp; omega)); have B20 := Lh (x20.heap B17.out (by simp; omega))
         clear x20 n20 s20 X17 N17 F17 B17
         go_wp2
         go_ret2
         exact ⟨sb, rfl, by rw [ES.out]; exact N20.out, by omega, X20.out⟩
       | false =>
        have ES := Lh (show ask = ⟨206, m, f.fr, min f.to n, f.fr, some i⟩ by rw [ES.out, if_pos (.inl (by rw [HWF.out.1]; exact e4))])
        cases e5 : decide (m.hav < f.to) with
        | true =>
         have ES := Lh (show ask = ⟨206, m, f.fr, m.hav, f.fr, some i⟩ by rw [ES.out, show min f.to (n : Int) = m.hav from by have := of_decide_eq_true e5; have := HHAV.out; omega])
         have J13 : ∀ x : Grow [] W14, x.v.cell? ⟨sb, 13, none⟩ = some (.int .i64 f.to) := fun x => x.ext.cell (blk_cell N14.out 13) (by simp)
         have Q5 : ∀ x : Grow [] W14, x.v.cell? ⟨q, 5, none⟩ = some (.int .i64 m.hav) := fun x => x.ext.cell (blk_cell B14.out 5) (by simp)
         go_wp2
         (refine wp_region_grow (by kernel_rfl) (by kernel_rfl) ?_; (repeat (go_big_quiet_step (fail))); refine wpQuiet_nil ?_)
         clear J13 Q5
         intro w17 hx17
         have X17 := Lh (X14.out.trans hx17); have N17 := Lh (hx17.heap N14.out); have F17 := Lh (hx17.heap F14.out); have B17 := Lh (hx17.heap B14.out)
         clear hx17 X14 N14 F14 B14 k1 k4 k5 j13
         try clear k2
         have k5 := blk_cell B17.out 5
         simp [ftC, rverC, rstrC] at k5
         go_wp2_with (refine wpList_put 2 rfl _ _ rfl sb 13 77 _ (rstrC 206 m (.slice KA m.keys.length KC) f.fr m.hav (some ⟨q, 0, none⟩) 0) [.int .i64 m.hav] _ N17.out rfl rfl rfl (by simp [rstrC]) rfl size2 (by simp [putA, rstrC]) ?_; intro W18 x18 n18 s18; refine stop_of ?_)
         unfold Stop
         have X18 := Lh (X17.out.thenB x18 (by simp; omega)); have N18 := Lh n18; have F18 := Lh (x18.heap F17.out (by simp; omega)); have B18 := Lh (x18.heap B17.out (by simp; omega))
         clear x18 n18 s18 X17 N17 F17 B17
         clear k5
         have k1 := blk_cell F18.out 1
         simp [ftC, rverC, rstrC] at k1
         go_wp2_with (refine wpList_put 2 rfl _ _ rfl sb 16 77 _ (rstrC 206 m (.slice KA m.keys.length KC) f.fr m.hav (some ⟨q, 0, none⟩) f.fr) [.int .i64 f.fr] _ N18.out rfl rfl rfl (by simp [rstrC]) rfl size2 (by simp [putA, rstrC]) ?_; intro W20 x20 n20 s20; refine stop_of ?_)
         unfold Stop
         have X20 := Lh (X18.out.thenB x20 (by simp; omega)); have N20 := Lh n20; have F20 := Lh (x20.heap F18.out (by simp; omega)); have B20 := Lh (x20.heap B18.out (by simp; omega))
         clear x20 n20 s20 X18 N18 F18 B18
         go_wp2
         go_ret2
         exact ⟨sb, rfl, by rw [ES.out]; exact N20.out, by omega, X20.out⟩
        | false =>
         have ES := Lh (show ask = ⟨206, m, f.fr, f.to, f.fr, some i⟩ by rw [ES.out, show min f.to (n : Int) = f.to from by have := of_decide_eq_false e5; have := HHAV.out; omega])
         have J13 : ∀ x : Grow [] W14, x.v.cell? ⟨sb, 13, none⟩ = some (.int .i64 f.to) := fun x => x.ext.cell (blk_cell N14.out 13) (by simp)
         have Q5 : ∀ x : Grow [] W14, x.v.cell? ⟨q, 5, none⟩ = some (.int .i64 m.hav) := fun x => x.ext.cell (blk_cell B14.out 5) (by simp)
         go_wp2
         (refine wp_region_grow (by kernel_rfl) (by kernel_rfl) ?_; (repeat (go_big_quiet_step (fail))); refine wpQuiet_nil ?_)
         clear J13 Q5
         intro w17 hx17
         have X17 := Lh (X14.out.trans hx17); have N17 := Lh (hx17.heap N14.out); have F17 := Lh (hx17.heap F14.out); have B17 := Lh (hx17.heap B14.out)
         clear hx17 X14 N14 F14 B14 k1 k4 k5 j13
         try clear k2
         have k1 := blk_cell F17.out 1
         simp [ftC, rverC, rstrC] at k1
         go_wp2_with (refine wpList_put 2 rfl _ _ rfl sb 16 77 _ (rstrC 206 m (.slice KA m.keys.length KC) f.fr f.to (some ⟨q, 0, none⟩) f.fr) [.int .i64 f.fr] _ N17.out rfl rfl rfl (by simp [rstrC]) rfl size2 (by simp [putA, rstrC]) ?_; intro W20 x20 n20 s20; refine stop_of ?_)
         unfold Stop
         have X20 := Lh (X17.out.thenB x20 (by simp; omega)); have N20 := Lh n20; have F20 := Lh (x20.heap F17.out (by simp; omega)); have B20 := Lh (x20.heap B17.out (by simp; omega))
         clear x20 n20 s20 X17 N17 F17 B17
         go_wp2
         go_ret2
         exact ⟨sb, rfl, by rw [ES.out]; exact N20.out, by omega, X20.out⟩
  | true =>
   cases x2 with
   | false =>
    have ES := Lh (ES.out.trans (if_pos rfl))
    have G3 : ∀ x : Grow [] w8, x.v.cell? ⟨w.heap.size, 3, none⟩ = some (.string ⟨f.mt.toArray⟩) := fun x => x.ext.cell (blk_cell F8.out 3) (by simp)
    have G4 : ∀ x : Grow [] w8, x.v.cell? ⟨w.heap.size, 4, none⟩ = some (.bool f.mw) := fun x => x.ext.cell (blk_cell F8.out 4) (by simp)
    have Z0 : ∀ x : Grow [] w8, x.v.cell? ⟨zb, 0, none⟩ = some (.string ⟨#[]⟩) := fun x => x.ext.cell (blk_cell Z8.out 0) (by simp)
    have Z1 : ∀ x : Grow [] w8, x.v.cell? ⟨zb, 1, none⟩ = some (.bool false) := fun x => x.ext.cell (blk_cell Z8.out 1) (by simp)
    have Q1 : ∀ x : Grow [] w8, x.v.cell? ⟨q, 1, none⟩ = some (.string ⟨m.tt.toArray⟩) := fun x => x.ext.cell (blk_cell B8.out 1) (by simp)
    have Q2 : ∀ x : Grow [] w8, x.v.cell? ⟨q, 2, none⟩ = some (.bool m.tw) := fun x => x.ext.cell (blk_cell B8.out 2) (by simp)
    go_wp2
    (refine wp_region_grow (by kernel_rfl) (by kernel_rfl) ?_; (repeat (go_big_quiet_step ((go_at_call 64; exact Calls.inGrow (HS2.out _))))); refine wpQuiet_nil ?_)
    clear G3 G4 Z0 Z1 Q1 Q2
    intro w10 hx10
    have X10 := Lh (X8.out.trans hx10); have N10 := Lh (hx10.heap N8.out); have F10 := Lh (hx10.heap F8.out); have B10 := Lh (hx10.heap B8.out)
    clear hx10 X8 N8 F8 B8
    clear Z8 hq
    go_wp2_with (refine wpList_put 3 rfl _ _ rfl sb 0 77 _ (rstrC 412 m (.slice KA m.keys.length KC) 0 0 none 0) [.int .i64 412] _ N10.out rfl rfl rfl (by simp [rstrC]) rfl size3 (by simp [putA, rstrC]) ?_; intro W11 x11 n11 s11; refine stop_of ?_)
    unfold Stop
    have X11 := Lh (X10.out.thenB x11 (by simp; omega)); have N11 := Lh n11; have F11 := Lh (x11.heap F10.out (by simp; omega)); have B11 := Lh (x11.heap B10.out (by simp; omega))
    clear x11 n11 s11 X10 N10 F10 B10
    go_wp2
    go_ret2
    exact ⟨sb, rfl, by rw [ES.out]; exact N11.out, by omega, X11.out⟩
   | true =>
    have ES := Lh (ES.out.trans (if_neg (by simp)))
    have G3 : ∀ x : Grow [] w8, x.v.cell? ⟨w.heap.size, 3, none⟩ = some (.string ⟨f.mt.toArray⟩) := fun x => x.ext.cell (blk_cell F8.out 3) (by simp)
    have G4 : ∀ x : Grow [] w8, x.v.cell? ⟨w.heap.size, 4, none⟩ = some (.bool f.mw) := fun x => x.ext.cell (blk_cell F8.out 4) (by simp)
    have Z0 : ∀ x : Grow [] w8, x.v.cell? ⟨zb, 0, none⟩ = some (.string ⟨#[]⟩) := fun x => x.ext.cell (blk_cell Z8.out 0) (by simp)
    have Z1 : ∀ x : Grow [] w8, x.v.cell? ⟨zb, 1, none⟩ = some (.bool false) := fun x => x.ext.cell (blk_cell Z8.out 1) (by simp)
    have Q1 : ∀ x : Grow [] w8, x.v.cell? ⟨q, 1, none⟩ = some (.string ⟨m.tt.toArray⟩) := fun x => x.ext.cell (blk_cell B8.out 1) (by simp)
    have Q2 : ∀ x : Grow [] w8, x.v.cell? ⟨q, 2, none⟩ = some (.bool m.tw) := fun x => x.ext.cell (blk_cell B8.out 2) (by simp)
    go_wp2
    (refine wp_region_grow (by kernel_rfl) (by kernel_rfl) ?_; (repeat (go_big_quiet_step ((go_at_call 64; exact Calls.inGrow (HS2.out _))))); refine wpQuiet_nil ?_)
    clear G3 G4 Z0 Z1 Q1 Q2
    intro w10 hx10
    have X10 := Lh (X8.out.trans hx10); have N10 := Lh (hx10.heap N8.out); have F10 := Lh (hx10.heap F8.out); have B10 := Lh (hx10.heap B8.out)
    clear hx10 X8 N8 F8 B8
    clear Z8 hq
    cases h1 : decide (0 < f.fr) with
    | true =>
     cases h2 : decide (m.hav ≤ f.fr) with
     | true =>
      have ES := Lh (ES.out.trans (if_pos ⟨of_decide_eq_true h1, by rw [← HHAV.out]; exact of_decide_eq_true h2⟩))
      have G1 : ∀ x : Grow [] w10, x.v.cell? ⟨w.heap.size, 1, none⟩ = some (.int .i64 f.fr) := fun x => x.ext.cell (blk_cell F10.out 1) (by simp)
      have Q5 : ∀ x : Grow [] w10, x.v.cell? ⟨q, 5, none⟩ = some (.int .i64 m.hav) := fun x => x.ext.cell (blk_cell B10.out 5) (by simp)
      go_wp2
      (refine wp_region_grow (by kernel_rfl) (by kernel_rfl) ?_; (repeat (go_big_quiet_step (fail))); refine wpQuiet_nil ?_)
      clear G1 Q5 h1 h2
      intro w11 hx11
      have X11 := Lh (X10.out.trans hx11); have N11 := Lh (hx11.heap N10.out); have F11 := Lh (hx11.heap F10.out); have B11 := Lh (hx11.heap B10.out)
      clear hx11 X10 N10 F10 B10
      go_wp2_with (refine wpList_put 3 rfl _ _ rfl sb 0 77 _ (rstrC 416 m (.slice KA m.keys.length KC) 0 0 none 0) [.int .i64 416] _ N11.out rfl rfl rfl (by simp [rstrC]) rfl size3 (by simp [putA, rstrC]) ?_; intro W12 x12 n12 s12; refine stop_of ?_)
      unfold Stop
      have X12 := Lh (X11.out.thenB x12 (by simp; omega)); have N12 := Lh n12; have F12 := Lh (x12.heap F11.out (by simp; omega)); have B12 := Lh (x12.heap B11.out (by simp; omega))
      clear x12 n12 s12 X11 N11 F11 B11
      go_wp2
      go_ret2
      exact ⟨sb, rfl, by rw [ES.out]; exact N12.out, by omega, X12.out⟩
     | false =>
      have ES := Lh (ES.out.trans (if_neg (fun hh => absurd hh.2 (by rw [← HHAV.out]; exact of_decide_eq_false h2))))
      have ES := Lh (ES.out.trans (if_neg (fun hh => by have := of_decide_eq_true h1; omega)))
      have e1 : (f.fr == 0) = false := by have := of_decide_eq_true h1; simp; omega
      have G1 : ∀ x : Grow [] w10, x.v.cell? ⟨w.heap.size, 1, none⟩ = some (.int .i64 f.fr) := fun x => x.ext.cell (blk_cell F10.out 1) (by simp)
      have Q5 : ∀ x : Grow [] w10, x.v.cell? ⟨q, 5, none⟩ = some (.int .i64 m.hav) := fun x => x.ext.cell (blk_cell B10.out 5) (by simp)
      go_wp2
      (refine wp_region_grow (by kernel_rfl) (by kernel_rfl) ?_; (repeat (go_big_quiet_step (fail))); refine wpQuiet_nil ?_)
      clear G1 Q5 h1 h2
      intro w11 hx11
      have X11 := Lh (X10.out.trans hx11); have N11 := Lh (hx11.heap N10.out); have F11 := Lh (hx11.heap F10.out); have B11 := Lh (hx11.heap B10.out)
      clear hx11 X10 N10 F10 B10
      go_wp2_with (refine wpList_put 75 rfl _ _ rfl sb 15 77 _ (rstrC 0 m (.slice KA m.keys.length KC) 0 0 (some ⟨q, 0, none⟩) 0) [.pointer (some ⟨q, 0, none⟩)] _ N11.out rfl rfl rfl (by simp [rstrC]) rfl size75r (by simp [putA, rstrC]) ?_; intro W12 x12 n12 s12; refine stop_of ?_)
      unfold Stop
      have X12 := Lh (X11.out.thenB x12 (by simp; omega)); have N12 := Lh n12; have F12 := Lh (x12.heap F11.out (by simp; omega)); have B12 := Lh (x12.heap B11.out (by simp; omega))
      clear x12 n12 s12 X11 N11 F11 B11
      go_wp2_with (refine wpList_put 3 rfl _ _ rfl sb 0 77 _ (rstrC 206 m (.slice KA m.keys.length KC) 0 0 (some ⟨q, 0, none⟩) 0) [.int .i64 206] _ N12.out rfl rfl rfl (by simp [rstrC]) rfl size3 (by simp [putA, rstrC]) ?_; intro W13 x13 n13 s13; refine stop_of ?_)
      unfold Stop
      have X13 := Lh (X12.out.thenB x13 (by simp; omega)); have N13 := Lh n13; have F13 := Lh (x13.heap F12.out (by simp; omega)); have B13 := Lh (x13.heap B12.out (by simp; omega))
      clear x13 n13 s13 X12 N12 F12 B12
      have k1 := blk_cell F13.out 1
      have k2 := blk_cell F13.out 2
      simp [ftC, rverC, rstrC] at k1 k2
      go_wp2_with (refine wpList_put 25 rfl _ _ rfl sb 12 77 _ (rstrC 206 m (.slice KA m.keys.length KC) f.fr f.to (some ⟨q, 0, none⟩) 0) [.int .i64 f.fr, .int .i64 f.to] _ N13.out rfl rfl rfl (by simp [rstrC]) rfl size25 (by simp [putA, rstrC]) ?_; intro W14 x14 n14 s14; refine stop_of ?_)
      unfold Stop
      have X14 := Lh (X13.out.thenB x14 (by simp; omega)); have N14 := Lh n14; have F14 := Lh (x14.heap F13.out (by simp; omega)); have B14 := Lh (x14.heap B13.out (by simp; omega))
      clear x14 n14 s14 X13 N13 F13 B13
      clear k1 k2
      have k1 := blk_cell F14.out 1
      have k2 := blk_cell F14.out 2
      have k5 := blk_cell B14.out 5
      have k4 := blk_cell B14.out 4
      simp [ftC, rverC, rstrC] at k1 k2 k5 k4
      have j13 := blk_cell N14.out 13
      simp [ftC, rverC, rstrC] at j13
      cases e4 : (m.len == -1) with
      | true =>
       cases e2 : (f.to == 4611686018427387904) with
       | true =>
        have ES := Lh (show ask = ⟨206, m, f.fr, f.to, f.fr, some i⟩ by rw [ES.out, HWF.out.1, e4, if_neg (fun hh => hh.elim (fun h => by cases h) (fun h => h (by simpa using e2)))])
        go_wp2
        (refine wp_region_grow (by kernel_rfl) (by kernel_rfl) ?_; (repeat (go_big_quiet_step (fail))); refine wpQuiet_nil ?_)
        intro w17 hx17
        have X17 := Lh (X14.out.trans hx17); have N17 := Lh (hx17.heap N14.out); have F17 := Lh (hx17.heap F14.out); have B17 := Lh (hx17.heap B14.out)
        clear hx17 X14 N14 F14 B14 k1 k4 k5 j13
        try clear k2
        have k1 := blk_cell F17.out 1
        simp [ftC, rverC, rstrC] at k1
        go_wp2_with (refine wpList_put 2 rfl _ _ rfl sb 16 77 _ (rstrC 206 m (.slice KA m.keys.length KC) f.fr f.to (some ⟨q, 0, none⟩) f.fr) [.int .i64 f.fr] _ N17.out rfl rfl rfl (by simp [rstrC]) rfl size2 (by simp [putA, rstrC]) ?_; intro W20 x20 n20 s20; refine stop_of ?_)
        unfold Stop
        have X20 := Lh (X17.out.thenB x20 (by simp; omega)); have N20 := Lh n20; have F20 := Lh (x20.heap F17.out (by simp; omega)); have B20 := Lh (x20.heap B17.out (by simp; omega))
        clear x20 n20 s20 X17 N17 F17 B17
        go_wp2
        go_ret2
        exact ⟨sb, rfl, by rw [ES.out]; exact N20.out, by omega, X20.out⟩
       | false =>
        have ES := Lh (show ask = ⟨206, m, f.fr, min f.to n, f.fr, some i⟩ by rw [ES.out, if_pos (.inr (by simpa using e2))])
        cases e5 : decide (m.hav < f.to) with
        | true =>
         have ES := Lh (show ask = ⟨206, m, f.fr, m.hav, f.fr, some i⟩ by rw [ES.out, show min f.to (n : Int) = m.hav from by have := of_decide_eq_true e5; have := HHAV.out; omega])
         have J13 : ∀ x : Grow [] W14, x.v.cell? ⟨sb, 13, none⟩ = some (.int .i64 f.to) := fun x => x.ext.cell (blk_cell N14.out 13) (by simp)
         have Q5 : ∀ x : Grow [] W14, x.v.cell? ⟨q, 5, none⟩ = some (.int .i64 m.hav) := fun x => x.ext.cell (blk_cell B14.out 5) (by simp)
         go_wp2
         (refine wp_region_grow (by kernel_rfl) (by kernel_rfl) ?_; (repeat (go_big_quiet_step (fail))); refine wpQuiet_nil ?_)
         clear J13 Q5
         intro w17 hx17
         have X17 := Lh (X14.out.trans hx17); have N17 := Lh (hx17.heap N14.out); have F17 := Lh (hx17.heap F14.out); have B17 := Lh (hx17.heap B14.out)
         clear hx17 X14 N14 F14 B14 k1 k4 k5 j13
         try clear k2
         have k5 := blk_cell B17.out 5
         simp [ftC, rverC, rstrC] at k5
         go_wp2_with (refine wpList_put 2 rfl _ _ rfl sb 13 77 _ (rstrC 206 m (.slice KA m.keys.length KC) f.fr m.hav (some ⟨q, 0, none⟩) 0) [.int .i64 m.hav] _ N17.out rfl rfl rfl (by simp [rstrC]) rfl size2 (by simp [putA, rstrC]) ?_; intro W18 x18 n18 s18; refine stop_of ?_)
         unfold Stop
         have X18 := Lh (X17.out.thenB x18 (by simp; omega)); have N18 := Lh n18; have F18 := Lh (x18.heap F17.out (by simp; omega)); have B18 := Lh (x18.heap B17.out (by simp; omega))
         clear x18 n18 s18 X17 N17 F17 B17
         clear k5
         have k1 := blk_cell F18.out 1
         simp [ftC, rverC, rstrC] at k1
         go_wp2_with (refine wpList_put 2 rfl _ _ rfl sb 16 77 _ (rstrC 206 m (.slice KA m.keys.length KC) f.fr m.hav (some ⟨q, 0, none⟩) f.fr) [.int .i64 f.fr] _ N18.out rfl rfl rfl (by simp [rstrC]) rfl size2 (by simp [putA, rstrC]) ?_; intro W20 x20 n20 s20; refine stop_of ?_)
         unfold Stop
         have X20 := Lh (X18.out.thenB x20 (by simp; omega)); have N20 := Lh n20; have F20 := Lh (x20.heap F18.out (by simp; omega)); have B20 := Lh (x20.heap B18.out (by simp; omega))
         clear x20 n20 s20 X18 N18 F18 B18
         go_wp2
         go_ret2
         exact ⟨sb, rfl, by rw [ES.out]; exact N20.out, by omega, X20.out⟩
        | false =>
         have ES := Lh (show ask = ⟨206, m, f.fr, f.to, f.fr, some i⟩ by rw [ES.out, show min f.to (n : Int) = f.to from by have := of_decide_eq_false e5; have := HHAV.out; omega])
         have J13 : ∀ x : Grow [] W14, x.v.cell? ⟨sb, 13, none⟩ = some (.int .i64 f.to) := fun x => x.ext.cell (blk_cell N14.out 13) (by simp)
         have Q5 : ∀ x : Grow [] W14, x.v.cell? ⟨q, 5, none⟩ = some (.int .i64 m.hav) := fun x => x.ext.cell (blk_cell B14.out 5) (by simp)
         go_wp2
         (refine wp_region_grow (by kernel_rfl) (by kernel_rfl) ?_; (repeat (go_big_quiet_step (fail))); refine wpQuiet_nil ?_)
         clear J13 Q5
         intro w17 hx17
         have X17 := Lh (X14.out.trans hx17); have N17 := Lh (hx17.heap N14.out); have F17 := Lh (hx17.heap F14.out); have B17 := Lh (hx17.heap B14.out)
         clear hx17 X14 N14 F14 B14 k1 k4 k5 j13
         try clear k2
         have k1 := blk_cell F17.out 1
         simp [ftC, rverC, rstrC] at k1
         go_wp2_with (refine wpList_put 2 rfl _ _ rfl sb 16 77 _ (rstrC 206 m (.slice KA m.keys.length KC) f.fr f.to (some ⟨q, 0, none⟩) f.fr) [.int .i64 f.fr] _ N17.out rfl rfl rfl (by simp [rstrC]) rfl size2 (by simp [putA, rstrC]) ?_; intro W20 x20 n20 s20; refine stop_of ?_)
         unfold Stop
         have X20 := Lh (X17.out.thenB x20 (by simp; omega)); have N20 := Lh n20; have F20 := Lh (x20.heap F17.out (by simp; omega)); have B20 := Lh (x20.heap B17.out (by simp; omega))
         clear x20 n20 s20 X17 N17 F17 B17
         go_wp2
         go_ret2
         exact ⟨sb, rfl, by rw [ES.out]; exact N20.out, by omega, X20.out⟩
      | false =>
       have ES := Lh (show ask = ⟨206, m, f.fr, min f.to n, f.fr, some i⟩ by rw [ES.out, if_pos (.inl (by rw [HWF.out.1]; exact e4))])
       cases e5 : decide (m.hav < f.to) with
       | true =>
        have ES := Lh (show ask = ⟨206, m, f.fr, m.hav, f.fr, some i⟩ by rw [ES.out, show min f.to (n : Int) = m.hav from by have := of_decide_eq_true e5; have := HHAV.out; omega])
        have J13 : ∀ x : Grow [] W14, x.v.cell? ⟨sb, 13, none⟩ = some (.int .i64 f.to) := fun x => x.ext.cell (blk_cell N14.out 13) (by simp)
        have Q5 : ∀ x : Grow [] W14, x.v.cell? ⟨q, 5, none⟩ = some (.int .i64 m.hav) := fun x => x.ext.cell (blk_cell B14.out 5) (by simp)
        go_wp2
        (refine wp_region_grow (by kernel_rfl) (by kernel_rfl) ?_; (repeat (go_big_quiet_step (fail))); refine wpQuiet_nil ?_)
        clear J13 Q5
        intro w17 hx17
        have X17 := Lh (X14.out.trans hx17); have N17 := Lh (hx17.heap N14.out); have F17 := Lh (hx17.heap F14.out); have B17 := Lh (hx17.heap B14.out)
        clear hx17 X14 N14 F14 B14 k1 k4 k5 j13
        try clear k2
        have k5 := blk_cell B17.out 5
        simp [ftC, rverC, rstrC] at k5
        go_wp2_with (refine wpList_put 2 rfl _ _ rfl sb 13 77 _ (rstrC 206 m (.slice KA m.keys.length KC) f.fr m.hav (some ⟨q, 0, none⟩) 0) [.int .i64 m.hav] _ N17.out rfl rfl rfl (by simp [rstrC]) rfl size2 (by simp [putA, rstrC]) ?_; intro W18 x18 n18 s18; refine stop_of ?_)
        unfold Stop
        have X18 := Lh (X17.out.thenB x18 (by simp; omega)); have N18 := Lh n18; have F18 := Lh (x18.heap F17.out (by simp; omega)); have B18 := Lh (x18.heap B17.out (by simp; omega))
        clear x18 n18 s18 X17 N17 F17 B17
        clear k5
        have k1 := blk_cell F18.out 1
        simp [ftC, rverC, rstrC] at k1
        go_wp2_with (refine wpList_put 2 rfl _ _ rfl sb 16 77 _ (rstrC 206 m (.slice KA m.keys.length KC) f.fr m.hav (some ⟨q, 0, none⟩) f.fr) [.int .i64 f.fr] _ N18.out rfl rfl rfl (by simp [rstrC]) rfl size2 (by simp [putA, rstrC]) ?_; intro W20 x20 n20 s20; refine stop_of ?_)
        unfold Stop
        have X20 := Lh (X18.out.thenB x20 (by simp; omega)); have N20 := Lh n20; have F20 := Lh (x20.heap F18.out (by simp; omega)); have B20 := Lh (x20.heap B18.out (by simp; omega))
        clear x20 n20 s20 X18 N18 F18 B18
        go_wp2
        go_ret2
        exact ⟨sb, rfl, by rw [ES.out]; exact N20.out, by omega, X20.out⟩
       | false =>
        have ES := Lh (show ask = ⟨206, m, f.fr, f.to, f.fr, some i⟩ by rw [ES.out, show min f.to (n : Int) = f.to from by have := of_decide_eq_false e5; have := HHAV.out; omega])
        have J13 : ∀ x : Grow [] W14, x.v.cell? ⟨sb, 13, none⟩ = some (.int .i64 f.to) := fun x => x.ext.cell (blk_cell N14.out 13) (by simp)
        have Q5 : ∀ x : Grow [] W14, x.v.cell? ⟨q, 5, none⟩ = some (.int .i64 m.hav) := fun x => x.ext.cell (blk_cell B14.out 5) (by simp)
        go_wp2
        (refine wp_region_grow (by kernel_rfl) (by kernel_rfl) ?_; (repeat (go_big_quiet_step (fail))); refine wpQuiet_nil ?_)
        clear J13 Q5
        intro w17 hx17
        have X17 := Lh (X14.out.trans hx17); have N17 := Lh (hx17.heap N14.out); have F17 := Lh (hx17.heap F14.out); have B17 := Lh (hx17.heap B14.out)
        clear hx17 X14 N14 F14 B14 k1 k4 k5 j13
        try clear k2
        have k1 := blk_cell F17.out 1
        simp [ftC, rverC, rstrC] at k1
        go_wp2_with (refine wpList_put 2 rfl _ _ rfl sb 16 77 _ (rstrC 206 m (.slice KA m.keys.length KC) f.fr f.to (some ⟨q, 0, none⟩) f.fr) [.int .i64 f.fr] _ N17.out rfl rfl rfl (by simp [rstrC]) rfl size2 (by simp [putA, rstrC]) ?_; intro W20 x20 n20 s20; refine stop_of ?_)
        unfold Stop
        have X20 := Lh (X17.out.thenB x20 (by simp; omega)); have N20 := Lh n20; have F20 := Lh (x20.heap F17.out (by simp; omega)); have B20 := Lh (x20.heap B17.out (by simp; omega))
        clear x20 n20 s20 X17 N17 F17 B17
        go_wp2
        go_ret2
        exact ⟨sb, rfl, by rw [ES.out]; exact N20.out, by omega, X20.out⟩
    | false =>
     have ES := Lh (ES.out.trans (if_neg (fun hh => absurd hh.1 (of_decide_eq_false h1))))
     have G1 : ∀ x : Grow [] w10, x.v.cell? ⟨w.heap.size, 1, none⟩ = some (.int .i64 f.fr) := fun x => x.ext.cell (blk_cell F10.out 1) (by simp)
     have Q5 : ∀ x : Grow [] w10, x.v.cell? ⟨q, 5, none⟩ = some (.int .i64 m.hav) := fun x => x.ext.cell (blk_cell B10.out 5) (by simp)
     go_wp2
     (refine wp_region_grow (by kernel_rfl) (by kernel_rfl) ?_; (repeat (go_big_quiet_step (fail))); refine wpQuiet_nil ?_)
     clear G1 Q5 h1
     intro w11 hx11
     have X11 := Lh (X10.out.trans hx11); have N11 := Lh (hx11.heap N10.out); have F11 := Lh (hx11.heap F10.out); have B11 := Lh (hx11.heap B10.out)
     clear hx11 X10 N10 F10 B10
     go_wp2_with (refine wpList_put 75 rfl _ _ rfl sb 15 77 _ (rstrC 0 m (.slice KA m.keys.length KC) 0 0 (some ⟨q, 0, none⟩) 0) [.pointer (some ⟨q, 0, none⟩)] _ N11.out rfl rfl rfl (by simp [rstrC]) rfl size75r (by simp [putA, rstrC]) ?_; intro W12 x12 n12 s12; refine stop_of ?_)
     unfold Stop
     have X12 := Lh (X11.out.thenB x12 (by simp; omega)); have N12 := Lh n12; have F12 := Lh (x12.heap F11.out (by simp; omega)); have B12 := Lh (x12.heap B11.out (by simp; omega))
     clear x12 n12 s12 X11 N11 F11 B11
     go_wp2_with (refine wpList_put 3 rfl _ _ rfl sb 0 77 _ (rstrC 206 m (.slice KA m.keys.length KC) 0 0 (some ⟨q, 0, none⟩) 0) [.int .i64 206] _ N12.out rfl rfl rfl (by simp [rstrC]) rfl size3 (by simp [putA, rstrC]) ?_; intro W13 x13 n13 s13; refine stop_of ?_)
     unfold Stop
     have X13 := Lh (X12.out.thenB x13 (by simp; omega)); have N13 := Lh n13; have F13 := Lh (x13.heap F12.out (by simp; omega)); have B13 := Lh (x13.heap B12.out (by simp; omega))
     clear x13 n13 s13 X12 N12 F12 B12
     have k1 := blk_cell F13.out 1
     have k2 := blk_cell F13.out 2
     simp [ftC, rverC, rstrC] at k1 k2
     go_wp2_with (refine wpList_put 25 rfl _ _ rfl sb 12 77 _ (rstrC 206 m (.slice KA m.keys.length KC) f.fr f.to (some ⟨q, 0, none⟩) 0) [.int .i64 f.fr, .int .i64 f.to] _ N13.out rfl rfl rfl (by simp [rstrC]) rfl size25 (by simp [putA, rstrC]) ?_; intro W14 x14 n14 s14; refine stop_of ?_)
     unfold Stop
     have X14 := Lh (X13.out.thenB x14 (by simp; omega)); have N14 := Lh n14; have F14 := Lh (x14.heap F13.out (by simp; omega)); have B14 := Lh (x14.heap B13.out (by simp; omega))
     clear x14 n14 s14 X13 N13 F13 B13
     clear k1 k2
     have k1 := blk_cell F14.out 1
     have k2 := blk_cell F14.out 2
     have k5 := blk_cell B14.out 5
     have k4 := blk_cell B14.out 4
     simp [ftC, rverC, rstrC] at k1 k2 k5 k4
     cases e1 : (f.fr == 0) with
     | false =>
      have ES := Lh (ES.out.trans (if_neg (fun hh => absurd hh.1 (by simpa using e1))))
      have j13 := blk_cell N14.out 13
      simp [ftC, rverC, rstrC] at j13
      cases e4 : (m.len == -1) with
      | true =>
       cases e2 : (f.to == 4611686018427387904) with
       | true =>
        have ES := Lh (show ask = ⟨206, m, f.fr, f.to, f.fr, some i⟩ by rw [ES.out, HWF.out.1, e4, if_neg (fun hh => hh.elim (fun h => by cases h) (fun h => h (by simpa using e2)))])
        go_wp2
        (refine wp_region_grow (by kernel_rfl) (by kernel_rfl) ?_; (repeat (go_big_quiet_step (fail))); refine wpQuiet_nil ?_)
        intro w17 hx17
        have X17 := Lh (X14.out.trans hx17); have N17 := Lh (hx17.heap N14.out); have F17 := Lh (hx17.heap F14.out); have B17 := Lh (hx17.heap B14.out)
        clear hx17 X14 N14 F14 B14 k1 k4 k5 j13
        try clear k2
        have k1 := blk_cell F17.out 1
        simp [ftC, rverC, rstrC] at k1
        go_wp2_with (refine wpList_put 2 rfl _ _ rfl sb 16 77 _ (rstrC 206 m (.slice KA m.keys.length KC) f.fr f.to (some ⟨q, 0, none⟩) f.fr) [.int .i64 f.fr] _ N17.out rfl rfl rfl (by simp [rstrC]) rfl size2 (by simp [putA, rstrC]) ?_; intro W20 x20 n20 s20; refine stop_of ?_)
        unfold Stop
        have X20 := Lh (X17.out.thenB x20 (by simp; omega)); have N20 := Lh n20; have F20 := Lh (x20.heap F17.out (by simp; omega)); have B20 := Lh (x20.heap B17.out (by simp; omega))
        clear x20 n20 s20 X17 N17 F17 B17
        go_wp2
        go_ret2
        exact ⟨sb, rfl, by rw [ES.out]; exact N20.out, by omega, X20.out⟩
       | false =>
        have ES := Lh (show ask = ⟨206, m, f.fr, min f.to n, f.fr, some i⟩ by rw [ES.out, if_pos (.inr (by simpa using e2))])
        cases e5 : decide (m.hav < f.to) with
        | true =>
         have ES := Lh (show ask = ⟨206, m, f.fr, m.hav, f.fr, some i⟩ by rw [ES.out, show min f.to (n : Int) = m.hav from by have := of_decide_eq_true e5; have := HHAV.out; omega])
         have J13 : ∀ x : Grow [] W14, x.v.cell? ⟨sb, 13, none⟩ = some (.int .i64 f.to) := fun x => x.ext.cell (blk_cell N14.out 13) (by simp)
         have Q5 : ∀ x : Grow [] W14, x.v.cell? ⟨q, 5, none⟩ = some (.int .i64 m.hav) := fun x => x.ext.cell (blk_cell B14.out 5) (by simp)
         go_wp2
         (refine wp_region_grow (by kernel_rfl) (by kernel_rfl) ?_; (repeat (go_big_quiet_step (fail))); refine wpQuiet_nil ?_)
         clear J13 Q5
         intro w17 hx17
         have X17 := Lh (X14.out.trans hx17); have N17 := Lh (hx17.heap N14.out); have F17 := Lh (hx17.heap F14.out); have B17 := Lh (hx17.heap B14.out)
         clear hx17 X14 N14 F14 B14 k1 k4 k5 j13
         try clear k2
         have k5 := blk_cell B17.out 5
         simp [ftC, rverC, rstrC] at k5
         go_wp2_with (refine wpList_put 2 rfl _ _ rfl sb 13 77 _ (rstrC 206 m (.slice KA m.keys.length KC) f.fr m.hav (some ⟨q, 0, none⟩) 0) [.int .i64 m.hav] _ N17.out rfl rfl rfl (by simp [rstrC]) rfl size2 (by simp [putA, rstrC]) ?_; intro W18 x18 n18 s18; refine stop_of ?_)
         unfold Stop
         have X18 := Lh (X17.out.thenB x18 (by simp; omega)); have N18 := Lh n18; have F18 := Lh (x18.heap F17.out (by simp; omega)); have B18 := Lh (x18.heap B17.out (by simp; omega))
         clear x18 n18 s18 X17 N17 F17 B17
         clear k5
         have k1 := blk_cell F18.out 1
         simp [ftC, rverC, rstrC] at k1
         go_wp2_with (refine wpList_put 2 rfl _ _ rfl sb 16 77 _ (rstrC 206 m (.slice KA m.keys.length KC) f.fr m.hav (some ⟨q, 0, none⟩) f.fr) [.int .i64 f.fr] _ N18.out rfl rfl rfl (by simp [rstrC]) rfl size2 (by simp [putA, rstrC]) ?_; intro W20 x20 n20 s20; refine stop_of ?_)
         unfold Stop
         have X20 := Lh (X18.out.thenB x20 (by simp; omega)); have N20 := Lh n20; have F20 := Lh (x20.heap F18.out (by simp; omega)); have B20 := Lh (x20.heap B18.out (by simp; omega))
         clear x20 n20 s20 X18 N18 F18 B18
         go_wp2
         go_ret2
         exact ⟨sb, rfl, by rw [ES.out]; exact N20.out, by omega, X20.out⟩
        | false =>
         have ES := Lh (show ask = ⟨206, m, f.fr, f.to, f.fr, some i⟩ by rw [ES.out, show min f.to (n : Int) = f.to from by have := of_decide_eq_false e5; have := HHAV.out; omega])
         have J13 : ∀ x : Grow [] W14, x.v.cell? ⟨sb, 13, none⟩ = some (.int .i64 f.to) := fun x => x.ext.cell (blk_cell N14.out 13) (by simp)
         have Q5 : ∀ x : Grow [] W14, x.v.cell? ⟨q, 5, none⟩ = some (.int .i64 m.hav) := fun x => x.ext.cell (blk_cell B14.out 5) (by simp)
         go_wp2
         (refine wp_region_grow (by kernel_rfl) (by kernel_rfl) ?_; (repeat (go_big_quiet_step (fail))); refine wpQuiet_nil ?_)
         clear J13 Q5
         intro w17 hx17
         have X17 := Lh (X14.out.trans hx17); have N17 := Lh (hx17.heap N14.out); have F17 := Lh (hx17.heap F14.out); have B17 := Lh (hx17.heap B14.out)
         clear hx17 X14 N14 F14 B14 k1 k4 k5 j13
         try clear k2
         have k1 := blk_cell F17.out 1
         simp [ftC, rverC, rstrC] at k1
         go_wp2_with (refine wpList_put 2 rfl _ _ rfl sb 16 77 _ (rstrC 206 m (.slice KA m.keys.length KC) f.fr f.to (some ⟨q, 0, none⟩) f.fr) [.int .i64 f.fr] _ N17.out rfl rfl rfl (by simp [rstrC]) rfl size2 (by simp [putA, rstrC]) ?_; intro W20 x20 n20 s20; refine stop_of ?_)
         unfold Stop
         have X20 := Lh (X17.out.thenB x20 (by simp; omega)); have N20 := Lh n20; have F20 := Lh (x20.heap F17.out (by simp; omega)); have B20 := Lh (x20.heap B17.out (by simp; omega))
         clear x20 n20 s20 X17 N17 F17 B17
         go_wp2
         go_ret2
         exact ⟨sb, rfl, by rw [ES.out]; exact N20.out, by omega, X20.out⟩
      | false =>
       have ES := Lh (show ask = ⟨206, m, f.fr, min f.to n, f.fr, some i⟩ by rw [ES.out, if_pos (.inl (by rw [HWF.out.1]; exact e4))])
       cases e5 : decide (m.hav < f.to) with
       | true =>
        have ES := Lh (show ask = ⟨206, m, f.fr, m.hav, f.fr, some i⟩ by rw [ES.out, show min f.to (n : Int) = m.hav from by have := of_decide_eq_true e5; have := HHAV.out; omega])
        have J13 : ∀ x : Grow [] W14, x.v.cell? ⟨sb, 13, none⟩ = some (.int .i64 f.to) := fun x => x.ext.cell (blk_cell N14.out 13) (by simp)
        have Q5 : ∀ x : Grow [] W14, x.v.cell? ⟨q, 5, none⟩ = some (.int .i64 m.hav) := fun x => x.ext.cell (blk_cell B14.out 5) (by simp)
        go_wp2
        (refine wp_region_grow (by kernel_rfl) (by kernel_rfl) ?_; (repeat (go_big_quiet_step (fail))); refine wpQuiet_nil ?_)
        clear J13 Q5
        intro w17 hx17
        have X17 := Lh (X14.out.trans hx17); have N17 := Lh (hx17.heap N14.out); have F17 := Lh (hx17.heap F14.out); have B17 := Lh (hx17.heap B14.out)
        clear hx17 X14 N14 F14 B14 k1 k4 k5 j13
        try clear k2
        have k5 := blk_cell B17.out 5
        simp [ftC, rverC, rstrC] at k5
        go_wp2_with (refine wpList_put 2 rfl _ _ rfl sb 13 77 _ (rstrC 206 m (.slice KA m.keys.length KC) f.fr m.hav (some ⟨q, 0, none⟩) 0) [.int .i64 m.hav] _ N17.out rfl rfl rfl (by simp [rstrC]) rfl size2 (by simp [putA, rstrC]) ?_; intro W18 x18 n18 s18; refine stop_of ?_)
        unfold Stop
        have X18 := Lh (X17.out.thenB x18 (by simp; omega)); have N18 := Lh n18; have F18 := Lh (x18.heap F17.out (by simp; omega)); have B18 := Lh (x18.heap B17.out (by simp; omega))
        clear x18 n18 s18 X17 N17 F17 B17
        clear k5
        have k1 := blk_cell F18.out 1
        simp [ftC, rverC, rstrC] at k1
        go_wp2_with (refine wpList_put 2 rfl _ _ rfl sb 16 77 _ (rstrC 206 m (.slice KA m.keys.length KC) f.fr m.hav (some ⟨q, 0, none⟩) f.fr) [.int .i64 f.fr] _ N18.out rfl rfl rfl (by simp [rstrC]) rfl size2 (by simp [putA, rstrC]) ?_; intro W20 x20 n20 s20; refine stop_of ?_)
        unfold Stop
        have X20 := Lh (X18.out.thenB x20 (by simp; omega)); have N20 := Lh n20; have F20 := Lh (x20.heap F18.out (by simp; omega)); have B20 := Lh (x20.heap B18.out (by simp; omega))
        clear x20 n20 s20 X18 N18 F18 B18
        go_wp2
        go_ret2
        exact ⟨sb, rfl, by rw [ES.out]; exact N20.out, by omega, X20.out⟩
       | false =>
        have ES := Lh (show ask = ⟨206, m, f.fr, f.to, f.fr, some i⟩ by rw [ES.out, show min f.to (n : Int) = f.to from by have := of_decide_eq_false e5; have := HHAV.out; omega])
        have J13 : ∀ x : Grow [] W14, x.v.cell? ⟨sb, 13, none⟩ = some (.int .i64 f.to) := fun x => x.ext.cell (blk_cell N14.out 13) (by simp)
        have Q5 : ∀ x : Grow [] W14, x.v.cell? ⟨q, 5, none⟩ = some (.int .i64 m.hav) := fun x => x.ext.cell (blk_cell B14.out 5) (by simp)
        go_wp2
        (refine wp_region_grow (by kernel_rfl) (by kernel_rfl) ?_; (repeat (go_big_quiet_step (fail))); refine wpQuiet_nil ?_)
        clear J13 Q5
        intro w17 hx17
        have X17 := Lh (X14.out.trans hx17); have N17 := Lh (hx17.heap N14.out); have F17 := Lh (hx17.heap F14.out); have B17 := Lh (hx17.heap B14.out)
        clear hx17 X14 N14 F14 B14 k1 k4 k5 j13
        try clear k2
        have k1 := blk_cell F17.out 1
        simp [ftC, rverC, rstrC] at k1
        go_wp2_with (refine wpList_put 2 rfl _ _ rfl sb 16 77 _ (rstrC 206 m (.slice KA m.keys.length KC) f.fr f.to (some ⟨q, 0, none⟩) f.fr) [.int .i64 f.fr] _ N17.out rfl rfl rfl (by simp [rstrC]) rfl size2 (by simp [putA, rstrC]) ?_; intro W20 x20 n20 s20; refine stop_of ?_)
        unfold Stop
        have X20 := Lh (X17.out.thenB x20 (by simp; omega)); have N20 := Lh n20; have F20 := Lh (x20.heap F17.out (by simp; omega)); have B20 := Lh (x20.heap B17.out (by simp; omega))
        clear x20 n20 s20 X17 N17 F17 B17
        go_wp2
        go_ret2
        exact ⟨sb, rfl, by rw [ES.out]; exact N20.out, by omega, X20.out⟩
     | true =>
      cases e2 : (f.to == 4611686018427387904) with
      | true =>
       have ES := Lh (ES.out.trans (if_pos ⟨by simpa using e1, .inl (by simpa using e2)⟩))
       go_wp2_with (refine wpList_put 3 rfl _ _ rfl sb 0 77 _ (rstrC 200 m (.slice KA m.keys.length KC) f.fr f.to (some ⟨q, 0, none⟩) 0) [.int .i64 200] _ N14.out rfl rfl rfl (by simp [rstrC]) rfl size3 (by simp [putA, rstrC]) ?_; intro W15 x15 n15 s15; refine stop_of ?_)
       unfold Stop
       have X15 := Lh (X14.out.thenB x15 (by simp; omega)); have N15 := Lh n15; have F15 := Lh (x15.heap F14.out (by simp; omega)); have B15 := Lh (x15.heap B14.out (by simp; omega))
       clear x15 n15 s15 X14 N14 F14 B14
       go_wp2_with (refine wpList_put 2 rfl _ _ rfl sb 13 77 _ (rstrC 200 m (.slice KA m.keys.length KC) f.fr 4611686018427387904 (some ⟨q, 0, none⟩) 0) [.int .i64 4611686018427387904] _ N15.out rfl rfl rfl (by simp [rstrC]) rfl size2 (by simp [putA, rstrC]) ?_; intro W16 x16 n16 s16; refine stop_of ?_)
       unfold Stop
       have X16 := Lh (X15.out.thenB x16 (by simp; omega)); have N16 := Lh n16; have F16 := Lh (x16.heap F15.out (by simp; omega)); have B16 := Lh (x16.heap B15.out (by simp; omega))
       clear x16 n16 s16 X15 N15 F15 B15
       clear k1 k2 k4 k5
       have hfr : f.fr = 0 := by simpa using e1
       have k1 := blk_cell F16.out 1
       have k4 := blk_cell B16.out 4
       have k5 := blk_cell B16.out 5
       have j13 := blk_cell N16.out 13
       simp [ftC, rverC, rstrC] at k1 k4 k5 j13
       cases e4 : (m.len == -1) with
       | true =>
        have ES := Lh (show ask = ⟨200, m, f.fr, 4611686018427387904, f.fr, some i⟩ by rw [ES.out, HWF.out.1, e4, hfr]; rfl)
        clear hfr
        go_wp2
        (refine wp_region_grow (by kernel_rfl) (by kernel_rfl) ?_; (repeat (go_big_quiet_step (fail))); refine wpQuiet_nil ?_)
        intro w17 hx17
        have X17 := Lh (X16.out.trans hx17); have N17 := Lh (hx17.heap N16.out); have F17 := Lh (hx17.heap F16.out); have B17 := Lh (hx17.heap B16.out)
        clear hx17 X16 N16 F16 B16 k1 k4 k5 j13
        have k1 := blk_cell F17.out 1
        simp [ftC, rverC, rstrC] at k1
        go_wp2_with (refine wpList_put 2 rfl _ _ rfl sb 16 77 _ (rstrC 200 m (.slice KA m.keys.length KC) f.fr 4611686018427387904 (some ⟨q, 0, none⟩) f.fr) [.int .i64 f.fr] _ N17.out rfl rfl rfl (by simp [rstrC]) rfl size2 (by simp [putA, rstrC]) ?_; intro W20 x20 n20 s20; refine stop_of ?_)
        unfold Stop
        have X20 := Lh (X17.out.thenB x20 (by simp; omega)); have N20 := Lh n20; have F20 := Lh (x20.heap F17.out (by simp; omega)); have B20 := Lh (x20.heap B17.out (by simp; omega))
        clear x20 n20 s20 X17 N17 F17 B17
        go_wp2
        go_ret2
        exact ⟨sb, rfl, by rw [ES.out]; exact N20.out, by omega, X20.out⟩
       | false =>
        have ES := Lh (show ask = ⟨200, m, f.fr, m.hav, f.fr, some i⟩ by rw [ES.out, HWF.out.1, e4, hfr, HHAV.out, ← HWF.out.2.1 (by rw [HWF.out.1]; exact e4)]; rfl)
        have e5 : decide (m.hav < 4611686018427387904) = true := decide_eq_true (by have := HHAV.out; have := HNL.out; omega)
        clear hfr
        have J13 : ∀ x : Grow [] W16, x.v.cell? ⟨sb, 13, none⟩ = some (.int .i64 4611686018427387904) := fun x => x.ext.cell (blk_cell N16.out 13) (by simp)
        have Q5 : ∀ x : Grow [] W16, x.v.cell? ⟨q, 5, none⟩ = some (.int .i64 m.hav) := fun x => x.ext.cell (blk_cell B16.out 5) (by simp)
        go_wp2
        (refine wp_region_grow (by kernel_rfl) (by kernel_rfl) ?_; (repeat (go_big_quiet_step (fail))); refine wpQuiet_nil ?_)
        clear J13 Q5
        intro w17 hx17
        have X17 := Lh (X16.out.trans hx17); have N17 := Lh (hx17.heap N16.out); have F17 := Lh (hx17.heap F16.out); have B17 := Lh (hx17.heap B16.out)
        clear hx17 X16 N16 F16 B16 k1 k4 k5 j13
        have k5 := blk_cell B17.out 5
        simp [ftC, rverC, rstrC] at k5
        go_wp2_with (refine wpList_put 2 rfl _ _ rfl sb 13 77 _ (rstrC 200 m (.slice KA m.keys.length KC) f.fr m.hav (some ⟨q, 0, none⟩) 0) [.int .i64 m.hav] _ N17.out rfl rfl rfl (by simp [rstrC]) rfl size2 (by simp [putA, rstrC]) ?_; intro W18 x18 n18 s18; refine stop_of ?_)
        unfold Stop
        have X18 := Lh (X17.out.thenB x18 (by simp; omega)); have N18 := Lh n18; have F18 := Lh (x18.heap F17.out (by simp; omega)); have B18 := Lh (x18.heap B17.out (by simp; omega))
        clear x18 n18 s18 X17 N17 F17 B17
        clear k5
        have k1 := blk_cell F18.out 1
        simp [ftC, rverC, rstrC] at k1
        go_wp2_with (refine wpList_put 2 rfl _ _ rfl sb 16 77 _ (rstrC 200 m (.slice KA m.keys.length KC) f.fr m.hav (some ⟨q, 0, none⟩) f.fr) [.int .i64 f.fr] _ N18.out rfl rfl rfl (by simp [rstrC]) rfl size2 (by simp [putA, rstrC]) ?_; intro W20 x20 n20 s20; refine stop_of ?_)
        unfold Stop
        have X20 := Lh (X18.out.thenB x20 (by simp; omega)); have N20 := Lh n20; have F20 := Lh (x20.heap F18.out (by simp; omega)); have B20 := Lh (x20.heap B18.out (by simp; omega))
        clear x20 n20 s20 X18 N18 F18 B18
        go_wp2
        go_ret2
        exact ⟨sb, rfl, by rw [ES.out]; exact N20.out, by omega, X20.out⟩
      | false =>
       cases e3 : (m.hav == 0) with
       | true =>
        have ES := Lh (ES.out.trans (if_pos ⟨by simpa using e1, .inr (by have := HHAV.out; have h3 : m.hav = 0 := (by simpa using e3); omega)⟩))
        go_wp2_with (refine wpList_put 3 rfl _ _ rfl sb 0 77 _ (rstrC 200 m (.slice KA m.keys.length KC) f.fr f.to (some ⟨q, 0, none⟩) 0) [.int .i64 200] _ N14.out rfl rfl rfl (by simp [rstrC]) rfl size3 (by simp [putA, rstrC]) ?_; intro W15 x15 n15 s15; refine stop_of ?_)
        unfold Stop
        have X15 := Lh (X14.out.thenB x15 (by simp; omega)); have N15 := Lh n15; have F15 := Lh (x15.heap F14.out (by simp; omega)); have B15 := Lh (x15.heap B14.out (by simp; omega))
        clear x15 n15 s15 X14 N14 F14 B14
        go_wp2_with (refine wpList_put 2 rfl _ _ rfl sb 13 77 _ (rstrC 200 m (.slice KA m.keys.length KC) f.fr 4611686018427387904 (some ⟨q, 0, none⟩) 0) [.int .i64 4611686018427387904] _ N15.out rfl rfl rfl (by simp [rstrC]) rfl size2 (by simp [putA, rstrC]) ?_; intro W16 x16 n16 s16; refine stop_of ?_)
        unfold Stop
        have X16 := Lh (X15.out.thenB x16 (by simp; omega)); have N16 := Lh n16; have F16 := Lh (x16.heap F15.out (by simp; omega)); have B16 := Lh (x16.heap B15.out (by simp; omega))
        clear x16 n16 s16 X15 N15 F15 B15
        clear k1 k2 k4 k5
        have hfr : f.fr = 0 := by simpa using e1
        have k1 := blk_cell F16.out 1
        have k4 := blk_cell B16.out 4
        have k5 := blk_cell B16.out 5
        have j13 := blk_cell N16.out 13
        simp [ftC, rverC, rstrC] at k1 k4 k5 j13
        cases e4 : (m.len == -1) with
        | true =>
         have ES := Lh (show ask = ⟨200, m, f.fr, 4611686018427387904, f.fr, some i⟩ by rw [ES.out, HWF.out.1, e4, hfr]; rfl)
         clear hfr
         go_wp2
         (refine wp_region_grow (by kernel_rfl) (by kernel_rfl) ?_; (repeat (go_big_quiet_step (fail))); refine wpQuiet_nil ?_)
         intro w17 hx17
         have X17 := Lh (X16.out.trans hx17); have N17 := Lh (hx17.heap N16.out); have F17 := Lh (hx17.heap F16.out); have B17 := Lh (hx17.heap B16.out)
         clear hx17 X16 N16 F16 B16 k1 k4 k5 j13
         have k1 := blk_cell F17.out 1
         simp [ftC, rverC, rstrC] at k1
         go_wp2_with (refine wpList_put 2 rfl _ _ rfl sb 16 77 _ (rstrC 200 m (.slice KA m.keys.length KC) f.fr 4611686018427387904 (some ⟨q, 0, none⟩) f.fr) [.int .i64 f.fr] _ N17.out rfl rfl rfl (by simp [rstrC]) rfl size2 (by simp [putA, rstrC]) ?_; intro W20 x20 n20 s20; refine stop_of ?_)
         unfold Stop
         have X20 := Lh (X17.out.thenB x20 (by simp; omega)); have N20 := Lh n20; have F20 := Lh (x20.heap F17.out (by simp; omega)); have B20 := Lh (x20.heap B17.out (by simp; omega))
         clear x20 n20 s20 X17 N17 F17 B17
         go_wp2
         go_ret2
         exact ⟨sb, rfl, by rw [ES.out]; exact N20.out, by omega, X20.out⟩
        | false =>
         have ES := Lh (show ask = ⟨200, m, f.fr, m.hav, f.fr, some i⟩ by rw [ES.out, HWF.out.1, e4, hfr, HHAV.out, ← HWF.out.2.1 (by rw [HWF.out.1]; exact e4)]; rfl)
         have e5 : decide (m.hav < 4611686018427387904) = true := decide_eq_true (by have := HHAV.out; have := HNL.out; omega)
         clear hfr
         have J13 : ∀ x : Grow [] W16, x.v.cell? ⟨sb, 13, none⟩ = some (.int .i64 4611686018427387904) := fun x => x.ext.cell (blk_cell N16.out 13) (by simp)
         have Q5 : ∀ x : Grow [] W16, x.v.cell? ⟨q, 5, none⟩ = some (.int .i64 m.hav) := fun x => x.ext.cell (blk_cell B16.out 5) (by simp)
         go_wp2
         (refine wp_region_grow (by kernel_rfl) (by kernel_rfl) ?_; (repeat (go_big_quiet_step (fail))); refine wpQuiet_nil ?_)
         clear J13 Q5
         intro w17 hx17
         have X17 := Lh (X16.out.trans hx17); have N17 := Lh (hx17.heap N16.out); have F17 := Lh (hx17.heap F16.out); have B17 := Lh (hx17.heap B16.out)
         clear hx17 X16 N16 F16 B16 k1 k4 k5 j13
         have k5 := blk_cell B17.out 5
         simp [ftC, rverC, rstrC] at k5
         go_wp2_with (refine wpList_put 2 rfl _ _ rfl sb 13 77 _ (rstrC 200 m (.slice KA m.keys.length KC) f.fr m.hav (some ⟨q, 0, none⟩) 0) [.int .i64 m.hav] _ N17.out rfl rfl rfl (by simp [rstrC]) rfl size2 (by simp [putA, rstrC]) ?_; intro W18 x18 n18 s18; refine stop_of ?_)
         unfold Stop
         have X18 := Lh (X17.out.thenB x18 (by simp; omega)); have N18 := Lh n18; have F18 := Lh (x18.heap F17.out (by simp; omega)); have B18 := Lh (x18.heap B17.out (by simp; omega))
         clear x18 n18 s18 X17 N17 F17 B17
         clear k5
         have k1 := blk_cell F18.out 1
         simp [ftC, rverC, rstrC] at k1
         go_wp2_with (refine wpList_put 2 rfl _ _ rfl sb 16 77 _ (rstrC 200 m (.slice KA m.keys.length KC) f.fr m.hav (some ⟨q, 0, none⟩) f.fr) [.int .i64 f.fr] _ N18.out rfl rfl rfl (by simp [rstrC]) rfl size2 (by simp [putA, rstrC]) ?_; intro W20 x20 n20 s20; refine stop_of ?_)
         unfold Stop
         have X20 := Lh (X18.out.thenB x20 (by simp; omega)); have N20 := Lh n20; have F20 := Lh (x20.heap F18.out (by simp; omega)); have B20 := Lh (x20.heap B18.out (by simp; omega))
         clear x20 n20 s20 X18 N18 F18 B18
         go_wp2
         go_ret2
         exact ⟨sb, rfl, by rw [ES.out]; exact N20.out, by omega, X20.out⟩
       | false =>
        have ES := Lh (ES.out.trans (if_neg (fun hh => hh.2.elim (fun h3 => absurd h3 (by simpa using e2)) (fun h3 => absurd (show m.hav = 0 by rw [HHAV.out, h3]; rfl) (by simpa using e3)))))
        have j13 := blk_cell N14.out 13
        simp [ftC, rverC, rstrC] at j13
        cases e4 : (m.len == -1) with
        | true =>
         have ES := Lh (show ask = ⟨206, m, f.fr, min f.to n, f.fr, some i⟩ by rw [ES.out, if_pos (.inr (by simpa using e2))])
         cases e5 : decide (m.hav < f.to) with
         | true =>
          have ES := Lh (show ask = ⟨206, m, f.fr, m.hav, f.fr, some i⟩ by rw [ES.out, show min f.to (n : Int) = m.hav from by have := of_decide_eq_true e5; have := HHAV.out; omega])
          have J13 : ∀ x : Grow [] W14, x.v.cell? ⟨sb, 13, none⟩ = some (.int .i64 f.to) := fun x => x.ext.cell (blk_cell N14.out 13) (by simp)
          have Q5 : ∀ x : Grow [] W14, x.v.cell? ⟨q, 5, none⟩ = some (.int .i64 m.hav) := fun x => x.ext.cell (blk_cell B14.out 5) (by simp)
          go_wp2
          (refine wp_region_grow (by kernel_rfl) (by kernel_rfl) ?_; (repeat (go_big_quiet_step (fail))); refine wpQuiet_nil ?_)
          clear J13 Q5
          intro w17 hx17
          have X17 := Lh (X14.out.trans hx17); have N17 := Lh (hx17.heap N14.out); have F17 := Lh (hx17.heap F14.out); have B17 := Lh (hx17.heap B14.out)
          clear hx17 X14 N14 F14 B14 k1 k4 k5 j13
          try clear k2
          have k5 := blk_cell B17.out 5
          simp [ftC, rverC, rstrC] at k5
          go_wp2_with (refine wpList_put 2 rfl _ _ rfl sb 13 77 _ (rstrC 206 m (.slice KA m.keys.length KC) f.fr m.hav (some ⟨q, 0, none⟩) 0) [.int .i64 m.hav] _ N17.out rfl rfl rfl (by simp [rstrC]) rfl size2 (by simp [putA, rstrC]) ?_; intro W18 x18 n18 s18; refine stop_of ?_)
          unfold Stop
          have X18 := Lh (X17.out.thenB x18 (by simp; omega)); have N18 := Lh n18; have F18 := Lh (x18.heap F17.out (by simp; omega)); have B18 := Lh (x18.heap B17.out (by simp; omega))
          clear x18 n18 s18 X17 N17 F17 B17
          clear k5
          have k1 := blk_cell F18.out 1
          simp [ftC, rverC, rstrC] at k1
          go_wp2_with (refine wpList_put 2 rfl _ _ rfl sb 16 77 _ (rstrC 206 m (.slice KA m.keys.length KC) f.fr m.hav (some ⟨q, 0, none⟩) f.fr) [.int .i64 f.fr] _ N18.out rfl rfl rfl (by simp [rstrC]) rfl size2 (by simp [putA, rstrC]) ?_; intro W20 x20 n20 s20; refine stop_of ?_)
          unfold Stop
          have X20 := Lh (X18.out.thenB x20 (by simp; omega)); have N20 := Lh n20; have F20 := Lh (x20.heap F18.out (by simp; omega)); have B20 := Lh (x20.heap B18.out (by simp; omega))
          clear x20 n20 s20 X18 N18 F18 B18
          go_wp2
          go_ret2
          exact ⟨sb, rfl, by rw [ES.out]; exact N20.out, by omega, X20.out⟩
         | false =>
          have ES := Lh (show ask = ⟨206, m, f.fr, f.to, f.fr, some i⟩ by rw [ES.out, show min f.to (n : Int) = f.to from by have := of_decide_eq_false e5; have := HHAV.out; omega])
          have J13 : ∀ x : Grow [] W14, x.v.cell? ⟨sb, 13, none⟩ = some (.int .i64 f.to) := fun x => x.ext.cell (blk_cell N14.out 13) (by simp)
          have Q5 : ∀ x : Grow [] W14, x.v.cell? ⟨q, 5, none⟩ = some (.int .i64 m.hav) := fun x => x.ext.cell (blk_cell B14.out 5) (by simp)
          go_wp2
          (refine wp_region_grow (by kernel_rfl) (by kernel_rfl) ?_; (repeat (go_big_quiet_step (fail))); refine wpQuiet_nil ?_)
          clear J13 Q5
          intro w17 hx17
          have X17 := Lh (X14.out.trans hx17); have N17 := Lh (hx17.heap N14.out); have F17 := Lh (hx17.heap F14.out); have B17 := Lh (hx17.heap B14.out)
          clear hx17 X14 N14 F14 B14 k1 k4 k5 j13
          try clear k2
          have k1 := blk_cell F17.out 1
          simp [ftC, rverC, rstrC] at k1
          go_wp2_with (refine wpList_put 2 rfl _ _ rfl sb 16 77 _ (rstrC 206 m (.slice KA m.keys.length KC) f.fr f.to (some ⟨q, 0, none⟩) f.fr) [.int .i64 f.fr] _ N17.out rfl rfl rfl (by simp [rstrC]) rfl size2 (by simp [putA, rstrC]) ?_; intro W20 x20 n20 s20; refine stop_of ?_)
          unfold Stop
          have X20 := Lh (X17.out.thenB x20 (by simp; omega)); have N20 := Lh n20; have F20 := Lh (x20.heap F17.out (by simp; omega)); have B20 := Lh (x20.heap B17.out (by simp; omega))
          clear x20 n20 s20 X17 N17 F17 B17
          go_wp2
          go_ret2
          exact ⟨sb, rfl, by rw [ES.out]; exact N20.out, by omega, X20.out⟩
        | false =>
         have ES := Lh (show ask = ⟨206, m, f.fr, min f.to n, f.fr, some i⟩ by rw [ES.out, if_pos (.inl (by rw [HWF.out.1]; exact e4))])
         cases e5 : decide (m.hav < f.to) with
         | true =>
          have ES := Lh (show ask = ⟨206, m, f.fr, m.hav, f.fr, some i⟩ by rw [ES.out, show min f.to (n : Int) = m.hav from by have := of_decide_eq_true e5; have := HHAV.out; omega])
          have J13 : ∀ x : Grow [] W14, x.v.cell? ⟨sb, 13, none⟩ = some (.int .i64 f.to) := fun x => x.ext.cell (blk_cell N14.out 13) (by simp)
          have Q5 : ∀ x : Grow [] W14, x.v.cell? ⟨q, 5, none⟩ = some (.int .i64 m.hav) := fun x => x.ext.cell (blk_cell B14.out 5) (by simp)
          go_wp2
          (refine wp_region_grow (by kernel_rfl) (by kernel_rfl) ?_; (repeat (go_big_quiet_step (fail))); refine wpQuiet_nil ?_)
          clear J13 Q5
          intro w17 hx17
          have X17 := Lh (X14.out.trans hx17); have N17 := Lh (hx17.heap N14.out); have F17 := Lh (hx17.heap F14.out); have B17 := Lh (hx17.heap B14.out)
          clear hx17 X14 N14 F14 B14 k1 k4 k5 j13
          try clear k2
          have k5 := blk_cell B17.out 5
          simp [ftC, rverC, rstrC] at k5
          go_wp2_with (refine wpList_put 2 rfl _ _ rfl sb 13 77 _ (rstrC 206 m (.slice KA m.keys.length KC) f.fr m.hav (some ⟨q, 0, none⟩) 0) [.int .i64 m.hav] _ N17.out rfl rfl rfl (by simp [rstrC]) rfl size2 (by simp [putA, rstrC]) ?_; intro W18 x18 n18 s18; refine stop_of ?_)
          unfold Stop
          have X18 := Lh (X17.out.thenB x18 (by simp; omega)); have N18 := Lh n18; have F18 := Lh (x18.heap F17.out (by simp; omega)); have B18 := Lh (x18.heap B17.out (by simp; omega))
          clear x18 n18 s18 X17 N17 F17 B17
          clear k5
          have k1 := blk_cell F18.out 1
          simp [ftC, rverC, rstrC] at k1
          go_wp2_with (refine wpList_put 2 rfl _ _ rfl sb 16 77 _ (rstrC 206 m (.slice KA m.keys.length KC) f.fr m.hav (some ⟨q, 0, none⟩) f.fr) [.int .i64 f.fr] _ N18.out rfl rfl rfl (by simp [rstrC]) rfl size2 (by simp [putA, rstrC]) ?_; intro W20 x20 n20 s20; refine stop_of ?_)
          unfold Stop
          have X20 := Lh (X18.out.thenB x20 (by simp; omega)); have N20 := Lh n20; have F20 := Lh (x20.heap F18.out (by simp; omega)); have B20 := Lh (x20.heap B18.out (by simp; omega))
          clear x20 n20 s20 X18 N18 F18 B18
          go_wp2
          go_ret2
          exact ⟨sb, rfl, by rw [ES.out]; exact N20.out, by omega, X20.out⟩
         | false =>
          have ES := Lh (show ask = ⟨206, m, f.fr, f.to, f.fr, some i⟩ by rw [ES.out, show min f.to (n : Int) = f.to from by have := of_decide_eq_false e5; have := HHAV.out; omega])
          have J13 : ∀ x : Grow [] W14, x.v.cell? ⟨sb, 13, none⟩ = some (.int .i64 f.to) := fun x => x.ext.cell (blk_cell N14.out 13) (by simp)
          have Q5 : ∀ x : Grow [] W14, x.v.cell? ⟨q, 5, none⟩ = some (.int .i64 m.hav) := fun x => x.ext.cell (blk_cell B14.out 5) (by simp)
          go_wp2
          (refine wp_region_grow (by kernel_rfl) (by kernel_rfl) ?_; (repeat (go_big_quiet_step (fail))); refine wpQuiet_nil ?_)
          clear J13 Q5
          intro w17 hx17
          have X17 := Lh (X14.out.trans hx17); have N17 := Lh (hx17.heap N14.out); have F17 := Lh (hx17.heap F14.out); have B17 := Lh (hx17.heap B14.out)
          clear hx17 X14 N14 F14 B14 k1 k4 k5 j13
          try clear k2
          have k1 := blk_cell F17.out 1
          simp [ftC, rverC, rstrC] at k1
          go_wp2_with (refine wpList_put 2 rfl _ _ rfl sb 16 77 _ (rstrC 206 m (.slice KA m.keys.length KC) f.fr f.to (some ⟨q, 0, none⟩) f.fr) [.int .i64 f.fr] _ N17.out rfl rfl rfl (by simp [rstrC]) rfl size2 (by simp [putA, rstrC]) ?_; intro W20 x20 n20 s20; refine stop_of ?_)
          unfold Stop
          have X20 := Lh (X17.out.thenB x20 (by simp; omega)); have N20 := Lh n20; have F20 := Lh (x20.heap F17.out (by simp; omega)); have B20 := Lh (x20.heap B17.out (by simp; omega))
          clear x20 n20 s20 X17 N17 F17 B17
          go_wp2
          go_ret2
          exact ⟨sb, rfl, by rw [ES.out]; exact N20.out, by omega, X20.out⟩
end
end Go.Proofs.Ytpangoddbfiagaa
