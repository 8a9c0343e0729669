import Derived.Test.YtpangoddbfiagaaRG04
namespace Go.Proofs.Ytpangoddbfiagaa
open Go.RowKit Go.Maps Go.ChangeMaps
set_option linter.unusedVariables false
set_option linter.unusedSimpArgs false
section
variable {w w' : World} {b B N : Nat} {own own' : Nat → Prop} {vs : List Vn} {ss : List Sn} {sa va : List Nat} {gs : List Vg} {mo mh : Option Nat} {H : Bs → Option Nat} {K : Bs → Bs → Option Bool}
set_option maxRecDepth 100000 in
set_option maxHeartbeats 2000000 in
theorem ask_bad (w : World) (b : Nat) (f : Ft) (hz : FtZ f) (hb : ftB f = false) : Calls Try.prog 15 #[.pointer (some ⟨b, 0, none⟩), .agg (ftC f)] w fun e w' => e = .returned (.tuple #[.pointer none, .int .i64 1]) ∧ Ext w w' := by
 have HOBJ := Lh fun W => obj_any f.obj W (by have := hz.obj; omega)
 have HSP := Lh fun W => span_any f.fr f.to W
 have HM := Lh fun W => asks_any f.mt f.mw W (by have := hz.mt; omega)
 have HN := Lh fun W => asks_any f.nt f.nw W (by have := hz.nt; omega)
 obtain ⟨y1, hy1⟩ : ∃ y, y = objB f.obj := ⟨_, rfl⟩
 obtain ⟨y2, hy2⟩ : ∃ y, y = spanB f.fr f.to := ⟨_, rfl⟩
 obtain ⟨y3, hy3⟩ : ∃ y, y = askB f.mt f.mw := ⟨_, rfl⟩
 obtain ⟨y4, hy4⟩ : ∃ y, y = askB f.nt f.nw := ⟨_, rfl⟩
 rw [← hy1] at HOBJ
 rw [← hy2] at HSP
 rw [← hy3] at HM
 rw [← hy4] at HN
 unfold tagV at HM HN
 have HB : Hid ((y1 && y2 && !(f.fr == f.to) && y3 && y4) = false) := Lh (by rw [hy1, hy2, hy3, hy4]; exact hb)
 clear hz hb hy1 hy2 hy3 hy4
 go_enter Try.func15, Try.ntmps15
 go_wp2_with (refine wpList_boxA 29 rfl _ rfl (ftC f) rfl ?_; intro W0 x0 n0 s0; refine stop_of ?_)
 unfold Stop
 have k0 := blk_cell n0 0; have k1 := blk_cell n0 1; have k2 := blk_cell n0 2
 simp [ftC] at k0 k1 k2
 have X0 := Lh x0; have N0 := Lh n0
 clear x0 n0
 go_wp2_with (go_at_call 35; refine (HOBJ.out _).mono ?_; rintro e w1 ⟨rfl, rfl⟩; refine stop_of ?_)
 unfold Stop
 cases y1 with
 | false =>
  go_wp2
  go_ret2
  exact ⟨rfl, X0.out⟩
 | true =>
  go_wp2_with (go_at_call 40; refine (HSP.out _).mono ?_; rintro e w1 ⟨rfl, x1⟩; refine stop_of ?_)
  unfold Stop
  have N1 := Lh (x1.heap N0.out); have X1 := Lh (X0.out.trans x1)
  clear x1 k0 k1 k2 N0 X0
  cases y2 with
  | false =>
   go_wp2
   go_ret2
   exact ⟨rfl, X1.out⟩
  | true =>
   have k1 := blk_cell N1.out 1; have k2 := blk_cell N1.out 2; have k3 := blk_cell N1.out 3; have k4 := blk_cell N1.out 4
   simp [ftC] at k1 k2 k3 k4
   cases hft : (f.fr == f.to) with
   | true =>
    go_wp2
    go_ret2
    exact ⟨rfl, X1.out⟩
   | false =>
    rw [hft] at HB
    go_wp2_with (go_at_call 38; refine (HM.out _).mono ?_; rintro e w2 ⟨rfl, x2⟩; refine stop_of ?_)
    unfold Stop
    have N2 := Lh (x2.heap N1.out); have X2 := Lh (X1.out.trans x2)
    clear x2 k1 k2 k3 k4 N1 X1
    cases y3 with
    | false =>
     go_wp2
     go_ret2
     exact ⟨rfl, X2.out⟩
    | true =>
     have k5 := blk_cell N2.out 5; have k6 := blk_cell N2.out 6
     simp [ftC] at k5 k6
     go_wp2_with (go_at_call 38; refine (HN.out _).mono ?_; rintro e w3 ⟨rfl, x3⟩; refine stop_of ?_)
     unfold Stop
     have X3 := Lh (X2.out.trans x3)
     clear x3 k5 k6 N2 X2
     cases y4 with
     | false =>
      go_wp2
      go_ret2
      exact ⟨rfl, X3.out⟩
     | true => exact absurd HB.out (by simp)
set_option maxRecDepth 100000 in
set_option maxHeartbeats 2000000 in
theorem ask_404 (h : OIx w b B N own vs ss sa gs mo mh H K) (f : Ft) (hz : FtZ f) (hb : ftB f = true) (hn : nowI vs f.obj = none) : Calls Try.prog 15 #[.pointer (some ⟨b, 0, none⟩), .agg (ftC f)] w fun e w' => ∃ sb, e = .returned (.tuple #[.pointer (some ⟨sb, 0, none⟩), .int .i64 0]) ∧ StrAt w' sb none 404 zeroM (.slice none 0 0) 0 0 0 ∧ w.heap.size ≤ sb ∧ Ext w w' := by
 have HOBJ := Lh fun W => obj_any f.obj W (by have := hz.obj; omega)
 have HSP := Lh fun W => span_any f.fr f.to W
 have HM := Lh fun W => asks_any f.mt f.mw W (by have := hz.mt; omega)
 have HN := Lh fun W => asks_any f.nt f.nw W (by have := hz.nt; omega)
 obtain ⟨⟨⟨⟨g1, g2⟩, g3⟩, g4⟩, g5⟩ : (((objB f.obj = true ∧ spanB f.fr f.to = true) ∧ (f.fr == f.to) = false) ∧ askB f.mt f.mw = true) ∧ askB f.nt f.nw = true := by simpa [ftB] using hb
 rw [g1] at HOBJ
 rw [g2] at HSP
 rw [g4] at HM
 rw [g5] at HN
 unfold tagV at HM HN
 have hft := g3
 have HL := Lh fun W (x : Ext w W) => look_none (h.ext x) (by have := hz.obj; omega) hn
 have HBLK := Lh h.blk
 clear hz hb h hn g1 g2 g3 g4 g5
 go_enter Try.func15, Try.ntmps15
 go_wp2_with (refine wpList_boxA 29 rfl _ rfl (ftC f) rfl ?_; intro W0 x0 n0 s0; refine stop_of ?_)
 unfold Stop
 have k0 := blk_cell n0 0; have k1 := blk_cell n0 1; have k2 := blk_cell n0 2
 simp [ftC] at k0 k1 k2
 have X0 := Lh x0; have N0 := Lh n0
 clear x0 n0
 go_wp2_with (go_at_call 35; refine (HOBJ.out _).mono ?_; rintro e w1 ⟨rfl, rfl⟩; refine stop_of ?_)
 unfold Stop
 go_wp2_with (go_at_call 40; refine (HSP.out _).mono ?_; rintro e w1 ⟨rfl, x1⟩; refine stop_of ?_)
 unfold Stop
 have N1 := Lh (x1.heap N0.out); have X1 := Lh (X0.out.trans x1)
 clear x1 k0 k1 k2 N0 X0
 have k1 := blk_cell N1.out 1; have k2 := blk_cell N1.out 2; have k3 := blk_cell N1.out 3; have k4 := blk_cell N1.out 4
 simp [ftC] at k1 k2 k3 k4
 go_wp2_with (go_at_call 38; refine (HM.out _).mono ?_; rintro e w2 ⟨rfl, x2⟩; refine stop_of ?_)
 unfold Stop
 have N2 := Lh (x2.heap N1.out); have X2 := Lh (X1.out.trans x2)
 clear x2 k1 k2 k3 k4 N1 X1
 have k5 := blk_cell N2.out 5; have k6 := blk_cell N2.out 6
 simp [ftC] at k5 k6
 go_wp2_with (go_at_call 38; refine (HN.out _).mono ?_; rintro e w3 ⟨rfl, x3⟩; refine stop_of ?_)
 unfold Stop
 have X3 := Lh (X2.out.trans x3); have N3 := Lh (x3.heap N2.out)
 clear x3 k5 k6 N2 X2
 go_wp2
 have G0 : ∀ x : Grow [] w3, x.v.cell? ⟨b, 0, none⟩ = some (.map mo) := fun x => x.ext.cell (blk_cell (X3.out.heap HBLK.out) 0) (by simp)
 have G1 : ∀ x : Grow [] w3, x.v.cell? ⟨w.heap.size, 0, none⟩ = some (.string ⟨f.obj.toArray⟩) := fun x => x.ext.cell (blk_cell N3.out 0) (by simp)
 have GL : ∀ x : Grow [] w3, (Instr.lookup 82 (.map mo) (.string ⟨f.obj.toArray⟩) false).run Try.prog x.v = .ok (.pointer none) x.v := fun x => HL.out x.v (X3.out.trans x.ext.ext)
 (refine wp_region_grow (by kernel_rfl) (by kernel_rfl) ?_; (repeat (go_big_quiet_step (fail))); refine wpQuiet_nil ?_)
 clear G0 G1 GL
 intro w4 hx4
 have X4 := Lh (X3.out.trans hx4); have N4 := Lh (hx4.heap N3.out)
 clear hx4 X3 N3
 go_wp2_with (refine wpList_boxA 94 rfl _ rfl (strC none 404 zeroM (.slice none 0 0) 0 0 0) rfl ?_; intro W5 x5 n5 s5; refine stop_of ?_)
 unfold Stop
 have X5 := Lh (X4.out.trans x5); have N5 := Lh n5
 have hle : w.heap.size ≤ w4.heap.size := X4.out.size
 clear x5 n5
 go_wp2
 go_ret2
 exact ⟨_, rfl, N5.out, hle, X5.out⟩
end
end Go.Proofs.Ytpangoddbfiagaa
namespace Go.Proofs.Ytpangoddbfiagaa
open Go.RowKit Go.Maps Go.ChangeMaps
set_option linter.unusedVariables false
set_option linter.unusedSimpArgs false
section
variable {w w' : World} {b B N : Nat} {own own' : Nat → Prop} {vs : List Vn} {ss : List Sn} {sa va : List Nat} {gs : List Vg} {mo mh : Option Nat} {H : Bs → Option Nat} {K : Bs → Bs → Option Bool}
theorem size3 : (Try.prog.info? 3).map (·.size) = some 1 := by kernel_rfl
def AskR (w : World) (q : Nat) (v : Vn) (s : Sn) (e : Ending) (w' : World) : Prop := ∃ sb kv, e = .returned (.tuple #[.pointer (some ⟨sb, 0, none⟩), .int .i64 0]) ∧ StrAt w' sb (if s.v.isSome = true then some ⟨q, 0, none⟩ else none) s.st s.m kv s.fr s.to s.at_ ∧ SRow w' w.heap.size kv v.m.keys ∧ w.heap.size ≤ sb ∧ Ext w w'
theorem askR_mk {w : World} {q : Nat} {v : Vn} {s : Sn} {w' : World} {sb : Nat} {p : Option Addr} {st fr to at_ : Int} {sv : Option Nat} {kv : Value} {m : MetaP} (hs : s = ⟨st, m, fr, to, at_, sv⟩) (hp : (if sv.isSome = true then some (⟨q, 0, none⟩ : Addr) else none) = p) (h1 : StrAt w' sb p st m kv fr to at_) (h2 : SRow w' w.heap.size kv v.m.keys) (h3 : w.heap.size ≤ sb) (h4 : Ext w w') : AskR w q v s (.returned (.tuple #[.pointer (some ⟨sb, 0, none⟩), .int .i64 0])) w' := by
 subst hs
 exact ⟨sb, kv, rfl, by rw [hp]; exact h1, h2, h3, h4⟩
end
end Go.Proofs.Ytpangoddbfiagaa
