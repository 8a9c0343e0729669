import Derived.Test.YtpangoddbfiagaaRG15
namespace Go.Proofs.Ytpangoddbfiagaa
open Go.ChangeShapes Go.WideShapes Go.ChangeAt Go.RowKit Go.Deep Go.Joins
open Go.Maps Go.ChangeMaps
set_option linter.unusedVariables false
set_option linter.unusedSimpArgs false
structure ActP where
 kind : Int
 obj : Bs
 m : MetaP
 kv : Value
 bytes : Bs
 bv : Value
 f : Ft
 st : Nat
 n : Int
def actC (a : ActP) : List Value := [.int .i64 a.kind, .string ⟨a.obj.toArray⟩, .string ⟨a.m.tt.toArray⟩, .bool a.m.tw, .int .i64 a.m.mod, .int .i64 a.m.len, .int .i64 a.m.hav, .int .i64 a.m.fr, .int .i64 a.m.wh, .int .i64 a.m.er, a.kv, .string ⟨a.m.ten.toArray⟩, .bool a.m.keep, a.bv,
 .string ⟨a.f.obj.toArray⟩, .int .i64 a.f.fr, .int .i64 a.f.to, .string ⟨a.f.mt.toArray⟩, .bool a.f.mw, .string ⟨a.f.nt.toArray⟩, .bool a.f.nw, .int .u8 a.st, .int .i64 a.n]
def RAct (w : World) (a : ActP) (cs : List Value) : Prop := cs = actC a ∧ TextsAt w a.kv a.m.keys ∧ LowV w a.kv ∧ BytesAt w a.bv a.bytes ∧ LowV w a.bv ∧ a.st ≤ 255
structure ActZ (a : ActP) : Prop where
 bytes : a.bytes.length ≤ 60
 obj : a.obj.length ≤ 300
 m : MetaZ a.m
 ft : FtZ a.f
 fo : a.f.obj.length ≤ 300
section
variable {H : Type} {enc : TypeId × Value → H} {w : World} {base : Nat} {spare : Nat → Bool} {held : Bool}
set_option maxRecDepth 100000 in
theorem tag_cells {fuel : Nat} {cs : List Value} {x : DataW H × List MemPlace} (h : DataW.trod enc Try.prog w base (fun _ => true) held fuel 27 cs = some x) : ∃ (t : Bs) (b : Bool), cs = [.string ⟨t.toArray⟩, .bool b] := by
 obtain ⟨ys, m, _, _, hlen, _, _⟩ := DataW.trod_struct Try.underlying27 h
 have c27 : Try.prog.cellsOf 27 = 2 := by kernel_rfl
 rw [c27] at hlen
 obtain ⟨m0, y0, h0⟩ := fld Try.underlying27 h 0 _ rfl
 obtain ⟨m1, y1, h1⟩ := fld Try.underlying27 h 1 _ rfl
 match cs, hlen with
 | [c0, c1], _ =>
  have h0' : DataW.trod enc Try.prog w base (fun _ => true) held m0 9 [c0] = some y0 := h0
  have h1' : DataW.trod enc Try.prog w base (fun _ => true) held m1 4 [c1] = some y1 := h1
  obtain ⟨o, ho, _⟩ := text_cells h0'
  obtain ⟨b, e, _⟩ := DataW.trod_bool Try.underlying4 h1'
  unfold RText at ho
  simp at ho e
  exact ⟨o, b, by rw [ho, e]⟩
set_option maxRecDepth 100000 in
theorem span_cells {fuel : Nat} {cs : List Value} {x : DataW H × List MemPlace} (h : DataW.trod enc Try.prog w base (fun _ => true) held fuel 25 cs = some x) : ∃ a b : Int, cs = [.int .i64 a, .int .i64 b] := by
 obtain ⟨ys, m, _, _, hlen, _, _⟩ := DataW.trod_struct Try.underlying25 h
 have c25 : Try.prog.cellsOf 25 = 2 := by kernel_rfl
 rw [c25] at hlen
 obtain ⟨m0, y0, h0⟩ := fld Try.underlying25 h 0 _ rfl
 obtain ⟨m1, y1, h1⟩ := fld Try.underlying25 h 1 _ rfl
 match cs, hlen with
 | [c0, c1], _ =>
  have h0' : DataW.trod enc Try.prog w base (fun _ => true) held m0 2 [c0] = some y0 := h0
  have h1' : DataW.trod enc Try.prog w base (fun _ => true) held m1 2 [c1] = some y1 := h1
  obtain ⟨a, e0, _⟩ := DataW.trod_int Try.underlying2 h0'
  obtain ⟨b, e1, _⟩ := DataW.trod_int Try.underlying2 h1'
  simp at e0 e1
  exact ⟨a, b, by rw [e0, e1]⟩
set_option maxRecDepth 100000 in
theorem fetch_cells {fuel : Nat} {cs : List Value} {x : DataW H × List MemPlace} (h : DataW.trod enc Try.prog w base (fun _ => true) held fuel 29 cs = some x) : ∃ f : Ft, cs = (ftC f).toList := by
 obtain ⟨ys, m, _, _, hlen, _, _⟩ := DataW.trod_struct Try.underlying29 h
 have c29 : Try.prog.cellsOf 29 = 7 := by kernel_rfl
 rw [c29] at hlen
 obtain ⟨m0, y0, h0⟩ := fld Try.underlying29 h 0 _ rfl
 obtain ⟨m1, y1, h1⟩ := fld Try.underlying29 h 1 _ rfl
 obtain ⟨m2, y2, h2⟩ := fld Try.underlying29 h 2 _ rfl
 obtain ⟨m3, y3, h3⟩ := fld Try.underlying29 h 3 _ rfl
 match cs, hlen with
 | [c0, c1, c2, c3, c4, c5, c6], _ =>
  have h0' : DataW.trod enc Try.prog w base (fun _ => true) held m0 9 [c0] = some y0 := h0
  have h1' : DataW.trod enc Try.prog w base (fun _ => true) held m1 25 [c1, c2] = some y1 := h1
  have h2' : DataW.trod enc Try.prog w base (fun _ => true) held m2 27 [c3, c4] = some y2 := h2
  have h3' : DataW.trod enc Try.prog w base (fun _ => true) held m3 27 [c5, c6] = some y3 := h3
  obtain ⟨o, ho, _⟩ := text_cells h0'
  obtain ⟨a, b, e1⟩ := span_cells h1'
  obtain ⟨t1, b1, e2⟩ := tag_cells h2'
  obtain ⟨t2, b2, e3⟩ := tag_cells h3'
  refine ⟨⟨o, a, b, t1, b1, t2, b2⟩, ?_⟩
  unfold RText at ho
  simp at ho e1 e2 e3
  simp [ftC, ho, e1, e2, e3]
end
theorem size40 : (Try.prog.info? 40).map (·.size) = some 23 := by kernel_rfl
theorem zero40 (w : World) : (zeroValue 40).run Try.prog w = .ok (.agg #[.int .i64 0, .string ⟨#[]⟩, .string ⟨#[]⟩, .bool false, .int .i64 0, .int .i64 0, .int .i64 0, .int .i64 0, .int .i64 0, .int .i64 0, .slice none 0 0, .string ⟨#[]⟩, .bool false, .slice none 0 0, .string ⟨#[]⟩, .int .i64 0, .int .i64 0, .string ⟨#[]⟩, .bool false, .string ⟨#[]⟩, .bool false, .int .u8 0, .int .i64 0]) w := by kernel_rfl
theorem wpList_getW {ops : Array Oper} {rest : List Oper} {o : Oper} {a : Act} {w : World} {Q : Exit → Act → World → Prop} (ty : TypeId) (d : TypeDesc) (hw : Region.wanted o (yielded ops a.tmps) = true) (x : Operand) (ho : o.op = .load ty x) (g off : Nat) (e : TypeId) (cur : Array Value) (cs : List Value) (hg : w.heap[g]? = some (.cells cur e (0, 0))) (hx : a.eval x = .pointer (some ⟨g, off, none⟩))
  (hc : (cur.toList.drop off).take cs.length = cs) (hu : Try.prog.underlying ty = some d) (hd : d.isRow = true) (hi : (Try.prog.info? ty).map (·.size) = some cs.length)
  (h : wpList Try.prog ops Q rest (a.put o.dst (.agg cs.toArray)) w) : wpList Try.prog ops Q (o :: rest) a w :=
 BigFrame.wpList_want hw fun K hK => by
  unfold Oper.wp execOp
  simp only [ho, hx, Instr.loadAt, Instr.sureAddr, Sem.run_bind, Sem.run_pure, Result.andThen_ok, run_loadVar_mid w g off ty cs d (range_of hg hc) hu hd hi]
  exact hK _ _ h
def SmallR (w : World) (m : MetaP) (e : Ending) (w' : World) : Prop := ∃ r, e = .returned (.bool r) ∧ (r = true → MetaZ m) ∧ Ext w w'
theorem SmallR.no {w w' : World} {m : MetaP} {e : Ending} (h : e = .returned (.bool false)) (x : Ext w w') : SmallR w m e w' := ⟨false, h, fun e => (by cases e), x⟩
def GreatR (w : World) (xs : List ActP) (e : Ending) (w' : World) : Prop := ∃ r, e = .returned (.bool r) ∧ (r = false → xs.length ≤ 40 ∧ ∀ a ∈ xs, ActZ a) ∧ Ext w w'
theorem GreatR.yes {w w' : World} {xs : List ActP} {e : Ending} (h : e = .returned (.bool true)) (x : Ext w w') : GreatR w xs e w' := ⟨true, h, fun e => (by cases e), x⟩
set_option maxRecDepth 100000 in
set_option maxHeartbeats 2000000 in
theorem small_any (w : World) (m : MetaP) (kv : Value) (hk : TextsAt w kv m.keys) : Calls Try.prog 34 #[.agg (metaC m kv).toArray] w (SmallR w m) := by
 have HK := Lh hk
 obtain ⟨KA, KC, rfl, _, _, _⟩ := hk
 obtain ⟨tt, tw, mod, len, hav, fr, wh, er, keys, ten, keep⟩ := m
 obtain ⟨n, hn⟩ : ∃ n, n = keys.length := ⟨_, rfl⟩
 have HN := Lh hn
 unfold metaC
 simp only at HK ⊢
 rw [← hn] at HK ⊢
 clear hn
 go_enter Try.func34, Try.ntmps34
 go_wp2_with (refine wpList_boxA 38 rfl _ rfl #[.string ⟨tt.toArray⟩, .bool tw, .int .i64 mod, .int .i64 len, .int .i64 hav, .int .i64 fr, .int .i64 wh, .int .i64 er, .slice KA n KC, .string ⟨ten.toArray⟩, .bool keep] rfl ?_; intro W0 x0 n0 s0; refine stop_of ?_)
 unfold Stop
 have X0 := Lh x0
 have k0 := blk_cell n0 0; have k8 := blk_cell n0 8; have k9 := blk_cell n0 9
 simp at k0 k8 k9
 have HK0 := Lh (HK.out.ext x0)
 clear x0 n0 s0 HK
 by_cases h1 : (200 : Int) < tt.length
 ·go_wp2
  go_ret
  exact SmallR.no rfl X0.out
 ·by_cases h2 : (40 : Int) < n
  ·go_wp2
   go_ret
   exact SmallR.no rfl X0.out
  ·by_cases h3 : (100 : Int) < ten.length
   ·go_wp2
    go_ret
    exact SmallR.no rfl X0.out
   ·go_wp2_with fail
    go_loop [3] (fun i => ∃ j : Nat, j ≤ n ∧ i = .int .i64 j ∧ Hid (∀ k ∈ keys.take j, k.length ≤ 300)) (fun i => n - (intOf i).toNat)
    case atStart => exact ⟨0, by omega, rfl, Lh (by simp)⟩
    case round =>
     obtain ⟨j, hj, rfl, R⟩ := hrel
     by_cases hlt : j < n
     ·have hjs : j < keys.length := by rw [← HN.out]; exact hlt
      obtain ⟨KA', KC', e0, _, _, hc⟩ := HK0.out
      obtain ⟨kb, ko, e1, kc⟩ := hc j hjs
      have hA : KA = some ⟨kb, ko, none⟩ := by injection e0 with e0; rw [e0, e1]
      subst hA
      have htk : keys.take (j + 1) = keys.take j ++ [keys[j]] := List.take_succ_eq_append_getElem hjs
      obtain ⟨t, ht⟩ : ∃ t, t = keys[j] := ⟨_, rfl⟩
      rw [← ht] at kc htk
      have HTK := Lh htk
      clear hc e0 e1 ht htk hjs
      by_cases h4 : (300 : Int) < t.length
      ·go_wp2
       go_ret
       exact SmallR.no rfl X0.out
      ·go_wp2
       go_round
       case rel => exact ⟨j + 1, by omega, by go_num, Lh (by
        rw [HTK.out]
        intro k hk
        rcases List.mem_append.1 hk with h | h
        ·exact R.out k h
        ·rw [List.mem_singleton.1 h]; omega)⟩
       case measure => first | (simp [intOf]; done) | (simp [intOf]; omega)
     ·go_wp2
      go_ret
      refine ⟨_, rfl, fun _ => ⟨by simp only; omega, by simp only; have := HN.out; omega, ?_, by simp only; omega⟩, X0.out⟩
      have hjn : keys.take j = keys := List.take_of_length_le (by have := HN.out; omega)
      have h := R.out
      rw [hjn] at h
      exact fun k hk => by have := h k hk; omega
set_option maxRecDepth 100000 in
set_option maxHeartbeats 4000000 in
theorem great_any (w : World) (A : Option Addr) (xs : List ActP) (c : Nat) (h : RowsG w 23 (RAct w) (.slice A xs.length c) xs) : Calls Try.prog 12 #[.slice A xs.length c] w (GreatR w xs) := by
 have HR := Lh h
 obtain ⟨n, hn⟩ : ∃ n, n = xs.length := ⟨_, rfl⟩
 rw [← hn] at HR ⊢
 have HN := Lh hn
 clear h hn
 go_enter Try.func12, Try.ntmps12
 by_cases h1 : (40 : Int) < n
 ·go_wp2
  go_ret
  exact GreatR.yes rfl (Ext.refl _)
 ·go_wp2_with fail
  go_loopw [10, 4] (fun i _ wr => ∃ j : Nat, j ≤ n ∧ i = .int .i64 j ∧ Hid ((∀ a ∈ xs.take j, ActZ a) ∧ Ext w wr)) (fun i _ _ => n - (intOf i).toNat)
  case atStart => exact ⟨0, by omega, rfl, Lh ⟨by simp, Ext.refl _⟩⟩
  case round =>
   obtain ⟨j, hj, rfl, R⟩ := hrel
   by_cases hlt : j < n
   ·have hjs : j < xs.length := by rw [← HN.out]; exact hlt
    obtain ⟨eb, eo, cs, hA, ⟨hcs, hk, d1, hb, d2, d3⟩, d4, hcell⟩ := RowsG.at HR.out hjs
    have htk : xs.take (j + 1) = xs.take j ++ [xs[j]] := List.take_succ_eq_append_getElem hjs
    obtain ⟨p, hp⟩ : ∃ p, p = xs[j] := ⟨_, rfl⟩
    rw [← hp] at hcs hk hb htk
    obtain ⟨kind, obj, ⟨tt, tw, mod, len, hav, fr, wh, er, keys, ten, keep⟩, kv, bytes, bv, ⟨fo, ff, fto, mt, mw, nt, nw⟩, st, nn⟩ := p
    dsimp only at hk hb
    have HK := Lh (hk.ext R.out.2)
    obtain ⟨KA, KC, hkv⟩ : ∃ KA KC, kv = .slice KA keys.length KC := by obtain ⟨KA, KC, e, _⟩ := hk; exact ⟨KA, KC, e⟩
    obtain ⟨BA, BC, hbv⟩ : ∃ BA BC, bv = .slice BA bytes.length BC := by obtain ⟨KA, KC, e, _⟩ := hb; exact ⟨KA, KC, by rw [e]; simp⟩
    subst hkv hbv
    subst hA
    have hcs2 : cs = [.int .i64 kind, .string ⟨obj.toArray⟩, .string ⟨tt.toArray⟩, .bool tw, .int .i64 mod, .int .i64 len, .int .i64 hav, .int .i64 fr, .int .i64 wh, .int .i64 er, .slice KA keys.length KC, .string ⟨ten.toArray⟩, .bool keep, .slice BA bytes.length BC, .string ⟨fo.toArray⟩, .int .i64 ff, .int .i64 fto, .string ⟨mt.toArray⟩, .bool mw, .string ⟨nt.toArray⟩, .bool nw, .int .u8 st, .int .i64 nn] := hcs
    have HRG := Lh (show wr.rangeAt eb (eo + j * 23) [.int .i64 kind, .string ⟨obj.toArray⟩, .string ⟨tt.toArray⟩, .bool tw, .int .i64 mod, .int .i64 len, .int .i64 hav, .int .i64 fr, .int .i64 wh, .int .i64 er, .slice KA keys.length KC, .string ⟨ten.toArray⟩, .bool keep, .slice BA bytes.length BC, .string ⟨fo.toArray⟩, .int .i64 ff, .int .i64 fto, .string ⟨mt.toArray⟩, .bool mw, .string ⟨nt.toArray⟩, .bool nw, .int .u8 st, .int .i64 nn] from fun q u hq => R.out.2.cell (hcell q u (by rw [hcs2]; exact hq)))
    have HTK := Lh htk
    clear d1 d2 d3 d4 hcs hcs2 hcell hk hb htk hp hjs
    go_wp2_with (first | (refine wpList_load_mid rfl 40 _ rfl eb (eo + j * 23) rfl [.int .i64 kind, .string ⟨obj.toArray⟩, .string ⟨tt.toArray⟩, .bool tw, .int .i64 mod, .int .i64 len, .int .i64 hav, .int .i64 fr, .int .i64 wh, .int .i64 er, .slice KA keys.length KC, .string ⟨ten.toArray⟩, .bool keep, .slice BA bytes.length BC, .string ⟨fo.toArray⟩, .int .i64 ff, .int .i64 fto, .string ⟨mt.toArray⟩, .bool mw, .string ⟨nt.toArray⟩, .bool nw, .int .u8 st, .int .i64 nn] _ HRG.out Try.underlying40 rfl size40 ?_) | (refine wpList_new 40 _ zero40 rfl rfl ?_; intro W1 x1 n1 s1; refine stop_of ?_))
    unfold Stop
    have X1 := Lh (R.out.2.trans x1); have N1 := Lh n1; have HK1 := Lh (HK.out.ext x1)
    obtain ⟨pb, hpb⟩ : ∃ pb, pb = wr.heap.size := ⟨_, rfl⟩
    have hwp : w.heap.size ≤ pb := by rw [hpb]; exact R.out.2.size
    have hwlt : ∀ y n c, Value.slice KA keys.length KC = .slice (some y) n c → 0 < n → y.block ≠ pb := fun y n c e hn hh => by
     obtain ⟨_, _, e2, _, _, hc⟩ := HK.out
     rw [e2] at e
     injection e with e3 e4
     obtain ⟨b, off, e5, hcc⟩ := hc 0 (by omega)
     have e6 : y = ⟨b, off, none⟩ := by rw [e5] at e3; exact (Option.some.inj e3).symm
     have := World.block_lt_of_cell? _ _ hcc
     rw [e6] at hh
     simp only at hh this
     omega
    have HWL := Lh hwlt; have HWP := Lh hwp
    rw [← hpb] at N1 ⊢
    clear x1 n1 s1 HRG hwlt hwp hpb
    go_wp2_with (refine wpList_put 40 rfl _ _ rfl pb 0 40 _ #[.int .i64 kind, .string ⟨obj.toArray⟩, .string ⟨tt.toArray⟩, .bool tw, .int .i64 mod, .int .i64 len, .int .i64 hav, .int .i64 fr, .int .i64 wh, .int .i64 er, .slice KA keys.length KC, .string ⟨ten.toArray⟩, .bool keep, .slice BA bytes.length BC, .string ⟨fo.toArray⟩, .int .i64 ff, .int .i64 fto, .string ⟨mt.toArray⟩, .bool mw, .string ⟨nt.toArray⟩, .bool nw, .int .u8 st, .int .i64 nn] [.int .i64 kind, .string ⟨obj.toArray⟩, .string ⟨tt.toArray⟩, .bool tw, .int .i64 mod, .int .i64 len, .int .i64 hav, .int .i64 fr, .int .i64 wh, .int .i64 er, .slice KA keys.length KC, .string ⟨ten.toArray⟩, .bool keep, .slice BA bytes.length BC, .string ⟨fo.toArray⟩, .int .i64 ff, .int .i64 fto, .string ⟨mt.toArray⟩, .bool mw, .string ⟨nt.toArray⟩, .bool nw, .int .u8 st, .int .i64 nn] _ N1.out rfl rfl rfl (by simp) rfl size40 (by kernel_rfl) ?_; intro W2 x2 n2 s2; refine stop_of ?_)
    unfold Stop
    have N2 := Lh n2
    have X2 := Lh (show Ext w W2 from X1.out.thenB x2 (by simpa using HWP.out))
    have HK2 : Hid (TextsAt W2 (.slice KA keys.length KC) keys) := Lh ((TextsAt.row HK1.out).far (own := fun i => i = pb) (.ofB x2 (fun k hk => .inl (by simpa using hk))) (fun y n c e hn => HWL.out y n c e hn)).texts
    have k1 := blk_cell n2 1; have k13 := blk_cell n2 13; have k14 := blk_cell n2 14; have k17 := blk_cell n2 17; have k19 := blk_cell n2 19
    simp at k1 k13 k14 k17 k19
    clear x2 n2 s2 X1 N1 HK1 HK HWL HWP
    by_cases c1 : (60 : Int) < bytes.length
    ·go_wp2
     go_ret
     exact GreatR.yes rfl X2.out
    ·by_cases c2 : (300 : Int) < obj.length
     ·go_wp2
      go_ret
      exact GreatR.yes rfl X2.out
     ·go_wp2_with (first | (refine wpList_getW 38 _ rfl _ rfl pb 2 40 _ [.string ⟨tt.toArray⟩, .bool tw, .int .i64 mod, .int .i64 len, .int .i64 hav, .int .i64 fr, .int .i64 wh, .int .i64 er, .slice KA keys.length KC, .string ⟨ten.toArray⟩, .bool keep] N2.out rfl (by kernel_rfl) Try.underlying38 rfl size38 ?_) | (go_at_call 34; refine (small_any W2 ⟨tt, tw, mod, len, hav, fr, wh, er, keys, ten, keep⟩ _ HK2.out).mono ?_; rintro e w3 ⟨r, rfl, hr, x3⟩; refine stop_of ?_))
      unfold Stop
      have X3 := Lh (X2.out.trans x3)
      have k14 := blk_cell (x3.heap N2.out) 14; have k17 := blk_cell (x3.heap N2.out) 17; have k19 := blk_cell (x3.heap N2.out) 19
      simp at k14 k17 k19
      have HRR := Lh hr
      clear x3 X2 N2 HK2 k1 k13 hr
      cases r with
      | false =>
       go_wp2
       go_ret
       exact GreatR.yes rfl X3.out
      | true =>
       by_cases c3 : (300 : Int) < fo.length
       ·go_wp2
        go_ret
        exact GreatR.yes rfl X3.out
       ·by_cases c4 : (300 : Int) < mt.length
        ·go_wp2
         go_ret
         exact GreatR.yes rfl X3.out
        ·by_cases c5 : (300 : Int) < nt.length
         ·go_wp2
          go_ret
          exact GreatR.yes rfl X3.out
         ·go_wp2
          go_roundw
          case rel =>
           refine ⟨j + 1, by omega, by go_num, Lh ⟨?_, X3.out⟩⟩
           rw [HTK.out]
           intro a ha
           rcases List.mem_append.1 ha with h | h
           ·exact R.out.1 a h
           ·rw [List.mem_singleton.1 h]
            exact ⟨by simp only; omega, by simp only; omega, HRR.out rfl, ⟨by simp only; omega, by simp only; omega, by simp only; omega⟩, by simp only; omega⟩
          case measure => first | (simp [intOf]; done) | (simp [intOf]; omega)
   ·go_wp2
    go_ret
    have hjn : xs.take j = xs := List.take_of_length_le (by have := HN.out; omega)
    refine ⟨_, rfl, fun _ => ⟨by have := HN.out; omega, ?_⟩, R.out.2⟩
    have h := R.out.1
    rw [hjn] at h
    exact h
end Go.Proofs.Ytpangoddbfiagaa
namespace Go.Proofs.Ytpangoddbfiagaa
open Go.ChangeShapes Go.WideShapes Go.ChangeAt Go.RowKit Go.Deep Go.Joins
open Go.Maps Go.ChangeMaps
set_option linter.unusedVariables false
set_option linter.unusedSimpArgs false
section
variable {H : Type} {enc : TypeId × Value → H} {w : World} {base : Nat} {spare : Nat → Bool} {held : Bool}
set_option maxRecDepth 100000 in
theorem meta_cells {fuel : Nat} {cs : List Value} {x : DataW H × List MemPlace} (h : DataW.trod enc Try.prog w base (fun _ => true) held fuel 38 cs = some x) : ∃ (m : MetaP) (kv : Value), cs = metaC m kv ∧ TextsA w kv m.keys := by
 obtain ⟨ys, m, _, _, hlen, _, _⟩ := DataW.trod_struct Try.underlying38 h
 have c38 : Try.prog.cellsOf 38 = 11 := by kernel_rfl
 rw [c38] at hlen
 obtain ⟨m0, y0, h0⟩ := fld Try.underlying38 h 0 _ rfl
 obtain ⟨m1, y1, h1⟩ := fld Try.underlying38 h 1 _ rfl
 obtain ⟨m2, y2, h2⟩ := fld Try.underlying38 h 2 _ rfl
 obtain ⟨m3, y3, h3⟩ := fld Try.underlying38 h 3 _ rfl
 obtain ⟨m4, y4, h4⟩ := fld Try.underlying38 h 4 _ rfl
 obtain ⟨m5, y5, h5⟩ := fld Try.underlying38 h 5 _ rfl
 obtain ⟨m6, y6, h6⟩ := fld Try.underlying38 h 6 _ rfl
 obtain ⟨m7, y7, h7⟩ := fld Try.underlying38 h 7 _ rfl
 obtain ⟨m8, y8, h8⟩ := fld Try.underlying38 h 8 _ rfl
 obtain ⟨m9, y9, h9⟩ := fld Try.underlying38 h 9 _ rfl
 match cs, hlen with
 | [c0, c1, c2, c3, c4, c5, c6, c7, c8, c9, c10], _ =>
  have h0' : DataW.trod enc Try.prog w base (fun _ => true) held m0 27 [c0, c1] = some y0 := h0
  have h1' : DataW.trod enc Try.prog w base (fun _ => true) held m1 2 [c2] = some y1 := h1
  have h2' : DataW.trod enc Try.prog w base (fun _ => true) held m2 2 [c3] = some y2 := h2
  have h3' : DataW.trod enc Try.prog w base (fun _ => true) held m3 2 [c4] = some y3 := h3
  have h4' : DataW.trod enc Try.prog w base (fun _ => true) held m4 2 [c5] = some y4 := h4
  have h5' : DataW.trod enc Try.prog w base (fun _ => true) held m5 2 [c6] = some y5 := h5
  have h6' : DataW.trod enc Try.prog w base (fun _ => true) held m6 2 [c7] = some y6 := h6
  have h7' : DataW.trod enc Try.prog w base (fun _ => true) held m7 36 [c8] = some y7 := h7
  have h8' : DataW.trod enc Try.prog w base (fun _ => true) held m8 9 [c9] = some y8 := h8
  have h9' : DataW.trod enc Try.prog w base (fun _ => true) held m9 4 [c10] = some y9 := h9
  obtain ⟨tt, tw, e0⟩ := tag_cells h0'
  obtain ⟨n1, e1, _⟩ := DataW.trod_int Try.underlying2 h1'
  obtain ⟨n2, e2, _⟩ := DataW.trod_int Try.underlying2 h2'
  obtain ⟨n3, e3, _⟩ := DataW.trod_int Try.underlying2 h3'
  obtain ⟨n4, e4, _⟩ := DataW.trod_int Try.underlying2 h4'
  obtain ⟨n5, e5, _⟩ := DataW.trod_int Try.underlying2 h5'
  obtain ⟨n6, e6, _⟩ := DataW.trod_int Try.underlying2 h6'
  obtain ⟨kv, ks, e7, hK, _⟩ := texts_cells h7'
  obtain ⟨ten, e8, _⟩ := text_cells h8'
  obtain ⟨kp, e9, _⟩ := DataW.trod_bool Try.underlying4 h9'
  refine ⟨⟨tt, tw, n1, n2, n3, n4, n5, n6, ks, ten, kp⟩, kv, ?_, hK⟩
  unfold RText at e8
  simp at e0 e1 e2 e3 e4 e5 e6 e7 e8 e9
  simp [metaC, e0, e1, e2, e3, e4, e5, e6, e7, e8, e9]
set_option maxRecDepth 100000 in
theorem act_cells {fuel : Nat} {cs : List Value} {x : DataW H × List MemPlace} (h : DataW.trod enc Try.prog w base (fun _ => true) held fuel 40 cs = some x) : ∃ a : ActP, RAct w a cs := by
 obtain ⟨ys, m, _, _, hlen, _, _⟩ := DataW.trod_struct Try.underlying40 h
 have c40 : Try.prog.cellsOf 40 = 23 := by kernel_rfl
 rw [c40] at hlen
 obtain ⟨m0, y0, h0⟩ := fld Try.underlying40 h 0 _ rfl
 obtain ⟨m1, y1, h1⟩ := fld Try.underlying40 h 1 _ rfl
 obtain ⟨m2, y2, h2⟩ := fld Try.underlying40 h 2 _ rfl
 obtain ⟨m3, y3, h3⟩ := fld Try.underlying40 h 3 _ rfl
 obtain ⟨m4, y4, h4⟩ := fld Try.underlying40 h 4 _ rfl
 obtain ⟨m5, y5, h5⟩ := fld Try.underlying40 h 5 _ rfl
 obtain ⟨m6, y6, h6⟩ := fld Try.underlying40 h 6 _ rfl
 match cs, hlen with
 | [c0, c1, c2, c3, c4, c5, c6, c7, c8, c9, c10, c11, c12, c13, c14, c15, c16, c17, c18, c19, c20, c21, c22], _ =>
  have h0' : DataW.trod enc Try.prog w base (fun _ => true) held m0 3 [c0] = some y0 := h0
  have h1' : DataW.trod enc Try.prog w base (fun _ => true) held m1 9 [c1] = some y1 := h1
  have h2' : DataW.trod enc Try.prog w base (fun _ => true) held m2 38 [c2, c3, c4, c5, c6, c7, c8, c9, c10, c11, c12] = some y2 := h2
  have h3' : DataW.trod enc Try.prog w base (fun _ => true) held m3 22 [c13] = some y3 := h3
  have h4' : DataW.trod enc Try.prog w base (fun _ => true) held m4 29 [c14, c15, c16, c17, c18, c19, c20] = some y4 := h4
  have h5' : DataW.trod enc Try.prog w base (fun _ => true) held m5 5 [c21] = some y5 := h5
  have h6' : DataW.trod enc Try.prog w base (fun _ => true) held m6 2 [c22] = some y6 := h6
  obtain ⟨kd, e0, _⟩ := DataW.trod_int Try.underlying3 h0'
  obtain ⟨ob, e1, _⟩ := text_cells h1'
  obtain ⟨mt, kv, e2, hK⟩ := meta_cells h2'
  obtain ⟨bv, bs, e3, hB, _⟩ := bytes_cells h3'
  obtain ⟨f, e4⟩ := fetch_cells h4'
  obtain ⟨st, e5⟩ := byte_cells h5'
  obtain ⟨n, e6, _⟩ := DataW.trod_int Try.underlying2 h6'
  refine ⟨⟨kd, ob, mt, kv, bs, bv, f, st.toNat, n⟩, ?_, hK.at_, hK.low, hB.at_, hB.low, by have := st.toNat_lt; simp only; omega⟩
  unfold RText at e1
  unfold RByte byteV at e5
  simp [metaC] at e0 e1 e2 e3 e5 e6
  simp [ftC] at e4
  simp [actC, e0, e1, e2, e3, e4, e5, e6]
theorem cellsT40 : Try.prog.cellsOf 40 = 23 := by kernel_rfl
set_option maxRecDepth 100000 in
theorem acts_cells {fuel : Nat} {cs : List Value} {x : DataW H × List MemPlace} (h : DataW.trod enc Try.prog w base (fun _ => true) held fuel 41 cs = some x) : ∃ (v : Value) (xs : List ActP), cs = [v] ∧ RowsG w 23 (RAct w) v xs ∧ xs.length ≤ maxLen :=
 rows_of Try.underlying41 cellsT40 (by omega) (RAct w) act_cells h
set_option maxRecDepth 100000 in
theorem acts_open {v : Value} {d : DataW H} {p : List MemPlace} {r : Reach} {b0 : Nat} (hv : Value.okWide Try.prog w r b0 41 v) (h : DataW.Trod enc Try.prog w base (fun _ => true) held 41 v d p) : ∃ (xs : List ActP), RowsG w 23 (RAct w) v xs ∧ xs.length ≤ maxLen := by
 obtain ⟨a0, len, cap, rfl⟩ := okWide_slice Try.underlying41 hv
 obtain ⟨fuel, hf⟩ := h
 obtain ⟨v, ss, e, hT⟩ := acts_cells hf
 simp [Value.cells] at e
 subst e
 exact ⟨ss, hT⟩
set_option maxRecDepth 100000 in
theorem act_open {v : Value} {d : DataW H} {p : List MemPlace} {r : Reach} {b0 : Nat} (hv : Value.okWide Try.prog w r b0 40 v) (h : DataW.Trod enc Try.prog w base (fun _ => true) held 40 v d p) : ∃ a : ActP, v = .agg (actC a).toArray ∧ RAct w a (actC a) := by
 simp only [Value.okWide, Try.underlying40] at hv
 obtain ⟨cs, rfl, hsz, _⟩ := hv
 obtain ⟨fuel, hf⟩ := h
 obtain ⟨a, ha⟩ := act_cells hf
 have h3 : cs.toList = actC a := ha.1
 have h4 : cs = (actC a).toArray := by rw [← h3]
 exact ⟨a, by rw [h4], rfl, ha.2⟩
end
end Go.Proofs.Ytpangoddbfiagaa
