import Derived.Test.YtpangoddbfiagaaRG22
import Derived.Test.YtpangoddbfiagaaRG16
namespace Go.Proofs.Ytpangoddbfiagaa
open Go.RowKit Go.Maps Go.ChangeMaps
set_option linter.unusedVariables false
set_option linter.unusedSimpArgs false
section
variable {w w' : World} {x B : Nat} {own own' : Nat → Prop} {vs : List Vn} {ss : List Sn} {sa va : List Nat} {gs : List Rg} {A : Option Addr} {c : Nat} {X : List Nat}
theorem info75 : (Try.prog.info? 75).map (fun i => (i.zero, i.size, i.bytes)) = some (some (.pointer none), 1, 8) := by kernel_rfl
theorem size100 : (Try.prog.info? 100).map (·.size) = some 1 := by kernel_rfl
theorem rset_same (h : RIx w x B own vs ss sa gs A c) {k : Int} (hx : Ext w w') {r : Int × List Vn} (hr : r = (k, vs)) : RSetR w x B own ss sa r (.returned (.int .i64 k)) w' := by
 subst hr
 refine ⟨rfl, ⟨gs, A, c, h.keep (fun i hi => hx.block i (h.lt i hi)) hx.size (fun i hi => .inl hi) (fun i hi => ?_) (fun i hi => ?_)⟩, .of hx⟩
 ·rcases hi with hi | hi
  ·exact Nat.lt_of_lt_of_le (h.lt i hi) hx.size
  ·exact hi.2
 ·rcases hi with hi | hi
  ·exact h.low i hi
  ·exact Nat.le_trans h.lowB hi.1
set_option maxRecDepth 100000 in
set_option maxHeartbeats 8000000 in
theorem rset_o1 (h : RIx w x B own vs ss sa gs A c) {o bs tt ten : Bs} {tw keep : Bool} {mod hav fr wh er : Int} {keys : List Bs} {kv u : Value} (ho : o.length ≤ 1000) (hz : MetaZ (⟨tt, tw, mod, (-1), hav, fr, wh, er, keys, ten, keep⟩)) (hk : TextsAt w kv keys) (hu : BytesAt w u bs) (hbs : bs.length ≤ 1000) (hvl : vs.length ≤ 900000) (hfk : FarV own kv) (hfu : FarV own u) (hb : setOk o (⟨tt, tw, mod, (-1), hav, fr, wh, er, keys, ten, keep⟩) bs = true) :
  Calls Try.prog 46 #[.pointer (some ⟨x, 0, none⟩), .string ⟨o.toArray⟩, metaV (⟨tt, tw, mod, (-1), hav, fr, wh, er, keys, ten, keep⟩) kv, u] w (RSetR w x B own ss sa (setA vs o (⟨tt, tw, mod, (-1), hav, fr, wh, er, keys, ten, keep⟩) bs)) := by
 have HO := Lh fun W => robj_any o W (by omega)
 obtain ⟨n, hn⟩ : ∃ n, n = bs.length := ⟨_, rfl⟩
 obtain ⟨UA, uc, rfl⟩ : ∃ UA uc, u = .slice UA n uc := by obtain ⟨A, c, e, _⟩ := hu; exact ⟨A, c, by rw [e, hn]; simp⟩
 have HR := Lh fun W (y : Ext w W) => rmright_any ⟨tt, tw, mod, -1, (n : Int), fr, wh, er, keys, ten, keep⟩ kv W ⟨hz.tt, hz.keys, hz.key, hz.ten⟩ (hk.ext y)
 obtain ⟨nk, hnk⟩ : ∃ nk, nk = keys.length := ⟨_, rfl⟩
 obtain ⟨KA, KC, rfl⟩ : ∃ KA KC, kv = .slice KA nk KC := by obtain ⟨A, c, e, _⟩ := hk; exact ⟨A, c, by rw [e, hnk]⟩
 have HSET := Lh hb
 obtain ⟨⟨b1, b2⟩, b3⟩ : (objB o = true ∧ (-1 == -1 || -1 == (bs.length : Int)) = true) ∧ metaB ⟨tt, tw, mod, -1, (bs.length : Int), fr, wh, er, keys, ten, keep⟩ = true := by
  simpa only [setOk, Bool.and_eq_true] using hb
 rw [b1] at HO
 rw [← hn] at b3
 rw [b3] at HR
 obtain ⟨nv, hnv⟩ : ∃ n, n = vs.length := ⟨_, rfl⟩
 have HI := Lh h; have HZ := Lh hz; have HKT := Lh hk; have HU := Lh hu; have HN := Lh hn; have HNK := Lh hnk; have HNV := Lh hnv; have HOL := Lh ho; have HBS := Lh hbs
 have hnl := h.many
 have HVL := Lh hvl; have HFK := Lh hfk; have HFU := Lh hfu
 have HNOW := Lh fun W (y : Ext w W) => rnow_any (h.ext y) (o := o) (by omega)
 rw [← hnv] at hnl
 have hnx := Lh (blk_lt h.blk)
 have hq := fun W => q27 W tt tw
 obtain ⟨y, hy⟩ : ∃ y, y = !(tt == [] && !tw) := ⟨_, rfl⟩
 rw [← hy] at hq
 have HY := Lh hy
 unfold metaV at HR ⊢
 clear h ho hz hk hu hbs hvl hfk hfu hb b1 b2 b3 hn hnk hnv hy
 go_enter Try.func46, Try.ntmps46
 go_wp2_with (refine wpList_boxA 38 rfl _ rfl #[.string ⟨tt.toArray⟩, .bool tw, .int .i64 mod, .int .i64 (-1), .int .i64 hav, .int .i64 fr, .int .i64 wh, .int .i64 er, .slice KA nk KC, .string ⟨ten.toArray⟩, .bool keep] rfl ?_; intro W0 x0 n0 s0; refine stop_of ?_)
 unfold Stop
 obtain ⟨mb, hmb⟩ : ∃ p, p = w.heap.size := ⟨_, rfl⟩
 have hle : w.heap.size ≤ mb := by omega
 rw [← hmb] at n0 ⊢
 have X0 := Lh x0; have N0 := Lh n0
 clear x0 n0 s0 hmb
 go_wp2_with (refine wpList_put 2 rfl _ _ rfl mb 4 38 _ #[.string ⟨tt.toArray⟩, .bool tw, .int .i64 mod, .int .i64 (-1), .int .i64 n, .int .i64 fr, .int .i64 wh, .int .i64 er, .slice KA nk KC, .string ⟨ten.toArray⟩, .bool keep] [.int .i64 n] _ N0.out rfl rfl rfl (by simp) rfl size2 (by simp [putA]) ?_; intro W1 x1 n1 s1; refine stop_of ?_)
 unfold Stop
 have X1 := Lh (X0.out.thenB x1 (by simp; omega)); have N1 := Lh n1
 clear x1 n1 s1 X0 N0
 go_wp2_with (go_at_call 61; refine (HO.out _).mono ?_; rintro e w1 ⟨rfl, rfl⟩; refine stop_of ?_)
 unfold Stop
 have k3 := blk_cell N1.out 3; have k4 := blk_cell N1.out 4
 simp at k3 k4
 go_wp2_with (first | (refine wpList_getW 38 _ rfl _ rfl mb 0 38 _ [.string ⟨tt.toArray⟩, .bool tw, .int .i64 mod, .int .i64 (-1), .int .i64 n, .int .i64 fr, .int .i64 wh, .int .i64 er, .slice KA nk KC, .string ⟨ten.toArray⟩, .bool keep] N1.out rfl (by kernel_rfl) Try.underlying38 rfl size38 ?_) | (go_at_call 62; refine (HR.out _ X1.out).mono ?_; rintro e w2 ⟨rfl, x2⟩; refine stop_of ?_))
 unfold Stop
 have X2 := Lh (X1.out.trans x2); have N2 := Lh (x2.heap N1.out)
 clear x2 k3 k4 X1 N1
 go_wp2_with (refine wpList_new 27 _ zero27 rfl rfl ?_; intro W3 x3 n3 s3; refine stop_of ?_)
 unfold Stop
 obtain ⟨zb, hzb⟩ : ∃ p, p = w2.heap.size := ⟨_, rfl⟩
 rw [← hzb] at n3 ⊢
 have hmz : mb < zb := by rw [hzb]; exact blk_lt N2.out
 have X3 := Lh (X2.out.trans x3); have N3 := Lh (x3.heap N2.out); have Z3 := Lh n3
 clear x3 n3 s3 hzb X2 N2
 go_wp2_with (refine wpList_put 27 rfl _ _ rfl zb 0 27 _ #[.string ⟨#[]⟩, .bool false] [.string ⟨#[]⟩, .bool false] _ Z3.out rfl rfl rfl (by simp) rfl size27 (by kernel_rfl) ?_; intro W4 x4 n4 s4; refine stop_of ?_)
 unfold Stop
 have X4 := Lh (X3.out.thenB x4 (by simp; omega)); have N4 := Lh (x4.heap N3.out (by simp; omega)); have Z4 := Lh n4
 clear x4 n4 s4 X3 N3 Z3
 have XR := Lh (Ext.refl W4)
 go_wp2
 go_loopw [10, 11] (fun i _ wr => ∃ j : Nat, j ≤ nv ∧ i = .int .i64 j ∧ Hid (∀ u ∈ vs.take j, hitB o (⟨tt, tw, mod, (-1), hav, fr, wh, er, keys, ten, keep⟩) u = false) ∧ Hid (Ext W4 wr)) (fun i _ _ => nv - (RowKit.intOf i).toNat)
 case atStart => exact ⟨0, by omega, rfl, Lh (by simp), XR⟩
 case round =>
  clear XR
  obtain ⟨j, hj, rfl, R, XW⟩ := hrel
  have k0 := blk_cell ((X4.out.trans XW.out).heap HI.out.blk) 0
  simp at k0
  rw [← HNV.out] at k0
  by_cases hlt : j < nv
  ·have hjs : j < vs.length := by rw [← HNV.out]; exact hlt
   obtain ⟨ab, g, hA, hg, k1, hok⟩ := (HI.out.ext (X4.out.trans XW.out)).at_ hjs
   have htk : vs.take (j + 1) = vs.take j ++ [vs[j]] := List.take_succ_eq_append_getElem hjs
   have hvj : vs[j]? = some vs[j] := by simp [hjs]
   obtain ⟨v, hv⟩ : ∃ v, v = vs[j] := ⟨_, rfl⟩
   rw [← hv] at hok htk hvj
   have HVJ := Lh hvj; have HTK := Lh htk
   have k2 := blk_cell hok.blk 0; have k3 := blk_cell hok.blk 1; have k4 := blk_cell hok.blk 2
   simp [rverC, nowM] at k2 k3 k4
   obtain ⟨vo, hvo⟩ : ∃ vo, vo = v.obj := ⟨_, rfl⟩
   obtain ⟨vt, hvt⟩ : ∃ vt, vt = v.m.tt := ⟨_, rfl⟩
   obtain ⟨vw, hvw⟩ : ∃ vw, vw = v.m.tw := ⟨_, rfl⟩
   obtain ⟨q, hqq⟩ : ∃ q, q = g.b := ⟨_, rfl⟩
   rw [← hqq] at k1 k2 k3 k4
   rw [← hvo] at k2
   rw [← hvt] at k3
   rw [← hvw] at k4
   unfold ptrV at k1
   obtain ⟨e2, he2⟩ : ∃ e, e = (vo == o) := ⟨_, rfl⟩
   obtain ⟨e4, he4⟩ : ∃ e, e = (vt == tt) := ⟨_, rfl⟩
   obtain ⟨y3, hy3⟩ : ∃ e, e = !(vt == [] && !vw) := ⟨_, rfl⟩
   have HHIT := Lh (show hitB o (⟨tt, tw, mod, (-1), hav, fr, wh, er, keys, ten, keep⟩) v = (y && (e2 && (y3 && (e4 && !(vw && tw))))) by
    unfold hitB noTag
    rw [HY.out, he2, he4, hy3, hvo, hvt, hvw])
   have hq3 := fun W => q27 W vt vw
   rw [← hy3] at hq3
   have d2 : (vo == o) = e2 := he2.symm
   have d4 : (vt == tt) = e4 := he4.symm
   subst hA
   clear hok hvj htk hv hvo hvt hvw hqq he2 he4 hy3 hjs hg
   go_wp2_with (refine wpList_new 27 _ zero27 rfl rfl ?_; intro W5 x5 n5 s5; refine stop_of ?_)
   unfold Stop
   obtain ⟨tb, htb⟩ : ∃ p, p = wr.heap.size := ⟨_, rfl⟩
   rw [← htb] at n5 ⊢
   have hzt : zb < tb := by rw [htb]; exact blk_lt (XW.out.heap Z4.out)
   have hle4 : W4.heap.size ≤ tb := by rw [htb]; exact XW.out.size
   have hlew : w.heap.size ≤ W4.heap.size := X4.out.size
   have X5 := Lh (XW.out.trans x5); have T5 := Lh n5; have XS := Lh x5; have HTB := Lh htb
   clear x5 n5 s5 XW htb
   go_wp2_with (refine wpList_put 27 rfl _ _ rfl tb 0 27 _ #[.string ⟨vt.toArray⟩, .bool vw] [.string ⟨vt.toArray⟩, .bool vw] _ T5.out rfl rfl rfl (by simp) rfl size27 (by kernel_rfl) ?_; intro W6 x6 n6 s6; refine stop_of ?_)
   unfold Stop
   have XL := Lh (X5.out.thenB x6 (by simp; omega)); have XT := Lh (X4.out.trans (X5.out.thenB x6 (by simp; omega)))
   have T6 := Lh n6
   have XS6 := XS.out.thenB x6 (by have := HTB.out; simp; omega)
   have k1 := XS6.cell k1; have k2 := XS6.cell k2; have k3 := XS6.cell k3; have k4 := XS6.cell k4
   clear XS6 XS HTB
   have t0 := blk_cell T6.out 0; have t1 := blk_cell T6.out 1
   have m0 := blk_cell (XL.out.heap N4.out) 0; have m1 := blk_cell (XL.out.heap N4.out) 1
   have z0 := blk_cell (XL.out.heap Z4.out) 0; have z1 := blk_cell (XL.out.heap Z4.out) 1
   have k0 := blk_cell (XT.out.heap HI.out.blk) 0
   simp at t0 t1 m0 m1 z0 z1 k0
   rw [← HNV.out] at k0
   clear x6 n6 s6 X5 T5
   cases y with
   | false =>
    have R3 := Lh (show ∀ u ∈ vs.take (j + 1), hitB o (⟨tt, tw, mod, (-1), hav, fr, wh, er, keys, ten, keep⟩) u = false from fun u hu => by
     rw [HTK.out, List.mem_append, List.mem_singleton] at hu
     rcases hu with hu | hu
     ·exact R.out u hu
     ·rw [hu, HHIT.out]; rfl)
    go_wp2
    go_roundw
    case rel => exact ⟨j + 1, by omega, by go_num, R3, XL⟩
    case measure => simp [RowKit.intOf]; omega
   | true =>
    cases e2 with
    | false =>
     have R3 := Lh (show ∀ u ∈ vs.take (j + 1), hitB o (⟨tt, tw, mod, (-1), hav, fr, wh, er, keys, ten, keep⟩) u = false from fun u hu => by
      rw [HTK.out, List.mem_append, List.mem_singleton] at hu
      rcases hu with hu | hu
      ·exact R.out u hu
      ·rw [hu, HHIT.out]; rfl)
     go_wp2
     go_roundw
     case rel => exact ⟨j + 1, by omega, by go_num, R3, XL⟩
     case measure => simp [RowKit.intOf]; omega
    | true =>
     cases y3 with
     | false =>
      have R3 := Lh (show ∀ u ∈ vs.take (j + 1), hitB o (⟨tt, tw, mod, (-1), hav, fr, wh, er, keys, ten, keep⟩) u = false from fun u hu => by
       rw [HTK.out, List.mem_append, List.mem_singleton] at hu
       rcases hu with hu | hu
       ·exact R.out u hu
       ·rw [hu, HHIT.out]; rfl)
      go_wp2
      go_roundw
      case rel => exact ⟨j + 1, by omega, by go_num, R3, XL⟩
      case measure => simp [RowKit.intOf]; omega
     | true =>
      cases e4 with
      | false =>
       have R3 := Lh (show ∀ u ∈ vs.take (j + 1), hitB o (⟨tt, tw, mod, (-1), hav, fr, wh, er, keys, ten, keep⟩) u = false from fun u hu => by
        rw [HTK.out, List.mem_append, List.mem_singleton] at hu
        rcases hu with hu | hu
        ·exact R.out u hu
        ·rw [hu, HHIT.out]; rfl)
       go_wp2
       go_roundw
       case rel => exact ⟨j + 1, by omega, by go_num, R3, XL⟩
       case measure => simp [RowKit.intOf]; omega
      | true =>
       cases vw with
       | false =>
        have EH := Lh (show setA vs o (⟨tt, tw, mod, (-1), hav, fr, wh, er, keys, ten, keep⟩) bs = (12, vs) by
         unfold setA
         rw [HSET.out, if_neg (by decide), refused_hit, if_pos (List.any_eq_true.2 ⟨v, List.mem_of_getElem? HVJ.out, by rw [HHIT.out]; rfl⟩)])
        go_wp2
        go_ret
        exact rset_same HI.out XT.out EH.out
       | true =>
        cases tw with
        | false =>
         have EH := Lh (show setA vs o (⟨tt, false, mod, (-1), hav, fr, wh, er, keys, ten, keep⟩) bs = (12, vs) by
          unfold setA
          rw [HSET.out, if_neg (by decide), refused_hit, if_pos (List.any_eq_true.2 ⟨v, List.mem_of_getElem? HVJ.out, by rw [HHIT.out]; rfl⟩)])
         go_wp2
         go_ret
         exact rset_same HI.out XT.out EH.out
        | true =>
         have R3 := Lh (show ∀ u ∈ vs.take (j + 1), hitB o (⟨tt, true, mod, (-1), hav, fr, wh, er, keys, ten, keep⟩) u = false from fun u hu => by
          rw [HTK.out, List.mem_append, List.mem_singleton] at hu
          rcases hu with hu | hu
          ·exact R.out u hu
          ·rw [hu, HHIT.out]; rfl)
         go_wp2
         go_roundw
         case rel => exact ⟨j + 1, by omega, by go_num, R3, XL⟩
         case measure => simp [RowKit.intOf]; omega
  ·have hjn : vs.take j = vs := List.take_of_length_le (by rw [← HNV.out]; omega)
   have R2 := R.out
   rw [hjn] at R2
   have ES := Lh (show setA vs o (⟨tt, tw, mod, (-1), hav, fr, wh, er, keys, ten, keep⟩) bs = (0, offVs vs o ++ [newV o (⟨tt, tw, mod, (-1), hav, fr, wh, er, keys, ten, keep⟩) bs]) by
    unfold setA
    rw [HSET.out, if_neg (by decide), refused_hit, if_neg (by
     intro hh
     obtain ⟨u, hu, hh⟩ := List.any_eq_true.1 hh
     rw [R2 u hu] at hh; cases hh)])
   clear R R2 hjn k0
   cases hnw : nowI vs o with
   | none =>
    have HOFF := Lh (show offVs vs o = vs by unfold offVs; rw [hnw])
    have HN1 := HNOW.out _ (X4.out.trans XW.out)
    rw [hnw, rp_none] at HN1
    have HN1 := Lh HN1
    have XT := Lh (X4.out.trans XW.out); have N7 := Lh (XW.out.heap N4.out)
    have HJ7 := Lh (HI.out.ext XT.out)
    have XP7 := Lh (show ExtP own w wr from .of XT.out)
    have KT := Lh (show TextsAt wr (.slice KA nk KC) keys from HKT.out.ext XT.out)
    have UT := Lh (show BytesAt wr (.slice UA n uc) bs from HU.out.ext XT.out)
    have hsz7 := Lh (show w.heap.size ≤ wr.heap.size ∧ mb < wr.heap.size from ⟨XT.out.size, blk_lt N7.out⟩)
    have HNJ := HNV
    have k0 := blk_cell HJ7.out.blk 0
    simp at k0
    rw [← HNV.out] at k0
    clear hnw XW
    go_wp2_with (go_at_call 54; refine HN1.out.mono ?_; rintro e w7 ⟨rfl, rfl⟩; refine stop_of ?_)
    unfold Stop
    have k8 := blk_cell N7.out 8
    simp at k8
    have k8 := (ext_alloc1 wr (.cells #[] 9)).cell k8
    clear k0 hlt
    go_wp2_with (at_builtin; refine wpList_copyT rfl _ _ rfl _ keys KT.out rfl rfl (by have := HZ.out.keys; simp only at this; omega) ?_; intro v8 W8 r8 x8; refine stop_of ?_)
    unfold Stop
    obtain ⟨A8, c8, rfl⟩ := own_slice r8
    have R8 := Lh r8; have N8 := Lh (x8.heap N7.out); have X8 := Lh x8
    rw [← HNK.out]
    clear r8 x8 k8
    go_wp2_with (refine wpList_put 36 rfl _ _ rfl mb 8 38 _ #[.string ⟨tt.toArray⟩, .bool tw, .int .i64 mod, .int .i64 (-1), .int .i64 n, .int .i64 fr, .int .i64 wh, .int .i64 er, .slice A8 nk c8, .string ⟨ten.toArray⟩, .bool keep] [.slice A8 nk c8] _ N8.out rfl rfl rfl (by simp) rfl size36 (by simp [putA]) ?_; intro W9 x9 n9 s9; refine stop_of ?_)
    unfold Stop
    have X79 := Lh (show ExtB [mb] wr W9 from (ExtB.of X8.out [mb]).trans x9)
    have R9 := Lh (own_extB R8.out x9 (fun y hy e => by have h1 := (R8.out.lt y e).1; have h2 : y = mb := (by simpa using hy); have := hsz7.out.2; omega))
    have N9 := Lh n9
    have HJ9 := Lh (HJ7.out.keep (fun i hi => X79.out.block i (HJ7.out.lt i hi) (by have := HI.out.lt i hi; simp; omega)) X79.out.size (fun _ h => h) (fun i hi => Nat.lt_of_lt_of_le (HJ7.out.lt i hi) X79.out.size) HJ7.out.low)
    clear x9 n9 s9 N8 R8 X8
    have XP9 := Lh (XP7.out.step X79.out (fun y hy => by rw [show y = mb by simpa using hy]; exact .inr ⟨hle, hsz7.out.2⟩))
    have U9 := Lh (show BytesAt W9 (.slice UA n uc) bs from RowAt.far HU.out XP9.out HFU.out)
    obtain ⟨X5, hX5⟩ : ∃ X5, X5 = W9.heap.size :: (Value.slice A nv c).ownBlock.toList := ⟨_, rfl⟩
    have hxl : x < W9.heap.size := blk_lt HJ9.out.blk
    have hml : mb < W9.heap.size := blk_lt N9.out
    have hrw : W9.ownsRow B 75 1 (.slice A nv c) nv (gs.map fun g => ptrV g.b) := by have := HJ9.out.row; rw [← HNJ.out] at this; exact this
    have hX5k : ∀ y ∈ X5, y = W9.heap.size ∨ kindOf W9 y = 75 := fun y hy => by rw [hX5, List.mem_cons] at hy; exact hy.imp id fun hh => kind_row hrw (by simpa using hh)
    have nx : x ∉ X5 := fun hh => (hX5k x hh).elim (fun e => by omega) (fun e => by rw [kind_cells HJ9.out.blk] at e; cases e)
    have nm : mb ∉ X5 := fun hh => (hX5k mb hh).elim (fun e => by omega) (fun e => by rw [kind_cells N9.out] at e; cases e)
    have kx := blk_cell HJ9.out.blk 0
    simp at kx
    rw [← HNJ.out] at kx
    have G0 : ∀ y : Grow X5 W9.drew, y.v.cell? ⟨x, 0, none⟩ = some (.slice A nv c) := fun y => y.ext.cell (a := W9.drew) kx nx
    have HX := Lh (And.intro hX5 (And.intro hX5k (And.intro nx nm))); have HRW := Lh hrw
    clear hX5 hX5k nx nm hrw hxl hml kx
    go_wp2_with fail
    refine wp_region_segs X5 [.inl [0, 1, 2, 3, 4, 5, 6, 8], .inr (.inl 7), .inr (.inl 9), .inl [10], .inr (.inl 11), .inr (.inl 12), .inr (.inl 13), .inl [14, 15], .inr (.inr 16)] (by kernel_rfl) (by kernel_rfl) (fun c a d v w h => by cases d <;> exact h) ?_
    (rw [wpSegs_inl]; simp only [pickOps, mCc, mNn, gSs, gZz]; (repeat (go_big_quiet_step (fail))); (refine wpQuiet_get 38 _ rfl _ rfl mb 0 38 _ ([.string ⟨tt.toArray⟩, .bool tw, .int .i64 mod, .int .i64 (-1), .int .i64 n, .int .i64 fr, .int .i64 wh, .int .i64 er, .slice A8 nk c8, .string ⟨ten.toArray⟩, .bool keep]) rfl (fun W hW => by obtain ⟨y, rfl⟩ := hW; exact y.ext.heap (a := W9.drew) N9.out HX.out.2.2.2) (by kernel_rfl) Try.underlying38 rfl size38 ?_; simp only [Act.put, sAa, sSs, sZz]); (repeat (go_big_quiet_step (fail))); refine wpQuiet_nil ?_)
    clear G0
    have XD := Lh ((Ext.refl W9).drew)
    (rw [wpSegs_grow]; simp only [pickOps, mCc, mNn, gSs, gZz]; go_wp2_with (fail))
    refine ⟨.of (ext_alloc1 _ _) _, ?_⟩
    have MB := Lh (show BRow (W9.drew.alloc (.cells #[] 5)) W9.heap.size (.slice (some ⟨W9.heap.size, 0, none⟩) 0 0) [] from World.ownsRow_made W9.drew #[] 0 (Nat.le_refl _) (by unfold maxLen; omega) rfl)
    (rw [wpSegs_grow]; simp only [pickOps, mCc, mNn, gSs, gZz]; go_wp2_with ((at_builtin; refine wpList_appendB rfl _ _ rfl W9.heap.size (.slice (some ⟨W9.heap.size, 0, none⟩) 0 0) (.slice UA n uc) [] bs MB.out (U9.out.ext (XD.out.trans (ext_alloc1 _ _))) rfl rfl (by have := HBS.out; simp; omega) (by simp) ?_)))
    intro v10 W10 r10 g10
    obtain ⟨A10, c10, rfl⟩ := own_slice r10
    have XB10 : ExtB X5 (W9.drew.alloc (.cells #[] 5)) W10 := ⟨g10.os, g10.tape, g10.output, g10.size, fun k hk hn => g10.block k hk (fun e => hn (by rw [HX.out.1]; injection e with e; rw [e]; exact List.mem_cons_self))⟩
    have X10 := Lh (show Ext W9 W10 from XD.out.trans (Ext.trans' (ext_alloc1 W9.drew _) MB.out g10))
    have R10 := Lh r10
    rw [← HN.out]
    clear r10 g10 MB
    go_wp2_with fail
    refine ⟨XB10, ?_⟩
    clear XB10
    (rw [wpSegs_inl]; simp only [pickOps, mCc, mNn, gSs, gZz]; (repeat (go_big_quiet_step (fail))); refine wpQuiet_nil ?_)
    (rw [wpSegs_grow]; simp only [pickOps, mCc, mNn, gSs, gZz]; go_wp2_with ((refine wpList_boxA 110 rfl _ rfl (rverC o ⟨tt, tw, mod, -1, (n : Int), fr, wh, er, keys, ten, keep⟩ (.slice A8 nk c8) (.slice A10 n c10) false) rfl ?_; intro W11 x11 n11 s11; refine stop_of ?_)))
    unfold Stop
    go_wp2_with fail
    refine ⟨.of x11 _, ?_⟩
    have X11 := Lh (X10.out.trans x11); have XE11 := Lh x11; have N11 := Lh n11
    clear x11 n11 s11
    (rw [wpSegs_grow]; simp only [pickOps, mCc, mNn, gSs, gZz]; go_wp2_with (fail))
    refine ⟨.of (ext_alloc1 _ _) _, ?_⟩
    have RA := Lh (show RowAt (W11.alloc (.cells #[ptrV W10.heap.size] 75)) (.slice (some ⟨W11.heap.size, 0, none⟩) 1 1) [ptrV W10.heap.size] from ⟨_, _, rfl, Nat.le_refl _, fun e => (by cases e), fun j hj => ⟨W11.heap.size, 0, rfl, by have h0 : j = 0 := (by simpa using hj); subst h0; exact blk_cell (heap_alloc_new W11 (.cells #[ptrV W10.heap.size] 75)) 0⟩⟩)
    have RB := Lh (show (W11.alloc (.cells #[ptrV W10.heap.size] 75)).ownsRow B 75 1 (.slice A nv c) (gs.map fun g => ptrV g.b).length (gs.map fun g => ptrV g.b) from by have h1 := ownsRow_below HRW.out (X11.out.trans (ext_alloc1 W11 (.cells #[ptrV W10.heap.size] 75))); rw [List.length_map, HJ9.out.vers.len, ← HNJ.out]; exact h1)
    (rw [wpSegs_grow]; simp only [pickOps, mCc, mNn, gSs, gZz]; go_wp2_with ((at_builtin; refine wpList_push 100 75 (.pointer none) 8 Try.underlying100 info75 rfl (by decide) rfl _ _ rfl B (.slice A nv c) _ [ptrV W10.heap.size] ⟨W11.heap.size, 0, none⟩ 1 RB.out RA.out (by intro q hq; rw [show q = ptrV W10.heap.size by simpa using hq]; rfl) rfl rfl (by rw [List.length_map, HJ9.out.vers.len, ← HNJ.out]; have := HVL.out; have := HNV.out; simp; omega) (by have := HJ9.out.lowB; have := X11.out.size; simp; omega) ?_)))
    intro v12 W12 r12 g12 l12
    obtain ⟨A12, c12, hv12⟩ := own_slice r12
    have hgl : gs.length = nv := by rw [HJ9.out.vers.len, ← HNJ.out]
    simp only [List.length_append, List.length_map, List.length_cons, List.length_nil, Nat.zero_add, hgl] at hv12 r12
    clear hgl
    subst hv12
    have XB12 : ExtB X5 (W11.alloc (.cells #[ptrV W10.heap.size] 75)) W12 := ⟨g12.os, g12.tape, g12.output, g12.size, fun k hk hn => g12.block k hk (fun e => hn (by rw [HX.out.1, List.mem_cons]; right; rw [← e]; simp))⟩
    have R12 := Lh r12; have XX12 := Lh XB12; have G12 := Lh (grownBy_extB g12); have L12 := Lh l12
    clear r12 g12 l12 XB12
    go_wp2_with fail
    refine ⟨XX12.out, ?_⟩
    (rw [wpSegs_inl]; simp only [pickOps, mCc, mNn, gSs, gZz]; (repeat (go_big_quiet_step (fail))); refine wpQuiet_nil ?_)
    have B12 := Lh (show W12.heap[x]? = some (.cells #[.slice A nv c] 102 (0, 0)) from XX12.out.heap ((X11.out.trans (ext_alloc1 W11 _)).heap (by have := HJ9.out.blk; rw [← HNJ.out] at this; exact this)) HX.out.2.2.1)
    (rw [wpSegs_last]; simp only [pickOps, mCc, mNn, gSs, gZz]; go_wp2_with ((refine wpList_put 100 rfl _ _ rfl x 0 102 _ #[.slice A12 (nv + 1) c12] [.slice A12 (nv + 1) c12] _ B12.out rfl rfl rfl (by simp) rfl size100 (by simp [putA]) ?_; intro W13 x13 n13 s13; refine stop_of ?_)))
    unfold Stop
    have X13 := Lh x13; have N13 := Lh n13
    clear x13 n13 s13
    go_wp2_with fail
    rw [wpSegs_nil]
    go_wp2
    go_ret
    exact rset_end (m := ⟨tt, tw, mod, (-1), hav, fr, wh, er, keys, ten, keep⟩) HI.out HJ9.out HNJ.out XP9.out X10.out XE11.out G12.out X13.out N13.out R12.out (fun y e => (L12.out y e).imp id (fun h1 => by simpa using h1)) (by have h := N11.out; rw [HNK.out] at h; rw [← HN.out]; exact h) R9.out hsz7.out.1 R10.out HZ.out HBS.out HOL.out ES.out HOFF.out
   | some i =>
    have hI7 := HI.out.ext (X4.out.trans XW.out)
    obtain ⟨v, hv, hvo, hvw⟩ := nowI_some hnw
    obtain ⟨g, hg, hok⟩ := hI7.vers.get hv
    obtain ⟨us, hus⟩ : ∃ us, us = vs.set i (goneV v) := ⟨_, rfl⟩
    have HOFF := Lh (show offVs vs o = us by rw [hus]; simp [offVs, hnw, hv])
    have HN1 := HNOW.out _ (X4.out.trans XW.out)
    rw [hnw, rp_some hg] at HN1
    have HNJ := Lh (show nv = us.length by rw [hus, List.length_set]; exact HNV.out)
    have XT0 := Lh (X4.out.trans XW.out); have N70 := Lh (XW.out.heap N4.out)
    have HSET7 := Lh (fun (W : World) (hx : ExtB [g.b] wr W) hn => (show RIx W x B own us ss sa gs A c from hus ▸ hI7.gone hv hg hx hn))
    have HOB := Lh (And.intro hok.ob (HI.out.lt _ hok.ob))
    have HBLK := Lh hok.blk
    obtain ⟨q, hqq⟩ : ∃ q, q = g.b := ⟨_, rfl⟩
    rw [← hqq] at HN1 HOB HBLK HSET7
    have HN1 := Lh HN1
    have k0 := blk_cell hI7.blk 0
    simp at k0
    rw [← HNV.out] at k0
    clear hnw XW hI7 hv hvo hvw hg hok hus hqq
    have hqm : q < mb := by have := HOB.out.2; omega
    have HQM := Lh hqm
    clear hqm
    go_wp2_with (first | (go_at_call 54; refine HN1.out.mono ?_; rintro e w7 ⟨rfl, rfl⟩) | (refine wpList_put 4 rfl _ _ rfl _ 13 110 _ (rverC v.obj (nowM v) g.kv g.bv true) [.bool true] (.bool true) HBLK.out rfl rfl rfl (by simp [rverC]) rfl size4 (by simp [putA, rverC]) ?_; intro W7 x7 n7 s7; refine stop_of ?_))
    unfold Stop
    have XP7 := Lh (show ExtP own w W7 from (ExtP.of XT0.out).step x7 (fun y hy => by rw [show y = q by simpa using hy]; exact .inl HOB.out.1))
    have N7 := Lh (x7.heap N70.out (by have := HQM.out; simp; omega))
    have HJ7 := Lh (HSET7.out W7 x7 n7)
    have KT := Lh (show TextsAt W7 (.slice KA nk KC) keys from HKT.out.far XP7.out HFK.out)
    have UT := Lh (show BytesAt W7 (.slice UA n uc) bs from RowAt.far HU.out XP7.out HFU.out)
    have hsz7 := Lh (show w.heap.size ≤ W7.heap.size ∧ mb < W7.heap.size from ⟨XP7.out.size, blk_lt N7.out⟩)
    clear k0
    have k0 := blk_cell HJ7.out.blk 0
    simp at k0
    rw [← HNJ.out] at k0
    clear x7 n7 s7 XT0 N70 HSET7 HBLK HN1 hlt
    have k8 := blk_cell N7.out 8
    simp at k8
    have k8 := (ext_alloc1 W7 (.cells #[] 9)).cell k8
    clear k0
    go_wp2_with (at_builtin; refine wpList_copyT rfl _ _ rfl _ keys KT.out rfl rfl (by have := HZ.out.keys; simp only at this; omega) ?_; intro v8 W8 r8 x8; refine stop_of ?_)
    unfold Stop
    obtain ⟨A8, c8, rfl⟩ := own_slice r8
    have R8 := Lh r8; have N8 := Lh (x8.heap N7.out); have X8 := Lh x8
    rw [← HNK.out]
    clear r8 x8 k8
    go_wp2_with (refine wpList_put 36 rfl _ _ rfl mb 8 38 _ #[.string ⟨tt.toArray⟩, .bool tw, .int .i64 mod, .int .i64 (-1), .int .i64 n, .int .i64 fr, .int .i64 wh, .int .i64 er, .slice A8 nk c8, .string ⟨ten.toArray⟩, .bool keep] [.slice A8 nk c8] _ N8.out rfl rfl rfl (by simp) rfl size36 (by simp [putA]) ?_; intro W9 x9 n9 s9; refine stop_of ?_)
    unfold Stop
    have X79 := Lh (show ExtB [mb] W7 W9 from (ExtB.of X8.out [mb]).trans x9)
    have R9 := Lh (own_extB R8.out x9 (fun y hy e => by have h1 := (R8.out.lt y e).1; have h2 : y = mb := (by simpa using hy); have := hsz7.out.2; omega))
    have N9 := Lh n9
    have HJ9 := Lh (HJ7.out.keep (fun i hi => X79.out.block i (HJ7.out.lt i hi) (by have := HI.out.lt i hi; simp; omega)) X79.out.size (fun _ h => h) (fun i hi => Nat.lt_of_lt_of_le (HJ7.out.lt i hi) X79.out.size) HJ7.out.low)
    clear x9 n9 s9 N8 R8 X8
    have XP9 := Lh (XP7.out.step X79.out (fun y hy => by rw [show y = mb by simpa using hy]; exact .inr ⟨hle, hsz7.out.2⟩))
    have U9 := Lh (show BytesAt W9 (.slice UA n uc) bs from RowAt.far HU.out XP9.out HFU.out)
    obtain ⟨X5, hX5⟩ : ∃ X5, X5 = W9.heap.size :: (Value.slice A nv c).ownBlock.toList := ⟨_, rfl⟩
    have hxl : x < W9.heap.size := blk_lt HJ9.out.blk
    have hml : mb < W9.heap.size := blk_lt N9.out
    have hrw : W9.ownsRow B 75 1 (.slice A nv c) nv (gs.map fun g => ptrV g.b) := by have := HJ9.out.row; rw [← HNJ.out] at this; exact this
    have hX5k : ∀ y ∈ X5, y = W9.heap.size ∨ kindOf W9 y = 75 := fun y hy => by rw [hX5, List.mem_cons] at hy; exact hy.imp id fun hh => kind_row hrw (by simpa using hh)
    have nx : x ∉ X5 := fun hh => (hX5k x hh).elim (fun e => by omega) (fun e => by rw [kind_cells HJ9.out.blk] at e; cases e)
    have nm : mb ∉ X5 := fun hh => (hX5k mb hh).elim (fun e => by omega) (fun e => by rw [kind_cells N9.out] at e; cases e)
    have kx := blk_cell HJ9.out.blk 0
    simp at kx
    rw [← HNJ.out] at kx
    have G0 : ∀ y : Grow X5 W9.drew, y.v.cell? ⟨x, 0, none⟩ = some (.slice A nv c) := fun y => y.ext.cell (a := W9.drew) kx nx
    have HX := Lh (And.intro hX5 (And.intro hX5k (And.intro nx nm))); have HRW := Lh hrw
    clear hX5 hX5k nx nm hrw hxl hml kx
    go_wp2_with fail
    refine wp_region_segs X5 [.inl [0, 1, 2, 3, 4, 5, 6, 8], .inr (.inl 7), .inr (.inl 9), .inl [10], .inr (.inl 11), .inr (.inl 12), .inr (.inl 13), .inl [14, 15], .inr (.inr 16)] (by kernel_rfl) (by kernel_rfl) (fun c a d v w h => by cases d <;> exact h) ?_
    (rw [wpSegs_inl]; simp only [pickOps, mCc, mNn, gSs, gZz]; (repeat (go_big_quiet_step (fail))); (refine wpQuiet_get 38 _ rfl _ rfl mb 0 38 _ ([.string ⟨tt.toArray⟩, .bool tw, .int .i64 mod, .int .i64 (-1), .int .i64 n, .int .i64 fr, .int .i64 wh, .int .i64 er, .slice A8 nk c8, .string ⟨ten.toArray⟩, .bool keep]) rfl (fun W hW => by obtain ⟨y, rfl⟩ := hW; exact y.ext.heap (a := W9.drew) N9.out HX.out.2.2.2) (by kernel_rfl) Try.underlying38 rfl size38 ?_; simp only [Act.put, sAa, sSs, sZz]); (repeat (go_big_quiet_step (fail))); refine wpQuiet_nil ?_)
    clear G0
    have XD := Lh ((Ext.refl W9).drew)
    (rw [wpSegs_grow]; simp only [pickOps, mCc, mNn, gSs, gZz]; go_wp2_with (fail))
    refine ⟨.of (ext_alloc1 _ _) _, ?_⟩
    have MB := Lh (show BRow (W9.drew.alloc (.cells #[] 5)) W9.heap.size (.slice (some ⟨W9.heap.size, 0, none⟩) 0 0) [] from World.ownsRow_made W9.drew #[] 0 (Nat.le_refl _) (by unfold maxLen; omega) rfl)
    (rw [wpSegs_grow]; simp only [pickOps, mCc, mNn, gSs, gZz]; go_wp2_with ((at_builtin; refine wpList_appendB rfl _ _ rfl W9.heap.size (.slice (some ⟨W9.heap.size, 0, none⟩) 0 0) (.slice UA n uc) [] bs MB.out (U9.out.ext (XD.out.trans (ext_alloc1 _ _))) rfl rfl (by have := HBS.out; simp; omega) (by simp) ?_)))
    intro v10 W10 r10 g10
    obtain ⟨A10, c10, rfl⟩ := own_slice r10
    have XB10 : ExtB X5 (W9.drew.alloc (.cells #[] 5)) W10 := ⟨g10.os, g10.tape, g10.output, g10.size, fun k hk hn => g10.block k hk (fun e => hn (by rw [HX.out.1]; injection e with e; rw [e]; exact List.mem_cons_self))⟩
    have X10 := Lh (show Ext W9 W10 from XD.out.trans (Ext.trans' (ext_alloc1 W9.drew _) MB.out g10))
    have R10 := Lh r10
    rw [← HN.out]
    clear r10 g10 MB
    go_wp2_with fail
    refine ⟨XB10, ?_⟩
    clear XB10
    (rw [wpSegs_inl]; simp only [pickOps, mCc, mNn, gSs, gZz]; (repeat (go_big_quiet_step (fail))); refine wpQuiet_nil ?_)
    (rw [wpSegs_grow]; simp only [pickOps, mCc, mNn, gSs, gZz]; go_wp2_with ((refine wpList_boxA 110 rfl _ rfl (rverC o ⟨tt, tw, mod, -1, (n : Int), fr, wh, er, keys, ten, keep⟩ (.slice A8 nk c8) (.slice A10 n c10) false) rfl ?_; intro W11 x11 n11 s11; refine stop_of ?_)))
    unfold Stop
    go_wp2_with fail
    refine ⟨.of x11 _, ?_⟩
    have X11 := Lh (X10.out.trans x11); have XE11 := Lh x11; have N11 := Lh n11
    clear x11 n11 s11
    (rw [wpSegs_grow]; simp only [pickOps, mCc, mNn, gSs, gZz]; go_wp2_with (fail))
    refine ⟨.of (ext_alloc1 _ _) _, ?_⟩
    have RA := Lh (show RowAt (W11.alloc (.cells #[ptrV W10.heap.size] 75)) (.slice (some ⟨W11.heap.size, 0, none⟩) 1 1) [ptrV W10.heap.size] from ⟨_, _, rfl, Nat.le_refl _, fun e => (by cases e), fun j hj => ⟨W11.heap.size, 0, rfl, by have h0 : j = 0 := (by simpa using hj); subst h0; exact blk_cell (heap_alloc_new W11 (.cells #[ptrV W10.heap.size] 75)) 0⟩⟩)
    have RB := Lh (show (W11.alloc (.cells #[ptrV W10.heap.size] 75)).ownsRow B 75 1 (.slice A nv c) (gs.map fun g => ptrV g.b).length (gs.map fun g => ptrV g.b) from by have h1 := ownsRow_below HRW.out (X11.out.trans (ext_alloc1 W11 (.cells #[ptrV W10.heap.size] 75))); rw [List.length_map, HJ9.out.vers.len, ← HNJ.out]; exact h1)
    (rw [wpSegs_grow]; simp only [pickOps, mCc, mNn, gSs, gZz]; go_wp2_with ((at_builtin; refine wpList_push 100 75 (.pointer none) 8 Try.underlying100 info75 rfl (by decide) rfl _ _ rfl B (.slice A nv c) _ [ptrV W10.heap.size] ⟨W11.heap.size, 0, none⟩ 1 RB.out RA.out (by intro q hq; rw [show q = ptrV W10.heap.size by simpa using hq]; rfl) rfl rfl (by rw [List.length_map, HJ9.out.vers.len, ← HNJ.out]; have := HVL.out; have := HNV.out; simp; omega) (by have := HJ9.out.lowB; have := X11.out.size; simp; omega) ?_)))
    intro v12 W12 r12 g12 l12
    obtain ⟨A12, c12, hv12⟩ := own_slice r12
    have hgl : gs.length = nv := by rw [HJ9.out.vers.len, ← HNJ.out]
    simp only [List.length_append, List.length_map, List.length_cons, List.length_nil, Nat.zero_add, hgl] at hv12 r12
    clear hgl
    subst hv12
    have XB12 : ExtB X5 (W11.alloc (.cells #[ptrV W10.heap.size] 75)) W12 := ⟨g12.os, g12.tape, g12.output, g12.size, fun k hk hn => g12.block k hk (fun e => hn (by rw [HX.out.1, List.mem_cons]; right; rw [← e]; simp))⟩
    have R12 := Lh r12; have XX12 := Lh XB12; have G12 := Lh (grownBy_extB g12); have L12 := Lh l12
    clear r12 g12 l12 XB12
    go_wp2_with fail
    refine ⟨XX12.out, ?_⟩
    (rw [wpSegs_inl]; simp only [pickOps, mCc, mNn, gSs, gZz]; (repeat (go_big_quiet_step (fail))); refine wpQuiet_nil ?_)
    have B12 := Lh (show W12.heap[x]? = some (.cells #[.slice A nv c] 102 (0, 0)) from XX12.out.heap ((X11.out.trans (ext_alloc1 W11 _)).heap (by have := HJ9.out.blk; rw [← HNJ.out] at this; exact this)) HX.out.2.2.1)
    (rw [wpSegs_last]; simp only [pickOps, mCc, mNn, gSs, gZz]; go_wp2_with ((refine wpList_put 100 rfl _ _ rfl x 0 102 _ #[.slice A12 (nv + 1) c12] [.slice A12 (nv + 1) c12] _ B12.out rfl rfl rfl (by simp) rfl size100 (by simp [putA]) ?_; intro W13 x13 n13 s13; refine stop_of ?_)))
    unfold Stop
    have X13 := Lh x13; have N13 := Lh n13
    clear x13 n13 s13
    go_wp2_with fail
    rw [wpSegs_nil]
    go_wp2
    go_ret
    exact rset_end (m := ⟨tt, tw, mod, (-1), hav, fr, wh, er, keys, ten, keep⟩) HI.out HJ9.out HNJ.out XP9.out X10.out XE11.out G12.out X13.out N13.out R12.out (fun y e => (L12.out y e).imp id (fun h1 => by simpa using h1)) (by have h := N11.out; rw [HNK.out] at h; rw [← HN.out]; exact h) R9.out hsz7.out.1 R10.out HZ.out HBS.out HOL.out ES.out HOFF.out
set_option maxRecDepth 100000 in
set_option maxHeartbeats 8000000 in
theorem rset_o2 (h : RIx w x B own vs ss sa gs A c) {o bs tt ten : Bs} {tw keep : Bool} {mod len hav fr wh er : Int} {keys : List Bs} {kv u : Value} (ho : o.length ≤ 1000) (hz : MetaZ (⟨tt, tw, mod, (len), hav, fr, wh, er, keys, ten, keep⟩)) (hk : TextsAt w kv keys) (hu : BytesAt w u bs) (hbs : bs.length ≤ 1000) (hvl : vs.length ≤ 900000) (hfk : FarV own kv) (hfu : FarV own u) (hb : setOk o (⟨tt, tw, mod, (len), hav, fr, wh, er, keys, ten, keep⟩) bs = true) (hln : ¬ len = -1) :
  Calls Try.prog 46 #[.pointer (some ⟨x, 0, none⟩), .string ⟨o.toArray⟩, metaV (⟨tt, tw, mod, (len), hav, fr, wh, er, keys, ten, keep⟩) kv, u] w (RSetR w x B own ss sa (setA vs o (⟨tt, tw, mod, (len), hav, fr, wh, er, keys, ten, keep⟩) bs)) := by
 have HO := Lh fun W => robj_any o W (by omega)
 obtain ⟨n, hn⟩ : ∃ n, n = bs.length := ⟨_, rfl⟩
 obtain ⟨UA, uc, rfl⟩ : ∃ UA uc, u = .slice UA n uc := by obtain ⟨A, c, e, _⟩ := hu; exact ⟨A, c, by rw [e, hn]; simp⟩
 have HR := Lh fun W (y : Ext w W) => rmright_any ⟨tt, tw, mod, len, (n : Int), fr, wh, er, keys, ten, keep⟩ kv W ⟨hz.tt, hz.keys, hz.key, hz.ten⟩ (hk.ext y)
 obtain ⟨nk, hnk⟩ : ∃ nk, nk = keys.length := ⟨_, rfl⟩
 obtain ⟨KA, KC, rfl⟩ : ∃ KA KC, kv = .slice KA nk KC := by obtain ⟨A, c, e, _⟩ := hk; exact ⟨A, c, by rw [e, hnk]⟩
 have HSET := Lh hb
 obtain ⟨⟨b1, b2⟩, b3⟩ : (objB o = true ∧ (len == -1 || len == (bs.length : Int)) = true) ∧ metaB ⟨tt, tw, mod, len, (bs.length : Int), fr, wh, er, keys, ten, keep⟩ = true := by
  simpa only [setOk, Bool.and_eq_true] using hb
 rw [b1] at HO
 rw [← hn] at b3
 rw [b3] at HR
 have l1 : (len != -1) = true := by simpa using hln
 have l2 : (len != (n : Int)) = false := by
  have : len = (bs.length : Int) := by simpa [hln] using b2
  rw [hn]; simpa using this
 obtain ⟨nv, hnv⟩ : ∃ n, n = vs.length := ⟨_, rfl⟩
 have HI := Lh h; have HZ := Lh hz; have HKT := Lh hk; have HU := Lh hu; have HN := Lh hn; have HNK := Lh hnk; have HNV := Lh hnv; have HOL := Lh ho; have HBS := Lh hbs
 have hnl := h.many
 have HVL := Lh hvl; have HFK := Lh hfk; have HFU := Lh hfu
 have HNOW := Lh fun W (y : Ext w W) => rnow_any (h.ext y) (o := o) (by omega)
 rw [← hnv] at hnl
 have hnx := Lh (blk_lt h.blk)
 have hq := fun W => q27 W tt tw
 obtain ⟨y, hy⟩ : ∃ y, y = !(tt == [] && !tw) := ⟨_, rfl⟩
 rw [← hy] at hq
 have HY := Lh hy
 unfold metaV at HR ⊢
 clear h ho hz hk hu hbs hvl hfk hfu hb b1 b2 b3 hn hnk hnv hy hln
 go_enter Try.func46, Try.ntmps46
 go_wp2_with (refine wpList_boxA 38 rfl _ rfl #[.string ⟨tt.toArray⟩, .bool tw, .int .i64 mod, .int .i64 (len), .int .i64 hav, .int .i64 fr, .int .i64 wh, .int .i64 er, .slice KA nk KC, .string ⟨ten.toArray⟩, .bool keep] rfl ?_; intro W0 x0 n0 s0; refine stop_of ?_)
 unfold Stop
 obtain ⟨mb, hmb⟩ : ∃ p, p = w.heap.size := ⟨_, rfl⟩
 have hle : w.heap.size ≤ mb := by omega
 rw [← hmb] at n0 ⊢
 have X0 := Lh x0; have N0 := Lh n0
 clear x0 n0 s0 hmb
 go_wp2_with (refine wpList_put 2 rfl _ _ rfl mb 4 38 _ #[.string ⟨tt.toArray⟩, .bool tw, .int .i64 mod, .int .i64 (len), .int .i64 n, .int .i64 fr, .int .i64 wh, .int .i64 er, .slice KA nk KC, .string ⟨ten.toArray⟩, .bool keep] [.int .i64 n] _ N0.out rfl rfl rfl (by simp) rfl size2 (by simp [putA]) ?_; intro W1 x1 n1 s1; refine stop_of ?_)
 unfold Stop
 have X1 := Lh (X0.out.thenB x1 (by simp; omega)); have N1 := Lh n1
 clear x1 n1 s1 X0 N0
 go_wp2_with (go_at_call 61; refine (HO.out _).mono ?_; rintro e w1 ⟨rfl, rfl⟩; refine stop_of ?_)
 unfold Stop
 have k3 := blk_cell N1.out 3; have k4 := blk_cell N1.out 4
 simp at k3 k4
 go_wp2_with (first | (refine wpList_getW 38 _ rfl _ rfl mb 0 38 _ [.string ⟨tt.toArray⟩, .bool tw, .int .i64 mod, .int .i64 (len), .int .i64 n, .int .i64 fr, .int .i64 wh, .int .i64 er, .slice KA nk KC, .string ⟨ten.toArray⟩, .bool keep] N1.out rfl (by kernel_rfl) Try.underlying38 rfl size38 ?_) | (go_at_call 62; refine (HR.out _ X1.out).mono ?_; rintro e w2 ⟨rfl, x2⟩; refine stop_of ?_))
 unfold Stop
 have X2 := Lh (X1.out.trans x2); have N2 := Lh (x2.heap N1.out)
 clear x2 k3 k4 X1 N1 l1 l2
 go_wp2_with (refine wpList_new 27 _ zero27 rfl rfl ?_; intro W3 x3 n3 s3; refine stop_of ?_)
 unfold Stop
 obtain ⟨zb, hzb⟩ : ∃ p, p = w2.heap.size := ⟨_, rfl⟩
 rw [← hzb] at n3 ⊢
 have hmz : mb < zb := by rw [hzb]; exact blk_lt N2.out
 have X3 := Lh (X2.out.trans x3); have N3 := Lh (x3.heap N2.out); have Z3 := Lh n3
 clear x3 n3 s3 hzb X2 N2
 go_wp2_with (refine wpList_put 27 rfl _ _ rfl zb 0 27 _ #[.string ⟨#[]⟩, .bool false] [.string ⟨#[]⟩, .bool false] _ Z3.out rfl rfl rfl (by simp) rfl size27 (by kernel_rfl) ?_; intro W4 x4 n4 s4; refine stop_of ?_)
 unfold Stop
 have X4 := Lh (X3.out.thenB x4 (by simp; omega)); have N4 := Lh (x4.heap N3.out (by simp; omega)); have Z4 := Lh n4
 clear x4 n4 s4 X3 N3 Z3
 have XR := Lh (Ext.refl W4)
 go_wp2
 go_loopw [10, 11] (fun i _ wr => ∃ j : Nat, j ≤ nv ∧ i = .int .i64 j ∧ Hid (∀ u ∈ vs.take j, hitB o (⟨tt, tw, mod, (len), hav, fr, wh, er, keys, ten, keep⟩) u = false) ∧ Hid (Ext W4 wr)) (fun i _ _ => nv - (RowKit.intOf i).toNat)
 case atStart => exact ⟨0, by omega, rfl, Lh (by simp), XR⟩
 case round =>
  clear XR
  obtain ⟨j, hj, rfl, R, XW⟩ := hrel
  have k0 := blk_cell ((X4.out.trans XW.out).heap HI.out.blk) 0
  simp at k0
  rw [← HNV.out] at k0
  by_cases hlt : j < nv
  ·have hjs : j < vs.length := by rw [← HNV.out]; exact hlt
   obtain ⟨ab, g, hA, hg, k1, hok⟩ := (HI.out.ext (X4.out.trans XW.out)).at_ hjs
   have htk : vs.take (j + 1) = vs.take j ++ [vs[j]] := List.take_succ_eq_append_getElem hjs
   have hvj : vs[j]? = some vs[j] := by simp [hjs]
   obtain ⟨v, hv⟩ : ∃ v, v = vs[j] := ⟨_, rfl⟩
   rw [← hv] at hok htk hvj
   have HVJ := Lh hvj; have HTK := Lh htk
   have k2 := blk_cell hok.blk 0; have k3 := blk_cell hok.blk 1; have k4 := blk_cell hok.blk 2
   simp [rverC, nowM] at k2 k3 k4
   obtain ⟨vo, hvo⟩ : ∃ vo, vo = v.obj := ⟨_, rfl⟩
   obtain ⟨vt, hvt⟩ : ∃ vt, vt = v.m.tt := ⟨_, rfl⟩
   obtain ⟨vw, hvw⟩ : ∃ vw, vw = v.m.tw := ⟨_, rfl⟩
   obtain ⟨q, hqq⟩ : ∃ q, q = g.b := ⟨_, rfl⟩
   rw [← hqq] at k1 k2 k3 k4
   rw [← hvo] at k2
   rw [← hvt] at k3
   rw [← hvw] at k4
   unfold ptrV at k1
   obtain ⟨e2, he2⟩ : ∃ e, e = (vo == o) := ⟨_, rfl⟩
   obtain ⟨e4, he4⟩ : ∃ e, e = (vt == tt) := ⟨_, rfl⟩
   obtain ⟨y3, hy3⟩ : ∃ e, e = !(vt == [] && !vw) := ⟨_, rfl⟩
   have HHIT := Lh (show hitB o (⟨tt, tw, mod, (len), hav, fr, wh, er, keys, ten, keep⟩) v = (y && (e2 && (y3 && (e4 && !(vw && tw))))) by
    unfold hitB noTag
    rw [HY.out, he2, he4, hy3, hvo, hvt, hvw])
   have hq3 := fun W => q27 W vt vw
   rw [← hy3] at hq3
   have d2 : (vo == o) = e2 := he2.symm
   have d4 : (vt == tt) = e4 := he4.symm
   subst hA
   clear hok hvj htk hv hvo hvt hvw hqq he2 he4 hy3 hjs hg
   go_wp2_with (refine wpList_new 27 _ zero27 rfl rfl ?_; intro W5 x5 n5 s5; refine stop_of ?_)
   unfold Stop
   obtain ⟨tb, htb⟩ : ∃ p, p = wr.heap.size := ⟨_, rfl⟩
   rw [← htb] at n5 ⊢
   have hzt : zb < tb := by rw [htb]; exact blk_lt (XW.out.heap Z4.out)
   have hle4 : W4.heap.size ≤ tb := by rw [htb]; exact XW.out.size
   have hlew : w.heap.size ≤ W4.heap.size := X4.out.size
   have X5 := Lh (XW.out.trans x5); have T5 := Lh n5; have XS := Lh x5; have HTB := Lh htb
   clear x5 n5 s5 XW htb
   go_wp2_with (refine wpList_put 27 rfl _ _ rfl tb 0 27 _ #[.string ⟨vt.toArray⟩, .bool vw] [.string ⟨vt.toArray⟩, .bool vw] _ T5.out rfl rfl rfl (by simp) rfl size27 (by kernel_rfl) ?_; intro W6 x6 n6 s6; refine stop_of ?_)
   unfold Stop
   have XL := Lh (X5.out.thenB x6 (by simp; omega)); have XT := Lh (X4.out.trans (X5.out.thenB x6 (by simp; omega)))
   have T6 := Lh n6
   have XS6 := XS.out.thenB x6 (by have := HTB.out; simp; omega)
   have k1 := XS6.cell k1; have k2 := XS6.cell k2; have k3 := XS6.cell k3; have k4 := XS6.cell k4
   clear XS6 XS HTB
   have t0 := blk_cell T6.out 0; have t1 := blk_cell T6.out 1
   have m0 := blk_cell (XL.out.heap N4.out) 0; have m1 := blk_cell (XL.out.heap N4.out) 1
   have z0 := blk_cell (XL.out.heap Z4.out) 0; have z1 := blk_cell (XL.out.heap Z4.out) 1
   have k0 := blk_cell (XT.out.heap HI.out.blk) 0
   simp at t0 t1 m0 m1 z0 z1 k0
   rw [← HNV.out] at k0
   clear x6 n6 s6 X5 T5
   cases y with
   | false =>
    have R3 := Lh (show ∀ u ∈ vs.take (j + 1), hitB o (⟨tt, tw, mod, (len), hav, fr, wh, er, keys, ten, keep⟩) u = false from fun u hu => by
     rw [HTK.out, List.mem_append, List.mem_singleton] at hu
     rcases hu with hu | hu
     ·exact R.out u hu
     ·rw [hu, HHIT.out]; rfl)
    go_wp2
    go_roundw
    case rel => exact ⟨j + 1, by omega, by go_num, R3, XL⟩
    case measure => simp [RowKit.intOf]; omega
   | true =>
    cases e2 with
    | false =>
     have R3 := Lh (show ∀ u ∈ vs.take (j + 1), hitB o (⟨tt, tw, mod, (len), hav, fr, wh, er, keys, ten, keep⟩) u = false from fun u hu => by
      rw [HTK.out, List.mem_append, List.mem_singleton] at hu
      rcases hu with hu | hu
      ·exact R.out u hu
      ·rw [hu, HHIT.out]; rfl)
     go_wp2
     go_roundw
     case rel => exact ⟨j + 1, by omega, by go_num, R3, XL⟩
     case measure => simp [RowKit.intOf]; omega
    | true =>
     cases y3 with
     | false =>
      have R3 := Lh (show ∀ u ∈ vs.take (j + 1), hitB o (⟨tt, tw, mod, (len), hav, fr, wh, er, keys, ten, keep⟩) u = false from fun u hu => by
       rw [HTK.out, List.mem_append, List.mem_singleton] at hu
       rcases hu with hu | hu
       ·exact R.out u hu
       ·rw [hu, HHIT.out]; rfl)
      go_wp2
      go_roundw
      case rel => exact ⟨j + 1, by omega, by go_num, R3, XL⟩
      case measure => simp [RowKit.intOf]; omega
     | true =>
      cases e4 with
      | false =>
       have R3 := Lh (show ∀ u ∈ vs.take (j + 1), hitB o (⟨tt, tw, mod, (len), hav, fr, wh, er, keys, ten, keep⟩) u = false from fun u hu => by
        rw [HTK.out, List.mem_append, List.mem_singleton] at hu
        rcases hu with hu | hu
        ·exact R.out u hu
        ·rw [hu, HHIT.out]; rfl)
       go_wp2
       go_roundw
       case rel => exact ⟨j + 1, by omega, by go_num, R3, XL⟩
       case measure => simp [RowKit.intOf]; omega
      | true =>
       cases vw with
       | false =>
        have EH := Lh (show setA vs o (⟨tt, tw, mod, (len), hav, fr, wh, er, keys, ten, keep⟩) bs = (12, vs) by
         unfold setA
         rw [HSET.out, if_neg (by decide), refused_hit, if_pos (List.any_eq_true.2 ⟨v, List.mem_of_getElem? HVJ.out, by rw [HHIT.out]; rfl⟩)])
        go_wp2
        go_ret
        exact rset_same HI.out XT.out EH.out
       | true =>
        cases tw with
        | false =>
         have EH := Lh (show setA vs o (⟨tt, false, mod, (len), hav, fr, wh, er, keys, ten, keep⟩) bs = (12, vs) by
          unfold setA
          rw [HSET.out, if_neg (by decide), refused_hit, if_pos (List.any_eq_true.2 ⟨v, List.mem_of_getElem? HVJ.out, by rw [HHIT.out]; rfl⟩)])
         go_wp2
         go_ret
         exact rset_same HI.out XT.out EH.out
        | true =>
         have R3 := Lh (show ∀ u ∈ vs.take (j + 1), hitB o (⟨tt, true, mod, (len), hav, fr, wh, er, keys, ten, keep⟩) u = false from fun u hu => by
          rw [HTK.out, List.mem_append, List.mem_singleton] at hu
          rcases hu with hu | hu
          ·exact R.out u hu
          ·rw [hu, HHIT.out]; rfl)
         go_wp2
         go_roundw
         case rel => exact ⟨j + 1, by omega, by go_num, R3, XL⟩
         case measure => simp [RowKit.intOf]; omega
  ·have hjn : vs.take j = vs := List.take_of_length_le (by rw [← HNV.out]; omega)
   have R2 := R.out
   rw [hjn] at R2
   have ES := Lh (show setA vs o (⟨tt, tw, mod, (len), hav, fr, wh, er, keys, ten, keep⟩) bs = (0, offVs vs o ++ [newV o (⟨tt, tw, mod, (len), hav, fr, wh, er, keys, ten, keep⟩) bs]) by
    unfold setA
    rw [HSET.out, if_neg (by decide), refused_hit, if_neg (by
     intro hh
     obtain ⟨u, hu, hh⟩ := List.any_eq_true.1 hh
     rw [R2 u hu] at hh; cases hh)])
   clear R R2 hjn k0
   cases hnw : nowI vs o with
   | none =>
    have HOFF := Lh (show offVs vs o = vs by unfold offVs; rw [hnw])
    have HN1 := HNOW.out _ (X4.out.trans XW.out)
    rw [hnw, rp_none] at HN1
    have HN1 := Lh HN1
    have XT := Lh (X4.out.trans XW.out); have N7 := Lh (XW.out.heap N4.out)
    have HJ7 := Lh (HI.out.ext XT.out)
    have XP7 := Lh (show ExtP own w wr from .of XT.out)
    have KT := Lh (show TextsAt wr (.slice KA nk KC) keys from HKT.out.ext XT.out)
    have UT := Lh (show BytesAt wr (.slice UA n uc) bs from HU.out.ext XT.out)
    have hsz7 := Lh (show w.heap.size ≤ wr.heap.size ∧ mb < wr.heap.size from ⟨XT.out.size, blk_lt N7.out⟩)
    have HNJ := HNV
    have k0 := blk_cell HJ7.out.blk 0
    simp at k0
    rw [← HNV.out] at k0
    clear hnw XW
    go_wp2_with (go_at_call 54; refine HN1.out.mono ?_; rintro e w7 ⟨rfl, rfl⟩; refine stop_of ?_)
    unfold Stop
    have k8 := blk_cell N7.out 8
    simp at k8
    have k8 := (ext_alloc1 wr (.cells #[] 9)).cell k8
    clear k0 hlt
    go_wp2_with (at_builtin; refine wpList_copyT rfl _ _ rfl _ keys KT.out rfl rfl (by have := HZ.out.keys; simp only at this; omega) ?_; intro v8 W8 r8 x8; refine stop_of ?_)
    unfold Stop
    obtain ⟨A8, c8, rfl⟩ := own_slice r8
    have R8 := Lh r8; have N8 := Lh (x8.heap N7.out); have X8 := Lh x8
    rw [← HNK.out]
    clear r8 x8 k8
    go_wp2_with (refine wpList_put 36 rfl _ _ rfl mb 8 38 _ #[.string ⟨tt.toArray⟩, .bool tw, .int .i64 mod, .int .i64 (len), .int .i64 n, .int .i64 fr, .int .i64 wh, .int .i64 er, .slice A8 nk c8, .string ⟨ten.toArray⟩, .bool keep] [.slice A8 nk c8] _ N8.out rfl rfl rfl (by simp) rfl size36 (by simp [putA]) ?_; intro W9 x9 n9 s9; refine stop_of ?_)
    unfold Stop
    have X79 := Lh (show ExtB [mb] wr W9 from (ExtB.of X8.out [mb]).trans x9)
    have R9 := Lh (own_extB R8.out x9 (fun y hy e => by have h1 := (R8.out.lt y e).1; have h2 : y = mb := (by simpa using hy); have := hsz7.out.2; omega))
    have N9 := Lh n9
    have HJ9 := Lh (HJ7.out.keep (fun i hi => X79.out.block i (HJ7.out.lt i hi) (by have := HI.out.lt i hi; simp; omega)) X79.out.size (fun _ h => h) (fun i hi => Nat.lt_of_lt_of_le (HJ7.out.lt i hi) X79.out.size) HJ7.out.low)
    clear x9 n9 s9 N8 R8 X8
    have XP9 := Lh (XP7.out.step X79.out (fun y hy => by rw [show y = mb by simpa using hy]; exact .inr ⟨hle, hsz7.out.2⟩))
    have U9 := Lh (show BytesAt W9 (.slice UA n uc) bs from RowAt.far HU.out XP9.out HFU.out)
    obtain ⟨X5, hX5⟩ : ∃ X5, X5 = W9.heap.size :: (Value.slice A nv c).ownBlock.toList := ⟨_, rfl⟩
    have hxl : x < W9.heap.size := blk_lt HJ9.out.blk
    have hml : mb < W9.heap.size := blk_lt N9.out
    have hrw : W9.ownsRow B 75 1 (.slice A nv c) nv (gs.map fun g => ptrV g.b) := by have := HJ9.out.row; rw [← HNJ.out] at this; exact this
    have hX5k : ∀ y ∈ X5, y = W9.heap.size ∨ kindOf W9 y = 75 := fun y hy => by rw [hX5, List.mem_cons] at hy; exact hy.imp id fun hh => kind_row hrw (by simpa using hh)
    have nx : x ∉ X5 := fun hh => (hX5k x hh).elim (fun e => by omega) (fun e => by rw [kind_cells HJ9.out.blk] at e; cases e)
    have nm : mb ∉ X5 := fun hh => (hX5k mb hh).elim (fun e => by omega) (fun e => by rw [kind_cells N9.out] at e; cases e)
    have kx := blk_cell HJ9.out.blk 0
    simp at kx
    rw [← HNJ.out] at kx
    have G0 : ∀ y : Grow X5 W9.drew, y.v.cell? ⟨x, 0, none⟩ = some (.slice A nv c) := fun y => y.ext.cell (a := W9.drew) kx nx
    have HX := Lh (And.intro hX5 (And.intro hX5k (And.intro nx nm))); have HRW := Lh hrw
    clear hX5 hX5k nx nm hrw hxl hml kx
    go_wp2_with fail
    refine wp_region_segs X5 [.inl [0, 1, 2, 3, 4, 5, 6, 8], .inr (.inl 7), .inr (.inl 9), .inl [10], .inr (.inl 11), .inr (.inl 12), .inr (.inl 13), .inl [14, 15], .inr (.inr 16)] (by kernel_rfl) (by kernel_rfl) (fun c a d v w h => by cases d <;> exact h) ?_
    (rw [wpSegs_inl]; simp only [pickOps, mCc, mNn, gSs, gZz]; (repeat (go_big_quiet_step (fail))); (refine wpQuiet_get 38 _ rfl _ rfl mb 0 38 _ ([.string ⟨tt.toArray⟩, .bool tw, .int .i64 mod, .int .i64 (len), .int .i64 n, .int .i64 fr, .int .i64 wh, .int .i64 er, .slice A8 nk c8, .string ⟨ten.toArray⟩, .bool keep]) rfl (fun W hW => by obtain ⟨y, rfl⟩ := hW; exact y.ext.heap (a := W9.drew) N9.out HX.out.2.2.2) (by kernel_rfl) Try.underlying38 rfl size38 ?_; simp only [Act.put, sAa, sSs, sZz]); (repeat (go_big_quiet_step (fail))); refine wpQuiet_nil ?_)
    clear G0
    have XD := Lh ((Ext.refl W9).drew)
    (rw [wpSegs_grow]; simp only [pickOps, mCc, mNn, gSs, gZz]; go_wp2_with (fail))
    refine ⟨.of (ext_alloc1 _ _) _, ?_⟩
    have MB := Lh (show BRow (W9.drew.alloc (.cells #[] 5)) W9.heap.size (.slice (some ⟨W9.heap.size, 0, none⟩) 0 0) [] from World.ownsRow_made W9.drew #[] 0 (Nat.le_refl _) (by unfold maxLen; omega) rfl)
    (rw [wpSegs_grow]; simp only [pickOps, mCc, mNn, gSs, gZz]; go_wp2_with ((at_builtin; refine wpList_appendB rfl _ _ rfl W9.heap.size (.slice (some ⟨W9.heap.size, 0, none⟩) 0 0) (.slice UA n uc) [] bs MB.out (U9.out.ext (XD.out.trans (ext_alloc1 _ _))) rfl rfl (by have := HBS.out; simp; omega) (by simp) ?_)))
    intro v10 W10 r10 g10
    obtain ⟨A10, c10, rfl⟩ := own_slice r10
    have XB10 : ExtB X5 (W9.drew.alloc (.cells #[] 5)) W10 := ⟨g10.os, g10.tape, g10.output, g10.size, fun k hk hn => g10.block k hk (fun e => hn (by rw [HX.out.1]; injection e with e; rw [e]; exact List.mem_cons_self))⟩
    have X10 := Lh (show Ext W9 W10 from XD.out.trans (Ext.trans' (ext_alloc1 W9.drew _) MB.out g10))
    have R10 := Lh r10
    rw [← HN.out]
    clear r10 g10 MB
    go_wp2_with fail
    refine ⟨XB10, ?_⟩
    clear XB10
    (rw [wpSegs_inl]; simp only [pickOps, mCc, mNn, gSs, gZz]; (repeat (go_big_quiet_step (fail))); refine wpQuiet_nil ?_)
    (rw [wpSegs_grow]; simp only [pickOps, mCc, mNn, gSs, gZz]; go_wp2_with ((refine wpList_boxA 110 rfl _ rfl (rverC o ⟨tt, tw, mod, len, (n : Int), fr, wh, er, keys, ten, keep⟩ (.slice A8 nk c8) (.slice A10 n c10) false) rfl ?_; intro W11 x11 n11 s11; refine stop_of ?_)))
    unfold Stop
    go_wp2_with fail
    refine ⟨.of x11 _, ?_⟩
    have X11 := Lh (X10.out.trans x11); have XE11 := Lh x11; have N11 := Lh n11
    clear x11 n11 s11
    (rw [wpSegs_grow]; simp only [pickOps, mCc, mNn, gSs, gZz]; go_wp2_with (fail))
    refine ⟨.of (ext_alloc1 _ _) _, ?_⟩
    have RA := Lh (show RowAt (W11.alloc (.cells #[ptrV W10.heap.size] 75)) (.slice (some ⟨W11.heap.size, 0, none⟩) 1 1) [ptrV W10.heap.size] from ⟨_, _, rfl, Nat.le_refl _, fun e => (by cases e), fun j hj => ⟨W11.heap.size, 0, rfl, by have h0 : j = 0 := (by simpa using hj); subst h0; exact blk_cell (heap_alloc_new W11 (.cells #[ptrV W10.heap.size] 75)) 0⟩⟩)
    have RB := Lh (show (W11.alloc (.cells #[ptrV W10.heap.size] 75)).ownsRow B 75 1 (.slice A nv c) (gs.map fun g => ptrV g.b).length (gs.map fun g => ptrV g.b) from by have h1 := ownsRow_below HRW.out (X11.out.trans (ext_alloc1 W11 (.cells #[ptrV W10.heap.size] 75))); rw [List.length_map, HJ9.out.vers.len, ← HNJ.out]; exact h1)
    (rw [wpSegs_grow]; simp only [pickOps, mCc, mNn, gSs, gZz]; go_wp2_with ((at_builtin; refine wpList_push 100 75 (.pointer none) 8 Try.underlying100 info75 rfl (by decide) rfl _ _ rfl B (.slice A nv c) _ [ptrV W10.heap.size] ⟨W11.heap.size, 0, none⟩ 1 RB.out RA.out (by intro q hq; rw [show q = ptrV W10.heap.size by simpa using hq]; rfl) rfl rfl (by rw [List.length_map, HJ9.out.vers.len, ← HNJ.out]; have := HVL.out; have := HNV.out; simp; omega) (by have := HJ9.out.lowB; have := X11.out.size; simp; omega) ?_)))
    intro v12 W12 r12 g12 l12
    obtain ⟨A12, c12, hv12⟩ := own_slice r12
    have hgl : gs.length = nv := by rw [HJ9.out.vers.len, ← HNJ.out]
    simp only [List.length_append, List.length_map, List.length_cons, List.length_nil, Nat.zero_add, hgl] at hv12 r12
    clear hgl
    subst hv12
    have XB12 : ExtB X5 (W11.alloc (.cells #[ptrV W10.heap.size] 75)) W12 := ⟨g12.os, g12.tape, g12.output, g12.size, fun k hk hn => g12.block k hk (fun e => hn (by rw [HX.out.1, List.mem_cons]; right; rw [← e]; simp))⟩
    have R12 := Lh r12; have XX12 := Lh XB12; have G12 := Lh (grownBy_extB g12); have L12 := Lh l12
    clear r12 g12 l12 XB12
    go_wp2_with fail
    refine ⟨XX12.out, ?_⟩
    (rw [wpSegs_inl]; simp only [pickOps, mCc, mNn, gSs, gZz]; (repeat (go_big_quiet_step (fail))); refine wpQuiet_nil ?_)
    have B12 := Lh (show W12.heap[x]? = some (.cells #[.slice A nv c] 102 (0, 0)) from XX12.out.heap ((X11.out.trans (ext_alloc1 W11 _)).heap (by have := HJ9.out.blk; rw [← HNJ.out] at this; exact this)) HX.out.2.2.1)
    (rw [wpSegs_last]; simp only [pickOps, mCc, mNn, gSs, gZz]; go_wp2_with ((refine wpList_put 100 rfl _ _ rfl x 0 102 _ #[.slice A12 (nv + 1) c12] [.slice A12 (nv + 1) c12] _ B12.out rfl rfl rfl (by simp) rfl size100 (by simp [putA]) ?_; intro W13 x13 n13 s13; refine stop_of ?_)))
    unfold Stop
    have X13 := Lh x13; have N13 := Lh n13
    clear x13 n13 s13
    go_wp2_with fail
    rw [wpSegs_nil]
    go_wp2
    go_ret
    exact rset_end (m := ⟨tt, tw, mod, (len), hav, fr, wh, er, keys, ten, keep⟩) HI.out HJ9.out HNJ.out XP9.out X10.out XE11.out G12.out X13.out N13.out R12.out (fun y e => (L12.out y e).imp id (fun h1 => by simpa using h1)) (by have h := N11.out; rw [HNK.out] at h; rw [← HN.out]; exact h) R9.out hsz7.out.1 R10.out HZ.out HBS.out HOL.out ES.out HOFF.out
   | some i =>
    have hI7 := HI.out.ext (X4.out.trans XW.out)
    obtain ⟨v, hv, hvo, hvw⟩ := nowI_some hnw
    obtain ⟨g, hg, hok⟩ := hI7.vers.get hv
    obtain ⟨us, hus⟩ : ∃ us, us = vs.set i (goneV v) := ⟨_, rfl⟩
    have HOFF := Lh (show offVs vs o = us by rw [hus]; simp [offVs, hnw, hv])
    have HN1 := HNOW.out _ (X4.out.trans XW.out)
    rw [hnw, rp_some hg] at HN1
    have HNJ := Lh (show nv = us.length by rw [hus, List.length_set]; exact HNV.out)
    have XT0 := Lh (X4.out.trans XW.out); have N70 := Lh (XW.out.heap N4.out)
    have HSET7 := Lh (fun (W : World) (hx : ExtB [g.b] wr W) hn => (show RIx W x B own us ss sa gs A c from hus ▸ hI7.gone hv hg hx hn))
    have HOB := Lh (And.intro hok.ob (HI.out.lt _ hok.ob))
    have HBLK := Lh hok.blk
    obtain ⟨q, hqq⟩ : ∃ q, q = g.b := ⟨_, rfl⟩
    rw [← hqq] at HN1 HOB HBLK HSET7
    have HN1 := Lh HN1
    have k0 := blk_cell hI7.blk 0
    simp at k0
    rw [← HNV.out] at k0
    clear hnw XW hI7 hv hvo hvw hg hok hus hqq
    have hqm : q < mb := by have := HOB.out.2; omega
    have HQM := Lh hqm
    clear hqm
    go_wp2_with (first | (go_at_call 54; refine HN1.out.mono ?_; rintro e w7 ⟨rfl, rfl⟩) | (refine wpList_put 4 rfl _ _ rfl _ 13 110 _ (rverC v.obj (nowM v) g.kv g.bv true) [.bool true] (.bool true) HBLK.out rfl rfl rfl (by simp [rverC]) rfl size4 (by simp [putA, rverC]) ?_; intro W7 x7 n7 s7; refine stop_of ?_))
    unfold Stop
    have XP7 := Lh (show ExtP own w W7 from (ExtP.of XT0.out).step x7 (fun y hy => by rw [show y = q by simpa using hy]; exact .inl HOB.out.1))
    have N7 := Lh (x7.heap N70.out (by have := HQM.out; simp; omega))
    have HJ7 := Lh (HSET7.out W7 x7 n7)
    have KT := Lh (show TextsAt W7 (.slice KA nk KC) keys from HKT.out.far XP7.out HFK.out)
    have UT := Lh (show BytesAt W7 (.slice UA n uc) bs from RowAt.far HU.out XP7.out HFU.out)
    have hsz7 := Lh (show w.heap.size ≤ W7.heap.size ∧ mb < W7.heap.size from ⟨XP7.out.size, blk_lt N7.out⟩)
    clear k0
    have k0 := blk_cell HJ7.out.blk 0
    simp at k0
    rw [← HNJ.out] at k0
    clear x7 n7 s7 XT0 N70 HSET7 HBLK HN1 hlt
    have k8 := blk_cell N7.out 8
    simp at k8
    have k8 := (ext_alloc1 W7 (.cells #[] 9)).cell k8
    clear k0
    go_wp2_with (at_builtin; refine wpList_copyT rfl _ _ rfl _ keys KT.out rfl rfl (by have := HZ.out.keys; simp only at this; omega) ?_; intro v8 W8 r8 x8; refine stop_of ?_)
    unfold Stop
    obtain ⟨A8, c8, rfl⟩ := own_slice r8
    have R8 := Lh r8; have N8 := Lh (x8.heap N7.out); have X8 := Lh x8
    rw [← HNK.out]
    clear r8 x8 k8
    go_wp2_with (refine wpList_put 36 rfl _ _ rfl mb 8 38 _ #[.string ⟨tt.toArray⟩, .bool tw, .int .i64 mod, .int .i64 (len), .int .i64 n, .int .i64 fr, .int .i64 wh, .int .i64 er, .slice A8 nk c8, .string ⟨ten.toArray⟩, .bool keep] [.slice A8 nk c8] _ N8.out rfl rfl rfl (by simp) rfl size36 (by simp [putA]) ?_; intro W9 x9 n9 s9; refine stop_of ?_)
    unfold Stop
    have X79 := Lh (show ExtB [mb] W7 W9 from (ExtB.of X8.out [mb]).trans x9)
    have R9 := Lh (own_extB R8.out x9 (fun y hy e => by have h1 := (R8.out.lt y e).1; have h2 : y = mb := (by simpa using hy); have := hsz7.out.2; omega))
    have N9 := Lh n9
    have HJ9 := Lh (HJ7.out.keep (fun i hi => X79.out.block i (HJ7.out.lt i hi) (by have := HI.out.lt i hi; simp; omega)) X79.out.size (fun _ h => h) (fun i hi => Nat.lt_of_lt_of_le (HJ7.out.lt i hi) X79.out.size) HJ7.out.low)
    clear x9 n9 s9 N8 R8 X8
    have XP9 := Lh (XP7.out.step X79.out (fun y hy => by rw [show y = mb by simpa using hy]; exact .inr ⟨hle, hsz7.out.2⟩))
    have U9 := Lh (show BytesAt W9 (.slice UA n uc) bs from RowAt.far HU.out XP9.out HFU.out)
    obtain ⟨X5, hX5⟩ : ∃ X5, X5 = W9.heap.size :: (Value.slice A nv c).ownBlock.toList := ⟨_, rfl⟩
    have hxl : x < W9.heap.size := blk_lt HJ9.out.blk
    have hml : mb < W9.heap.size := blk_lt N9.out
    have hrw : W9.ownsRow B 75 1 (.slice A nv c) nv (gs.map fun g => ptrV g.b) := by have := HJ9.out.row; rw [← HNJ.out] at this; exact this
    have hX5k : ∀ y ∈ X5, y = W9.heap.size ∨ kindOf W9 y = 75 := fun y hy => by rw [hX5, List.mem_cons] at hy; exact hy.imp id fun hh => kind_row hrw (by simpa using hh)
    have nx : x ∉ X5 := fun hh => (hX5k x hh).elim (fun e => by omega) (fun e => by rw [kind_cells HJ9.out.blk] at e; cases e)
    have nm : mb ∉ X5 := fun hh => (hX5k mb hh).elim (fun e => by omega) (fun e => by rw [kind_cells N9.out] at e; cases e)
    have kx := blk_cell HJ9.out.blk 0
    simp at kx
    rw [← HNJ.out] at kx
    have G0 : ∀ y : Grow X5 W9.drew, y.v.cell? ⟨x, 0, none⟩ = some (.slice A nv c) := fun y => y.ext.cell (a := W9.drew) kx nx
    have HX := Lh (And.intro hX5 (And.intro hX5k (And.intro nx nm))); have HRW := Lh hrw
    clear hX5 hX5k nx nm hrw hxl hml kx
    go_wp2_with fail
    refine wp_region_segs X5 [.inl [0, 1, 2, 3, 4, 5, 6, 8], .inr (.inl 7), .inr (.inl 9), .inl [10], .inr (.inl 11), .inr (.inl 12), .inr (.inl 13), .inl [14, 15], .inr (.inr 16)] (by kernel_rfl) (by kernel_rfl) (fun c a d v w h => by cases d <;> exact h) ?_
    (rw [wpSegs_inl]; simp only [pickOps, mCc, mNn, gSs, gZz]; (repeat (go_big_quiet_step (fail))); (refine wpQuiet_get 38 _ rfl _ rfl mb 0 38 _ ([.string ⟨tt.toArray⟩, .bool tw, .int .i64 mod, .int .i64 (len), .int .i64 n, .int .i64 fr, .int .i64 wh, .int .i64 er, .slice A8 nk c8, .string ⟨ten.toArray⟩, .bool keep]) rfl (fun W hW => by obtain ⟨y, rfl⟩ := hW; exact y.ext.heap (a := W9.drew) N9.out HX.out.2.2.2) (by kernel_rfl) Try.underlying38 rfl size38 ?_; simp only [Act.put, sAa, sSs, sZz]); (repeat (go_big_quiet_step (fail))); refine wpQuiet_nil ?_)
    clear G0
    have XD := Lh ((Ext.refl W9).drew)
    (rw [wpSegs_grow]; simp only [pickOps, mCc, mNn, gSs, gZz]; go_wp2_with (fail))
    refine ⟨.of (ext_alloc1 _ _) _, ?_⟩
    have MB := Lh (show BRow (W9.drew.alloc (.cells #[] 5)) W9.heap.size (.slice (some ⟨W9.heap.size, 0, none⟩) 0 0) [] from World.ownsRow_made W9.drew #[] 0 (Nat.le_refl _) (by unfold maxLen; omega) rfl)
    (rw [wpSegs_grow]; simp only [pickOps, mCc, mNn, gSs, gZz]; go_wp2_with ((at_builtin; refine wpList_appendB rfl _ _ rfl W9.heap.size (.slice (some ⟨W9.heap.size, 0, none⟩) 0 0) (.slice UA n uc) [] bs MB.out (U9.out.ext (XD.out.trans (ext_alloc1 _ _))) rfl rfl (by have := HBS.out; simp; omega) (by simp) ?_)))
    intro v10 W10 r10 g10
    obtain ⟨A10, c10, rfl⟩ := own_slice r10
    have XB10 : ExtB X5 (W9.drew.alloc (.cells #[] 5)) W10 := ⟨g10.os, g10.tape, g10.output, g10.size, fun k hk hn => g10.block k hk (fun e => hn (by rw [HX.out.1]; injection e with e; rw [e]; exact List.mem_cons_self))⟩
    have X10 := Lh (show Ext W9 W10 from XD.out.trans (Ext.trans' (ext_alloc1 W9.drew _) MB.out g10))
    have R10 := Lh r10
    rw [← HN.out]
    clear r10 g10 MB
    go_wp2_with fail
    refine ⟨XB10, ?_⟩
    clear XB10
    (rw [wpSegs_inl]; simp only [pickOps, mCc, mNn, gSs, gZz]; (repeat (go_big_quiet_step (fail))); refine wpQuiet_nil ?_)
    (rw [wpSegs_grow]; simp only [pickOps, mCc, mNn, gSs, gZz]; go_wp2_with ((refine wpList_boxA 110 rfl _ rfl (rverC o ⟨tt, tw, mod, len, (n : Int), fr, wh, er, keys, ten, keep⟩ (.slice A8 nk c8) (.slice A10 n c10) false) rfl ?_; intro W11 x11 n11 s11; refine stop_of ?_)))
    unfold Stop
    go_wp2_with fail
    refine ⟨.of x11 _, ?_⟩
    have X11 := Lh (X10.out.trans x11); have XE11 := Lh x11; have N11 := Lh n11
    clear x11 n11 s11
    (rw [wpSegs_grow]; simp only [pickOps, mCc, mNn, gSs, gZz]; go_wp2_with (fail))
    refine ⟨.of (ext_alloc1 _ _) _, ?_⟩
    have RA := Lh (show RowAt (W11.alloc (.cells #[ptrV W10.heap.size] 75)) (.slice (some ⟨W11.heap.size, 0, none⟩) 1 1) [ptrV W10.heap.size] from ⟨_, _, rfl, Nat.le_refl _, fun e => (by cases e), fun j hj => ⟨W11.heap.size, 0, rfl, by have h0 : j = 0 := (by simpa using hj); subst h0; exact blk_cell (heap_alloc_new W11 (.cells #[ptrV W10.heap.size] 75)) 0⟩⟩)
    have RB := Lh (show (W11.alloc (.cells #[ptrV W10.heap.size] 75)).ownsRow B 75 1 (.slice A nv c) (gs.map fun g => ptrV g.b).length (gs.map fun g => ptrV g.b) from by have h1 := ownsRow_below HRW.out (X11.out.trans (ext_alloc1 W11 (.cells #[ptrV W10.heap.size] 75))); rw [List.length_map, HJ9.out.vers.len, ← HNJ.out]; exact h1)
    (rw [wpSegs_grow]; simp only [pickOps, mCc, mNn, gSs, gZz]; go_wp2_with ((at_builtin; refine wpList_push 100 75 (.pointer none) 8 Try.underlying100 info75 rfl (by decide) rfl _ _ rfl B (.slice A nv c) _ [ptrV W10.heap.size] ⟨W11.heap.size, 0, none⟩ 1 RB.out RA.out (by intro q hq; rw [show q = ptrV W10.heap.size by simpa using hq]; rfl) rfl rfl (by rw [List.length_map, HJ9.out.vers.len, ← HNJ.out]; have := HVL.out; have := HNV.out; simp; omega) (by have := HJ9.out.lowB; have := X11.out.size; simp; omega) ?_)))
    intro v12 W12 r12 g12 l12
    obtain ⟨A12, c12, hv12⟩ := own_slice r12
    have hgl : gs.length = nv := by rw [HJ9.out.vers.len, ← HNJ.out]
    simp only [List.length_append, List.length_map, List.length_cons, List.length_nil, Nat.zero_add, hgl] at hv12 r12
    clear hgl
    subst hv12
    have XB12 : ExtB X5 (W11.alloc (.cells #[ptrV W10.heap.size] 75)) W12 := ⟨g12.os, g12.tape, g12.output, g12.size, fun k hk hn => g12.block k hk (fun e => hn (by rw [HX.out.1, List.mem_cons]; right; rw [← e]; simp))⟩
    have R12 := Lh r12; have XX12 := Lh XB12; have G12 := Lh (grownBy_extB g12); have L12 := Lh l12
    clear r12 g12 l12 XB12
    go_wp2_with fail
    refine ⟨XX12.out, ?_⟩
    (rw [wpSegs_inl]; simp only [pickOps, mCc, mNn, gSs, gZz]; (repeat (go_big_quiet_step (fail))); refine wpQuiet_nil ?_)
    have B12 := Lh (show W12.heap[x]? = some (.cells #[.slice A nv c] 102 (0, 0)) from XX12.out.heap ((X11.out.trans (ext_alloc1 W11 _)).heap (by have := HJ9.out.blk; rw [← HNJ.out] at this; exact this)) HX.out.2.2.1)
    (rw [wpSegs_last]; simp only [pickOps, mCc, mNn, gSs, gZz]; go_wp2_with ((refine wpList_put 100 rfl _ _ rfl x 0 102 _ #[.slice A12 (nv + 1) c12] [.slice A12 (nv + 1) c12] _ B12.out rfl rfl rfl (by simp) rfl size100 (by simp [putA]) ?_; intro W13 x13 n13 s13; refine stop_of ?_)))
    unfold Stop
    have X13 := Lh x13; have N13 := Lh n13
    clear x13 n13 s13
    go_wp2_with fail
    rw [wpSegs_nil]
    go_wp2
    go_ret
    exact rset_end (m := ⟨tt, tw, mod, (len), hav, fr, wh, er, keys, ten, keep⟩) HI.out HJ9.out HNJ.out XP9.out X10.out XE11.out G12.out X13.out N13.out R12.out (fun y e => (L12.out y e).imp id (fun h1 => by simpa using h1)) (by have h := N11.out; rw [HNK.out] at h; rw [← HN.out]; exact h) R9.out hsz7.out.1 R10.out HZ.out HBS.out HOL.out ES.out HOFF.out
theorem rset_any (hI : RI w x B own vs ss sa) {o bs : Bs} {m : MetaP} {kv u : Value} (ho : o.length ≤ 1000) (hz : MetaZ m) (hk : TextsAt w kv m.keys) (hu : BytesAt w u bs) (hbs : bs.length ≤ 1000) (hvl : vs.length ≤ 900000) (hfk : FarV own kv) (hfu : FarV own u) :
  Calls Try.prog 46 #[.pointer (some ⟨x, 0, none⟩), .string ⟨o.toArray⟩, metaV m kv, u] w (RSetR w x B own ss sa (setA vs o m bs)) := by
 obtain ⟨gs, A, c, h⟩ := hI
 cases hb : setOk o m bs with
 | false =>
  refine (rset_bad ho hz hk hu hb).mono ?_
  rintro e w' ⟨rfl, x1⟩
  exact rset_same h x1 (by unfold setA; rw [if_pos hb])
 | true =>
  obtain ⟨tt, tw, mod, len, hav, fr, wh, er, keys, ten, keep⟩ := m
  by_cases hln : len = -1
  ·subst hln
   exact rset_o1 h ho hz hk hu hbs hvl hfk hfu hb
  ·exact rset_o2 h ho hz hk hu hbs hvl hfk hfu hb hln
end
end Go.Proofs.Ytpangoddbfiagaa
