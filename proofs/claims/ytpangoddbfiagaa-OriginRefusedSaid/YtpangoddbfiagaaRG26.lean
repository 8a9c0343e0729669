import Derived.Test.YtpangoddbfiagaaRG25
import Derived.Test.YtpangoddbfiagaaRG21
namespace Go.Proofs.Ytpangoddbfiagaa
open Go.RowKit Go.Maps Go.ChangeMaps
set_option linter.unusedVariables false
set_option linter.unusedSimpArgs false
section
variable {w0 w : World} {pb b x k : Nat} {Lx : Nat → Prop} {vs : List Vn} {ss : List Sn} {hl : List (Value × Bs)}
set_option maxRecDepth 100000 in
set_option maxHeartbeats 4000000 in
theorem do_k5 (h : Play w0 w pb b x k vs ss hl Lx) (hk : k ≤ 1000) {obj tt ten bs fo mt nt : Bs} {tw keep mw nw : Bool} {mod len hav fr wh er ff fto n : Int} {keys : List Bs} {kv bv : Value} {st : Nat} (ha : ActAt w0 ⟨5, obj, ⟨tt, tw, mod, len, hav, fr, wh, er, keys, ten, keep⟩, kv, bs, bv, ⟨fo, ff, fto, mt, mw, nt, nw⟩, st, n⟩) :
  Calls Try.prog 23 #[.pointer (some ⟨pb, 0, none⟩), .agg (actC ⟨5, obj, ⟨tt, tw, mod, len, hav, fr, wh, er, keys, ten, keep⟩, kv, bs, bv, ⟨fo, ff, fto, mt, mw, nt, nw⟩, st, n⟩).toArray] w (DoR w0 w pb b x (k + 1) (doV vs ⟨5, obj, ⟨tt, tw, mod, len, hav, fr, wh, er, keys, ten, keep⟩, kv, bs, bv, ⟨fo, ff, fto, mt, mw, nt, nw⟩, st, n⟩) (doS vs ss ⟨5, obj, ⟨tt, tw, mod, len, hav, fr, wh, er, keys, ten, keep⟩, kv, bs, bv, ⟨fo, ff, fto, mt, mw, nt, nw⟩, st, n⟩) hl Lx) := by
 obtain ⟨N, sa, ra, SA, sc, RA, rc, h⟩ := h
 have hg' := Lh (good_do h.good hk (a := ⟨5, obj, ⟨tt, tw, mod, len, hav, fr, wh, er, keys, ten, keep⟩, kv, bs, bv, ⟨fo, ff, fto, mt, mw, nt, nw⟩, st, n⟩) ha.z.bytes)
 obtain ⟨hz, hkt, hkl, hbt, hbl, hst⟩ := ha
 simp only at hkt hkl hbt hbl hst
 obtain ⟨nu, hnu⟩ : ∃ n, n = bs.length := ⟨_, rfl⟩
 obtain ⟨UA, uc, rfl⟩ : ∃ UA uc, bv = .slice UA nu uc := by obtain ⟨A, c, e, _⟩ := hbt; exact ⟨A, c, by rw [e, hnu]; simp⟩
 obtain ⟨nk, hnk⟩ : ∃ nk, nk = keys.length := ⟨_, rfl⟩
 obtain ⟨KA, KC, rfl⟩ : ∃ KA KC, kv = .slice KA nk KC := by obtain ⟨A, c, e, _⟩ := hkt; exact ⟨A, c, by rw [e, hnk]⟩
 have HZ := Lh hz; have HKT := Lh hkt; have HKL := Lh hkl; have HBT := Lh hbt; have HBL := Lh hbl
 have HK := Lh hk; have HP := Lh h
 clear hz hkt hkl hbt hbl hk hnu hnk h hst
 simp only [actC]
 go_enter Try.func23, Try.ntmps23
 go_wp2_with (refine wpList_boxA 40 rfl _ rfl #[.int .i64 5, .string ⟨obj.toArray⟩, .string ⟨tt.toArray⟩, .bool tw, .int .i64 mod, .int .i64 len, .int .i64 hav, .int .i64 fr, .int .i64 wh, .int .i64 er, .slice KA nk KC, .string ⟨ten.toArray⟩, .bool keep, .slice UA nu uc, .string ⟨fo.toArray⟩, .int .i64 ff, .int .i64 fto, .string ⟨mt.toArray⟩, .bool mw, .string ⟨nt.toArray⟩, .bool nw, .int .u8 st, .int .i64 n] rfl ?_; intro W0 x0 n0 s0; refine stop_of ?_)
 unfold Stop
 obtain ⟨ab, hab⟩ : ∃ p, p = w.heap.size := ⟨_, rfl⟩
 rw [← hab] at n0 ⊢
 have H0 := Lh (HP.out.box x0 (Nat.le_of_eq hab.symm) (blk_lt n0))
 have N0 := Lh n0
 have X0 := Lh x0
 have k0 := blk_cell n0 0
 simp at k0
 clear x0 n0 s0 hab
 obtain ⟨nn, hnn⟩ : ∃ n, n = ss.length := ⟨_, rfl⟩
 have HNN := Lh hnn
 have HPB := Lh (show W0.heap[pb]? = some (.cells #[ptrV b, ptrV x, .slice SA nn sc, .slice RA nn rc] 68) from by rw [hnn]; exact H0.out.blk)
 have HKB := Lh H0.out.good.ns
 have HF := Lh (show FtZ ⟨fo, ff, fto, mt, mw, nt, nw⟩ from HZ.out.ft)
 clear hnn
 go_wp2_with fail
 cases hft : ftB ⟨fo, ff, fto, mt, mw, nt, nw⟩ with
 | false =>
  have HFT := Lh hft
  have EV := Lh (show doV vs ⟨(5 : Int), obj, ⟨tt, tw, mod, len, hav, fr, wh, er, keys, ten, keep⟩, .slice KA nk KC, bs, .slice UA nu uc, ⟨fo, ff, fto, mt, mw, nt, nw⟩, st, n⟩ = vs by simp [doV])
  have ES := Lh (show doS vs ss ⟨(5 : Int), obj, ⟨tt, tw, mod, len, hav, fr, wh, er, keys, ten, keep⟩, .slice KA nk KC, bs, .slice UA nu uc, ⟨fo, ff, fto, mt, mw, nt, nw⟩, st, n⟩ = ss by simp [doS, hft])
  clear hft
  have GP : ∀ y : Grow [] W0.drew, y.v.cell? ⟨pb, 0, none⟩ = some (.pointer (some ⟨b, 0, none⟩)) := fun y => blk_cell (y.ext.heap (a := W0.drew) HPB.out (by simp)) 0
  have HD := Lh (H0.out.st.ext (Ext.drew (Ext.refl W0)))
  refine wp_region_segs [] [.inl [0, 1, 2, 3, 4, 5], .inr (.inl 6), .inl [7, 8, 9, 10, 11]] (by kernel_rfl) (by kernel_rfl) (fun c a d v w h => by cases d <;> exact h) ?_
  (rw [wpSegs_inl]; simp only [pickOps, mCc, mNn, gSs, gZz]; (repeat (go_big_quiet_step (fail))); (refine wpQuiet_get 29 _ rfl _ rfl ab 14 40 _ [.string ⟨fo.toArray⟩, .int .i64 ff, .int .i64 fto, .string ⟨mt.toArray⟩, .bool mw, .string ⟨nt.toArray⟩, .bool nw] rfl (fun W hW => by obtain ⟨y, rfl⟩ := hW; exact y.ext.heap (a := W0.drew) N0.out (by simp)) (by kernel_rfl) Try.underlying29 rfl size29r ?_; simp only [Act.put, sAa, sSs, sZz]); (repeat (go_big_quiet_step (fail))); refine wpQuiet_nil ?_)
  clear GP
  (rw [wpSegs_grow]; simp only [pickOps, mCc, mNn, gSs, gZz]; go_wp2_with ((go_at_call 15; refine (p_ask_no HD.out ⟨fo, ff, fto, mt, mw, nt, nw⟩ HF.out HFT.out).mono ?_; rintro e w3 ⟨rfl, h3, x3⟩; refine stop_of ?_)))
  unfold Stop
  go_wp2_with fail
  refine ⟨.of x3 _, ?_⟩
  have H3 := Lh h3
  have HPB3 := Lh (x3.heap (show W0.drew.heap[pb]? = _ from HPB.out)); have N3 := Lh (x3.heap (show W0.drew.heap[ab]? = _ from N0.out))
  have X3 := Lh ((Ext.refl W0).trans ((Ext.drew (Ext.refl W0)).trans x3))
  clear h3 x3 HD
  (rw [wpSegs_inl]; simp only [pickOps, mCc, mNn, gSs, gZz]; (repeat (go_big_quiet_step (fail))); refine wpQuiet_nil ?_)
  rw [wpSegs_nil]
  go_wp2_with fail
  have GP : ∀ y : Grow [] w3.drew, y.v.cell? ⟨pb, 1, none⟩ = some (.pointer (some ⟨x, 0, none⟩)) := fun y => blk_cell (y.ext.heap (a := w3.drew) HPB3.out (by simp)) 1
  have HD := Lh (H3.out.ext (Ext.drew (Ext.refl w3)))
  refine wp_region_segs [] [.inl [0, 1, 2, 3, 4, 5], .inr (.inl 6), .inl [7, 8, 9, 10, 11]] (by kernel_rfl) (by kernel_rfl) (fun c a d v w h => by cases d <;> exact h) ?_
  (rw [wpSegs_inl]; simp only [pickOps, mCc, mNn, gSs, gZz]; (repeat (go_big_quiet_step (fail))); (refine wpQuiet_get 29 _ rfl _ rfl ab 14 40 _ [.string ⟨fo.toArray⟩, .int .i64 ff, .int .i64 fto, .string ⟨mt.toArray⟩, .bool mw, .string ⟨nt.toArray⟩, .bool nw] rfl (fun W hW => by obtain ⟨y, rfl⟩ := hW; exact y.ext.heap (a := w3.drew) N3.out (by simp)) (by kernel_rfl) Try.underlying29 rfl size29r ?_; simp only [Act.put, sAa, sSs, sZz]); (repeat (go_big_quiet_step (fail))); refine wpQuiet_nil ?_)
  clear GP
  (rw [wpSegs_grow]; simp only [pickOps, mCc, mNn, gSs, gZz]; go_wp2_with ((go_at_call 50; refine (d_ask_no HD.out ⟨fo, ff, fto, mt, mw, nt, nw⟩ HF.out HFT.out).mono ?_; rintro e w4 ⟨rfl, h3, x3⟩; refine stop_of ?_)))
  unfold Stop
  go_wp2_with fail
  refine ⟨.of x3 _, ?_⟩
  have H4 := Lh h3
  have HPB4 := Lh (x3.heap (show w3.drew.heap[pb]? = _ from HPB3.out)); have N4 := Lh (x3.heap (show w3.drew.heap[ab]? = _ from N3.out))
  have X4 := Lh ((X3.out).trans ((Ext.drew (Ext.refl w3)).trans x3))
  clear h3 x3 HD
  (rw [wpSegs_inl]; simp only [pickOps, mCc, mNn, gSs, gZz]; (repeat (go_big_quiet_step (fail))); refine wpQuiet_nil ?_)
  rw [wpSegs_nil]
  go_wp2_with fail
  go_wp2
  go_ret
  rw [EV.out, ES.out]
  exact ⟨rfl, Play.more ⟨N, sa, ra, SA, sc, RA, rc, HP.out.ext (X0.out.trans X4.out)⟩, KeepP.ext (X0.out.trans X4.out) HP.out.lt⟩
 | true =>
  have HFT := Lh hft
  have EV := Lh (show doV vs ⟨(5 : Int), obj, ⟨tt, tw, mod, len, hav, fr, wh, er, keys, ten, keep⟩, .slice KA nk KC, bs, .slice UA nu uc, ⟨fo, ff, fto, mt, mw, nt, nw⟩, st, n⟩ = vs by simp [doV])
  have ES := Lh (show doS vs ss ⟨(5 : Int), obj, ⟨tt, tw, mod, len, hav, fr, wh, er, keys, ten, keep⟩, .slice KA nk KC, bs, .slice UA nu uc, ⟨fo, ff, fto, mt, mw, nt, nw⟩, st, n⟩ = ss ++ [askS vs ⟨fo, ff, fto, mt, mw, nt, nw⟩] by simp [doS, hft])
  rw [EV.out, ES.out] at hg'
  clear hft
  have GP : ∀ y : Grow [] W0.drew, y.v.cell? ⟨pb, 0, none⟩ = some (.pointer (some ⟨b, 0, none⟩)) := fun y => blk_cell (y.ext.heap (a := W0.drew) HPB.out (by simp)) 0
  have HD := Lh (H0.out.st.ext (Ext.drew (Ext.refl W0)))
  refine wp_region_segs [] [.inl [0, 1, 2, 3, 4, 5], .inr (.inl 6), .inl [7, 8, 9, 10, 11]] (by kernel_rfl) (by kernel_rfl) (fun c a d v w h => by cases d <;> exact h) ?_
  (rw [wpSegs_inl]; simp only [pickOps, mCc, mNn, gSs, gZz]; (repeat (go_big_quiet_step (fail))); (refine wpQuiet_get 29 _ rfl _ rfl ab 14 40 _ [.string ⟨fo.toArray⟩, .int .i64 ff, .int .i64 fto, .string ⟨mt.toArray⟩, .bool mw, .string ⟨nt.toArray⟩, .bool nw] rfl (fun W hW => by obtain ⟨y, rfl⟩ := hW; exact y.ext.heap (a := W0.drew) N0.out (by simp)) (by kernel_rfl) Try.underlying29 rfl size29r ?_; simp only [Act.put, sAa, sSs, sZz]); (repeat (go_big_quiet_step (fail))); refine wpQuiet_nil ?_)
  clear GP
  (rw [wpSegs_grow]; simp only [pickOps, mCc, mNn, gSs, gZz]; go_wp2_with ((go_at_call 15; refine (p_ask HD.out H0.out.good.wf ⟨fo, ff, fto, mt, mw, nt, nw⟩ HF.out HFT.out).mono ?_; rintro e w3 ⟨sb, rfl, h3, x3⟩; refine stop_of ?_)))
  unfold Stop
  go_wp2_with fail
  refine ⟨.of x3 _, ?_⟩
  have H3 := Lh h3
  have HPB3 := Lh (x3.heap (show W0.drew.heap[pb]? = _ from HPB.out)); have N3 := Lh (x3.heap (show W0.drew.heap[ab]? = _ from N0.out))
  have X3 := Lh ((Ext.refl W0).trans ((Ext.drew (Ext.refl W0)).trans x3))
  clear h3 x3 HD
  (rw [wpSegs_inl]; simp only [pickOps, mCc, mNn, gSs, gZz]; (repeat (go_big_quiet_step (fail))); refine wpQuiet_nil ?_)
  rw [wpSegs_nil]
  go_wp2_with fail
  have GP : ∀ y : Grow [] w3.drew, y.v.cell? ⟨pb, 1, none⟩ = some (.pointer (some ⟨x, 0, none⟩)) := fun y => blk_cell (y.ext.heap (a := w3.drew) HPB3.out (by simp)) 1
  have HD := Lh (H3.out.ext (Ext.drew (Ext.refl w3)))
  refine wp_region_segs [] [.inl [0, 1, 2, 3, 4, 5], .inr (.inl 6), .inl [7, 8, 9, 10, 11]] (by kernel_rfl) (by kernel_rfl) (fun c a d v w h => by cases d <;> exact h) ?_
  (rw [wpSegs_inl]; simp only [pickOps, mCc, mNn, gSs, gZz]; (repeat (go_big_quiet_step (fail))); (refine wpQuiet_get 29 _ rfl _ rfl ab 14 40 _ [.string ⟨fo.toArray⟩, .int .i64 ff, .int .i64 fto, .string ⟨mt.toArray⟩, .bool mw, .string ⟨nt.toArray⟩, .bool nw] rfl (fun W hW => by obtain ⟨y, rfl⟩ := hW; exact y.ext.heap (a := w3.drew) N3.out (by simp)) (by kernel_rfl) Try.underlying29 rfl size29r ?_; simp only [Act.put, sAa, sSs, sZz]); (repeat (go_big_quiet_step (fail))); refine wpQuiet_nil ?_)
  clear GP
  (rw [wpSegs_grow]; simp only [pickOps, mCc, mNn, gSs, gZz]; go_wp2_with ((go_at_call 50; refine (d_ask HD.out H0.out.good.wf ⟨fo, ff, fto, mt, mw, nt, nw⟩ HF.out HFT.out).mono ?_; rintro e w4 ⟨rb, rfl, h3, x3⟩; refine stop_of ?_)))
  unfold Stop
  go_wp2_with fail
  refine ⟨.of x3 _, ?_⟩
  have H4 := Lh h3
  have HPB4 := Lh (x3.heap (show w3.drew.heap[pb]? = _ from HPB3.out)); have N4 := Lh (x3.heap (show w3.drew.heap[ab]? = _ from N3.out))
  have X4 := Lh ((X3.out).trans ((Ext.drew (Ext.refl w3)).trans x3))
  clear h3 x3 HD
  (rw [wpSegs_inl]; simp only [pickOps, mCc, mNn, gSs, gZz]; (repeat (go_big_quiet_step (fail))); refine wpQuiet_nil ?_)
  rw [wpSegs_nil]
  go_wp2_with fail
  obtain ⟨S, hS⟩ : ∃ S, S = askS vs ⟨fo, ff, fto, mt, mw, nt, nw⟩ := ⟨_, rfl⟩
  rw [← hS] at hg' ES
  have HE := Lh ES.out
  have H5 := Lh (show Pl2 w0 w4 b x N (playL pb (.slice SA ss.length sc) (.slice RA ss.length rc) (fun g => g = ab ∨ Lx g)) vs (ss ++ [S]) (sa ++ [sb]) vs (ss ++ [S]) (ra ++ [rb]) hl from by rw [hS]; exact H4.out)
  clear hS ES H3 H4 HPB3 N3 HFT
  have RS := Lh (show w4.ownsRow w0.heap.size 45 1 (.slice SA nn sc) nn (sa.map ptrV) from by rw [HNN.out]; exact ownsRow_below H0.out.srow X4.out)
  have RR := Lh (show w4.ownsRow w0.heap.size 73 1 (.slice RA nn rc) nn (ra.map ptrV) from by rw [HNN.out]; exact ownsRow_below H0.out.rrow X4.out)
  obtain ⟨XS, hXS⟩ : ∃ XS, XS = (Value.slice SA nn sc).ownBlock.toList := ⟨_, rfl⟩
  obtain ⟨XR, hXR⟩ : ∃ XR, XR = (Value.slice RA nn rc).ownBlock.toList := ⟨_, rfl⟩
  have kS : ∀ y ∈ XS, kindOf w4 y = 45 := fun y hy => kind_row RS.out (by rw [hXS] at hy; simpa using hy)
  have kR : ∀ y ∈ XR, kindOf w4 y = 73 := fun y hy => kind_row RR.out (by rw [hXR] at hy; simpa using hy)
  have kP : kindOf w4 pb = 68 := kind_cells HPB4.out
  have hpb : pb ∉ XS ++ XR := fun hh => by
   rcases List.mem_append.1 hh with e | e
   ·rw [kS pb e] at kP; cases kP
   ·rw [kR pb e] at kP; cases kP
  have HXS := Lh hXS; have HXR := Lh hXR; have KS := Lh kS; have KR := Lh kR; have HPN := Lh hpb
  have hbase := Lh H5.out.base.size
  have hnn := Lh (show nn ≤ 10000 from by have := HKB.out; have := HNN.out; have := HK.out; omega)
  have G2 : ∀ y : Grow (XS ++ XR) w4.drew, y.v.cell? ⟨pb, 2, none⟩ = some (.slice SA nn sc) := fun y => blk_cell (y.ext.heap (a := w4.drew) HPB4.out HPN.out) 2
  have G3 : ∀ y : Grow (XS ++ XR) w4.drew, y.v.cell? ⟨pb, 3, none⟩ = some (.slice RA nn rc) := fun y => blk_cell (y.ext.heap (a := w4.drew) HPB4.out HPN.out) 3
  have E4 := Lh (show ExtB (XS ++ XR) w4 w4.drew from .of (Ext.drew (Ext.refl _)) _)
  have RSd := Lh (show w4.drew.ownsRow w0.heap.size 45 1 (.slice SA nn sc) nn (sa.map ptrV) from RS.out)
  have RRd := Lh (show w4.drew.ownsRow w0.heap.size 73 1 (.slice RA nn rc) nn (ra.map ptrV) from RR.out)
  clear hXS hXR kS kR kP hpb
  refine wp_region_trz (XS ++ XR) [1] [18, 21] (.pure [0, 2, 3, 4, 5, 6, 9, 10, 11, 12, 13] (.fork 7 (.fork 8 (.one 14 (.one 15 (.pure [16, 17] (.last 18 (.pure [19, 20] (.last 21 (.done))))))) 14 (.one 8 (.one 15 (.pure [16, 17] (.last 18 (.pure [19, 20] (.last 21 (.done)))))))) 14 (.one 7 (.one 8 (.one 15 (.pure [16, 17] (.last 18 (.pure [19, 20] (.last 21 (.done)))))))))) (by kernel_rfl) (by kernel_rfl) (fun c a d v w h => by cases d <;> exact h) ?_
  (simp only [pickOps, mCc, mNn, gSs, gZz]; (repeat (go_big_quiet_step (fail))); refine wpQuiet_nil ?_)
  (rw [wpTz_pure]; simp only [pickOps, mCc, mNn, gSs, gZz]; (repeat (go_big_quiet_step (fail))); refine wpQuiet_nil ?_)
  clear G2 G3
  rw [wpTz_fork]
  refine ⟨?_, ?_⟩
  ·(simp only [pickOps, mCc, mNn, gSs, gZz]; go_wp2_with fail)
   refine ⟨.of (ext_alloc1 _ _) _, ?_⟩
   have E5 := Lh (E4.out.trans (.of (ext_alloc1 w4.drew (.cells #[.pointer (some ⟨sb, 0, none⟩)] 45)) _))
   have RS5 := Lh (ownsRow_below RSd.out (ext_alloc1 w4.drew (.cells #[.pointer (some ⟨sb, 0, none⟩)] 45)))
   have RR5 := Lh (ownsRow_below RRd.out (ext_alloc1 w4.drew (.cells #[.pointer (some ⟨sb, 0, none⟩)] 45)))
   have Cs := Lh (show (w4.drew.alloc (.cells #[.pointer (some ⟨sb, 0, none⟩)] 45)).heap[w4.heap.size]? = some (.cells #[.pointer (some ⟨sb, 0, none⟩)] 45) from by have := heap_alloc_new w4.drew (.cells #[.pointer (some ⟨sb, 0, none⟩)] 45); simpa using this)
   rw [wpTz_fork]
   refine ⟨?_, ?_⟩
   ·(simp only [pickOps, mCc, mNn, gSs, gZz]; go_wp2_with (at_builtin; refine wpList_push1 65 45 Try.underlying65 info45 rfl _ _ rfl w0.heap.size SA nn sc sa sb w4.heap.size RS5.out Cs.out rfl rfl hnn.out (Nat.le_trans hbase.out E5.out.size) ?_; intro A6 c6 w6 r6 b6 l6; refine stop_of ?_))
    unfold Stop
    go_wp2_with fail
    have B6 := Lh (show ExtB (XS ++ XR) (w4.drew.alloc (.cells #[.pointer (some ⟨sb, 0, none⟩)] 45)) w6 from b6.mono fun y hy => List.mem_append_left _ (by rw [HXS.out]; exact hy))
    refine ⟨B6.out, ?_⟩
    have E6 := Lh (E5.out.trans B6.out)
    have L6 := Lh l6
    have RS6 := Lh r6
    have RR6 := Lh (own_extB RR5.out b6 (fun y hy e => by have h1 := kind_row RR5.out e; have h2 := kind_row RS5.out (show (Value.slice SA nn sc).ownBlock = some y by simpa using hy); rw [h1] at h2; cases h2))
    clear Cs r6 b6 l6
    (rw [wpTz_one]; simp only [pickOps, mCc, mNn, gSs, gZz]; go_wp2_with fail)
    refine ⟨.of (ext_alloc1 _ _) _, ?_⟩
    have E7 := Lh (E6.out.trans (.of (ext_alloc1 w6 (.cells #[.pointer (some ⟨rb, 0, none⟩)] 73)) _))
    have RS7 := Lh (ownsRow_below RS6.out (ext_alloc1 w6 (.cells #[.pointer (some ⟨rb, 0, none⟩)] 73)))
    have RR7 := Lh (ownsRow_below RR6.out (ext_alloc1 w6 (.cells #[.pointer (some ⟨rb, 0, none⟩)] 73)))
    have Cr := Lh (show (w6.alloc (.cells #[.pointer (some ⟨rb, 0, none⟩)] 73)).heap[w6.heap.size]? = some (.cells #[.pointer (some ⟨rb, 0, none⟩)] 73) from by have := heap_alloc_new w6 (.cells #[.pointer (some ⟨rb, 0, none⟩)] 73); simpa using this)
    (rw [wpTz_one]; simp only [pickOps, mCc, mNn, gSs, gZz]; go_wp2_with (at_builtin; refine wpList_push1 66 73 Try.underlying66 info73 rfl _ _ rfl w0.heap.size RA nn rc ra rb w6.heap.size RR7.out Cr.out rfl rfl hnn.out (Nat.le_trans hbase.out E7.out.size) ?_; intro A8 c8 w8 r8 b8 l8; refine stop_of ?_))
    unfold Stop
    go_wp2_with fail
    have B8 := Lh (show ExtB (XS ++ XR) (w6.alloc (.cells #[.pointer (some ⟨rb, 0, none⟩)] 73)) w8 from b8.mono fun y hy => List.mem_append_right _ (by rw [HXR.out]; exact hy))
    refine ⟨B8.out, ?_⟩
    have E8 := Lh (E7.out.trans B8.out)
    have L8 := Lh l8
    have RR8 := Lh r8
    have RS8 := Lh (own_extB RS7.out b8 (fun y hy e => by have h1 := kind_row RS7.out e; have h2 := kind_row RR7.out (show (Value.slice RA nn rc).ownBlock = some y by simpa using hy); rw [h1] at h2; cases h2))
    clear Cr r8 b8 l8
    (rw [wpTz_pure]; simp only [pickOps, mCc, mNn, gSs, gZz]; (repeat (go_big_quiet_step (fail))); refine wpQuiet_nil ?_)
    have P8 := Lh (E8.out.heap HPB4.out HPN.out)
    (rw [wpTz_last]; simp only [pickOps, mCc, mNn, gSs, gZz]; go_wp2_with (refine wpList_put 65 rfl _ _ rfl pb 2 68 _ #[ptrV b, ptrV x, .slice A6 (nn + 1) c6, .slice RA nn rc] [.slice A6 (nn + 1) c6] _ P8.out rfl rfl rfl (by simp) rfl size65 (by simp [putA]) ?_; intro wa xa na sz; refine stop_of ?_))
    unfold Stop
    have XA := Lh xa; have NA := Lh na
    clear xa na sz
    go_wp2_with fail
    (rw [wpTz_pure]; simp only [pickOps, mCc, mNn, gSs, gZz]; (repeat (go_big_quiet_step (fail))); refine wpQuiet_nil ?_)
    (rw [wpTz_last]; simp only [pickOps, mCc, mNn, gSs, gZz]; go_wp2_with (refine wpList_put 66 rfl _ _ rfl pb 3 68 _ #[ptrV b, ptrV x, .slice A6 (nn + 1) c6, .slice A8 (nn + 1) c8] [.slice A8 (nn + 1) c8] _ NA.out rfl rfl rfl (by simp) rfl size66 (by simp [putA]) ?_; intro wb xb nb sz; refine stop_of ?_))
    unfold Stop
    have XBB := Lh xb; have NB := Lh nb
    clear xb nb sz
    go_wp2_with fail
    rw [wpTz_done]
    have HEB := Lh (show ExtB (pb :: (XS ++ XR)) w4 wb from ((E8.out.mono fun y hy => List.mem_cons_of_mem _ hy).trans ((XA.out.mono fun y hy => by rw [show y = pb by simpa using hy]; exact List.mem_cons_self).trans (XBB.out.mono fun y hy => by rw [show y = pb by simpa using hy]; exact List.mem_cons_self))))
    have HP9 := Lh (show PlayX w0 wb pb b x (k + 1) N vs (ss ++ [S]) (sa ++ [sb]) (ra ++ [rb]) A6 c6 A8 c8 hl (fun g => g = ab ∨ Lx g) from by
     have h1 := HEB.out; have h2 := NB.out
     have h3 := own_extB (own_extB RS8.out XA.out (fun y hy e => by have h1 := kind_row RS8.out e; rw [show y = pb by simpa using hy, kind_cells P8.out] at h1; cases h1)) XBB.out (fun y hy e => by have h1 := kind_row RS8.out e; rw [show y = pb by simpa using hy, kind_cells P8.out] at h1; cases h1)
     have h4 := own_extB (own_extB RR8.out XA.out (fun y hy e => by have h1 := kind_row RR8.out e; rw [show y = pb by simpa using hy, kind_cells P8.out] at h1; cases h1)) XBB.out (fun y hy e => by have h1 := kind_row RR8.out e; rw [show y = pb by simpa using hy, kind_cells P8.out] at h1; cases h1)
     have h5 : ∀ y, (Value.slice A6 (nn + 1) c6).ownBlock = some y → (Value.slice SA nn sc).ownBlock = some y ∨ w4.heap.size ≤ y := fun y e => (L6.out y e).imp id fun h => Nat.le_trans E5.out.size h
     have h6 : ∀ y, (Value.slice A8 (nn + 1) c8).ownBlock = some y → (Value.slice RA nn rc).ownBlock = some y ∨ w4.heap.size ≤ y := fun y e => (L8.out y e).imp id fun h => Nat.le_trans E7.out.size h
     rw [HXS.out, HXR.out] at h1
     rw [HNN.out] at h1 h2 h3 h4 h5 h6
     exact (H0.out.ext X4.out).askd (Nat.le_refl _) H5.out h1 h2 h3 h4 h5 h6 hg'.out)
    have hl1 : sa.length = ss.length := by have := HP9.out.st.lens.1; simpa using this
    have hl2 : ra.length = ss.length := by have := HP9.out.st.lens.2; simpa using this
    have J1 := Lh (show (ss ++ [S])[ss.length]? = some S by simp)
    have J2 := Lh (show (sa ++ [sb])[ss.length]? = some sb by rw [← hl1]; simp)
    have J3 := Lh (show (ra ++ [rb])[ss.length]? = some rb by rw [← hl2]; simp)
    clear hl1 hl2
    obtain ⟨kv2, p2, q1, q2, q3⟩ := d_head HP9.out.st J1.out J3.out
    have Q1 := Lh q1; have Q2 := Lh q2; have Q3 := Lh q3
    clear q1 q2 q3
    have H10 := Lh (HP9.out.st.ext (Ext.drew (Ext.refl wb)))
    have QD := Lh (TextsAt.ext Q2.out (Ext.drew (Ext.refl wb)))
    go_wp2_with fail
    refine wp_region_segs [] [.inl [0, 2, 3, 4, 5], .inr (.inl 1), .inr (.inl 6), .inl [7, 8, 10], .inr (.inl 9), .inr (.inl 11), .inl [12, 13, 14]] (by kernel_rfl) (by kernel_rfl) (fun c a d v w h => by cases d <;> exact h) ?_
    (rw [wpSegs_inl]; simp only [pickOps, mCc, mNn, gSs, gZz]; (repeat (go_big_quiet_step (fail))); (refine wpQuiet_get 49 _ rfl _ rfl rb 0 77 _ (replyC S.st S.m kv2 S.fr S.to) rfl (fun W hW => by obtain ⟨y, rfl⟩ := hW; exact y.ext.heap (a := wb.drew) Q1.out (by simp)) (by kernel_rfl) Try.underlying49 rfl size49 ?_; simp only [Act.put, sAa, sSs, sZz]); (repeat (go_big_quiet_step (fail))); refine wpQuiet_nil ?_)
    (rw [wpSegs_grow]; simp only [pickOps, mCc, mNn, gSs, gZz]; go_wp2_with ((go_at_call 16; refine (p_head H10.out J1.out J2.out).mono ?_; rintro e wc ⟨kv1, rfl, r10, h10, x10⟩; refine stop_of ?_)))
    unfold Stop
    have H11 := Lh h10; have R11 := Lh (SRow.texts r10); have XX11 := Lh ((Ext.drew (Ext.refl wb)).trans x10); have Q11 := Lh (TextsAt.ext QD.out x10)
    go_wp2_with fail
    refine ⟨.of x10 _, ?_⟩
    clear r10 h10 x10 QD H10
    (rw [wpSegs_grow]; simp only [pickOps, mCc, mNn, gSs, gZz]; go_wp2_with ((go_at_call 32; refine (ralike_eq S.st S.fr S.to S.m kv1 kv2 _ (by have := Q3.out.keys; omega) R11.out Q11.out).mono ?_; rintro e wd ⟨rfl, x11⟩; refine stop_of ?_)))
    unfold Stop
    have H12 := Lh (H11.out.ext x11); have XX12 := Lh (XX11.out.trans x11)
    go_wp2_with fail
    refine ⟨.of x11 _, ?_⟩
    clear x11 H11 XX11 Q11 R11
    (rw [wpSegs_inl]; simp only [pickOps, mCc, mNn, gSs, gZz]; (repeat (go_big_quiet_step (fail))); refine wpQuiet_nil ?_)
    (rw [wpSegs_grow]; simp only [pickOps, mCc, mNn, gSs, gZz]; go_wp2_with ((go_at_call 30; refine (p_has H12.out J1.out J2.out).mono ?_; rintro e we ⟨rfl, h13, x13⟩; refine stop_of ?_)))
    unfold Stop
    have H13 := Lh h13; have XX13 := Lh (XX12.out.trans x13)
    go_wp2_with fail
    refine ⟨.of x13 _, ?_⟩
    clear x13 h13 H12 XX12
    (rw [wpSegs_grow]; simp only [pickOps, mCc, mNn, gSs, gZz]; go_wp2_with ((go_at_call 31; refine (d_has H13.out J1.out J3.out).mono ?_; rintro e wf ⟨rfl, h14, x14⟩; refine stop_of ?_)))
    unfold Stop
    have XX14 := Lh (XX13.out.trans x14)
    go_wp2_with fail
    refine ⟨.of x14 _, ?_⟩
    clear x14 h14 H13 XX13
    (rw [wpSegs_inl]; simp only [pickOps, mCc, mNn, gSs, gZz]; (repeat (go_big_quiet_step (fail))); refine wpQuiet_nil ?_)
    rw [wpSegs_nil]
    go_wp2
    go_ret
    rw [EV.out, HE.out]
    refine ⟨rfl, ⟨_, _, _, _, _, _, _, (HP9.out.ext XX14.out).less fun g hg => .inr hg⟩, fun g hg => ?_⟩
    have g0 := HP.out.lt g hg
    have x04 := X0.out.trans X4.out
    have g4 : g < w4.heap.size := Nat.lt_of_lt_of_le g0 x04.size
    refine (XX14.out.block g (Nat.lt_of_lt_of_le g4 HEB.out.size)).trans ((HEB.out.block g g4 fun hh => ?_).trans (x04.block g g0))
    rcases List.mem_cons.1 hh with e | e
    ·exact HP.out.nb (e ▸ hg)
    ·rcases List.mem_append.1 e with e | e
     ·rw [HXS.out, HNN.out] at e; exact HP.out.ns g (by simpa using e) hg
     ·rw [HXR.out, HNN.out] at e; exact HP.out.nr g (by simpa using e) hg
   ·(simp only [pickOps, mCc, mNn, gSs, gZz]; go_wp2_with fail)
    refine ⟨.of (ext_alloc1 _ _) _, ?_⟩
    have E6 := Lh (E5.out.trans (.of (ext_alloc1 (w4.drew.alloc (.cells #[.pointer (some ⟨sb, 0, none⟩)] 45)) (.cells #[.pointer (some ⟨rb, 0, none⟩)] 73)) _))
    have RS6 := Lh (ownsRow_below RS5.out (ext_alloc1 (w4.drew.alloc (.cells #[.pointer (some ⟨sb, 0, none⟩)] 45)) (.cells #[.pointer (some ⟨rb, 0, none⟩)] 73)))
    have RR6 := Lh (ownsRow_below RR5.out (ext_alloc1 (w4.drew.alloc (.cells #[.pointer (some ⟨sb, 0, none⟩)] 45)) (.cells #[.pointer (some ⟨rb, 0, none⟩)] 73)))
    have Cs := Lh ((ext_alloc1 (w4.drew.alloc (.cells #[.pointer (some ⟨sb, 0, none⟩)] 45)) (.cells #[.pointer (some ⟨rb, 0, none⟩)] 73)).heap Cs.out)
    have Cr := Lh (show ((w4.drew.alloc (.cells #[.pointer (some ⟨sb, 0, none⟩)] 45)).alloc (.cells #[.pointer (some ⟨rb, 0, none⟩)] 73)).heap[(w4.heap.size + 1)]? = some (.cells #[.pointer (some ⟨rb, 0, none⟩)] 73) from by have := heap_alloc_new (w4.drew.alloc (.cells #[.pointer (some ⟨sb, 0, none⟩)] 45)) (.cells #[.pointer (some ⟨rb, 0, none⟩)] 73); simpa using this)
    (rw [wpTz_one]; simp only [pickOps, mCc, mNn, gSs, gZz]; go_wp2_with (at_builtin; refine wpList_push1 65 45 Try.underlying65 info45 rfl _ _ rfl w0.heap.size SA nn sc sa sb w4.heap.size RS6.out Cs.out rfl rfl hnn.out (Nat.le_trans hbase.out E6.out.size) ?_; intro A7 c7 w7 r7 b7 l7; refine stop_of ?_))
    unfold Stop
    go_wp2_with fail
    have B7 := Lh (show ExtB (XS ++ XR) ((w4.drew.alloc (.cells #[.pointer (some ⟨sb, 0, none⟩)] 45)).alloc (.cells #[.pointer (some ⟨rb, 0, none⟩)] 73)) w7 from b7.mono fun y hy => List.mem_append_left _ (by rw [HXS.out]; exact hy))
    refine ⟨B7.out, ?_⟩
    have E7 := Lh (E6.out.trans B7.out)
    have L7 := Lh l7
    have RS7 := Lh r7
    have RR7 := Lh (own_extB RR6.out b7 (fun y hy e => by have h1 := kind_row RR6.out e; have h2 := kind_row RS6.out (show (Value.slice SA nn sc).ownBlock = some y by simpa using hy); rw [h1] at h2; cases h2))
    have Cr := Lh (b7.heap Cr.out (fun hh => by have h2 := (RS.out.lt _ (show (Value.slice SA nn sc).ownBlock = some ((w4.heap.size + 1)) by simpa using hh)).2; omega))
    clear Cs r7 b7 l7
    (rw [wpTz_one]; simp only [pickOps, mCc, mNn, gSs, gZz]; go_wp2_with (at_builtin; refine wpList_push1 66 73 Try.underlying66 info73 rfl _ _ rfl w0.heap.size RA nn rc ra rb (w4.heap.size + 1) RR7.out Cr.out rfl rfl hnn.out (Nat.le_trans hbase.out E7.out.size) ?_; intro A8 c8 w8 r8 b8 l8; refine stop_of ?_))
    unfold Stop
    go_wp2_with fail
    have B8 := Lh (show ExtB (XS ++ XR) w7 w8 from b8.mono fun y hy => List.mem_append_right _ (by rw [HXR.out]; exact hy))
    refine ⟨B8.out, ?_⟩
    have E8 := Lh (E7.out.trans B8.out)
    have L8 := Lh l8
    have RR8 := Lh r8
    have RS8 := Lh (own_extB RS7.out b8 (fun y hy e => by have h1 := kind_row RS7.out e; have h2 := kind_row RR7.out (show (Value.slice RA nn rc).ownBlock = some y by simpa using hy); rw [h1] at h2; cases h2))
    clear Cr r8 b8 l8
    (rw [wpTz_pure]; simp only [pickOps, mCc, mNn, gSs, gZz]; (repeat (go_big_quiet_step (fail))); refine wpQuiet_nil ?_)
    have P8 := Lh (E8.out.heap HPB4.out HPN.out)
    (rw [wpTz_last]; simp only [pickOps, mCc, mNn, gSs, gZz]; go_wp2_with (refine wpList_put 65 rfl _ _ rfl pb 2 68 _ #[ptrV b, ptrV x, .slice A7 (nn + 1) c7, .slice RA nn rc] [.slice A7 (nn + 1) c7] _ P8.out rfl rfl rfl (by simp) rfl size65 (by simp [putA]) ?_; intro wa xa na sz; refine stop_of ?_))
    unfold Stop
    have XA := Lh xa; have NA := Lh na
    clear xa na sz
    go_wp2_with fail
    (rw [wpTz_pure]; simp only [pickOps, mCc, mNn, gSs, gZz]; (repeat (go_big_quiet_step (fail))); refine wpQuiet_nil ?_)
    (rw [wpTz_last]; simp only [pickOps, mCc, mNn, gSs, gZz]; go_wp2_with (refine wpList_put 66 rfl _ _ rfl pb 3 68 _ #[ptrV b, ptrV x, .slice A7 (nn + 1) c7, .slice A8 (nn + 1) c8] [.slice A8 (nn + 1) c8] _ NA.out rfl rfl rfl (by simp) rfl size66 (by simp [putA]) ?_; intro wb xb nb sz; refine stop_of ?_))
    unfold Stop
    have XBB := Lh xb; have NB := Lh nb
    clear xb nb sz
    go_wp2_with fail
    rw [wpTz_done]
    have HEB := Lh (show ExtB (pb :: (XS ++ XR)) w4 wb from ((E8.out.mono fun y hy => List.mem_cons_of_mem _ hy).trans ((XA.out.mono fun y hy => by rw [show y = pb by simpa using hy]; exact List.mem_cons_self).trans (XBB.out.mono fun y hy => by rw [show y = pb by simpa using hy]; exact List.mem_cons_self))))
    have HP9 := Lh (show PlayX w0 wb pb b x (k + 1) N vs (ss ++ [S]) (sa ++ [sb]) (ra ++ [rb]) A7 c7 A8 c8 hl (fun g => g = ab ∨ Lx g) from by
     have h1 := HEB.out; have h2 := NB.out
     have h3 := own_extB (own_extB RS8.out XA.out (fun y hy e => by have h1 := kind_row RS8.out e; rw [show y = pb by simpa using hy, kind_cells P8.out] at h1; cases h1)) XBB.out (fun y hy e => by have h1 := kind_row RS8.out e; rw [show y = pb by simpa using hy, kind_cells P8.out] at h1; cases h1)
     have h4 := own_extB (own_extB RR8.out XA.out (fun y hy e => by have h1 := kind_row RR8.out e; rw [show y = pb by simpa using hy, kind_cells P8.out] at h1; cases h1)) XBB.out (fun y hy e => by have h1 := kind_row RR8.out e; rw [show y = pb by simpa using hy, kind_cells P8.out] at h1; cases h1)
     have h5 : ∀ y, (Value.slice A7 (nn + 1) c7).ownBlock = some y → (Value.slice SA nn sc).ownBlock = some y ∨ w4.heap.size ≤ y := fun y e => (L7.out y e).imp id fun h => Nat.le_trans E6.out.size h
     have h6 : ∀ y, (Value.slice A8 (nn + 1) c8).ownBlock = some y → (Value.slice RA nn rc).ownBlock = some y ∨ w4.heap.size ≤ y := fun y e => (L8.out y e).imp id fun h => Nat.le_trans E7.out.size h
     rw [HXS.out, HXR.out] at h1
     rw [HNN.out] at h1 h2 h3 h4 h5 h6
     exact (H0.out.ext X4.out).askd (Nat.le_refl _) H5.out h1 h2 h3 h4 h5 h6 hg'.out)
    have hl1 : sa.length = ss.length := by have := HP9.out.st.lens.1; simpa using this
    have hl2 : ra.length = ss.length := by have := HP9.out.st.lens.2; simpa using this
    have J1 := Lh (show (ss ++ [S])[ss.length]? = some S by simp)
    have J2 := Lh (show (sa ++ [sb])[ss.length]? = some sb by rw [← hl1]; simp)
    have J3 := Lh (show (ra ++ [rb])[ss.length]? = some rb by rw [← hl2]; simp)
    clear hl1 hl2
    obtain ⟨kv2, p2, q1, q2, q3⟩ := d_head HP9.out.st J1.out J3.out
    have Q1 := Lh q1; have Q2 := Lh q2; have Q3 := Lh q3
    clear q1 q2 q3
    have H10 := Lh (HP9.out.st.ext (Ext.drew (Ext.refl wb)))
    have QD := Lh (TextsAt.ext Q2.out (Ext.drew (Ext.refl wb)))
    go_wp2_with fail
    refine wp_region_segs [] [.inl [0, 2, 3, 4, 5], .inr (.inl 1), .inr (.inl 6), .inl [7, 8, 10], .inr (.inl 9), .inr (.inl 11), .inl [12, 13, 14]] (by kernel_rfl) (by kernel_rfl) (fun c a d v w h => by cases d <;> exact h) ?_
    (rw [wpSegs_inl]; simp only [pickOps, mCc, mNn, gSs, gZz]; (repeat (go_big_quiet_step (fail))); (refine wpQuiet_get 49 _ rfl _ rfl rb 0 77 _ (replyC S.st S.m kv2 S.fr S.to) rfl (fun W hW => by obtain ⟨y, rfl⟩ := hW; exact y.ext.heap (a := wb.drew) Q1.out (by simp)) (by kernel_rfl) Try.underlying49 rfl size49 ?_; simp only [Act.put, sAa, sSs, sZz]); (repeat (go_big_quiet_step (fail))); refine wpQuiet_nil ?_)
    (rw [wpSegs_grow]; simp only [pickOps, mCc, mNn, gSs, gZz]; go_wp2_with ((go_at_call 16; refine (p_head H10.out J1.out J2.out).mono ?_; rintro e wc ⟨kv1, rfl, r10, h10, x10⟩; refine stop_of ?_)))
    unfold Stop
    have H11 := Lh h10; have R11 := Lh (SRow.texts r10); have XX11 := Lh ((Ext.drew (Ext.refl wb)).trans x10); have Q11 := Lh (TextsAt.ext QD.out x10)
    go_wp2_with fail
    refine ⟨.of x10 _, ?_⟩
    clear r10 h10 x10 QD H10
    (rw [wpSegs_grow]; simp only [pickOps, mCc, mNn, gSs, gZz]; go_wp2_with ((go_at_call 32; refine (ralike_eq S.st S.fr S.to S.m kv1 kv2 _ (by have := Q3.out.keys; omega) R11.out Q11.out).mono ?_; rintro e wd ⟨rfl, x11⟩; refine stop_of ?_)))
    unfold Stop
    have H12 := Lh (H11.out.ext x11); have XX12 := Lh (XX11.out.trans x11)
    go_wp2_with fail
    refine ⟨.of x11 _, ?_⟩
    clear x11 H11 XX11 Q11 R11
    (rw [wpSegs_inl]; simp only [pickOps, mCc, mNn, gSs, gZz]; (repeat (go_big_quiet_step (fail))); refine wpQuiet_nil ?_)
    (rw [wpSegs_grow]; simp only [pickOps, mCc, mNn, gSs, gZz]; go_wp2_with ((go_at_call 30; refine (p_has H12.out J1.out J2.out).mono ?_; rintro e we ⟨rfl, h13, x13⟩; refine stop_of ?_)))
    unfold Stop
    have H13 := Lh h13; have XX13 := Lh (XX12.out.trans x13)
    go_wp2_with fail
    refine ⟨.of x13 _, ?_⟩
    clear x13 h13 H12 XX12
    (rw [wpSegs_grow]; simp only [pickOps, mCc, mNn, gSs, gZz]; go_wp2_with ((go_at_call 31; refine (d_has H13.out J1.out J3.out).mono ?_; rintro e wf ⟨rfl, h14, x14⟩; refine stop_of ?_)))
    unfold Stop
    have XX14 := Lh (XX13.out.trans x14)
    go_wp2_with fail
    refine ⟨.of x14 _, ?_⟩
    clear x14 h14 H13 XX13
    (rw [wpSegs_inl]; simp only [pickOps, mCc, mNn, gSs, gZz]; (repeat (go_big_quiet_step (fail))); refine wpQuiet_nil ?_)
    rw [wpSegs_nil]
    go_wp2
    go_ret
    rw [EV.out, HE.out]
    refine ⟨rfl, ⟨_, _, _, _, _, _, _, (HP9.out.ext XX14.out).less fun g hg => .inr hg⟩, fun g hg => ?_⟩
    have g0 := HP.out.lt g hg
    have x04 := X0.out.trans X4.out
    have g4 : g < w4.heap.size := Nat.lt_of_lt_of_le g0 x04.size
    refine (XX14.out.block g (Nat.lt_of_lt_of_le g4 HEB.out.size)).trans ((HEB.out.block g g4 fun hh => ?_).trans (x04.block g g0))
    rcases List.mem_cons.1 hh with e | e
    ·exact HP.out.nb (e ▸ hg)
    ·rcases List.mem_append.1 e with e | e
     ·rw [HXS.out, HNN.out] at e; exact HP.out.ns g (by simpa using e) hg
     ·rw [HXR.out, HNN.out] at e; exact HP.out.nr g (by simpa using e) hg
  ·(simp only [pickOps, mCc, mNn, gSs, gZz]; go_wp2_with fail)
   refine ⟨.of (ext_alloc1 _ _) _, ?_⟩
   have E5 := Lh (E4.out.trans (.of (ext_alloc1 w4.drew (.cells #[.pointer (some ⟨rb, 0, none⟩)] 73)) _))
   have RS5 := Lh (ownsRow_below RSd.out (ext_alloc1 w4.drew (.cells #[.pointer (some ⟨rb, 0, none⟩)] 73)))
   have RR5 := Lh (ownsRow_below RRd.out (ext_alloc1 w4.drew (.cells #[.pointer (some ⟨rb, 0, none⟩)] 73)))
   have Cr := Lh (show (w4.drew.alloc (.cells #[.pointer (some ⟨rb, 0, none⟩)] 73)).heap[w4.heap.size]? = some (.cells #[.pointer (some ⟨rb, 0, none⟩)] 73) from by have := heap_alloc_new w4.drew (.cells #[.pointer (some ⟨rb, 0, none⟩)] 73); simpa using this)
   (rw [wpTz_one]; simp only [pickOps, mCc, mNn, gSs, gZz]; go_wp2_with fail)
   refine ⟨.of (ext_alloc1 _ _) _, ?_⟩
   have E6 := Lh (E5.out.trans (.of (ext_alloc1 (w4.drew.alloc (.cells #[.pointer (some ⟨rb, 0, none⟩)] 73)) (.cells #[.pointer (some ⟨sb, 0, none⟩)] 45)) _))
   have RS6 := Lh (ownsRow_below RS5.out (ext_alloc1 (w4.drew.alloc (.cells #[.pointer (some ⟨rb, 0, none⟩)] 73)) (.cells #[.pointer (some ⟨sb, 0, none⟩)] 45)))
   have RR6 := Lh (ownsRow_below RR5.out (ext_alloc1 (w4.drew.alloc (.cells #[.pointer (some ⟨rb, 0, none⟩)] 73)) (.cells #[.pointer (some ⟨sb, 0, none⟩)] 45)))
   have Cr := Lh ((ext_alloc1 (w4.drew.alloc (.cells #[.pointer (some ⟨rb, 0, none⟩)] 73)) (.cells #[.pointer (some ⟨sb, 0, none⟩)] 45)).heap Cr.out)
   have Cs := Lh (show ((w4.drew.alloc (.cells #[.pointer (some ⟨rb, 0, none⟩)] 73)).alloc (.cells #[.pointer (some ⟨sb, 0, none⟩)] 45)).heap[(w4.heap.size + 1)]? = some (.cells #[.pointer (some ⟨sb, 0, none⟩)] 45) from by have := heap_alloc_new (w4.drew.alloc (.cells #[.pointer (some ⟨rb, 0, none⟩)] 73)) (.cells #[.pointer (some ⟨sb, 0, none⟩)] 45); simpa using this)
   (rw [wpTz_one]; simp only [pickOps, mCc, mNn, gSs, gZz]; go_wp2_with (at_builtin; refine wpList_push1 65 45 Try.underlying65 info45 rfl _ _ rfl w0.heap.size SA nn sc sa sb (w4.heap.size + 1) RS6.out Cs.out rfl rfl hnn.out (Nat.le_trans hbase.out E6.out.size) ?_; intro A7 c7 w7 r7 b7 l7; refine stop_of ?_))
   unfold Stop
   go_wp2_with fail
   have B7 := Lh (show ExtB (XS ++ XR) ((w4.drew.alloc (.cells #[.pointer (some ⟨rb, 0, none⟩)] 73)).alloc (.cells #[.pointer (some ⟨sb, 0, none⟩)] 45)) w7 from b7.mono fun y hy => List.mem_append_left _ (by rw [HXS.out]; exact hy))
   refine ⟨B7.out, ?_⟩
   have E7 := Lh (E6.out.trans B7.out)
   have L7 := Lh l7
   have RS7 := Lh r7
   have RR7 := Lh (own_extB RR6.out b7 (fun y hy e => by have h1 := kind_row RR6.out e; have h2 := kind_row RS6.out (show (Value.slice SA nn sc).ownBlock = some y by simpa using hy); rw [h1] at h2; cases h2))
   have Cr := Lh (b7.heap Cr.out (fun hh => by have h2 := (RS.out.lt _ (show (Value.slice SA nn sc).ownBlock = some (w4.heap.size) by simpa using hh)).2; omega))
   clear Cs r7 b7 l7
   (rw [wpTz_one]; simp only [pickOps, mCc, mNn, gSs, gZz]; go_wp2_with (at_builtin; refine wpList_push1 66 73 Try.underlying66 info73 rfl _ _ rfl w0.heap.size RA nn rc ra rb w4.heap.size RR7.out Cr.out rfl rfl hnn.out (Nat.le_trans hbase.out E7.out.size) ?_; intro A8 c8 w8 r8 b8 l8; refine stop_of ?_))
   unfold Stop
   go_wp2_with fail
   have B8 := Lh (show ExtB (XS ++ XR) w7 w8 from b8.mono fun y hy => List.mem_append_right _ (by rw [HXR.out]; exact hy))
   refine ⟨B8.out, ?_⟩
   have E8 := Lh (E7.out.trans B8.out)
   have L8 := Lh l8
   have RR8 := Lh r8
   have RS8 := Lh (own_extB RS7.out b8 (fun y hy e => by have h1 := kind_row RS7.out e; have h2 := kind_row RR7.out (show (Value.slice RA nn rc).ownBlock = some y by simpa using hy); rw [h1] at h2; cases h2))
   clear Cr r8 b8 l8
   (rw [wpTz_pure]; simp only [pickOps, mCc, mNn, gSs, gZz]; (repeat (go_big_quiet_step (fail))); refine wpQuiet_nil ?_)
   have P8 := Lh (E8.out.heap HPB4.out HPN.out)
   (rw [wpTz_last]; simp only [pickOps, mCc, mNn, gSs, gZz]; go_wp2_with (refine wpList_put 65 rfl _ _ rfl pb 2 68 _ #[ptrV b, ptrV x, .slice A7 (nn + 1) c7, .slice RA nn rc] [.slice A7 (nn + 1) c7] _ P8.out rfl rfl rfl (by simp) rfl size65 (by simp [putA]) ?_; intro wa xa na sz; refine stop_of ?_))
   unfold Stop
   have XA := Lh xa; have NA := Lh na
   clear xa na sz
   go_wp2_with fail
   (rw [wpTz_pure]; simp only [pickOps, mCc, mNn, gSs, gZz]; (repeat (go_big_quiet_step (fail))); refine wpQuiet_nil ?_)
   (rw [wpTz_last]; simp only [pickOps, mCc, mNn, gSs, gZz]; go_wp2_with (refine wpList_put 66 rfl _ _ rfl pb 3 68 _ #[ptrV b, ptrV x, .slice A7 (nn + 1) c7, .slice A8 (nn + 1) c8] [.slice A8 (nn + 1) c8] _ NA.out rfl rfl rfl (by simp) rfl size66 (by simp [putA]) ?_; intro wb xb nb sz; refine stop_of ?_))
   unfold Stop
   have XBB := Lh xb; have NB := Lh nb
   clear xb nb sz
   go_wp2_with fail
   rw [wpTz_done]
   have HEB := Lh (show ExtB (pb :: (XS ++ XR)) w4 wb from ((E8.out.mono fun y hy => List.mem_cons_of_mem _ hy).trans ((XA.out.mono fun y hy => by rw [show y = pb by simpa using hy]; exact List.mem_cons_self).trans (XBB.out.mono fun y hy => by rw [show y = pb by simpa using hy]; exact List.mem_cons_self))))
   have HP9 := Lh (show PlayX w0 wb pb b x (k + 1) N vs (ss ++ [S]) (sa ++ [sb]) (ra ++ [rb]) A7 c7 A8 c8 hl (fun g => g = ab ∨ Lx g) from by
    have h1 := HEB.out; have h2 := NB.out
    have h3 := own_extB (own_extB RS8.out XA.out (fun y hy e => by have h1 := kind_row RS8.out e; rw [show y = pb by simpa using hy, kind_cells P8.out] at h1; cases h1)) XBB.out (fun y hy e => by have h1 := kind_row RS8.out e; rw [show y = pb by simpa using hy, kind_cells P8.out] at h1; cases h1)
    have h4 := own_extB (own_extB RR8.out XA.out (fun y hy e => by have h1 := kind_row RR8.out e; rw [show y = pb by simpa using hy, kind_cells P8.out] at h1; cases h1)) XBB.out (fun y hy e => by have h1 := kind_row RR8.out e; rw [show y = pb by simpa using hy, kind_cells P8.out] at h1; cases h1)
    have h5 : ∀ y, (Value.slice A7 (nn + 1) c7).ownBlock = some y → (Value.slice SA nn sc).ownBlock = some y ∨ w4.heap.size ≤ y := fun y e => (L7.out y e).imp id fun h => Nat.le_trans E6.out.size h
    have h6 : ∀ y, (Value.slice A8 (nn + 1) c8).ownBlock = some y → (Value.slice RA nn rc).ownBlock = some y ∨ w4.heap.size ≤ y := fun y e => (L8.out y e).imp id fun h => Nat.le_trans E7.out.size h
    rw [HXS.out, HXR.out] at h1
    rw [HNN.out] at h1 h2 h3 h4 h5 h6
    exact (H0.out.ext X4.out).askd (Nat.le_refl _) H5.out h1 h2 h3 h4 h5 h6 hg'.out)
   have hl1 : sa.length = ss.length := by have := HP9.out.st.lens.1; simpa using this
   have hl2 : ra.length = ss.length := by have := HP9.out.st.lens.2; simpa using this
   have J1 := Lh (show (ss ++ [S])[ss.length]? = some S by simp)
   have J2 := Lh (show (sa ++ [sb])[ss.length]? = some sb by rw [← hl1]; simp)
   have J3 := Lh (show (ra ++ [rb])[ss.length]? = some rb by rw [← hl2]; simp)
   clear hl1 hl2
   obtain ⟨kv2, p2, q1, q2, q3⟩ := d_head HP9.out.st J1.out J3.out
   have Q1 := Lh q1; have Q2 := Lh q2; have Q3 := Lh q3
   clear q1 q2 q3
   have H10 := Lh (HP9.out.st.ext (Ext.drew (Ext.refl wb)))
   have QD := Lh (TextsAt.ext Q2.out (Ext.drew (Ext.refl wb)))
   go_wp2_with fail
   refine wp_region_segs [] [.inl [0, 2, 3, 4, 5], .inr (.inl 1), .inr (.inl 6), .inl [7, 8, 10], .inr (.inl 9), .inr (.inl 11), .inl [12, 13, 14]] (by kernel_rfl) (by kernel_rfl) (fun c a d v w h => by cases d <;> exact h) ?_
   (rw [wpSegs_inl]; simp only [pickOps, mCc, mNn, gSs, gZz]; (repeat (go_big_quiet_step (fail))); (refine wpQuiet_get 49 _ rfl _ rfl rb 0 77 _ (replyC S.st S.m kv2 S.fr S.to) rfl (fun W hW => by obtain ⟨y, rfl⟩ := hW; exact y.ext.heap (a := wb.drew) Q1.out (by simp)) (by kernel_rfl) Try.underlying49 rfl size49 ?_; simp only [Act.put, sAa, sSs, sZz]); (repeat (go_big_quiet_step (fail))); refine wpQuiet_nil ?_)
   (rw [wpSegs_grow]; simp only [pickOps, mCc, mNn, gSs, gZz]; go_wp2_with ((go_at_call 16; refine (p_head H10.out J1.out J2.out).mono ?_; rintro e wc ⟨kv1, rfl, r10, h10, x10⟩; refine stop_of ?_)))
   unfold Stop
   have H11 := Lh h10; have R11 := Lh (SRow.texts r10); have XX11 := Lh ((Ext.drew (Ext.refl wb)).trans x10); have Q11 := Lh (TextsAt.ext QD.out x10)
   go_wp2_with fail
   refine ⟨.of x10 _, ?_⟩
   clear r10 h10 x10 QD H10
   (rw [wpSegs_grow]; simp only [pickOps, mCc, mNn, gSs, gZz]; go_wp2_with ((go_at_call 32; refine (ralike_eq S.st S.fr S.to S.m kv1 kv2 _ (by have := Q3.out.keys; omega) R11.out Q11.out).mono ?_; rintro e wd ⟨rfl, x11⟩; refine stop_of ?_)))
   unfold Stop
   have H12 := Lh (H11.out.ext x11); have XX12 := Lh (XX11.out.trans x11)
   go_wp2_with fail
   refine ⟨.of x11 _, ?_⟩
   clear x11 H11 XX11 Q11 R11
   (rw [wpSegs_inl]; simp only [pickOps, mCc, mNn, gSs, gZz]; (repeat (go_big_quiet_step (fail))); refine wpQuiet_nil ?_)
   (rw [wpSegs_grow]; simp only [pickOps, mCc, mNn, gSs, gZz]; go_wp2_with ((go_at_call 30; refine (p_has H12.out J1.out J2.out).mono ?_; rintro e we ⟨rfl, h13, x13⟩; refine stop_of ?_)))
   unfold Stop
   have H13 := Lh h13; have XX13 := Lh (XX12.out.trans x13)
   go_wp2_with fail
   refine ⟨.of x13 _, ?_⟩
   clear x13 h13 H12 XX12
   (rw [wpSegs_grow]; simp only [pickOps, mCc, mNn, gSs, gZz]; go_wp2_with ((go_at_call 31; refine (d_has H13.out J1.out J3.out).mono ?_; rintro e wf ⟨rfl, h14, x14⟩; refine stop_of ?_)))
   unfold Stop
   have XX14 := Lh (XX13.out.trans x14)
   go_wp2_with fail
   refine ⟨.of x14 _, ?_⟩
   clear x14 h14 H13 XX13
   (rw [wpSegs_inl]; simp only [pickOps, mCc, mNn, gSs, gZz]; (repeat (go_big_quiet_step (fail))); refine wpQuiet_nil ?_)
   rw [wpSegs_nil]
   go_wp2
   go_ret
   rw [EV.out, HE.out]
   refine ⟨rfl, ⟨_, _, _, _, _, _, _, (HP9.out.ext XX14.out).less fun g hg => .inr hg⟩, fun g hg => ?_⟩
   have g0 := HP.out.lt g hg
   have x04 := X0.out.trans X4.out
   have g4 : g < w4.heap.size := Nat.lt_of_lt_of_le g0 x04.size
   refine (XX14.out.block g (Nat.lt_of_lt_of_le g4 HEB.out.size)).trans ((HEB.out.block g g4 fun hh => ?_).trans (x04.block g g0))
   rcases List.mem_cons.1 hh with e | e
   ·exact HP.out.nb (e ▸ hg)
   ·rcases List.mem_append.1 e with e | e
    ·rw [HXS.out, HNN.out] at e; exact HP.out.ns g (by simpa using e) hg
    ·rw [HXR.out, HNN.out] at e; exact HP.out.nr g (by simpa using e) hg
end
end Go.Proofs.Ytpangoddbfiagaa
namespace Go.Proofs.Ytpangoddbfiagaa
open Go.RowKit Go.Maps Go.ChangeMaps
set_option linter.unusedVariables false
set_option linter.unusedSimpArgs false
def keepP (L : Nat → Prop) : Keep := ⟨KeepP L, KeepP.refl L, fun _ _ _ h k => h.trans k⟩
theorem row_ptr {w : World} {base : Nat} {e : TypeId} {A : Option Addr} {n c : Nat} {bs : List Nat} (h : w.ownsRow base e 1 (.slice A n c) n (bs.map ptrV)) {j q : Nat} (hq : bs[j]? = some q) (hj : j < n) : ∃ g, A = some ⟨g, 0, none⟩ ∧ w.cell? ⟨g, j, none⟩ = some (ptrV q) ∧ g < w.heap.size := by
 have hl : (bs.map ptrV).length = n := by have := h.1; simpa using this
 rcases h.2 with ⟨e, h0⟩ | ⟨ab, cap, cur, e, _⟩
 ·omega
 ·have hA : A = some ⟨ab, 0, none⟩ := by injection e
  subst hA
  refine ⟨ab, rfl, ?_, (h.lt ab rfl).2⟩
  rw [World.ownsRow.cellAt h j (by omega)]
  simp [hq]
section
variable {w0 w : World} {pb b x k : Nat} {Lx : Nat → Prop} {vs : List Vn} {ss : List Sn} {hl : List (Value × Bs)}
set_option maxRecDepth 100000 in
set_option maxHeartbeats 4000000 in
theorem do_k6 (h : Play w0 w pb b x k vs ss hl Lx) (hk : k ≤ 1000) {obj tt ten bs fo mt nt : Bs} {tw keep mw nw : Bool} {mod len hav fr wh er ff fto n : Int} {keys : List Bs} {kv bv : Value} {st : Nat} (ha : ActAt w0 ⟨6, obj, ⟨tt, tw, mod, len, hav, fr, wh, er, keys, ten, keep⟩, kv, bs, bv, ⟨fo, ff, fto, mt, mw, nt, nw⟩, st, n⟩) :
  Calls Try.prog 23 #[.pointer (some ⟨pb, 0, none⟩), .agg (actC ⟨6, obj, ⟨tt, tw, mod, len, hav, fr, wh, er, keys, ten, keep⟩, kv, bs, bv, ⟨fo, ff, fto, mt, mw, nt, nw⟩, st, n⟩).toArray] w (DoR w0 w pb b x (k + 1) (doV vs ⟨6, obj, ⟨tt, tw, mod, len, hav, fr, wh, er, keys, ten, keep⟩, kv, bs, bv, ⟨fo, ff, fto, mt, mw, nt, nw⟩, st, n⟩) (doS vs ss ⟨6, obj, ⟨tt, tw, mod, len, hav, fr, wh, er, keys, ten, keep⟩, kv, bs, bv, ⟨fo, ff, fto, mt, mw, nt, nw⟩, st, n⟩) hl Lx) := by
 obtain ⟨N, sa, ra, SA, sc, RA, rc, h⟩ := h
 have hg' := Lh (good_do h.good hk (a := ⟨6, obj, ⟨tt, tw, mod, len, hav, fr, wh, er, keys, ten, keep⟩, kv, bs, bv, ⟨fo, ff, fto, mt, mw, nt, nw⟩, st, n⟩) ha.z.bytes)
 obtain ⟨hz, hkt, hkl, hbt, hbl, hst⟩ := ha
 simp only at hkt hkl hbt hbl hst
 obtain ⟨nu, hnu⟩ : ∃ n, n = bs.length := ⟨_, rfl⟩
 obtain ⟨UA, uc, rfl⟩ : ∃ UA uc, bv = .slice UA nu uc := by obtain ⟨A, c, e, _⟩ := hbt; exact ⟨A, c, by rw [e, hnu]; simp⟩
 obtain ⟨nk, hnk⟩ : ∃ nk, nk = keys.length := ⟨_, rfl⟩
 obtain ⟨KA, KC, rfl⟩ : ∃ KA KC, kv = .slice KA nk KC := by obtain ⟨A, c, e, _⟩ := hkt; exact ⟨A, c, by rw [e, hnk]⟩
 have HZ := Lh hz; have HKT := Lh hkt; have HKL := Lh hkl; have HBT := Lh hbt; have HBL := Lh hbl
 have HK := Lh hk; have HP := Lh h
 have HST := Lh hst
 clear hz hkt hkl hbt hbl hk hnu hnk h hst
 simp only [actC]
 go_enter Try.func23, Try.ntmps23
 go_wp2_with (refine wpList_boxA 40 rfl _ rfl #[.int .i64 6, .string ⟨obj.toArray⟩, .string ⟨tt.toArray⟩, .bool tw, .int .i64 mod, .int .i64 len, .int .i64 hav, .int .i64 fr, .int .i64 wh, .int .i64 er, .slice KA nk KC, .string ⟨ten.toArray⟩, .bool keep, .slice UA nu uc, .string ⟨fo.toArray⟩, .int .i64 ff, .int .i64 fto, .string ⟨mt.toArray⟩, .bool mw, .string ⟨nt.toArray⟩, .bool nw, .int .u8 st, .int .i64 n] rfl ?_; intro W0 x0 n0 s0; refine stop_of ?_)
 unfold Stop
 obtain ⟨ab, hab⟩ : ∃ p, p = w.heap.size := ⟨_, rfl⟩
 rw [← hab] at n0 ⊢
 have H0 := Lh (HP.out.box x0 (Nat.le_of_eq hab.symm) (blk_lt n0))
 have N0 := Lh n0
 have X0 := Lh x0
 have k0 := blk_cell n0 0
 simp at k0
 clear x0 n0 s0 hab
 obtain ⟨nn, hnn⟩ : ∃ n, n = ss.length := ⟨_, rfl⟩
 have HNN := Lh hnn
 have HPB := Lh (show W0.heap[pb]? = some (.cells #[ptrV b, ptrV x, .slice SA nn sc, .slice RA nn rc] 68) from by rw [hnn]; exact H0.out.blk)
 have hnl : nn ≤ 10000 := by have := H0.out.good.ns; have := HK.out; omega
 have kp := blk_cell HPB.out 2
 simp at kp
 clear hnn
 have EV := Lh (show doV vs ⟨(6 : Int), obj, ⟨tt, tw, mod, len, hav, fr, wh, er, keys, ten, keep⟩, .slice KA nk KC, bs, .slice UA nu uc, ⟨fo, ff, fto, mt, mw, nt, nw⟩, st, n⟩ = vs by simp [doV])
 by_cases h0 : (0 : Int) < nn
 ·have hs6 : st % nn < ss.length := by rw [← HNN.out]; exact Nat.mod_lt _ (by omega)
  obtain ⟨j, hj⟩ : ∃ j, j = st % nn := ⟨_, rfl⟩
  have hjm := Lh hj
  obtain ⟨S, hS⟩ : ∃ S, S = ss[st % nn] := ⟨_, rfl⟩
  have J1 := Lh (show ss[j]? = some S by rw [hS, hj]; simp [hs6])
  have ES := Lh (show doS vs ss ⟨(6 : Int), obj, ⟨tt, tw, mod, len, hav, fr, wh, er, keys, ten, keep⟩, .slice KA nk KC, bs, .slice UA nu uc, ⟨fo, ff, fto, mt, mw, nt, nw⟩, st, n⟩ = ss.set j (movS vs S n) by
   unfold doS
   rw [if_neg (by simp only; decide), if_pos rfl]
   have e : st % ss.length = j := by rw [hj, HNN.out]
   simp only [e, J1.out])
  rw [EV.out, ES.out] at hg'
  obtain ⟨sb, J2⟩ := H0.out.st.at J1.out
  obtain ⟨rb, J3⟩ := H0.out.st.rat J1.out
  have hjn : j < nn := by rw [hj]; exact Nat.mod_lt _ (by omega)
  obtain ⟨g1, rfl, c1, l1⟩ := row_ptr (by rw [HNN.out]; exact H0.out.srow : W0.ownsRow w0.heap.size 45 1 (.slice SA nn sc) nn (sa.map ptrV)) J2 hjn
  obtain ⟨g2, rfl, c2, l2⟩ := row_ptr (by rw [HNN.out]; exact H0.out.rrow : W0.ownsRow w0.heap.size 73 1 (.slice RA nn rc) nn (ra.map ptrV)) J3 hjn
  have J2 := Lh J2; have J3 := Lh J3
  have CC1 := Lh c1; have CC2 := Lh c2
  clear hj hS c1 c2
  go_wp2_with fail
  have GP : ∀ y : Grow [] W0.drew, y.v.cell? ⟨pb, 2, none⟩ = some (.slice (some ⟨g1, 0, none⟩) nn sc) := fun y => blk_cell (y.ext.heap (a := W0.drew) HPB.out (by simp)) 2
  have GA : ∀ y : Grow [] W0.drew, y.v.cell? ⟨ab, 21, none⟩ = some (.int .u8 st) := fun y => blk_cell (y.ext.heap (a := W0.drew) N0.out (by simp)) 21
  refine wp_region_segs [] [.inl [0, 1, 2, 3, 4, 5, 6, 7, 8, 9]] (by kernel_rfl) (by kernel_rfl) (fun c a d v w h => by cases d <;> exact h) ?_
  (rw [wpSegs_inl]; simp only [pickOps, mCc, mNn, gSs, gZz]; (repeat (go_big_quiet_step (fail))); refine wpQuiet_nil ?_)
  clear GP GA
  rw [wpSegs_nil]
  go_wp2_with fail
  have ew : (wrap64 (st : Int)).tmod (nn : Int) = (j : Int) := by
   have h1 : wrap64 (st : Int) = st := by have := HST.out; unfold wrap64; omega
   rw [h1, hjm.out]; exact (Int.ofNat_tmod st nn).symm
  rw [ew]
  clear ew kp hnl h0 hs6
  obtain ⟨W1, hW1⟩ : ∃ W, W = W0.drew := ⟨_, rfl⟩
  rw [← hW1]
  have XD := Lh (show Ext W0 W1 from by rw [hW1]; exact Ext.drew (Ext.refl W0))
  have H1 := Lh (H0.out.ext XD.out)
  have HPB1 := Lh (XD.out.heap HPB.out); have N1 := Lh (XD.out.heap N0.out)
  have CC1 := Lh (XD.out.cell CC1.out); have CC2 := Lh (XD.out.cell CC2.out)
  clear hW1
  obtain ⟨LL, hLL⟩ : ∃ LL, LL = playL pb (.slice (some ⟨g1, 0, none⟩) ss.length sc) (.slice (some ⟨g2, 0, none⟩) ss.length rc) (fun g => g = ab ∨ Lx g) := ⟨_, rfl⟩
  have HLL := Lh hLL
  have M1 := Lh (show LL pb from by rw [hLL]; exact .inl rfl)
  have M2 := Lh (show LL ab from by rw [hLL]; exact .inr (.inr (.inr (.inl rfl))))
  have M3 := Lh (show LL g1 from by rw [hLL]; exact .inr (.inl rfl))
  have M4 := Lh (show LL g2 from by rw [hLL]; exact .inr (.inr (.inl rfl)))
  have HD := Lh (show Pl2 w0 W1.drew b x N LL vs ss sa vs ss ra hl from by rw [hLL]; exact (H1.out.ext (Ext.drew (Ext.refl W1))).st)
  have HAT := Lh (show S.at_ ≤ 1000000 from by have := H1.out.good.at_ S (List.mem_of_getElem? J1.out); omega)
  clear hLL
  have GP : ∀ y : GrowR (keepP LL) W1.drew, y.v.cell? ⟨pb, 2, none⟩ = some (.slice (some ⟨g1, 0, none⟩) nn sc) := fun y => blk_cell ((y.ext pb M1.out).trans HPB1.out) 2
  have GA : ∀ y : GrowR (keepP LL) W1.drew, y.v.cell? ⟨ab, 22, none⟩ = some (.int .i64 n) := fun y => blk_cell ((y.ext ab M2.out).trans N1.out) 22
  have GR : ∀ y : GrowR (keepP LL) W1.drew, y.v.cell? ⟨g1, j, none⟩ = some (.pointer (some ⟨sb, 0, none⟩)) := fun y => (World.cell?_of_block (y.ext g1 M3.out)).trans CC1.out
  refine wp_region_segsR (keepP LL) [.inl [0, 1, 2, 3, 4, 5, 6, 7, 8], .inr (.inl 9), .inl [10, 11, 12, 13, 14]] (by kernel_rfl) (by kernel_rfl) (fun c a d v w h => by cases d <;> exact h) ?_
  (rw [wpSegsR_inl]; simp only [pickOps, mCc, mNn, gSs, gZz]; (repeat (go_big_quiet_step (fail))); refine wpQuiet_nil ?_)
  clear GP GA GR
  (rw [wpSegsR_grow]; simp only [pickOps, mCc, mNn, gSs, gZz]; go_wp2_with ((go_at_call 18; refine (p_take HD.out J1.out J2.out n).mono ?_; rintro e w3 ⟨v3, rfl, r3, h3, q3⟩; refine stop_of ?_)))
  unfold Stop
  have K3 := Lh (show KeepP LL W1 w3 from q3); have H3 := Lh h3
  go_wp2_with fail
  refine ⟨q3, ?_⟩
  clear q3 h3 r3 HD
  (rw [wpSegsR_inl]; simp only [pickOps, mCc, mNn, gSs, gZz]; (repeat (go_big_quiet_step (fail))); refine wpQuiet_nil ?_)
  rw [wpSegsR_nil]
  go_wp2_with fail
  have HD := Lh (H3.out.ext (Ext.drew (Ext.refl w3)))
  have GP : ∀ y : GrowR (keepP LL) w3.drew, y.v.cell? ⟨pb, 3, none⟩ = some (.slice (some ⟨g2, 0, none⟩) nn rc) := fun y => blk_cell ((y.ext pb M1.out).trans ((K3.out pb M1.out).trans HPB1.out)) 3
  have GA : ∀ y : GrowR (keepP LL) w3.drew, y.v.cell? ⟨ab, 22, none⟩ = some (.int .i64 n) := fun y => blk_cell ((y.ext ab M2.out).trans ((K3.out ab M2.out).trans N1.out)) 22
  have GR : ∀ y : GrowR (keepP LL) w3.drew, y.v.cell? ⟨g2, j, none⟩ = some (.pointer (some ⟨rb, 0, none⟩)) := fun y => (World.cell?_of_block ((y.ext g2 M4.out).trans (K3.out g2 M4.out))).trans CC2.out
  refine wp_region_segsR (keepP LL) [.inl [0, 1, 2, 3, 4, 5, 6, 7, 8], .inr (.inl 9), .inl [10, 11, 12, 13, 14]] (by kernel_rfl) (by kernel_rfl) (fun c a d v w h => by cases d <;> exact h) ?_
  (rw [wpSegsR_inl]; simp only [pickOps, mCc, mNn, gSs, gZz]; (repeat (go_big_quiet_step (fail))); refine wpQuiet_nil ?_)
  clear GP GA GR
  (rw [wpSegsR_grow]; simp only [pickOps, mCc, mNn, gSs, gZz]; go_wp2_with ((go_at_call 51; refine (d_take HD.out J1.out J3.out HAT.out n).mono ?_; rintro e w4 ⟨v4, rfl, r4, h4, q4⟩; refine stop_of ?_)))
  unfold Stop
  have K4 := Lh (show KeepP LL W1 w4 from K3.out.trans q4); have H4 := Lh h4
  have c1 := run_str (H4.out.bytes List.mem_cons_self)
  have c2 := run_str r4.at_
  go_wp2_with fail
  refine ⟨q4, ?_⟩
  clear q4 h4 r4 HD
  (rw [wpSegsR_inl]; simp only [pickOps, mCc, mNn, gSs, gZz]; (repeat (go_big_quiet_step (fail))); refine wpQuiet_nil ?_)
  rw [wpSegsR_nil]
  go_wp2
  go_ret
  rw [EV.out, ES.out]
  have hK := K4.out
  have hP := H4.out
  rw [HLL.out] at hK hP
  exact do_fin HP.out (X0.out.trans XD.out) H1.out hP hK (fun p hp => List.mem_cons_of_mem _ hp) (by have := HP.out.hN; omega) (by simp) hg'.out
 ·have hn0 : ss = [] := List.eq_nil_of_length_eq_zero (by rw [← HNN.out]; omega)
  have ES := Lh (show doS vs ss ⟨(6 : Int), obj, ⟨tt, tw, mod, len, hav, fr, wh, er, keys, ten, keep⟩, .slice KA nk KC, bs, .slice UA nu uc, ⟨fo, ff, fto, mt, mw, nt, nw⟩, st, n⟩ = ss by
   unfold doS
   rw [if_neg (by simp only; decide), if_pos rfl, hn0]
   rfl)
  clear hn0
  go_wp2
  go_ret
  rw [EV.out, ES.out]
  exact ⟨rfl, Play.more ⟨N, sa, ra, SA, sc, RA, rc, HP.out.ext X0.out⟩, KeepP.ext X0.out HP.out.lt⟩
theorem do_any (h : Play w0 w pb b x k vs ss hl Lx) (hk : k ≤ 1000) {a : ActP} (ha : ActAt w0 a) : Calls Try.prog 23 #[.pointer (some ⟨pb, 0, none⟩), .agg (actC a).toArray] w (DoR w0 w pb b x (k + 1) (doV vs a) (doS vs ss a) hl Lx) := by
 obtain ⟨kd, obj, ⟨tt, tw, mod, len, hav, fr, wh, er, keys, ten, keep⟩, kv, bs, bv, ⟨fo, ff, fto, mt, mw, nt, nw⟩, st, n⟩ := a
 by_cases e1 : kd = 1
 ·subst e1; exact do_k1 h hk ha
 by_cases e2 : kd = 2
 ·subst e2; exact do_k2 h hk ha
 by_cases e3 : kd = 3
 ·subst e3; exact do_k3 h hk ha
 by_cases e4 : kd = 4
 ·subst e4; exact do_k4 h hk ha
 by_cases e5 : kd = 5
 ·subst e5; exact do_k5 h hk ha
 by_cases e6 : kd = 6
 ·subst e6; exact do_k6 h hk ha
 exact do_k0 h hk ha e1 e2 e3 e4 e5 e6
end
end Go.Proofs.Ytpangoddbfiagaa
namespace Go.Proofs.Ytpangoddbfiagaa
open Go.RowKit Go.Maps Go.ChangeMaps
set_option linter.unusedVariables false
set_option linter.unusedSimpArgs false
theorem RAct.ext {w w' : World} {a : ActP} {cs : List Value} (h : RAct w a cs) (x : Ext w w') : RAct w' a cs := by
 obtain ⟨h1, h2, h3, h4, h5, h6⟩ := h
 exact ⟨h1, h2.ext x, fun A n c e hn => Nat.lt_of_lt_of_le (h3 A n c e hn) x.size, BytesAt.ext h4 x, fun A n c e hn => Nat.lt_of_lt_of_le (h5 A n c e hn) x.size, h6⟩
theorem RAct.at_ {w : World} {a : ActP} {cs : List Value} (h : RAct w a cs) (hz : ActZ a) : ActAt w a := by
 obtain ⟨h1, h2, h3, h4, h5, h6⟩ := h
 exact ⟨hz, h2, h3, h4, h5, h6⟩
theorem acts_ext {w w' : World} {v : Value} {xs : List ActP} (h : RowsG w 23 (RAct w) v xs) (x : Ext w w') : RowsG w' 23 (RAct w') v xs := (h.ext x).mono fun a cs q => q.ext x
theorem act_one {w : World} {a : ActP} {cs : List Value} (h : RAct w a cs) : (actC a).all (·.oneCell') = true := by
 obtain ⟨h1, ⟨A, c, e1, _⟩, h3, ⟨A2, c2, e2, _⟩, h5, h6⟩ := h
 unfold actC
 rw [e1, e2]
 rfl
theorem acts_at {w w' : World} {A : Option Addr} {n c : Nat} {xs : List ActP} (h : RowsG w 23 (RAct w) (.slice A n c) xs) (x : Ext w w') {k : Nat} {a : ActP} (hk : xs[k]? = some a) : ∃ b off, A = some ⟨b, off, none⟩ ∧ w'.rangeAt b (off + k * 23) (actC a) ∧ RAct w a (actC a) := by
 obtain ⟨hk', rfl⟩ := List.getElem?_eq_some_iff.1 hk
 obtain ⟨b, off, cs, e, hr, hb, hc⟩ := RowsG.at h hk'
 have e2 : cs = actC xs[k] := hr.1
 subst e2
 exact ⟨b, off, e, fun q u hq => x.cell (hc q u hq), hr⟩
section
variable {w0 w w' : World} {pb b x k N : Nat} {Lx : Nat → Prop} {vs : List Vn} {ss : List Sn} {sa ra : List Nat} {hl : List (Value × Bs)} {SA RA : Option Addr} {sc rc : Nat}
end
end Go.Proofs.Ytpangoddbfiagaa
