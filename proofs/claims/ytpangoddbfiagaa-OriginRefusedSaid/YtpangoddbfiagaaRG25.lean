import Derived.Test.YtpangoddbfiagaaRG24
import Derived.Test.YtpangoddbfiagaaRG01
namespace Go.Proofs.Ytpangoddbfiagaa
open Go.RowKit Go.Maps Go.ChangeMaps
set_option linter.unusedVariables false
set_option linter.unusedSimpArgs false
def keepB2 (p a : Nat) (bp ba : Obj) : Keep := ⟨fun w w' => (w.heap[p]? = some bp → w'.heap[p]? = some bp) ∧ (w.heap[a]? = some ba → w'.heap[a]? = some ba), fun w => ⟨id, id⟩, fun a b c h k => ⟨fun e => k.1 (h.1 e), fun e => k.2 (h.2 e)⟩⟩
theorem keepB2_of {p a : Nat} {bp ba : Obj} {w w' : World} (h1 : w'.heap[p]? = some bp) (h2 : w'.heap[a]? = some ba) : (keepB2 p a bp ba).r w w' := ⟨fun _ => h1, fun _ => h2⟩
structure ActAt (w0 : World) (a : ActP) : Prop where
 z : ActZ a
 kt : TextsAt w0 a.kv a.m.keys
 kl : LowV w0 a.kv
 bt : BytesAt w0 a.bv a.bytes
 bl : LowV w0 a.bv
 st : a.st ≤ 255
section
variable {w0 w : World} {pb b x k : Nat} {Lx : Nat → Prop} {vs : List Vn} {ss : List Sn} {hl : List (Value × Bs)}
theorem do_fin {w W w' : World} {N N' ab : Nat} {sa ra : List Nat} {SA RA : Option Addr} {sc rc : Nat} {us : List Vn} {ts : List Sn} {hl' : List (Value × Bs)} (h : PlayX w0 w pb b x k N vs ss sa ra SA sc RA rc hl Lx) (hx : Ext w W) (hW : PlayX w0 W pb b x k N vs ss sa ra SA sc RA rc hl (fun g => g = ab ∨ Lx g)) (hP : Pl2 w0 w' b x N' (playL pb (.slice SA ss.length sc) (.slice RA ss.length rc) (fun g => g = ab ∨ Lx g)) us ts sa us ts ra hl') (hK : KeepP (playL pb (.slice SA ss.length sc) (.slice RA ss.length rc) (fun g => g = ab ∨ Lx g)) W w')
  (hh : ∀ p ∈ hl, p ∈ hl') (hN : N' ≤ 2 * (k + 1)) (hlen : ts.length = ss.length) (hg : GoodA (k + 1) us ts) : DoR w0 w pb b x (k + 1) us ts hl Lx (.returned (.bool true)) w' :=
 ⟨rfl, ⟨N', sa, ra, SA, sc, RA, rc, (hW.fin hP hK hh hN hlen hg).less fun g hg => .inr hg⟩, fun g hg => (hK g (.inr (.inr (.inr (.inr hg))))).trans (hx.block g (h.lt g hg))⟩
set_option maxRecDepth 100000 in
set_option maxHeartbeats 4000000 in
theorem do_k1 (h : Play w0 w pb b x k vs ss hl Lx) (hk : k ≤ 1000) {obj tt ten bs fo mt nt : Bs} {tw keep mw nw : Bool} {mod len hav fr wh er ff fto n : Int} {keys : List Bs} {kv bv : Value} {st : Nat} (ha : ActAt w0 ⟨1, obj, ⟨tt, tw, mod, len, hav, fr, wh, er, keys, ten, keep⟩, kv, bs, bv, ⟨fo, ff, fto, mt, mw, nt, nw⟩, st, n⟩) :
  Calls Try.prog 23 #[.pointer (some ⟨pb, 0, none⟩), .agg (actC ⟨1, obj, ⟨tt, tw, mod, len, hav, fr, wh, er, keys, ten, keep⟩, kv, bs, bv, ⟨fo, ff, fto, mt, mw, nt, nw⟩, st, n⟩).toArray] w (DoR w0 w pb b x (k + 1) (doV vs ⟨1, obj, ⟨tt, tw, mod, len, hav, fr, wh, er, keys, ten, keep⟩, kv, bs, bv, ⟨fo, ff, fto, mt, mw, nt, nw⟩, st, n⟩) (doS vs ss ⟨1, obj, ⟨tt, tw, mod, len, hav, fr, wh, er, keys, ten, keep⟩, kv, bs, bv, ⟨fo, ff, fto, mt, mw, nt, nw⟩, st, n⟩) hl Lx) := by
 obtain ⟨N, sa, ra, SA, sc, RA, rc, h⟩ := h
 have hg' := Lh (good_do h.good hk (a := ⟨1, obj, ⟨tt, tw, mod, len, hav, fr, wh, er, keys, ten, keep⟩, kv, bs, bv, ⟨fo, ff, fto, mt, mw, nt, nw⟩, st, n⟩) ha.z.bytes)
 obtain ⟨hz, hkt, hkl, hbt, hbl, hst⟩ := ha
 simp only at hkt hkl hbt hbl hst
 obtain ⟨nu, hnu⟩ : ∃ n, n = bs.length := ⟨_, rfl⟩
 obtain ⟨UA, uc, rfl⟩ : ∃ UA uc, bv = .slice UA nu uc := by obtain ⟨A, c, e, _⟩ := hbt; exact ⟨A, c, by rw [e, hnu]; simp⟩
 obtain ⟨nk, hnk⟩ : ∃ nk, nk = keys.length := ⟨_, rfl⟩
 obtain ⟨KA, KC, rfl⟩ : ∃ KA KC, kv = .slice KA nk KC := by obtain ⟨A, c, e, _⟩ := hkt; exact ⟨A, c, by rw [e, hnk]⟩
 have HZ := Lh hz; have HKT := Lh hkt; have HKL := Lh hkl; have HBT := Lh hbt; have HBL := Lh hbl
 have HK := Lh hk; have HP := Lh h
 clear hz hkt hkl hbt hbl hk hnu hnk h hst
 simp only [actC]
 go_enter Try.func23, Try.ntmps23
 go_wp2_with (refine wpList_boxA 40 rfl _ rfl #[.int .i64 1, .string ⟨obj.toArray⟩, .string ⟨tt.toArray⟩, .bool tw, .int .i64 mod, .int .i64 len, .int .i64 hav, .int .i64 fr, .int .i64 wh, .int .i64 er, .slice KA nk KC, .string ⟨ten.toArray⟩, .bool keep, .slice UA nu uc, .string ⟨fo.toArray⟩, .int .i64 ff, .int .i64 fto, .string ⟨mt.toArray⟩, .bool mw, .string ⟨nt.toArray⟩, .bool nw, .int .u8 st, .int .i64 n] rfl ?_; intro W0 x0 n0 s0; refine stop_of ?_)
 unfold Stop
 obtain ⟨ab, hab⟩ : ∃ p, p = w.heap.size := ⟨_, rfl⟩
 rw [← hab] at n0 ⊢
 have H0 := Lh (HP.out.box x0 (Nat.le_of_eq hab.symm) (blk_lt n0))
 have N0 := Lh n0
 have X0 := Lh x0
 have k0 := blk_cell n0 0
 simp at k0
 clear x0 n0 s0 hab
 go_wp2_with fail
 have P0 : W0.drew.heap[pb]? = some (.cells #[ptrV b, ptrV x, .slice SA ss.length sc, .slice RA ss.length rc] 68) := H0.out.blk
 have A0 : W0.drew.heap[ab]? = some (.cells #[.int .i64 1, .string ⟨obj.toArray⟩, .string ⟨tt.toArray⟩, .bool tw, .int .i64 mod, .int .i64 len, .int .i64 hav, .int .i64 fr, .int .i64 wh, .int .i64 er, .slice KA nk KC, .string ⟨ten.toArray⟩, .bool keep, .slice UA nu uc, .string ⟨fo.toArray⟩, .int .i64 ff, .int .i64 fto, .string ⟨mt.toArray⟩, .bool mw, .string ⟨nt.toArray⟩, .bool nw, .int .u8 st, .int .i64 n] 40) := N0.out
 have HD := Lh (H0.out.ext (Ext.drew (Ext.refl W0)))
 have XD := Lh (X0.out.trans (Ext.drew (Ext.refl W0)))
 have G0 : ∀ y : GrowR (keepB2 pb ab (.cells #[ptrV b, ptrV x, .slice SA ss.length sc, .slice RA ss.length rc] 68) (.cells #[.int .i64 1, .string ⟨obj.toArray⟩, .string ⟨tt.toArray⟩, .bool tw, .int .i64 mod, .int .i64 len, .int .i64 hav, .int .i64 fr, .int .i64 wh, .int .i64 er, .slice KA nk KC, .string ⟨ten.toArray⟩, .bool keep, .slice UA nu uc, .string ⟨fo.toArray⟩, .int .i64 ff, .int .i64 fto, .string ⟨mt.toArray⟩, .bool mw, .string ⟨nt.toArray⟩, .bool nw, .int .u8 st, .int .i64 n] 40)) W0.drew, y.v.cell? ⟨pb, 0, none⟩ = some (.pointer (some ⟨b, 0, none⟩)) := fun y => blk_cell (y.ext.1 P0) 0
 have G1 : ∀ y : GrowR (keepB2 pb ab (.cells #[ptrV b, ptrV x, .slice SA ss.length sc, .slice RA ss.length rc] 68) (.cells #[.int .i64 1, .string ⟨obj.toArray⟩, .string ⟨tt.toArray⟩, .bool tw, .int .i64 mod, .int .i64 len, .int .i64 hav, .int .i64 fr, .int .i64 wh, .int .i64 er, .slice KA nk KC, .string ⟨ten.toArray⟩, .bool keep, .slice UA nu uc, .string ⟨fo.toArray⟩, .int .i64 ff, .int .i64 fto, .string ⟨mt.toArray⟩, .bool mw, .string ⟨nt.toArray⟩, .bool nw, .int .u8 st, .int .i64 n] 40)) W0.drew, y.v.cell? ⟨pb, 1, none⟩ = some (.pointer (some ⟨x, 0, none⟩)) := fun y => blk_cell (y.ext.1 P0) 1
 have G2 : ∀ y : GrowR (keepB2 pb ab (.cells #[ptrV b, ptrV x, .slice SA ss.length sc, .slice RA ss.length rc] 68) (.cells #[.int .i64 1, .string ⟨obj.toArray⟩, .string ⟨tt.toArray⟩, .bool tw, .int .i64 mod, .int .i64 len, .int .i64 hav, .int .i64 fr, .int .i64 wh, .int .i64 er, .slice KA nk KC, .string ⟨ten.toArray⟩, .bool keep, .slice UA nu uc, .string ⟨fo.toArray⟩, .int .i64 ff, .int .i64 fto, .string ⟨mt.toArray⟩, .bool mw, .string ⟨nt.toArray⟩, .bool nw, .int .u8 st, .int .i64 n] 40)) W0.drew, y.v.cell? ⟨ab, 1, none⟩ = some (.string ⟨obj.toArray⟩) := fun y => blk_cell (y.ext.2 A0) 1
 have G3 : ∀ y : GrowR (keepB2 pb ab (.cells #[ptrV b, ptrV x, .slice SA ss.length sc, .slice RA ss.length rc] 68) (.cells #[.int .i64 1, .string ⟨obj.toArray⟩, .string ⟨tt.toArray⟩, .bool tw, .int .i64 mod, .int .i64 len, .int .i64 hav, .int .i64 fr, .int .i64 wh, .int .i64 er, .slice KA nk KC, .string ⟨ten.toArray⟩, .bool keep, .slice UA nu uc, .string ⟨fo.toArray⟩, .int .i64 ff, .int .i64 fto, .string ⟨mt.toArray⟩, .bool mw, .string ⟨nt.toArray⟩, .bool nw, .int .u8 st, .int .i64 n] 40)) W0.drew, y.v.cell? ⟨ab, 13, none⟩ = some (.slice UA nu uc) := fun y => blk_cell (y.ext.2 A0) 13
 refine wp_region_segsR (keepB2 pb ab (.cells #[ptrV b, ptrV x, .slice SA ss.length sc, .slice RA ss.length rc] 68) (.cells #[.int .i64 1, .string ⟨obj.toArray⟩, .string ⟨tt.toArray⟩, .bool tw, .int .i64 mod, .int .i64 len, .int .i64 hav, .int .i64 fr, .int .i64 wh, .int .i64 er, .slice KA nk KC, .string ⟨ten.toArray⟩, .bool keep, .slice UA nu uc, .string ⟨fo.toArray⟩, .int .i64 ff, .int .i64 fto, .string ⟨mt.toArray⟩, .bool mw, .string ⟨nt.toArray⟩, .bool nw, .int .u8 st, .int .i64 n] 40)) [.inl [0, 1, 2, 3, 4, 5, 6, 7, 9, 10, 13, 14, 15, 16, 17, 18, 19, 20, 21, 22], .inr (.inl 8), .inr (.inl 11), .inr (.inl 12), .inr (.inl 23), .inl [24, 25]] (by kernel_rfl) (by kernel_rfl) (fun c a d v w h => by cases d <;> exact h) ?_
 (rw [wpSegsR_inl]; simp only [pickOps, mCc, mNn, gSs, gZz]; (repeat (go_big_quiet_step (fail))); (refine wpQuiet_get 38 _ rfl _ rfl ab 2 40 _ [.string ⟨tt.toArray⟩, .bool tw, .int .i64 mod, .int .i64 len, .int .i64 hav, .int .i64 fr, .int .i64 wh, .int .i64 er, .slice KA nk KC, .string ⟨ten.toArray⟩, .bool keep] rfl (fun W hW => by obtain ⟨y, rfl⟩ := hW; exact y.ext.2 A0) (by kernel_rfl) Try.underlying38 rfl size38 ?_; simp only [Act.put, sAa, sSs, sZz]); (repeat (go_big_quiet_step (fail))); (refine wpQuiet_get 38 _ rfl _ rfl ab 2 40 _ [.string ⟨tt.toArray⟩, .bool tw, .int .i64 mod, .int .i64 len, .int .i64 hav, .int .i64 fr, .int .i64 wh, .int .i64 er, .slice KA nk KC, .string ⟨ten.toArray⟩, .bool keep] rfl (fun W hW => by obtain ⟨y, rfl⟩ := hW; exact y.ext.2 A0) (by kernel_rfl) Try.underlying38 rfl size38 ?_; simp only [Act.put, sAa, sSs, sZz]); (repeat (go_big_quiet_step (fail))); refine wpQuiet_nil ?_)
 clear G0 G1 G2 G3 A0 P0
 (rw [wpSegsR_grow]; simp only [pickOps, mCc, mNn, gSs, gZz]; go_wp2_with (fail))
 refine ⟨keepB2_of ((ext_alloc1 _ _).heap HD.out.blk) ((ext_alloc1 _ _).heap N0.out), ?_⟩
 have HBD := Lh (BytesAt.ext HBT.out HD.out.st.base)
 (rw [wpSegsR_grow]; simp only [pickOps, mCc, mNn, gSs, gZz]; go_wp2_with ((at_builtin; refine wpList_copyE rfl _ _ rfl _ bs HBD.out rfl rfl (by have := HZ.out.bytes; simp only at this; omega) ?_; intro v6 W6 r6 x6; refine stop_of ?_)))
 unfold Stop
 have H6 := Lh (HD.out.st.hold x6 r6 (Nat.le_refl _))
 have K6 := Lh (KeepP.ext x6 (fun g hg => HD.out.st.plt hg))
 have N6 := Lh (x6.heap N0.out)
 go_wp2_with fail
 refine ⟨keepB2_of (x6.heap HD.out.blk) (x6.heap N0.out), ?_⟩
 clear x6 r6
 have HKT6 := Lh (TextsAt.ext HKT.out H6.out.base)
 (rw [wpSegsR_grow]; simp only [pickOps, mCc, mNn, gSs, gZz]; go_wp2_with ((go_at_call 13; refine (p_set (m := ⟨tt, tw, mod, len, hav, fr, wh, er, keys, ten, keep⟩) H6.out (by have := HP.out.hN; have := HK.out; omega) (by have := HZ.out.obj; simp only at this; omega) HZ.out.m HKT6.out HKL.out List.mem_cons_self (by have := HZ.out.bytes; simp only at this; omega)).mono ?_; rintro e w7 ⟨rfl, h7, q7⟩; refine stop_of ?_)))
 unfold Stop
 have K7 := Lh (K6.out.trans q7); have H7 := Lh h7
 go_wp2_with fail
 refine ⟨keepB2_of ((K7.out pb (.inl rfl)).trans HD.out.blk) ((K7.out ab (.inr (.inr (.inr (.inl rfl))))).trans N0.out), ?_⟩
 clear q7 h7 HBD HKT6 K6 H6 N6
 have HKT7 := Lh (TextsAt.ext HKT.out H7.out.base)
 have HBT7 := Lh (BytesAt.ext HBT.out H7.out.base)
 (rw [wpSegsR_grow]; simp only [pickOps, mCc, mNn, gSs, gZz]; go_wp2_with ((go_at_call 46; refine (d_set (m := ⟨tt, tw, mod, len, hav, fr, wh, er, keys, ten, keep⟩) H7.out (by have := HZ.out.obj; simp only at this; omega) HZ.out.m HKT7.out HKL.out HBT7.out HBL.out (by have := HZ.out.bytes; simp only at this; omega) (by have := HP.out.good.nv; have := HK.out; omega)).mono ?_; rintro e w8 ⟨rfl, h8, q8⟩; refine stop_of ?_)))
 unfold Stop
 have K8 := Lh (K7.out.trans q8); have H8 := Lh h8
 go_wp2_with fail
 refine ⟨keepB2_of ((K8.out pb (.inl rfl)).trans HD.out.blk) ((K8.out ab (.inr (.inr (.inr (.inl rfl))))).trans N0.out), ?_⟩
 clear q8 h8 HKT7 HBT7 K7 H7
 (rw [wpSegsR_inl]; simp only [pickOps, mCc, mNn, gSs, gZz]; (repeat (go_big_quiet_step (fail))); refine wpQuiet_nil ?_)
 rw [wpSegsR_nil]
 go_wp2
 go_ret
 exact do_fin HP.out XD.out HD.out H8.out K8.out (fun p hp => List.mem_cons_of_mem _ hp) (by have := HP.out.hN; omega) rfl hg'.out
set_option maxRecDepth 100000 in
set_option maxHeartbeats 4000000 in
theorem do_k2 (h : Play w0 w pb b x k vs ss hl Lx) (hk : k ≤ 1000) {obj tt ten bs fo mt nt : Bs} {tw keep mw nw : Bool} {mod len hav fr wh er ff fto n : Int} {keys : List Bs} {kv bv : Value} {st : Nat} (ha : ActAt w0 ⟨2, obj, ⟨tt, tw, mod, len, hav, fr, wh, er, keys, ten, keep⟩, kv, bs, bv, ⟨fo, ff, fto, mt, mw, nt, nw⟩, st, n⟩) :
  Calls Try.prog 23 #[.pointer (some ⟨pb, 0, none⟩), .agg (actC ⟨2, obj, ⟨tt, tw, mod, len, hav, fr, wh, er, keys, ten, keep⟩, kv, bs, bv, ⟨fo, ff, fto, mt, mw, nt, nw⟩, st, n⟩).toArray] w (DoR w0 w pb b x (k + 1) (doV vs ⟨2, obj, ⟨tt, tw, mod, len, hav, fr, wh, er, keys, ten, keep⟩, kv, bs, bv, ⟨fo, ff, fto, mt, mw, nt, nw⟩, st, n⟩) (doS vs ss ⟨2, obj, ⟨tt, tw, mod, len, hav, fr, wh, er, keys, ten, keep⟩, kv, bs, bv, ⟨fo, ff, fto, mt, mw, nt, nw⟩, st, n⟩) hl Lx) := by
 obtain ⟨N, sa, ra, SA, sc, RA, rc, h⟩ := h
 have hg' := Lh (good_do h.good hk (a := ⟨2, obj, ⟨tt, tw, mod, len, hav, fr, wh, er, keys, ten, keep⟩, kv, bs, bv, ⟨fo, ff, fto, mt, mw, nt, nw⟩, st, n⟩) ha.z.bytes)
 obtain ⟨hz, hkt, hkl, hbt, hbl, hst⟩ := ha
 simp only at hkt hkl hbt hbl hst
 obtain ⟨nu, hnu⟩ : ∃ n, n = bs.length := ⟨_, rfl⟩
 obtain ⟨UA, uc, rfl⟩ : ∃ UA uc, bv = .slice UA nu uc := by obtain ⟨A, c, e, _⟩ := hbt; exact ⟨A, c, by rw [e, hnu]; simp⟩
 obtain ⟨nk, hnk⟩ : ∃ nk, nk = keys.length := ⟨_, rfl⟩
 obtain ⟨KA, KC, rfl⟩ : ∃ KA KC, kv = .slice KA nk KC := by obtain ⟨A, c, e, _⟩ := hkt; exact ⟨A, c, by rw [e, hnk]⟩
 have HZ := Lh hz; have HKT := Lh hkt; have HKL := Lh hkl; have HBT := Lh hbt; have HBL := Lh hbl
 have HK := Lh hk; have HP := Lh h
 clear hz hkt hkl hbt hbl hk hnu hnk h hst
 simp only [actC]
 go_enter Try.func23, Try.ntmps23
 go_wp2_with (refine wpList_boxA 40 rfl _ rfl #[.int .i64 2, .string ⟨obj.toArray⟩, .string ⟨tt.toArray⟩, .bool tw, .int .i64 mod, .int .i64 len, .int .i64 hav, .int .i64 fr, .int .i64 wh, .int .i64 er, .slice KA nk KC, .string ⟨ten.toArray⟩, .bool keep, .slice UA nu uc, .string ⟨fo.toArray⟩, .int .i64 ff, .int .i64 fto, .string ⟨mt.toArray⟩, .bool mw, .string ⟨nt.toArray⟩, .bool nw, .int .u8 st, .int .i64 n] rfl ?_; intro W0 x0 n0 s0; refine stop_of ?_)
 unfold Stop
 obtain ⟨ab, hab⟩ : ∃ p, p = w.heap.size := ⟨_, rfl⟩
 rw [← hab] at n0 ⊢
 have H0 := Lh (HP.out.box x0 (Nat.le_of_eq hab.symm) (blk_lt n0))
 have N0 := Lh n0
 have X0 := Lh x0
 have k0 := blk_cell n0 0
 simp at k0
 clear x0 n0 s0 hab
 go_wp2_with fail
 have P0 : W0.drew.heap[pb]? = some (.cells #[ptrV b, ptrV x, .slice SA ss.length sc, .slice RA ss.length rc] 68) := H0.out.blk
 have A0 : W0.drew.heap[ab]? = some (.cells #[.int .i64 2, .string ⟨obj.toArray⟩, .string ⟨tt.toArray⟩, .bool tw, .int .i64 mod, .int .i64 len, .int .i64 hav, .int .i64 fr, .int .i64 wh, .int .i64 er, .slice KA nk KC, .string ⟨ten.toArray⟩, .bool keep, .slice UA nu uc, .string ⟨fo.toArray⟩, .int .i64 ff, .int .i64 fto, .string ⟨mt.toArray⟩, .bool mw, .string ⟨nt.toArray⟩, .bool nw, .int .u8 st, .int .i64 n] 40) := N0.out
 have HD := Lh (H0.out.ext (Ext.drew (Ext.refl W0)))
 have XD := Lh (X0.out.trans (Ext.drew (Ext.refl W0)))
 have G0 : ∀ y : GrowR (keepB2 pb ab (.cells #[ptrV b, ptrV x, .slice SA ss.length sc, .slice RA ss.length rc] 68) (.cells #[.int .i64 2, .string ⟨obj.toArray⟩, .string ⟨tt.toArray⟩, .bool tw, .int .i64 mod, .int .i64 len, .int .i64 hav, .int .i64 fr, .int .i64 wh, .int .i64 er, .slice KA nk KC, .string ⟨ten.toArray⟩, .bool keep, .slice UA nu uc, .string ⟨fo.toArray⟩, .int .i64 ff, .int .i64 fto, .string ⟨mt.toArray⟩, .bool mw, .string ⟨nt.toArray⟩, .bool nw, .int .u8 st, .int .i64 n] 40)) W0.drew, y.v.cell? ⟨pb, 0, none⟩ = some (.pointer (some ⟨b, 0, none⟩)) := fun y => blk_cell (y.ext.1 P0) 0
 have G1 : ∀ y : GrowR (keepB2 pb ab (.cells #[ptrV b, ptrV x, .slice SA ss.length sc, .slice RA ss.length rc] 68) (.cells #[.int .i64 2, .string ⟨obj.toArray⟩, .string ⟨tt.toArray⟩, .bool tw, .int .i64 mod, .int .i64 len, .int .i64 hav, .int .i64 fr, .int .i64 wh, .int .i64 er, .slice KA nk KC, .string ⟨ten.toArray⟩, .bool keep, .slice UA nu uc, .string ⟨fo.toArray⟩, .int .i64 ff, .int .i64 fto, .string ⟨mt.toArray⟩, .bool mw, .string ⟨nt.toArray⟩, .bool nw, .int .u8 st, .int .i64 n] 40)) W0.drew, y.v.cell? ⟨pb, 1, none⟩ = some (.pointer (some ⟨x, 0, none⟩)) := fun y => blk_cell (y.ext.1 P0) 1
 have G2 : ∀ y : GrowR (keepB2 pb ab (.cells #[ptrV b, ptrV x, .slice SA ss.length sc, .slice RA ss.length rc] 68) (.cells #[.int .i64 2, .string ⟨obj.toArray⟩, .string ⟨tt.toArray⟩, .bool tw, .int .i64 mod, .int .i64 len, .int .i64 hav, .int .i64 fr, .int .i64 wh, .int .i64 er, .slice KA nk KC, .string ⟨ten.toArray⟩, .bool keep, .slice UA nu uc, .string ⟨fo.toArray⟩, .int .i64 ff, .int .i64 fto, .string ⟨mt.toArray⟩, .bool mw, .string ⟨nt.toArray⟩, .bool nw, .int .u8 st, .int .i64 n] 40)) W0.drew, y.v.cell? ⟨ab, 1, none⟩ = some (.string ⟨obj.toArray⟩) := fun y => blk_cell (y.ext.2 A0) 1
 have G3 : ∀ y : GrowR (keepB2 pb ab (.cells #[ptrV b, ptrV x, .slice SA ss.length sc, .slice RA ss.length rc] 68) (.cells #[.int .i64 2, .string ⟨obj.toArray⟩, .string ⟨tt.toArray⟩, .bool tw, .int .i64 mod, .int .i64 len, .int .i64 hav, .int .i64 fr, .int .i64 wh, .int .i64 er, .slice KA nk KC, .string ⟨ten.toArray⟩, .bool keep, .slice UA nu uc, .string ⟨fo.toArray⟩, .int .i64 ff, .int .i64 fto, .string ⟨mt.toArray⟩, .bool mw, .string ⟨nt.toArray⟩, .bool nw, .int .u8 st, .int .i64 n] 40)) W0.drew, y.v.cell? ⟨ab, 13, none⟩ = some (.slice UA nu uc) := fun y => blk_cell (y.ext.2 A0) 13
 refine wp_region_segsR (keepB2 pb ab (.cells #[ptrV b, ptrV x, .slice SA ss.length sc, .slice RA ss.length rc] 68) (.cells #[.int .i64 2, .string ⟨obj.toArray⟩, .string ⟨tt.toArray⟩, .bool tw, .int .i64 mod, .int .i64 len, .int .i64 hav, .int .i64 fr, .int .i64 wh, .int .i64 er, .slice KA nk KC, .string ⟨ten.toArray⟩, .bool keep, .slice UA nu uc, .string ⟨fo.toArray⟩, .int .i64 ff, .int .i64 fto, .string ⟨mt.toArray⟩, .bool mw, .string ⟨nt.toArray⟩, .bool nw, .int .u8 st, .int .i64 n] 40)) [.inl [0, 1, 2, 3, 4, 5, 7, 8, 11, 12, 13, 14, 15, 16, 17, 18], .inr (.inl 6), .inr (.inl 9), .inr (.inl 10), .inr (.inl 19), .inl [20, 21]] (by kernel_rfl) (by kernel_rfl) (fun c a d v w h => by cases d <;> exact h) ?_
 (rw [wpSegsR_inl]; simp only [pickOps, mCc, mNn, gSs, gZz]; (repeat (go_big_quiet_step (fail))); refine wpQuiet_nil ?_)
 clear G0 G1 G2 G3 A0 P0
 (rw [wpSegsR_grow]; simp only [pickOps, mCc, mNn, gSs, gZz]; go_wp2_with (fail))
 refine ⟨keepB2_of ((ext_alloc1 _ _).heap HD.out.blk) ((ext_alloc1 _ _).heap N0.out), ?_⟩
 have HBD := Lh (BytesAt.ext HBT.out HD.out.st.base)
 have HCAP := Lh (fun (i : Nat) (v : Vn) (hn : nowI vs obj = some i) (hv : vs[i]? = some v) => (show v.bytes.length + bs.length ≤ 100000 from by have := HP.out.good.bytes v (List.mem_of_getElem? hv); have := HK.out; have := HZ.out.bytes; simp only at this; omega))
 (rw [wpSegsR_grow]; simp only [pickOps, mCc, mNn, gSs, gZz]; go_wp2_with ((at_builtin; refine wpList_copyE rfl _ _ rfl _ bs HBD.out rfl rfl (by have := HZ.out.bytes; simp only at this; omega) ?_; intro v6 W6 r6 x6; refine stop_of ?_)))
 unfold Stop
 have H6 := Lh (HD.out.st.hold x6 r6 (Nat.le_refl _))
 have K6 := Lh (KeepP.ext x6 (fun g hg => HD.out.st.plt hg))
 have N6 := Lh (x6.heap N0.out)
 go_wp2_with fail
 refine ⟨keepB2_of (x6.heap HD.out.blk) (x6.heap N0.out), ?_⟩
 clear x6 r6
 (rw [wpSegsR_grow]; simp only [pickOps, mCc, mNn, gSs, gZz]; go_wp2_with ((go_at_call 17; refine (p_grow H6.out (by have := HZ.out.obj; simp only at this; omega) List.mem_cons_self (by have := HZ.out.bytes; simp only at this; omega) HCAP.out).mono ?_; rintro e w7 ⟨rfl, h7, q7⟩; refine stop_of ?_)))
 unfold Stop
 have K7 := Lh (K6.out.trans q7); have H7 := Lh h7
 go_wp2_with fail
 refine ⟨keepB2_of ((K7.out pb (.inl rfl)).trans HD.out.blk) ((K7.out ab (.inr (.inr (.inr (.inl rfl))))).trans N0.out), ?_⟩
 clear q7 h7 HBD K6 H6 N6
 have HBT7 := Lh (BytesAt.ext HBT.out H7.out.base)
 (rw [wpSegsR_grow]; simp only [pickOps, mCc, mNn, gSs, gZz]; go_wp2_with ((go_at_call 47; refine (d_grow H7.out (by have := HZ.out.obj; simp only at this; omega) HBT7.out (by have := HZ.out.bytes; simp only at this; omega) HCAP.out).mono ?_; rintro e w8 ⟨rfl, h8, q8⟩; refine stop_of ?_)))
 unfold Stop
 have K8 := Lh (K7.out.trans q8); have H8 := Lh h8
 go_wp2_with fail
 refine ⟨keepB2_of ((K8.out pb (.inl rfl)).trans HD.out.blk) ((K8.out ab (.inr (.inr (.inr (.inl rfl))))).trans N0.out), ?_⟩
 clear q8 h8 HBT7 K7 H7
 (rw [wpSegsR_inl]; simp only [pickOps, mCc, mNn, gSs, gZz]; (repeat (go_big_quiet_step (fail))); refine wpQuiet_nil ?_)
 rw [wpSegsR_nil]
 go_wp2
 go_ret
 exact do_fin HP.out XD.out HD.out H8.out K8.out (fun p hp => List.mem_cons_of_mem _ hp) (by have := HP.out.hN; omega) rfl hg'.out
set_option maxRecDepth 100000 in
set_option maxHeartbeats 4000000 in
theorem do_k3 (h : Play w0 w pb b x k vs ss hl Lx) (hk : k ≤ 1000) {obj tt ten bs fo mt nt : Bs} {tw keep mw nw : Bool} {mod len hav fr wh er ff fto n : Int} {keys : List Bs} {kv bv : Value} {st : Nat} (ha : ActAt w0 ⟨3, obj, ⟨tt, tw, mod, len, hav, fr, wh, er, keys, ten, keep⟩, kv, bs, bv, ⟨fo, ff, fto, mt, mw, nt, nw⟩, st, n⟩) :
  Calls Try.prog 23 #[.pointer (some ⟨pb, 0, none⟩), .agg (actC ⟨3, obj, ⟨tt, tw, mod, len, hav, fr, wh, er, keys, ten, keep⟩, kv, bs, bv, ⟨fo, ff, fto, mt, mw, nt, nw⟩, st, n⟩).toArray] w (DoR w0 w pb b x (k + 1) (doV vs ⟨3, obj, ⟨tt, tw, mod, len, hav, fr, wh, er, keys, ten, keep⟩, kv, bs, bv, ⟨fo, ff, fto, mt, mw, nt, nw⟩, st, n⟩) (doS vs ss ⟨3, obj, ⟨tt, tw, mod, len, hav, fr, wh, er, keys, ten, keep⟩, kv, bs, bv, ⟨fo, ff, fto, mt, mw, nt, nw⟩, st, n⟩) hl Lx) := by
 obtain ⟨N, sa, ra, SA, sc, RA, rc, h⟩ := h
 have hg' := Lh (good_do h.good hk (a := ⟨3, obj, ⟨tt, tw, mod, len, hav, fr, wh, er, keys, ten, keep⟩, kv, bs, bv, ⟨fo, ff, fto, mt, mw, nt, nw⟩, st, n⟩) ha.z.bytes)
 obtain ⟨hz, hkt, hkl, hbt, hbl, hst⟩ := ha
 simp only at hkt hkl hbt hbl hst
 obtain ⟨nu, hnu⟩ : ∃ n, n = bs.length := ⟨_, rfl⟩
 obtain ⟨UA, uc, rfl⟩ : ∃ UA uc, bv = .slice UA nu uc := by obtain ⟨A, c, e, _⟩ := hbt; exact ⟨A, c, by rw [e, hnu]; simp⟩
 obtain ⟨nk, hnk⟩ : ∃ nk, nk = keys.length := ⟨_, rfl⟩
 obtain ⟨KA, KC, rfl⟩ : ∃ KA KC, kv = .slice KA nk KC := by obtain ⟨A, c, e, _⟩ := hkt; exact ⟨A, c, by rw [e, hnk]⟩
 have HZ := Lh hz; have HKT := Lh hkt; have HKL := Lh hkl; have HBT := Lh hbt; have HBL := Lh hbl
 have HK := Lh hk; have HP := Lh h
 clear hz hkt hkl hbt hbl hk hnu hnk h hst
 simp only [actC]
 go_enter Try.func23, Try.ntmps23
 go_wp2_with (refine wpList_boxA 40 rfl _ rfl #[.int .i64 3, .string ⟨obj.toArray⟩, .string ⟨tt.toArray⟩, .bool tw, .int .i64 mod, .int .i64 len, .int .i64 hav, .int .i64 fr, .int .i64 wh, .int .i64 er, .slice KA nk KC, .string ⟨ten.toArray⟩, .bool keep, .slice UA nu uc, .string ⟨fo.toArray⟩, .int .i64 ff, .int .i64 fto, .string ⟨mt.toArray⟩, .bool mw, .string ⟨nt.toArray⟩, .bool nw, .int .u8 st, .int .i64 n] rfl ?_; intro W0 x0 n0 s0; refine stop_of ?_)
 unfold Stop
 obtain ⟨ab, hab⟩ : ∃ p, p = w.heap.size := ⟨_, rfl⟩
 rw [← hab] at n0 ⊢
 have H0 := Lh (HP.out.box x0 (Nat.le_of_eq hab.symm) (blk_lt n0))
 have N0 := Lh n0
 have X0 := Lh x0
 have k0 := blk_cell n0 0
 simp at k0
 clear x0 n0 s0 hab
 go_wp2_with fail
 have P0 : W0.drew.heap[pb]? = some (.cells #[ptrV b, ptrV x, .slice SA ss.length sc, .slice RA ss.length rc] 68) := H0.out.blk
 have A0 : W0.drew.heap[ab]? = some (.cells #[.int .i64 3, .string ⟨obj.toArray⟩, .string ⟨tt.toArray⟩, .bool tw, .int .i64 mod, .int .i64 len, .int .i64 hav, .int .i64 fr, .int .i64 wh, .int .i64 er, .slice KA nk KC, .string ⟨ten.toArray⟩, .bool keep, .slice UA nu uc, .string ⟨fo.toArray⟩, .int .i64 ff, .int .i64 fto, .string ⟨mt.toArray⟩, .bool mw, .string ⟨nt.toArray⟩, .bool nw, .int .u8 st, .int .i64 n] 40) := N0.out
 have HD := Lh (H0.out.ext (Ext.drew (Ext.refl W0)))
 have XD := Lh (X0.out.trans (Ext.drew (Ext.refl W0)))
 have G0 : ∀ y : GrowR (keepB2 pb ab (.cells #[ptrV b, ptrV x, .slice SA ss.length sc, .slice RA ss.length rc] 68) (.cells #[.int .i64 3, .string ⟨obj.toArray⟩, .string ⟨tt.toArray⟩, .bool tw, .int .i64 mod, .int .i64 len, .int .i64 hav, .int .i64 fr, .int .i64 wh, .int .i64 er, .slice KA nk KC, .string ⟨ten.toArray⟩, .bool keep, .slice UA nu uc, .string ⟨fo.toArray⟩, .int .i64 ff, .int .i64 fto, .string ⟨mt.toArray⟩, .bool mw, .string ⟨nt.toArray⟩, .bool nw, .int .u8 st, .int .i64 n] 40)) W0.drew, y.v.cell? ⟨pb, 0, none⟩ = some (.pointer (some ⟨b, 0, none⟩)) := fun y => blk_cell (y.ext.1 P0) 0
 have G1 : ∀ y : GrowR (keepB2 pb ab (.cells #[ptrV b, ptrV x, .slice SA ss.length sc, .slice RA ss.length rc] 68) (.cells #[.int .i64 3, .string ⟨obj.toArray⟩, .string ⟨tt.toArray⟩, .bool tw, .int .i64 mod, .int .i64 len, .int .i64 hav, .int .i64 fr, .int .i64 wh, .int .i64 er, .slice KA nk KC, .string ⟨ten.toArray⟩, .bool keep, .slice UA nu uc, .string ⟨fo.toArray⟩, .int .i64 ff, .int .i64 fto, .string ⟨mt.toArray⟩, .bool mw, .string ⟨nt.toArray⟩, .bool nw, .int .u8 st, .int .i64 n] 40)) W0.drew, y.v.cell? ⟨pb, 1, none⟩ = some (.pointer (some ⟨x, 0, none⟩)) := fun y => blk_cell (y.ext.1 P0) 1
 have G2 : ∀ y : GrowR (keepB2 pb ab (.cells #[ptrV b, ptrV x, .slice SA ss.length sc, .slice RA ss.length rc] 68) (.cells #[.int .i64 3, .string ⟨obj.toArray⟩, .string ⟨tt.toArray⟩, .bool tw, .int .i64 mod, .int .i64 len, .int .i64 hav, .int .i64 fr, .int .i64 wh, .int .i64 er, .slice KA nk KC, .string ⟨ten.toArray⟩, .bool keep, .slice UA nu uc, .string ⟨fo.toArray⟩, .int .i64 ff, .int .i64 fto, .string ⟨mt.toArray⟩, .bool mw, .string ⟨nt.toArray⟩, .bool nw, .int .u8 st, .int .i64 n] 40)) W0.drew, y.v.cell? ⟨ab, 1, none⟩ = some (.string ⟨obj.toArray⟩) := fun y => blk_cell (y.ext.2 A0) 1
 refine wp_region_segsR (keepB2 pb ab (.cells #[ptrV b, ptrV x, .slice SA ss.length sc, .slice RA ss.length rc] 68) (.cells #[.int .i64 3, .string ⟨obj.toArray⟩, .string ⟨tt.toArray⟩, .bool tw, .int .i64 mod, .int .i64 len, .int .i64 hav, .int .i64 fr, .int .i64 wh, .int .i64 er, .slice KA nk KC, .string ⟨ten.toArray⟩, .bool keep, .slice UA nu uc, .string ⟨fo.toArray⟩, .int .i64 ff, .int .i64 fto, .string ⟨mt.toArray⟩, .bool mw, .string ⟨nt.toArray⟩, .bool nw, .int .u8 st, .int .i64 n] 40)) [.inl [0, 1, 2, 3, 4, 5, 7, 8, 9, 10, 11, 12], .inr (.inl 6), .inr (.inl 13), .inl [14, 15]] (by kernel_rfl) (by kernel_rfl) (fun c a d v w h => by cases d <;> exact h) ?_
 (rw [wpSegsR_inl]; simp only [pickOps, mCc, mNn, gSs, gZz]; (repeat (go_big_quiet_step (fail))); refine wpQuiet_nil ?_)
 clear G0 G1 G2 A0 P0
 (rw [wpSegsR_grow]; simp only [pickOps, mCc, mNn, gSs, gZz]; go_wp2_with ((go_at_call 19; refine (p_seal HD.out.st (by have := HZ.out.obj; simp only at this; omega)).mono ?_; rintro e w7 ⟨rfl, h7, q7⟩; refine stop_of ?_)))
 unfold Stop
 have K7 := Lh q7; have H7 := Lh h7
 go_wp2_with fail
 refine ⟨keepB2_of ((K7.out pb (.inl rfl)).trans HD.out.blk) ((K7.out ab (.inr (.inr (.inr (.inl rfl))))).trans N0.out), ?_⟩
 clear q7 h7
 (rw [wpSegsR_grow]; simp only [pickOps, mCc, mNn, gSs, gZz]; go_wp2_with ((go_at_call 48; refine (d_seal H7.out (by have := HZ.out.obj; simp only at this; omega)).mono ?_; rintro e w8 ⟨rfl, h8, q8⟩; refine stop_of ?_)))
 unfold Stop
 have K8 := Lh (K7.out.trans q8); have H8 := Lh h8
 go_wp2_with fail
 refine ⟨keepB2_of ((K8.out pb (.inl rfl)).trans HD.out.blk) ((K8.out ab (.inr (.inr (.inr (.inl rfl))))).trans N0.out), ?_⟩
 clear q8 h8 K7 H7
 (rw [wpSegsR_inl]; simp only [pickOps, mCc, mNn, gSs, gZz]; (repeat (go_big_quiet_step (fail))); refine wpQuiet_nil ?_)
 rw [wpSegsR_nil]
 go_wp2
 go_ret
 exact do_fin HP.out XD.out HD.out H8.out K8.out (fun p hp => hp) (by have := HP.out.hN; omega) rfl hg'.out
set_option maxRecDepth 100000 in
set_option maxHeartbeats 4000000 in
theorem do_k4 (h : Play w0 w pb b x k vs ss hl Lx) (hk : k ≤ 1000) {obj tt ten bs fo mt nt : Bs} {tw keep mw nw : Bool} {mod len hav fr wh er ff fto n : Int} {keys : List Bs} {kv bv : Value} {st : Nat} (ha : ActAt w0 ⟨4, obj, ⟨tt, tw, mod, len, hav, fr, wh, er, keys, ten, keep⟩, kv, bs, bv, ⟨fo, ff, fto, mt, mw, nt, nw⟩, st, n⟩) :
  Calls Try.prog 23 #[.pointer (some ⟨pb, 0, none⟩), .agg (actC ⟨4, obj, ⟨tt, tw, mod, len, hav, fr, wh, er, keys, ten, keep⟩, kv, bs, bv, ⟨fo, ff, fto, mt, mw, nt, nw⟩, st, n⟩).toArray] w (DoR w0 w pb b x (k + 1) (doV vs ⟨4, obj, ⟨tt, tw, mod, len, hav, fr, wh, er, keys, ten, keep⟩, kv, bs, bv, ⟨fo, ff, fto, mt, mw, nt, nw⟩, st, n⟩) (doS vs ss ⟨4, obj, ⟨tt, tw, mod, len, hav, fr, wh, er, keys, ten, keep⟩, kv, bs, bv, ⟨fo, ff, fto, mt, mw, nt, nw⟩, st, n⟩) hl Lx) := by
 obtain ⟨N, sa, ra, SA, sc, RA, rc, h⟩ := h
 have hg' := Lh (good_do h.good hk (a := ⟨4, obj, ⟨tt, tw, mod, len, hav, fr, wh, er, keys, ten, keep⟩, kv, bs, bv, ⟨fo, ff, fto, mt, mw, nt, nw⟩, st, n⟩) ha.z.bytes)
 obtain ⟨hz, hkt, hkl, hbt, hbl, hst⟩ := ha
 simp only at hkt hkl hbt hbl hst
 obtain ⟨nu, hnu⟩ : ∃ n, n = bs.length := ⟨_, rfl⟩
 obtain ⟨UA, uc, rfl⟩ : ∃ UA uc, bv = .slice UA nu uc := by obtain ⟨A, c, e, _⟩ := hbt; exact ⟨A, c, by rw [e, hnu]; simp⟩
 obtain ⟨nk, hnk⟩ : ∃ nk, nk = keys.length := ⟨_, rfl⟩
 obtain ⟨KA, KC, rfl⟩ : ∃ KA KC, kv = .slice KA nk KC := by obtain ⟨A, c, e, _⟩ := hkt; exact ⟨A, c, by rw [e, hnk]⟩
 have HZ := Lh hz; have HKT := Lh hkt; have HKL := Lh hkl; have HBT := Lh hbt; have HBL := Lh hbl
 have HK := Lh hk; have HP := Lh h
 clear hz hkt hkl hbt hbl hk hnu hnk h hst
 simp only [actC]
 go_enter Try.func23, Try.ntmps23
 go_wp2_with (refine wpList_boxA 40 rfl _ rfl #[.int .i64 4, .string ⟨obj.toArray⟩, .string ⟨tt.toArray⟩, .bool tw, .int .i64 mod, .int .i64 len, .int .i64 hav, .int .i64 fr, .int .i64 wh, .int .i64 er, .slice KA nk KC, .string ⟨ten.toArray⟩, .bool keep, .slice UA nu uc, .string ⟨fo.toArray⟩, .int .i64 ff, .int .i64 fto, .string ⟨mt.toArray⟩, .bool mw, .string ⟨nt.toArray⟩, .bool nw, .int .u8 st, .int .i64 n] rfl ?_; intro W0 x0 n0 s0; refine stop_of ?_)
 unfold Stop
 obtain ⟨ab, hab⟩ : ∃ p, p = w.heap.size := ⟨_, rfl⟩
 rw [← hab] at n0 ⊢
 have H0 := Lh (HP.out.box x0 (Nat.le_of_eq hab.symm) (blk_lt n0))
 have N0 := Lh n0
 have X0 := Lh x0
 have k0 := blk_cell n0 0
 simp at k0
 clear x0 n0 s0 hab
 go_wp2_with fail
 have P0 : W0.drew.heap[pb]? = some (.cells #[ptrV b, ptrV x, .slice SA ss.length sc, .slice RA ss.length rc] 68) := H0.out.blk
 have A0 : W0.drew.heap[ab]? = some (.cells #[.int .i64 4, .string ⟨obj.toArray⟩, .string ⟨tt.toArray⟩, .bool tw, .int .i64 mod, .int .i64 len, .int .i64 hav, .int .i64 fr, .int .i64 wh, .int .i64 er, .slice KA nk KC, .string ⟨ten.toArray⟩, .bool keep, .slice UA nu uc, .string ⟨fo.toArray⟩, .int .i64 ff, .int .i64 fto, .string ⟨mt.toArray⟩, .bool mw, .string ⟨nt.toArray⟩, .bool nw, .int .u8 st, .int .i64 n] 40) := N0.out
 have HD := Lh (H0.out.ext (Ext.drew (Ext.refl W0)))
 have XD := Lh (X0.out.trans (Ext.drew (Ext.refl W0)))
 have G0 : ∀ y : GrowR (keepB2 pb ab (.cells #[ptrV b, ptrV x, .slice SA ss.length sc, .slice RA ss.length rc] 68) (.cells #[.int .i64 4, .string ⟨obj.toArray⟩, .string ⟨tt.toArray⟩, .bool tw, .int .i64 mod, .int .i64 len, .int .i64 hav, .int .i64 fr, .int .i64 wh, .int .i64 er, .slice KA nk KC, .string ⟨ten.toArray⟩, .bool keep, .slice UA nu uc, .string ⟨fo.toArray⟩, .int .i64 ff, .int .i64 fto, .string ⟨mt.toArray⟩, .bool mw, .string ⟨nt.toArray⟩, .bool nw, .int .u8 st, .int .i64 n] 40)) W0.drew, y.v.cell? ⟨pb, 0, none⟩ = some (.pointer (some ⟨b, 0, none⟩)) := fun y => blk_cell (y.ext.1 P0) 0
 have G1 : ∀ y : GrowR (keepB2 pb ab (.cells #[ptrV b, ptrV x, .slice SA ss.length sc, .slice RA ss.length rc] 68) (.cells #[.int .i64 4, .string ⟨obj.toArray⟩, .string ⟨tt.toArray⟩, .bool tw, .int .i64 mod, .int .i64 len, .int .i64 hav, .int .i64 fr, .int .i64 wh, .int .i64 er, .slice KA nk KC, .string ⟨ten.toArray⟩, .bool keep, .slice UA nu uc, .string ⟨fo.toArray⟩, .int .i64 ff, .int .i64 fto, .string ⟨mt.toArray⟩, .bool mw, .string ⟨nt.toArray⟩, .bool nw, .int .u8 st, .int .i64 n] 40)) W0.drew, y.v.cell? ⟨pb, 1, none⟩ = some (.pointer (some ⟨x, 0, none⟩)) := fun y => blk_cell (y.ext.1 P0) 1
 have G2 : ∀ y : GrowR (keepB2 pb ab (.cells #[ptrV b, ptrV x, .slice SA ss.length sc, .slice RA ss.length rc] 68) (.cells #[.int .i64 4, .string ⟨obj.toArray⟩, .string ⟨tt.toArray⟩, .bool tw, .int .i64 mod, .int .i64 len, .int .i64 hav, .int .i64 fr, .int .i64 wh, .int .i64 er, .slice KA nk KC, .string ⟨ten.toArray⟩, .bool keep, .slice UA nu uc, .string ⟨fo.toArray⟩, .int .i64 ff, .int .i64 fto, .string ⟨mt.toArray⟩, .bool mw, .string ⟨nt.toArray⟩, .bool nw, .int .u8 st, .int .i64 n] 40)) W0.drew, y.v.cell? ⟨ab, 1, none⟩ = some (.string ⟨obj.toArray⟩) := fun y => blk_cell (y.ext.2 A0) 1
 refine wp_region_segsR (keepB2 pb ab (.cells #[ptrV b, ptrV x, .slice SA ss.length sc, .slice RA ss.length rc] 68) (.cells #[.int .i64 4, .string ⟨obj.toArray⟩, .string ⟨tt.toArray⟩, .bool tw, .int .i64 mod, .int .i64 len, .int .i64 hav, .int .i64 fr, .int .i64 wh, .int .i64 er, .slice KA nk KC, .string ⟨ten.toArray⟩, .bool keep, .slice UA nu uc, .string ⟨fo.toArray⟩, .int .i64 ff, .int .i64 fto, .string ⟨mt.toArray⟩, .bool mw, .string ⟨nt.toArray⟩, .bool nw, .int .u8 st, .int .i64 n] 40)) [.inl [0, 1, 2, 3, 4, 5, 7, 8, 9, 10, 11, 12], .inr (.inl 6), .inr (.inl 13), .inl [14, 15]] (by kernel_rfl) (by kernel_rfl) (fun c a d v w h => by cases d <;> exact h) ?_
 (rw [wpSegsR_inl]; simp only [pickOps, mCc, mNn, gSs, gZz]; (repeat (go_big_quiet_step (fail))); refine wpQuiet_nil ?_)
 clear G0 G1 G2 A0 P0
 (rw [wpSegsR_grow]; simp only [pickOps, mCc, mNn, gSs, gZz]; go_wp2_with ((go_at_call 33; refine (p_gone HD.out.st (by have := HZ.out.obj; simp only at this; omega)).mono ?_; rintro e w7 ⟨rfl, h7, q7⟩; refine stop_of ?_)))
 unfold Stop
 have K7 := Lh q7; have H7 := Lh h7
 go_wp2_with fail
 refine ⟨keepB2_of ((K7.out pb (.inl rfl)).trans HD.out.blk) ((K7.out ab (.inr (.inr (.inr (.inl rfl))))).trans N0.out), ?_⟩
 clear q7 h7
 (rw [wpSegsR_grow]; simp only [pickOps, mCc, mNn, gSs, gZz]; go_wp2_with ((go_at_call 49; refine (d_gone H7.out (by have := HZ.out.obj; simp only at this; omega)).mono ?_; rintro e w8 ⟨rfl, h8, q8⟩; refine stop_of ?_)))
 unfold Stop
 have K8 := Lh (K7.out.trans q8); have H8 := Lh h8
 go_wp2_with fail
 refine ⟨keepB2_of ((K8.out pb (.inl rfl)).trans HD.out.blk) ((K8.out ab (.inr (.inr (.inr (.inl rfl))))).trans N0.out), ?_⟩
 clear q8 h8 K7 H7
 (rw [wpSegsR_inl]; simp only [pickOps, mCc, mNn, gSs, gZz]; (repeat (go_big_quiet_step (fail))); refine wpQuiet_nil ?_)
 rw [wpSegsR_nil]
 go_wp2
 go_ret
 exact do_fin HP.out XD.out HD.out H8.out K8.out (fun p hp => hp) (by have := HP.out.hN; omega) rfl hg'.out
set_option maxRecDepth 100000 in
set_option maxHeartbeats 4000000 in
theorem do_k0 (h : Play w0 w pb b x k vs ss hl Lx) (hk : k ≤ 1000) {obj tt ten bs fo mt nt : Bs} {tw keep mw nw : Bool} {mod len hav fr wh er ff fto n kd : Int} {keys : List Bs} {kv bv : Value} {st : Nat} (ha : ActAt w0 ⟨kd, obj, ⟨tt, tw, mod, len, hav, fr, wh, er, keys, ten, keep⟩, kv, bs, bv, ⟨fo, ff, fto, mt, mw, nt, nw⟩, st, n⟩) (e1 : ¬ kd = 1) (e2 : ¬ kd = 2) (e3 : ¬ kd = 3) (e4 : ¬ kd = 4) (e5 : ¬ kd = 5) (e6 : ¬ kd = 6) :
  Calls Try.prog 23 #[.pointer (some ⟨pb, 0, none⟩), .agg (actC ⟨kd, obj, ⟨tt, tw, mod, len, hav, fr, wh, er, keys, ten, keep⟩, kv, bs, bv, ⟨fo, ff, fto, mt, mw, nt, nw⟩, st, n⟩).toArray] w (DoR w0 w pb b x (k + 1) (doV vs ⟨kd, obj, ⟨tt, tw, mod, len, hav, fr, wh, er, keys, ten, keep⟩, kv, bs, bv, ⟨fo, ff, fto, mt, mw, nt, nw⟩, st, n⟩) (doS vs ss ⟨kd, obj, ⟨tt, tw, mod, len, hav, fr, wh, er, keys, ten, keep⟩, kv, bs, bv, ⟨fo, ff, fto, mt, mw, nt, nw⟩, st, n⟩) hl Lx) := by
 obtain ⟨N, sa, ra, SA, sc, RA, rc, h⟩ := h
 have hg' := Lh (good_do h.good hk (a := ⟨kd, obj, ⟨tt, tw, mod, len, hav, fr, wh, er, keys, ten, keep⟩, kv, bs, bv, ⟨fo, ff, fto, mt, mw, nt, nw⟩, st, n⟩) ha.z.bytes)
 obtain ⟨hz, hkt, hkl, hbt, hbl, hst⟩ := ha
 simp only at hkt hkl hbt hbl hst
 obtain ⟨nu, hnu⟩ : ∃ n, n = bs.length := ⟨_, rfl⟩
 obtain ⟨UA, uc, rfl⟩ : ∃ UA uc, bv = .slice UA nu uc := by obtain ⟨A, c, e, _⟩ := hbt; exact ⟨A, c, by rw [e, hnu]; simp⟩
 obtain ⟨nk, hnk⟩ : ∃ nk, nk = keys.length := ⟨_, rfl⟩
 obtain ⟨KA, KC, rfl⟩ : ∃ KA KC, kv = .slice KA nk KC := by obtain ⟨A, c, e, _⟩ := hkt; exact ⟨A, c, by rw [e, hnk]⟩
 have HZ := Lh hz; have HKT := Lh hkt; have HKL := Lh hkl; have HBT := Lh hbt; have HBL := Lh hbl
 have HK := Lh hk; have HP := Lh h
 have EV := Lh (show doV vs ⟨kd, obj, ⟨tt, tw, mod, len, hav, fr, wh, er, keys, ten, keep⟩, .slice KA nk KC, bs, .slice UA nu uc, ⟨fo, ff, fto, mt, mw, nt, nw⟩, st, n⟩ = vs by simp [doV, e1, e2, e3, e4])
 have ES := Lh (show doS vs ss ⟨kd, obj, ⟨tt, tw, mod, len, hav, fr, wh, er, keys, ten, keep⟩, .slice KA nk KC, bs, .slice UA nu uc, ⟨fo, ff, fto, mt, mw, nt, nw⟩, st, n⟩ = ss by simp [doS, e5, e6])
 clear hz hkt hkl hbt hbl hk hnu hnk h hst
 simp only [actC]
 go_enter Try.func23, Try.ntmps23
 go_wp2_with (refine wpList_boxA 40 rfl _ rfl #[.int .i64 kd, .string ⟨obj.toArray⟩, .string ⟨tt.toArray⟩, .bool tw, .int .i64 mod, .int .i64 len, .int .i64 hav, .int .i64 fr, .int .i64 wh, .int .i64 er, .slice KA nk KC, .string ⟨ten.toArray⟩, .bool keep, .slice UA nu uc, .string ⟨fo.toArray⟩, .int .i64 ff, .int .i64 fto, .string ⟨mt.toArray⟩, .bool mw, .string ⟨nt.toArray⟩, .bool nw, .int .u8 st, .int .i64 n] rfl ?_; intro W0 x0 n0 s0; refine stop_of ?_)
 unfold Stop
 obtain ⟨ab, hab⟩ : ∃ p, p = w.heap.size := ⟨_, rfl⟩
 rw [← hab] at n0 ⊢
 have H0 := Lh (HP.out.box x0 (Nat.le_of_eq hab.symm) (blk_lt n0))
 have N0 := Lh n0
 have X0 := Lh x0
 have k0 := blk_cell n0 0
 simp at k0
 clear x0 n0 s0 hab
 go_wp2
 go_ret
 rw [EV.out, ES.out]
 exact ⟨rfl, ⟨N, sa, ra, SA, sc, RA, rc, (HP.out.ext X0.out)⟩ |> Play.more, KeepP.ext X0.out HP.out.lt⟩
end
end Go.Proofs.Ytpangoddbfiagaa
namespace Go.Proofs.Ytpangoddbfiagaa
open Go.RowKit Go.Maps Go.ChangeMaps
set_option linter.unusedVariables false
set_option linter.unusedSimpArgs false
theorem info45 : (Try.prog.info? 45).map (fun i => (i.zero, i.size, i.bytes)) = some (some (.pointer none), 1, 8) := by kernel_rfl
theorem info73 : (Try.prog.info? 73).map (fun i => (i.zero, i.size, i.bytes)) = some (some (.pointer none), 1, 8) := by kernel_rfl
theorem size65 : (Try.prog.info? 65).map (·.size) = some 1 := by kernel_rfl
theorem size66 : (Try.prog.info? 66).map (·.size) = some 1 := by kernel_rfl
theorem wpList_push1 {W : World} {ops : Array Oper} {rest : List Oper} {o : Oper} {a : Act} {Q : Exit → Act → World → Prop} (t e : TypeId) (ht : Try.prog.underlying t = some (.slice e)) (hinfo : (Try.prog.info? e).map (fun i => (i.zero, i.size, i.bytes)) = some (some (.pointer none), 1, 8))
  (hgd : o.guard = none) (s x : Operand) (ho : o.op = .call { callee := .builtin .append, args := #[s, x], argTypes := #[t, t] })
  (base : Nat) (A0 : Option Addr) (n c0 : Nat) (bs : List Nat) (q c1 : Nat) (hown : W.ownsRow base e 1 (.slice A0 n c0) n (bs.map ptrV)) (hsrc : W.heap[c1]? = some (.cells #[ptrV q] e)) (hs : a.eval s = .slice A0 n c0) (hx : a.eval x = .slice (some ⟨c1, 0, none⟩) 1 1)
  (hlen : n ≤ 10000) (hbase : base ≤ W.heap.size)
  (h : ∀ A' c' w', w'.ownsRow base e 1 (.slice A' (n + 1) c') (n + 1) ((bs ++ [q]).map ptrV) → ExtB (Value.slice A0 n c0).ownBlock.toList W w' → (∀ x, (Value.slice A' (n + 1) c').ownBlock = some x → (Value.slice A0 n c0).ownBlock = some x ∨ W.heap.size ≤ x) → wpList Try.prog ops Q rest (a.put o.dst (.slice A' (n + 1) c')) w') : wpList Try.prog ops Q (o :: rest) a W := by
 have hl : (bs.map ptrV).length = n := by have := hown.1; simpa using this
 have hsrc' : RowAt W (.slice (some ⟨c1, 0, none⟩) ([ptrV q] : List Value).length 1) [ptrV q] := ⟨_, _, rfl, Nat.le_refl _, fun e => (by cases e), fun j hj => ⟨c1, 0, rfl, by have h0 : j = 0 := (by simpa using hj); subst h0; exact blk_cell hsrc 0⟩⟩
 refine wpList_push t e (.pointer none) 8 ht hinfo rfl (by decide) hgd s x ho base (.slice A0 n c0) (bs.map ptrV) [ptrV q] ⟨c1, 0, none⟩ 1 (by rw [hl]; exact hown) hsrc' (by intro y hy; rw [show y = ptrV q by simpa using hy]; rfl) hs hx (by rw [hl]; simp; omega) hbase fun v' w' h1 h2 h3 => ?_
 obtain ⟨A', c', e'⟩ := own_slice h1
 have hl2 : (bs.map ptrV ++ [ptrV q]).length = n + 1 := by rw [List.length_append, hl]; rfl
 rw [hl2] at e' h1
 subst e'
 exact h A' c' w' (by rw [List.map_append]; exact h1) (grownBy_extB h2) h3
section
variable {w0 W W2 W8 : World} {pb b x k N : Nat} {Lx : Nat → Prop} {vs : List Vn} {ss : List Sn} {sa ra : List Nat} {hl : List (Value × Bs)} {SA RA SA' RA' : Option Addr} {sc rc sc' rc' sb rb : Nat} {S : Sn}
theorem PlayX.askd (h : PlayX w0 W pb b x k N vs ss sa ra SA sc RA rc hl Lx) (hx : W.heap.size ≤ W2.heap.size) (hP : Pl2 w0 W2 b x N (playL pb (.slice SA ss.length sc) (.slice RA ss.length rc) Lx) vs (ss ++ [S]) (sa ++ [sb]) vs (ss ++ [S]) (ra ++ [rb]) hl)
  (hB : ExtB (pb :: ((Value.slice SA ss.length sc).ownBlock.toList ++ (Value.slice RA ss.length rc).ownBlock.toList)) W2 W8) (hblk : W8.heap[pb]? = some (.cells #[ptrV b, ptrV x, .slice SA' (ss.length + 1) sc', .slice RA' (ss.length + 1) rc'] 68 (0, 0)))
  (hs : W8.ownsRow w0.heap.size 45 1 (.slice SA' (ss.length + 1) sc') (ss.length + 1) ((sa ++ [sb]).map ptrV)) (hr : W8.ownsRow w0.heap.size 73 1 (.slice RA' (ss.length + 1) rc') (ss.length + 1) ((ra ++ [rb]).map ptrV))
  (ws : ∀ g, (Value.slice SA' (ss.length + 1) sc').ownBlock = some g → (Value.slice SA ss.length sc).ownBlock = some g ∨ W2.heap.size ≤ g) (wr : ∀ g, (Value.slice RA' (ss.length + 1) rc').ownBlock = some g → (Value.slice RA ss.length rc).ownBlock = some g ∨ W2.heap.size ≤ g) (hg : GoodA (k + 1) vs (ss ++ [S])) : PlayX w0 W8 pb b x (k + 1) N vs (ss ++ [S]) (sa ++ [sb]) (ra ++ [rb]) SA' sc' RA' rc' hl Lx := by
 have e1 : (ss ++ [S]).length = ss.length + 1 := by simp
 have hlt : ∀ g, Lx g → g < W2.heap.size := fun g hg => Nat.lt_of_lt_of_le (h.lt g hg) hx
 refine ⟨by have := h.hN; omega, ?_, by rw [e1]; exact hblk, by rw [e1]; exact hs, by rw [e1]; exact hr, h.nb, fun g e hh => ?_, fun g e hh => ?_, hg⟩
 ·rw [e1]
  refine hP.other (.ofB hB fun g hg => .inl ?_) fun g hg => ?_
  ·rcases List.mem_cons.1 hg with e | e
   ·exact .inl e
   ·rcases List.mem_append.1 e with e | e
    ·exact .inr (.inl (by simpa using e))
    ·exact .inr (.inr (.inl (by simpa using e)))
  ·rcases hg with hg | hg | hg | hg
   ·exact .inl (.inl hg)
   ·exact (ws g hg).imp (fun e => .inr (.inl e)) fun e => ⟨e, (hs.lt g hg).2⟩
   ·exact (wr g hg).imp (fun e => .inr (.inr (.inl e))) fun e => ⟨e, (hr.lt g hg).2⟩
   ·exact .inl (.inr (.inr (.inr hg)))
 ·rw [e1] at e
  rcases ws g e with h1 | h1
  ·exact h.ns g h1 hh
  ·have := hlt g hh; omega
 ·rw [e1] at e
  rcases wr g e with h1 | h1
  ·exact h.nr g h1 hh
  ·have := hlt g hh; omega
end
end Go.Proofs.Ytpangoddbfiagaa
