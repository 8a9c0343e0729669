import Derived.Test.YtpangoddbfiagaaRG28
namespace Go.Proofs.Ytpangoddbfiagaa
open Go.ChangeShapes Go.WideShapes Go.ChangeAt Go.RowKit Go.Deep Go.Joins
open Go.Maps Go.ChangeMaps
set_option linter.unusedVariables false
set_option linter.unusedSimpArgs false
theorem Below.heap_atR {B : Nat} {a b : World} (h : Below B a b) {g : Nat} (hg : g < B) {o : Obj} (e : a.heap[g]? = some o) : b.heap[g]? = some o := (h.block g hg).trans e
theorem src_actR {W : World} {cs : Nat} {a : ActP} (h : W.heap[cs]? = some (.cells (actC a).toArray 40)) (hr : RAct W a (actC a)) : RowsG W 23 (RAct W) (.slice (some ⟨cs, 0, none⟩) 1 1) [a] :=
 ⟨some ⟨cs, 0, none⟩, 1, rfl, Nat.le_refl _, fun e => (by cases e), fun k hk => ⟨cs, 0, actC a, rfl, by
  have h0 : k = 0 := by simp at hk; exact hk
  subst h0; exact hr, blk_lt h, fun j u hu => by
  have h0 : k = 0 := by simp at hk; exact hk
  subst h0
  rw [show 0 + 0 * 23 + j = j by omega, blk_cell h]
  simpa using hu⟩⟩
theorem bytesA_le {w0 w : World} {b x N : Nat} {L : Nat → Prop} {vs us : List Vn} {ss ts : List Sn} {sa ra : List Nat} {hl : List (Value × Bs)} (h : Pl2 w0 w b x N L vs ss sa us ts ra hl) (o : Bs) : (bytesA vs o).length ≤ 100000 := by
 unfold bytesA
 split
 ·simp
 ·split
  ·simp
  ·rename_i v hv; exact (h.verZ (List.mem_of_getElem? hv)).2.1
theorem cut1R {A P : Option Addr → Nat → Nat → World → Prop} {G : Prop} (h2 : (∀ v1 v2 v3 W, A v1 v2 v3 W → P v1 v2 v3 W) → G) (h1 : ∀ v1 v2 v3 W, A v1 v2 v3 W → P v1 v2 v3 W) : G := h2 h1
theorem cut5R {A P : Value → Value → Value → Value → Bool → World → Prop} {G : Prop} (h2 : (∀ v1 v2 v3 v4 r W, A v1 v2 v3 v4 r W → P v1 v2 v3 v4 r W) → G) (h1 : ∀ v1 v2 v3 v4 r W, A v1 v2 v3 v4 r W → P v1 v2 v3 v4 r W) : G := h2 h1
def fAct (k : Int) (f : Ft) : ActP := ⟨k, [], zeroM, .slice none 0 0, [], .slice none 0 0, f, 0, 0⟩
theorem fAct_r (k : Int) (f : Ft) (W : World) : RAct W (fAct k f) (actC (fAct k f)) := ⟨rfl, texts_nil _, low_nil _, ⟨none, 0, rfl, Nat.le_refl _, fun _ => rfl, fun j hj => by simp [fAct] at hj⟩, low_nil _, by simp [fAct]⟩
set_option maxRecDepth 100000 in
set_option maxHeartbeats 8000000 in
theorem refused_walk (lv : Value) (xs : List ActP) (a : ActP) (w : World) (hL : RowsG w 23 (RAct w) lv xs) (hwt : xs.length * 264 ≤ 140737488351232) (hra : RAct w a (actC a)) :
  Calls Try.prog 9 #[lv, .agg (actC a).toArray] w fun e w' => e = .returned (.bool true) ∧ Below w.heap.size w w' := by
 obtain ⟨LA, LC, rfl⟩ := RowsG.slice hL
 obtain ⟨n, hn⟩ : ∃ n, n = xs.length := ⟨_, rfl⟩
 have HL := Lh hL
 rw [← hn] at HL ⊢
 have HN := Lh hn; have HWT := Lh hwt
 clear hL hn hwt
 obtain ⟨kd, obj, ⟨tt, tw, mod, len, hav, fr, wh, er, keys, ten, keep⟩, kv, bs, bv, ⟨fo, ff, fto, mt, mw, nt, nw⟩, st, tn⟩ := a
 obtain ⟨nu, hnu⟩ : ∃ n, n = bs.length := ⟨_, rfl⟩
 obtain ⟨UA, uc, rfl⟩ : ∃ UA uc, bv = .slice UA nu uc := by obtain ⟨A, c, e, _⟩ := hra.2.2.2.1; exact ⟨A, c, by rw [show bv = _ from e, hnu]; simp⟩
 obtain ⟨nk, hnk⟩ : ∃ nk, nk = keys.length := ⟨_, rfl⟩
 obtain ⟨KA, KC, rfl⟩ : ∃ KA KC, kv = .slice KA nk KC := by obtain ⟨A, c, e, _⟩ := hra.2.1; exact ⟨A, c, by rw [show kv = _ from e, hnk]⟩
 have HRA := Lh hra
 clear hra hnu hnk
 simp only [actC]
 go_enter Try.func9, Try.ntmps9
 go_wp2_with (refine wpList_boxA 40 rfl _ rfl #[.int .i64 kd, .string ⟨obj.toArray⟩, .string ⟨tt.toArray⟩, .bool tw, .int .i64 mod, .int .i64 len, .int .i64 hav, .int .i64 fr, .int .i64 wh, .int .i64 er, .slice KA nk KC, .string ⟨ten.toArray⟩, .bool keep, .slice UA nu uc, .string ⟨fo.toArray⟩, .int .i64 ff, .int .i64 fto, .string ⟨mt.toArray⟩, .bool mw, .string ⟨nt.toArray⟩, .bool nw, .int .u8 st, .int .i64 tn] rfl ?_; intro W0 x0 n0 s0; refine stop_of ?_)
 unfold Stop
 obtain ⟨fb, hfb⟩ : ∃ p, p = w.heap.size := ⟨_, rfl⟩
 rw [← hfb] at n0 ⊢
 have X0 := Lh x0; have N0 := Lh n0
 have RAF := Lh (fun W (y : Ext W0 W) => (HRA.out.ext (x0.trans y) : RAct W (⟨kd, obj, ⟨tt, tw, mod, len, hav, fr, wh, er, keys, ten, keep⟩, .slice KA nk KC, bs, .slice UA nu uc, ⟨fo, ff, fto, mt, mw, nt, nw⟩, st, tn⟩ : ActP) (actC (⟨kd, obj, ⟨tt, tw, mod, len, hav, fr, wh, er, keys, ten, keep⟩, .slice KA nk KC, bs, .slice UA nu uc, ⟨fo, ff, fto, mt, mw, nt, nw⟩, st, tn⟩ : ActP))))
 clear x0 n0 s0 hfb
 go_wp2_with (go_at_call 22; refine (begin_any _).mono ?_; rintro e w1 ⟨pb, b, x, rfl, h1⟩; refine stop_of ?_)
 unfold Stop
 have H1 := Lh h1
 clear h1
 go_wp2_with fail
 obtain ⟨BB, hBB⟩ : ∃ p, p = w1.drew.heap.size := ⟨_, rfl⟩
 have HB1 := Lh hBB
 clear hBB
 apply cut5R (A := fun _ _ _ _ r W => Hid (Play W0 W pb b x 0 [] [] [] noP) ∧ Hid (r = false → ([] ++ xs ++ [(⟨kd, obj, ⟨tt, tw, mod, len, hav, fr, wh, er, keys, ten, keep⟩, .slice KA nk KC, bs, .slice UA nu uc, ⟨fo, ff, fto, mt, mw, nt, nw⟩, st, tn⟩ : ActP)]).length ≤ 40 ∧ ∀ a ∈ [] ++ xs ++ [(⟨kd, obj, ⟨tt, tw, mod, len, hav, fr, wh, er, keys, ten, keep⟩, .slice KA nk KC, bs, .slice UA nu uc, ⟨fo, ff, fto, mt, mw, nt, nw⟩, st, tn⟩ : ActP)], ActZ a))
 ·intro TAIL
  refine wp_region_trzR (keepLow BB) [] [] (.one 0 (.pure [1, 2, 3, 4, 5, 6, 8, 10] (.fork 7 (.fork 9 (.one 11 (.one 12 (.one 13 (.pure [14] (.done))))) 11 (.one 9 (.one 12 (.one 13 (.pure [14] (.done)))))) 11 (.one 7 (.one 9 (.one 12 (.one 13 (.pure [14] (.done))))))))) (by kernel_rfl) (by kernel_rfl) (fun c a d v w h => by cases d <;> exact h) ?_
  (simp only [pickOps, mCc, mNn, gSs, gZz]; refine wpQuiet_nil ?_)
  (rw [wpTzR_one]; simp only [pickOps, mCc, mNn, gSs, gZz]; go_wp2_with (go_at_call 11; refine (awake_any _).mono ?_; rintro e w2 ⟨rfl, x2⟩; refine stop_of ?_))
  unfold Stop
  have H2 := Lh (H1.out.ext ((Ext.drew (Ext.refl w1)).trans x2)); have HBB := Lh (show BB ≤ w2.heap.size from by have h1 := HB1.out; have h2 := x2.size; omega)
  have B2 := Lh (Below.mono x2 (Nat.le_of_eq HB1.out))
  go_wp2_with fail
  refine ⟨B2.out, ?_⟩
  clear x2 B2
  have FBL := Lh (show fb < BB from by have h1 := HB1.out; have h2 := blk_lt N0.out; have h3 := H1.out.base.size; have h4 : w1.drew.heap.size = w1.heap.size := rfl; omega)
  have N2 := Lh (H2.out.base.heap N0.out)
  have HLW := Lh (show RowsG w2 23 (RAct w2) (.slice LA n LC) xs from by exact acts_ext HL.out (X0.out.trans H2.out.base))
  have XI := Lh (Ext.refl w2)
  (rw [wpTzR_pure]; simp only [pickOps, mCc, mNn, gSs, gZz]; (repeat (go_big_quiet_step (fail))); (refine wpQuiet_get 40 _ rfl _ rfl fb 0 40 _ [.int .i64 kd, .string ⟨obj.toArray⟩, .string ⟨tt.toArray⟩, .bool tw, .int .i64 mod, .int .i64 len, .int .i64 hav, .int .i64 fr, .int .i64 wh, .int .i64 er, .slice KA nk KC, .string ⟨ten.toArray⟩, .bool keep, .slice UA nu uc, .string ⟨fo.toArray⟩, .int .i64 ff, .int .i64 fto, .string ⟨mt.toArray⟩, .bool mw, .string ⟨nt.toArray⟩, .bool nw, .int .u8 st, .int .i64 tn] rfl (fun W hW => by obtain ⟨y, rfl⟩ := hW; exact (Below.heap_atR y.ext FBL.out N2.out)) (by kernel_rfl) Try.underlying40 rfl size40 ?_; simp only [Act.put, sAa, sSs, sZz]); (repeat (go_big_quiet_step (fail))); refine wpQuiet_nil ?_)
  rw [wpTzR_fork]
  refine ⟨?_, ?_⟩
  ·(simp only [pickOps, mCc, mNn, gSs, gZz]; go_wp2_with fail)
   refine ⟨Below.mono (ext_alloc1 w2 (.cells #[] 40)) (Nat.le_trans HBB.out XI.out.size), ?_⟩
   have E1 := Lh (XI.out.trans (ext_alloc1 w2 (.cells #[] 40)))
   have LE := Lh (show (w2.alloc (.cells #[] 40)).ownsRow w2.heap.size 40 23 (.slice (some ⟨w2.heap.size, 0, none⟩) 0 0) 0 (actCells []) from by have h : (w2.alloc (.cells #[] 40)).ownsRow w2.heap.size 40 23 (.slice (some ⟨w2.heap.size, 0, none⟩) 0 0) 0 (actCells []) := World.ownsRow_made w2 #[] 0 XI.out.size (by unfold maxLen; omega) rfl; simpa using h)
   rw [wpTzR_fork]
   refine ⟨?_, ?_⟩
   ·(simp only [pickOps, mCc, mNn, gSs, gZz]; refine wpList_appA (W0 := w2) rfl _ _ rfl (.slice (some ⟨w2.heap.size, 0, none⟩) 0 0) (.slice LA n LC) [] xs E1.out LE.out (acts_ext HLW.out E1.out) rfl rfl (by have := HWT.out; simp; omega) ?_; intro v4 w4 r4 e4 b4 x4; refine stop_of ?_)
    unfold Stop
    go_wp2_with fail
    refine ⟨Below.mono b4 HBB.out, ?_⟩
    have R4 := Lh r4; have E9 := Lh e4
    clear r4 e4 b4 x4
    (rw [wpTzR_one]; simp only [pickOps, mCc, mNn, gSs, gZz]; go_wp2_with fail)
    refine ⟨Below.mono (ext_alloc1 w4 (.cells (actC (⟨kd, obj, ⟨tt, tw, mod, len, hav, fr, wh, er, keys, ten, keep⟩, .slice KA nk KC, bs, .slice UA nu uc, ⟨fo, ff, fto, mt, mw, nt, nw⟩, st, tn⟩ : ActP)).toArray 40)) (Nat.le_trans HBB.out E9.out.size), ?_⟩
    have CS := Lh (show (w4.alloc (.cells (actC (⟨kd, obj, ⟨tt, tw, mod, len, hav, fr, wh, er, keys, ten, keep⟩, .slice KA nk KC, bs, .slice UA nu uc, ⟨fo, ff, fto, mt, mw, nt, nw⟩, st, tn⟩ : ActP)).toArray 40)).heap[w4.heap.size]? = some (.cells (actC (⟨kd, obj, ⟨tt, tw, mod, len, hav, fr, wh, er, keys, ten, keep⟩, .slice KA nk KC, bs, .slice UA nu uc, ⟨fo, ff, fto, mt, mw, nt, nw⟩, st, tn⟩ : ActP)).toArray 40) from heap_alloc_new w4 (.cells (actC (⟨kd, obj, ⟨tt, tw, mod, len, hav, fr, wh, er, keys, ten, keep⟩, .slice KA nk KC, bs, .slice UA nu uc, ⟨fo, ff, fto, mt, mw, nt, nw⟩, st, tn⟩ : ActP)).toArray 40))
    have R4 := Lh (ownsRow_below R4.out (ext_alloc1 w4 (.cells (actC (⟨kd, obj, ⟨tt, tw, mod, len, hav, fr, wh, er, keys, ten, keep⟩, .slice KA nk KC, bs, .slice UA nu uc, ⟨fo, ff, fto, mt, mw, nt, nw⟩, st, tn⟩ : ActP)).toArray 40)))
    have E9 := Lh (E9.out.trans (ext_alloc1 w4 (.cells (actC (⟨kd, obj, ⟨tt, tw, mod, len, hav, fr, wh, er, keys, ten, keep⟩, .slice KA nk KC, bs, .slice UA nu uc, ⟨fo, ff, fto, mt, mw, nt, nw⟩, st, tn⟩ : ActP)).toArray 40)))
    (rw [wpTzR_one]; simp only [pickOps, mCc, mNn, gSs, gZz]; refine wpList_appA (W0 := w2) rfl _ _ rfl v4 (.slice (some ⟨w4.heap.size, 0, none⟩) 1 1) ([] ++ xs) [(⟨kd, obj, ⟨tt, tw, mod, len, hav, fr, wh, er, keys, ten, keep⟩, .slice KA nk KC, bs, .slice UA nu uc, ⟨fo, ff, fto, mt, mw, nt, nw⟩, st, tn⟩ : ActP)] E9.out R4.out (src_actR CS.out (RAF.out _ (H2.out.base.trans E9.out))) rfl rfl (by have := HWT.out; simp; omega) ?_; intro v5 w5 r5 e5 b5 x5; refine stop_of ?_)
    unfold Stop
    go_wp2_with fail
    refine ⟨Below.mono b5 HBB.out, ?_⟩
    obtain ⟨ys, hys⟩ : ∃ ys, ys = [] ++ xs ++ [(⟨kd, obj, ⟨tt, tw, mod, len, hav, fr, wh, er, keys, ten, keep⟩, .slice KA nk KC, bs, .slice UA nu uc, ⟨fo, ff, fto, mt, mw, nt, nw⟩, st, tn⟩ : ActP)] := ⟨_, rfl⟩
    have HYS := Lh hys
    rw [← hys] at r5
    clear hys
    have hall : ∀ a ∈ ys, RAct w5 a (actC a) := fun a ha => by
     rw [HYS.out] at ha
     rcases List.mem_append.1 ha with h1 | h1
     ·exact rows_all (acts_ext HLW.out e5) a (by simpa using h1)
     ·rw [List.mem_singleton.1 h1]; exact RAF.out _ (H2.out.base.trans e5)
    have hro := own_acts r5 hall
    obtain ⟨A5, c5, rfl⟩ := RowsG.slice hro
    have HGR := Lh (great_any w5 A5 _ c5 hro)
    have X5 := Lh e5
    clear r5 e5 b5 x5 hall hro R4 E9 CS
    (rw [wpTzR_one]; simp only [pickOps, mCc, mNn, gSs, gZz]; go_wp2_with (go_at_call 12; refine HGR.out.mono ?_; rintro e w6 ⟨r, rfl, hr, x6⟩; refine stop_of ?_))
    unfold Stop
    have HR6 := Lh hr; have X6 := Lh (X5.out.trans x6); have B6 := Lh (Below.mono x6 (Nat.le_trans HBB.out X5.out.size))
    clear hr x6 HGR
    go_wp2_with fail
    refine ⟨B6.out, ?_⟩
    (rw [wpTzR_pure]; simp only [pickOps, mCc, mNn, gSs, gZz]; (repeat (go_big_quiet_step (fail))); refine wpQuiet_nil ?_)
    rw [wpTzR_done]
    generalize Value.slice (some ⟨w4.heap.size, 0, none⟩) 1 1 = v25
    generalize Value.slice (some ⟨w2.heap.size, 0, none⟩) 0 0 = v20
    generalize Value.slice A5 ys.length c5 = v26
    exact TAIL v20 v4 v25 v26 r w6 ⟨Lh (H2.out.ext X6.out), Lh fun e => by have h := HR6.out e; rw [HYS.out] at h; exact h⟩
   ·(simp only [pickOps, mCc, mNn, gSs, gZz]; go_wp2_with fail)
    refine ⟨Below.mono (ext_alloc1 (w2.alloc (.cells #[] 40)) (.cells (actC (⟨kd, obj, ⟨tt, tw, mod, len, hav, fr, wh, er, keys, ten, keep⟩, .slice KA nk KC, bs, .slice UA nu uc, ⟨fo, ff, fto, mt, mw, nt, nw⟩, st, tn⟩ : ActP)).toArray 40)) (Nat.le_trans HBB.out E1.out.size), ?_⟩
    have E2 := Lh (E1.out.trans (ext_alloc1 (w2.alloc (.cells #[] 40)) (.cells (actC (⟨kd, obj, ⟨tt, tw, mod, len, hav, fr, wh, er, keys, ten, keep⟩, .slice KA nk KC, bs, .slice UA nu uc, ⟨fo, ff, fto, mt, mw, nt, nw⟩, st, tn⟩ : ActP)).toArray 40)))
    have LE := Lh (show ((w2.alloc (.cells #[] 40)).alloc (.cells (actC (⟨kd, obj, ⟨tt, tw, mod, len, hav, fr, wh, er, keys, ten, keep⟩, .slice KA nk KC, bs, .slice UA nu uc, ⟨fo, ff, fto, mt, mw, nt, nw⟩, st, tn⟩ : ActP)).toArray 40)).ownsRow w2.heap.size 40 23 (.slice (some ⟨w2.heap.size, 0, none⟩) 0 0) 0 (actCells []) from ownsRow_below LE.out (ext_alloc1 (w2.alloc (.cells #[] 40)) (.cells (actC (⟨kd, obj, ⟨tt, tw, mod, len, hav, fr, wh, er, keys, ten, keep⟩, .slice KA nk KC, bs, .slice UA nu uc, ⟨fo, ff, fto, mt, mw, nt, nw⟩, st, tn⟩ : ActP)).toArray 40)))
    have CS := Lh (show ((w2.alloc (.cells #[] 40)).alloc (.cells (actC (⟨kd, obj, ⟨tt, tw, mod, len, hav, fr, wh, er, keys, ten, keep⟩, .slice KA nk KC, bs, .slice UA nu uc, ⟨fo, ff, fto, mt, mw, nt, nw⟩, st, tn⟩ : ActP)).toArray 40)).heap[(w2.heap.size + 1)]? = some (.cells (actC (⟨kd, obj, ⟨tt, tw, mod, len, hav, fr, wh, er, keys, ten, keep⟩, .slice KA nk KC, bs, .slice UA nu uc, ⟨fo, ff, fto, mt, mw, nt, nw⟩, st, tn⟩ : ActP)).toArray 40) from by have := heap_alloc_new (w2.alloc (.cells #[] 40)) (.cells (actC (⟨kd, obj, ⟨tt, tw, mod, len, hav, fr, wh, er, keys, ten, keep⟩, .slice KA nk KC, bs, .slice UA nu uc, ⟨fo, ff, fto, mt, mw, nt, nw⟩, st, tn⟩ : ActP)).toArray 40); simpa using this)
    (rw [wpTzR_one]; simp only [pickOps, mCc, mNn, gSs, gZz]; refine wpList_appA (W0 := w2) rfl _ _ rfl (.slice (some ⟨w2.heap.size, 0, none⟩) 0 0) (.slice LA n LC) [] xs E2.out LE.out (acts_ext HLW.out E2.out) rfl rfl (by have := HWT.out; simp; omega) ?_; intro v4 w4 r4 e4 b4 x4; refine stop_of ?_)
    unfold Stop
    go_wp2_with fail
    refine ⟨Below.mono b4 HBB.out, ?_⟩
    have R4 := Lh r4; have E9 := Lh e4
    have CS := Lh (x4.heap CS.out (by simp [Value.ownBlock]))
    clear r4 e4 b4 x4
    (rw [wpTzR_one]; simp only [pickOps, mCc, mNn, gSs, gZz]; refine wpList_appA (W0 := w2) rfl _ _ rfl v4 (.slice (some ⟨(w2.heap.size + 1), 0, none⟩) 1 1) ([] ++ xs) [(⟨kd, obj, ⟨tt, tw, mod, len, hav, fr, wh, er, keys, ten, keep⟩, .slice KA nk KC, bs, .slice UA nu uc, ⟨fo, ff, fto, mt, mw, nt, nw⟩, st, tn⟩ : ActP)] E9.out R4.out (src_actR CS.out (RAF.out _ (H2.out.base.trans E9.out))) rfl rfl (by have := HWT.out; simp; omega) ?_; intro v5 w5 r5 e5 b5 x5; refine stop_of ?_)
    unfold Stop
    go_wp2_with fail
    refine ⟨Below.mono b5 HBB.out, ?_⟩
    obtain ⟨ys, hys⟩ : ∃ ys, ys = [] ++ xs ++ [(⟨kd, obj, ⟨tt, tw, mod, len, hav, fr, wh, er, keys, ten, keep⟩, .slice KA nk KC, bs, .slice UA nu uc, ⟨fo, ff, fto, mt, mw, nt, nw⟩, st, tn⟩ : ActP)] := ⟨_, rfl⟩
    have HYS := Lh hys
    rw [← hys] at r5
    clear hys
    have hall : ∀ a ∈ ys, RAct w5 a (actC a) := fun a ha => by
     rw [HYS.out] at ha
     rcases List.mem_append.1 ha with h1 | h1
     ·exact rows_all (acts_ext HLW.out e5) a (by simpa using h1)
     ·rw [List.mem_singleton.1 h1]; exact RAF.out _ (H2.out.base.trans e5)
    have hro := own_acts r5 hall
    obtain ⟨A5, c5, rfl⟩ := RowsG.slice hro
    have HGR := Lh (great_any w5 A5 _ c5 hro)
    have X5 := Lh e5
    clear r5 e5 b5 x5 hall hro R4 E9 CS
    (rw [wpTzR_one]; simp only [pickOps, mCc, mNn, gSs, gZz]; go_wp2_with (go_at_call 12; refine HGR.out.mono ?_; rintro e w6 ⟨r, rfl, hr, x6⟩; refine stop_of ?_))
    unfold Stop
    have HR6 := Lh hr; have X6 := Lh (X5.out.trans x6); have B6 := Lh (Below.mono x6 (Nat.le_trans HBB.out X5.out.size))
    clear hr x6 HGR
    go_wp2_with fail
    refine ⟨B6.out, ?_⟩
    (rw [wpTzR_pure]; simp only [pickOps, mCc, mNn, gSs, gZz]; (repeat (go_big_quiet_step (fail))); refine wpQuiet_nil ?_)
    rw [wpTzR_done]
    generalize Value.slice (some ⟨(w2.heap.size + 1), 0, none⟩) 1 1 = v25
    generalize Value.slice (some ⟨w2.heap.size, 0, none⟩) 0 0 = v20
    generalize Value.slice A5 ys.length c5 = v26
    exact TAIL v20 v4 v25 v26 r w6 ⟨Lh (H2.out.ext X6.out), Lh fun e => by have h := HR6.out e; rw [HYS.out] at h; exact h⟩
  ·(simp only [pickOps, mCc, mNn, gSs, gZz]; go_wp2_with fail)
   refine ⟨Below.mono (ext_alloc1 w2 (.cells (actC (⟨kd, obj, ⟨tt, tw, mod, len, hav, fr, wh, er, keys, ten, keep⟩, .slice KA nk KC, bs, .slice UA nu uc, ⟨fo, ff, fto, mt, mw, nt, nw⟩, st, tn⟩ : ActP)).toArray 40)) (Nat.le_trans HBB.out XI.out.size), ?_⟩
   have E1 := Lh (XI.out.trans (ext_alloc1 w2 (.cells (actC (⟨kd, obj, ⟨tt, tw, mod, len, hav, fr, wh, er, keys, ten, keep⟩, .slice KA nk KC, bs, .slice UA nu uc, ⟨fo, ff, fto, mt, mw, nt, nw⟩, st, tn⟩ : ActP)).toArray 40)))
   have CS := Lh (show (w2.alloc (.cells (actC (⟨kd, obj, ⟨tt, tw, mod, len, hav, fr, wh, er, keys, ten, keep⟩, .slice KA nk KC, bs, .slice UA nu uc, ⟨fo, ff, fto, mt, mw, nt, nw⟩, st, tn⟩ : ActP)).toArray 40)).heap[w2.heap.size]? = some (.cells (actC (⟨kd, obj, ⟨tt, tw, mod, len, hav, fr, wh, er, keys, ten, keep⟩, .slice KA nk KC, bs, .slice UA nu uc, ⟨fo, ff, fto, mt, mw, nt, nw⟩, st, tn⟩ : ActP)).toArray 40) from by have := heap_alloc_new w2 (.cells (actC (⟨kd, obj, ⟨tt, tw, mod, len, hav, fr, wh, er, keys, ten, keep⟩, .slice KA nk KC, bs, .slice UA nu uc, ⟨fo, ff, fto, mt, mw, nt, nw⟩, st, tn⟩ : ActP)).toArray 40); simpa using this)
   (rw [wpTzR_one]; simp only [pickOps, mCc, mNn, gSs, gZz]; go_wp2_with fail)
   refine ⟨Below.mono (ext_alloc1 (w2.alloc (.cells (actC (⟨kd, obj, ⟨tt, tw, mod, len, hav, fr, wh, er, keys, ten, keep⟩, .slice KA nk KC, bs, .slice UA nu uc, ⟨fo, ff, fto, mt, mw, nt, nw⟩, st, tn⟩ : ActP)).toArray 40)) (.cells #[] 40)) (Nat.le_trans HBB.out E1.out.size), ?_⟩
   have E2 := Lh (E1.out.trans (ext_alloc1 (w2.alloc (.cells (actC (⟨kd, obj, ⟨tt, tw, mod, len, hav, fr, wh, er, keys, ten, keep⟩, .slice KA nk KC, bs, .slice UA nu uc, ⟨fo, ff, fto, mt, mw, nt, nw⟩, st, tn⟩ : ActP)).toArray 40)) (.cells #[] 40)))
   have CS := Lh ((ext_alloc1 (w2.alloc (.cells (actC (⟨kd, obj, ⟨tt, tw, mod, len, hav, fr, wh, er, keys, ten, keep⟩, .slice KA nk KC, bs, .slice UA nu uc, ⟨fo, ff, fto, mt, mw, nt, nw⟩, st, tn⟩ : ActP)).toArray 40)) (.cells #[] 40)).heap CS.out)
   have LE := Lh (show ((w2.alloc (.cells (actC (⟨kd, obj, ⟨tt, tw, mod, len, hav, fr, wh, er, keys, ten, keep⟩, .slice KA nk KC, bs, .slice UA nu uc, ⟨fo, ff, fto, mt, mw, nt, nw⟩, st, tn⟩ : ActP)).toArray 40)).alloc (.cells #[] 40)).ownsRow w2.heap.size 40 23 (.slice (some ⟨(w2.heap.size + 1), 0, none⟩) 0 0) 0 (actCells []) from by have h : ((w2.alloc (.cells (actC (⟨kd, obj, ⟨tt, tw, mod, len, hav, fr, wh, er, keys, ten, keep⟩, .slice KA nk KC, bs, .slice UA nu uc, ⟨fo, ff, fto, mt, mw, nt, nw⟩, st, tn⟩ : ActP)).toArray 40)).alloc (.cells #[] 40)).ownsRow w2.heap.size 40 23 (.slice (some ⟨(w2.alloc (.cells (actC (⟨kd, obj, ⟨tt, tw, mod, len, hav, fr, wh, er, keys, ten, keep⟩, .slice KA nk KC, bs, .slice UA nu uc, ⟨fo, ff, fto, mt, mw, nt, nw⟩, st, tn⟩ : ActP)).toArray 40)).heap.size, 0, none⟩) 0 0) 0 (actCells []) := World.ownsRow_made (w2.alloc (.cells (actC (⟨kd, obj, ⟨tt, tw, mod, len, hav, fr, wh, er, keys, ten, keep⟩, .slice KA nk KC, bs, .slice UA nu uc, ⟨fo, ff, fto, mt, mw, nt, nw⟩, st, tn⟩ : ActP)).toArray 40)) #[] 0 E1.out.size (by unfold maxLen; omega) rfl; simpa using h)
   (rw [wpTzR_one]; simp only [pickOps, mCc, mNn, gSs, gZz]; refine wpList_appA (W0 := w2) rfl _ _ rfl (.slice (some ⟨(w2.heap.size + 1), 0, none⟩) 0 0) (.slice LA n LC) [] xs E2.out LE.out (acts_ext HLW.out E2.out) rfl rfl (by have := HWT.out; simp; omega) ?_; intro v4 w4 r4 e4 b4 x4; refine stop_of ?_)
   unfold Stop
   go_wp2_with fail
   refine ⟨Below.mono b4 HBB.out, ?_⟩
   have R4 := Lh r4; have E9 := Lh e4
   have CS := Lh (x4.heap CS.out (by simp [Value.ownBlock]))
   clear r4 e4 b4 x4
   (rw [wpTzR_one]; simp only [pickOps, mCc, mNn, gSs, gZz]; refine wpList_appA (W0 := w2) rfl _ _ rfl v4 (.slice (some ⟨w2.heap.size, 0, none⟩) 1 1) ([] ++ xs) [(⟨kd, obj, ⟨tt, tw, mod, len, hav, fr, wh, er, keys, ten, keep⟩, .slice KA nk KC, bs, .slice UA nu uc, ⟨fo, ff, fto, mt, mw, nt, nw⟩, st, tn⟩ : ActP)] E9.out R4.out (src_actR CS.out (RAF.out _ (H2.out.base.trans E9.out))) rfl rfl (by have := HWT.out; simp; omega) ?_; intro v5 w5 r5 e5 b5 x5; refine stop_of ?_)
   unfold Stop
   go_wp2_with fail
   refine ⟨Below.mono b5 HBB.out, ?_⟩
   obtain ⟨ys, hys⟩ : ∃ ys, ys = [] ++ xs ++ [(⟨kd, obj, ⟨tt, tw, mod, len, hav, fr, wh, er, keys, ten, keep⟩, .slice KA nk KC, bs, .slice UA nu uc, ⟨fo, ff, fto, mt, mw, nt, nw⟩, st, tn⟩ : ActP)] := ⟨_, rfl⟩
   have HYS := Lh hys
   rw [← hys] at r5
   clear hys
   have hall : ∀ a ∈ ys, RAct w5 a (actC a) := fun a ha => by
    rw [HYS.out] at ha
    rcases List.mem_append.1 ha with h1 | h1
    ·exact rows_all (acts_ext HLW.out e5) a (by simpa using h1)
    ·rw [List.mem_singleton.1 h1]; exact RAF.out _ (H2.out.base.trans e5)
   have hro := own_acts r5 hall
   obtain ⟨A5, c5, rfl⟩ := RowsG.slice hro
   have HGR := Lh (great_any w5 A5 _ c5 hro)
   have X5 := Lh e5
   clear r5 e5 b5 x5 hall hro R4 E9 CS
   (rw [wpTzR_one]; simp only [pickOps, mCc, mNn, gSs, gZz]; go_wp2_with (go_at_call 12; refine HGR.out.mono ?_; rintro e w6 ⟨r, rfl, hr, x6⟩; refine stop_of ?_))
   unfold Stop
   have HR6 := Lh hr; have X6 := Lh (X5.out.trans x6); have B6 := Lh (Below.mono x6 (Nat.le_trans HBB.out X5.out.size))
   clear hr x6 HGR
   go_wp2_with fail
   refine ⟨B6.out, ?_⟩
   (rw [wpTzR_pure]; simp only [pickOps, mCc, mNn, gSs, gZz]; (repeat (go_big_quiet_step (fail))); refine wpQuiet_nil ?_)
   rw [wpTzR_done]
   generalize Value.slice (some ⟨w2.heap.size, 0, none⟩) 1 1 = v25
   generalize Value.slice (some ⟨(w2.heap.size + 1), 0, none⟩) 0 0 = v20
   generalize Value.slice A5 ys.length c5 = v26
   exact TAIL v20 v4 v25 v26 r w6 ⟨Lh (H2.out.ext X6.out), Lh fun e => by have h := HR6.out e; rw [HYS.out] at h; exact h⟩
 intro v1 v2 v3 v4 r W ⟨H3, HR⟩
 cases r with
 | true =>
  clear HR
  go_wp2_with (go_at_call 11; refine (awake_any _).mono ?_; rintro e w4 ⟨rfl, x4⟩; refine stop_of ?_)
  unfold Stop
  have X4 := Lh (X0.out.trans (H3.out.base.trans x4))
  clear x4
  go_wp2
  go_ret
  exact ⟨rfl, X4.out⟩
 | false =>
  have HZ0 := Lh (HR.out rfl)
  have HZ := Lh (show xs.length ≤ 40 ∧ ∀ a ∈ xs, ActZ a from ⟨by have := HZ0.out.1; simp at this; omega, fun a ha => HZ0.out.2 a (by simp [ha])⟩)
  have HZF := Lh (show ActZ (⟨kd, obj, ⟨tt, tw, mod, len, hav, fr, wh, er, keys, ten, keep⟩, .slice KA nk KC, bs, .slice UA nu uc, ⟨fo, ff, fto, mt, mw, nt, nw⟩, st, tn⟩ : ActP) from HZ0.out.2 _ (by simp))
  have hn40 : n ≤ 40 := by have := HZ.out.1; have := HN.out; omega
  have HL0 := Lh (show RowsG W0 23 (RAct W0) (.slice LA n LC) xs from acts_ext HL.out X0.out)
  clear HR HZ0
  go_wp2_with fail
  go_loopw [39, 7] (fun i _ wr => ∃ (j : Nat) (vs : List Vn) (ss : List Sn), j ≤ n ∧ i = .int .i64 j ∧ Hid (Play W0 wr pb b x j vs ss [] noP)) (fun i _ _ => n - (intOf i).toNat)
  case atStart => exact ⟨0, [], [], by omega, rfl, H3⟩
  case round =>
   clear H3
   obtain ⟨j, vs, ss, hj, rfl, R⟩ := hrel
   by_cases hlt : j < n
   ·have hjs : j < xs.length := by rw [← HN.out]; exact hlt
    obtain ⟨a, ha⟩ : ∃ a, xs[j]? = some a := ⟨xs[j], by simp [hjs]⟩
    obtain ⟨eb, eo, rfl, hrg, hra⟩ := acts_at HL0.out R.out.base ha
    have HRG := Lh hrg
    have HA := Lh (hra.at_ (HZ.out.2 a (List.mem_of_getElem? ha)))
    have HJK := Lh (show j ≤ 1000 from by omega)
    have HON := Lh (act_one hra)
    clear hrg hra ha hjs
    go_wp2_with (first | (refine wpList_load_mid rfl 40 _ rfl eb (eo + j * 23) rfl (actC a) _ HRG.out Try.underlying40 rfl size40 ?_) | (refine wpList_new 40 _ zero40 rfl rfl ?_; intro W1 x1 n1 s1; refine stop_of ?_))
    unfold Stop
    obtain ⟨ab, hab⟩ : ∃ p, p = wr.heap.size := ⟨_, rfl⟩
    rw [← hab] at n1 ⊢
    have X1 := Lh x1; have N1 := Lh n1; have HAB := Lh hab
    clear x1 n1 s1 hab
    go_wp2_with (refine wpList_put 40 rfl _ _ rfl ab 0 40 _ (actC a).toArray (actC a) _ N1.out rfl rfl rfl (by simp [actC]) HON.out size40 (by kernel_rfl) ?_; intro W2 x2 n2 s2; refine stop_of ?_)
    unfold Stop
    have N2 := Lh n2
    have R2 := Lh (R.out.ext (X1.out.thenB x2 (by have := HAB.out; simp; omega)))
    clear x2 n2 s2 X1 N1 HAB R
    go_wp2_with (first | (refine wpList_get 40 _ rfl _ rfl ab 0 40 _ (actC a) N2.out rfl (by kernel_rfl) Try.underlying40 rfl size40 ?_) | (go_at_call 23; refine (do_any R2.out HJK.out HA.out).mono ?_; rintro e w3 ⟨rfl, h3, k3⟩; refine stop_of ?_))
    unfold Stop
    have R3 := Lh h3
    clear h3 k3 R2 N2 HRG HA HON
    go_wp2
    go_roundw
    case rel => exact ⟨j + 1, _, _, by omega, by go_num, R3⟩
    case measure => first | (simp [intOf]; done) | (simp [intOf]; omega)
   ·have NR := Lh (R.out.base.heap N0.out)
    obtain ⟨w3, hw3⟩ : ∃ W, W = wr := ⟨_, rfl⟩
    subst hw3
    obtain ⟨N', sa, ra, SA, sc, RA, rc, hX⟩ := R.out
    have HX := Lh hX
    have C0 := Lh (show w3.cell? ⟨pb, 0, none⟩ = some (.pointer (some ⟨b, 0, none⟩)) from blk_cell hX.blk 0)
    have hnl : N' ≤ 800000 ∧ vs.length ≤ 900000 := by have h1 := hX.hN; have h2 := hX.good.nv; omega
    have HNL := Lh hnl; have HJ40 := Lh (show j ≤ 40 from by omega)
    obtain ⟨ao, hao⟩ : ∃ o, o = obj := ⟨_, rfl⟩
    have CO := Lh (show w3.cell? ⟨fb, 1, none⟩ = some (.string ⟨ao.toArray⟩) from by rw [hao]; exact blk_cell NR.out 1)
    have HOL := Lh (show ao.length ≤ 1000000 from by have h : obj.length ≤ 300 := HZF.out.obj; rw [hao]; omega)
    obtain ⟨⟨mm, mo⟩, hm⟩ : ∃ m, m = metaA vs ao := ⟨_, rfl⟩
    obtain ⟨mk, hmk⟩ : ∃ n, n = mm.keys.length := ⟨_, rfl⟩
    have HMP := Lh (prog_meta HX.out.st HOL.out hm hmk); have HKK := Lh hmk
    have HM := Lh hm; have HAO := Lh hao
    have HMK := Lh (show mm.keys.length ≤ 1000000 from by have h1 := metaA_z HX.out.st ao; rw [← hm] at h1; simp only at h1; omega)
    clear hm hmk hao hX hnl R
    go_wp2_with fail
    clear hlt hj
    have XD := Lh (Ext.drew (Ext.refl w3))
    have G0 : ∀ y : Grow [] w3.drew, y.v.cell? ⟨pb, 0, none⟩ = some (.pointer (some ⟨b, 0, none⟩)) := fun y => y.ext.cell (XD.out.cell C0.out) (by simp)
    have G1 : ∀ y : Grow [] w3.drew, y.v.cell? ⟨fb, 1, none⟩ = some (.string ⟨ao.toArray⟩) := fun y => y.ext.cell (XD.out.cell CO.out) (by simp)
    refine wp_region_segs [] [.inl [0, 1, 2, 3, 5, 6, 7, 8, 9, 10], .inr (.inl 4), .inr (.inl 11), .inl [12, 13, 14]] (by kernel_rfl) (by kernel_rfl) (fun c a d v w h => by cases d <;> exact h) ?_
    (rw [wpSegs_inl]; simp only [pickOps, mCc, mNn, gSs, gZz]; (repeat (go_big_quiet_step (fail))); refine wpQuiet_nil ?_)
    clear G0 G1
    (rw [wpSegs_grow]; simp only [pickOps, mCc, mNn, gSs, gZz]; go_wp2_with ((go_at_call 25; refine (p_objs_R (HX.out.st.ext XD.out) (by have := HNL.out; omega)).mono ?_; rintro e w4 ⟨v4, rfl, r4, h4, x4⟩; refine stop_of ?_)))
    unfold Stop
    have H4 := Lh h4; have X4 := Lh (XD.out.trans x4); have R4 := Lh (show SRow w4 w3.heap.size v4 (objsR vs) from r4)
    go_wp2_with fail
    refine ⟨.of x4 _, ?_⟩
    clear r4 h4 x4
    (rw [wpSegs_grow]; simp only [pickOps, mCc, mNn, gSs, gZz]; go_wp2_with ((go_at_call 20; refine (p_bytes H4.out HOL.out).mono ?_; rintro e w5 ⟨v5, rfl, r5, h5, x5⟩; refine stop_of ?_)))
    unfold Stop
    have X5 := Lh (X4.out.trans x5); have B5 := Lh r5.at_; have R5 := Lh (show SRow w5 w3.heap.size v4 (objsR vs) from ownsRow_below R4.out x5)
    go_wp2_with fail
    refine ⟨.of x5 _, ?_⟩
    clear x5 r5 h5 H4 X4 R4
    have c1 : ∀ y : Grow [] w5, (convert 22 9 v5).run Try.prog y.v = .ok (.string ⟨(bytesA vs ao).toArray⟩) y.v := fun y => run_str (BytesAt.ext B5.out y.ext.ext)
    (rw [wpSegs_inl]; simp only [pickOps, mCc, mNn, gSs, gZz]; (repeat (go_big_quiet_step (fail))); refine wpQuiet_nil ?_)
    clear c1
    rw [wpSegs_nil]
    go_wp2_with fail
    apply cut1R (A := fun KA KC mb W => Hid (Ext w5 W) ∧ Hid (W.heap[mb]? = some (.cells (metaC mm (.slice KA mk KC)).toArray 38)) ∧ Hid (SRow W w3.heap.size (.slice KA mk KC) mm.keys) ∧ Hid (w3.heap.size ≤ mb))
    ·intro TAIL1
     obtain ⟨BB1, hbb⟩ : ∃ p, p = w5.drew.heap.size := ⟨_, rfl⟩
     have HB1 := Lh hbb
     clear hbb
     have XD1 := Lh (Ext.drew (Ext.refl w5))
     have GA : ∀ y : GrowR (keepLow BB1) w5.drew, y.v.cell? ⟨pb, 0, none⟩ = some (.pointer (some ⟨b, 0, none⟩)) := fun y => (y.low HB1.out).cell (XD1.out.cell (X5.out.cell C0.out))
     have GB : ∀ y : GrowR (keepLow BB1) w5.drew, y.v.cell? ⟨fb, 1, none⟩ = some (.string ⟨ao.toArray⟩) := fun y => (y.low HB1.out).cell (XD1.out.cell (X5.out.cell CO.out))
     have XS1 := Lh (show BB1 ≤ w5.drew.heap.size from Nat.le_of_eq HB1.out)
     refine wp_region_trzR (keepLow BB1) [] [] (.pure [0, 1, 2, 3, 4, 5] (.fork 6 (.pure [7, 8, 9] (.one 10 (.one 11 (.pure [12] (.done))))) 10 (.one 6 (.pure [7, 8, 9] (.one 11 (.pure [12] (.done))))))) (by kernel_rfl) (by kernel_rfl) (fun c a d v w h => by cases d <;> exact h) ?_
     (simp only [pickOps, mCc, mNn, gSs, gZz]; refine wpQuiet_nil ?_)
     (rw [wpTzR_pure]; simp only [pickOps, mCc, mNn, gSs, gZz]; (repeat (go_big_quiet_step (fail))); refine wpQuiet_nil ?_)
     clear GA GB
     rw [wpTzR_fork]
     refine ⟨?_, ?_⟩
     ·(simp only [pickOps, mCc, mNn, gSs, gZz]; go_wp2_with (go_at_call 21; refine (HMP.out _ (X5.out.trans XD1.out)).mono ?_; rintro e wa1 ⟨KA1, KC1, rfl, tx, xa⟩; refine stop_of ?_))
      unfold Stop
      go_wp2_with fail
      refine ⟨Below.mono xa XS1.out, ?_⟩
      have XA1 := Lh (XD1.out.trans xa); have SA1 := Lh (Nat.le_trans XS1.out xa.size)
      have T1 := Lh tx
      (rw [wpTzR_pure]; simp only [pickOps, mCc, mNn, gSs, gZz]; (repeat (go_big_quiet_step (fail))); refine wpQuiet_nil ?_)
      clear xa tx
      (rw [wpTzR_one]; simp only [pickOps, mCc, mNn, gSs, gZz]; go_wp2_with (refine wpList_new 38 _ zero38 rfl rfl ?_; intro wb1 xb nb sb; refine stop_of ?_))
      unfold Stop
      obtain ⟨mb1, hmb⟩ : ∃ p, p = wa1.heap.size := ⟨_, rfl⟩
      have nb := (show wb1.heap[mb1]? = wb1.heap[wa1.heap.size]? from by rw [hmb]).trans nb
      rw [← hmb]
      have MN1 := Lh nb; have MB1 := Lh (show w5.heap.size ≤ mb1 from by have h1 := SA1.out; have h2 : BB1 = w5.heap.size := HB1.out; omega)
      clear hmb
      go_wp2_with fail
      refine ⟨Below.mono xb SA1.out, ?_⟩
      have XB1 := Lh (XA1.out.trans xb); have SB1 := Lh (Nat.le_trans SA1.out xb.size)
      have TB1 := Lh (ownsRow_below T1.out xb)
      (rw [wpTzR_one]; simp only [pickOps, mCc, mNn, gSs, gZz]; go_wp2_with (refine wpList_put 38 rfl _ _ rfl mb1 0 38 _ (metaC mm (.slice KA1 mk KC1)).toArray (metaC mm (.slice KA1 mk KC1)) _ MN1.out rfl rfl rfl (by simp [metaC]) rfl size38 (by kernel_rfl) ?_; intro wc1 xc nc sc; refine stop_of ?_))
      unfold Stop
      have M1 := Lh nc
      go_wp2_with fail
      refine ⟨⟨xc.os, xc.tape, xc.output, xc.size, fun k hk => xc.block k (Nat.lt_of_lt_of_le hk SB1.out) (fun hh => by have := MB1.out; have h3 : BB1 = w5.heap.size := HB1.out; have h2 : k = mb1 := (by simpa using hh); omega)⟩, ?_⟩
      have XC1 := Lh (show Ext w5 wc1 from XB1.out.thenB xc (by have := MB1.out; simp; omega))
      have XZ1 := Lh (X5.out.trans XC1.out)
      have TR1 := Lh (show SRow wc1 w3.heap.size (.slice KA1 mk KC1) mm.keys from own_extB TB1.out xc (fun y hy e => by have h1 := kind_row TB1.out e; rw [show y = mb1 by simpa using hy, kind_cells MN1.out] at h1; cases h1))
      clear xb nb sb xc nc sc MN1 XA1 XB1 T1 TB1
      (rw [wpTzR_pure]; simp only [pickOps, mCc, mNn, gSs, gZz]; (repeat (go_big_quiet_step (fail))); refine wpQuiet_nil ?_)
      rw [wpTzR_done]
      exact TAIL1 KA1 KC1 mb1 wc1 ⟨Lh XC1.out, M1, TR1, Lh (by have h1 := MB1.out; have h2 := X5.out.size; omega)⟩
     ·(simp only [pickOps, mCc, mNn, gSs, gZz]; go_wp2_with (refine wpList_new 38 _ zero38 rfl rfl ?_; intro wb1 xb nb sb; refine stop_of ?_))
      unfold Stop
      obtain ⟨mb1, hmb⟩ : ∃ p, p = w5.heap.size := ⟨_, rfl⟩
      have nb := (show wb1.heap[mb1]? = wb1.heap[w5.heap.size]? from by rw [hmb]).trans nb
      rw [← hmb]
      have MN1 := Lh nb; have MB1 := Lh (show w5.heap.size ≤ mb1 from by have h1 := XS1.out; have h2 : BB1 = w5.heap.size := HB1.out; omega)
      clear hmb
      go_wp2_with fail
      refine ⟨Below.mono xb XS1.out, ?_⟩
      have XB1 := Lh (XD1.out.trans xb); have SB1 := Lh (Nat.le_trans XS1.out xb.size)
      clear xb sb
      (rw [wpTzR_one]; simp only [pickOps, mCc, mNn, gSs, gZz]; go_wp2_with (go_at_call 21; refine (HMP.out _ (X5.out.trans XB1.out)).mono ?_; rintro e wa1 ⟨KA1, KC1, rfl, tx, xa⟩; refine stop_of ?_))
      unfold Stop
      go_wp2_with fail
      refine ⟨Below.mono xa SB1.out, ?_⟩
      have XA1 := Lh (XB1.out.trans xa); have SA1 := Lh (Nat.le_trans SB1.out xa.size)
      have T1 := Lh tx
      have MN1 := Lh (xa.heap MN1.out)
      (rw [wpTzR_pure]; simp only [pickOps, mCc, mNn, gSs, gZz]; (repeat (go_big_quiet_step (fail))); refine wpQuiet_nil ?_)
      clear xa tx nb
      (rw [wpTzR_one]; simp only [pickOps, mCc, mNn, gSs, gZz]; go_wp2_with (refine wpList_put 38 rfl _ _ rfl mb1 0 38 _ (metaC mm (.slice KA1 mk KC1)).toArray (metaC mm (.slice KA1 mk KC1)) _ MN1.out rfl rfl rfl (by simp [metaC]) rfl size38 (by kernel_rfl) ?_; intro wc1 xc nc sc; refine stop_of ?_))
      unfold Stop
      have M1 := Lh nc
      go_wp2_with fail
      refine ⟨⟨xc.os, xc.tape, xc.output, xc.size, fun k hk => xc.block k (Nat.lt_of_lt_of_le hk SA1.out) (fun hh => by have := MB1.out; have h3 : BB1 = w5.heap.size := HB1.out; have h2 : k = mb1 := (by simpa using hh); omega)⟩, ?_⟩
      have XC1 := Lh (show Ext w5 wc1 from XA1.out.thenB xc (by have := MB1.out; simp; omega))
      have XZ1 := Lh (X5.out.trans XC1.out)
      have TR1 := Lh (show SRow wc1 w3.heap.size (.slice KA1 mk KC1) mm.keys from own_extB T1.out xc (fun y hy e => by have h1 := kind_row T1.out e; rw [show y = mb1 by simpa using hy, kind_cells MN1.out] at h1; cases h1))
      clear xc nc sc MN1 XA1 XB1 T1
      (rw [wpTzR_pure]; simp only [pickOps, mCc, mNn, gSs, gZz]; (repeat (go_big_quiet_step (fail))); refine wpQuiet_nil ?_)
      rw [wpTzR_done]
      exact TAIL1 KA1 KC1 mb1 wc1 ⟨Lh XC1.out, M1, TR1, Lh (by have h1 := MB1.out; have h2 := X5.out.size; omega)⟩
    ·intro KA1 KC1 mb1 wc ⟨X5c, M1, TR1, MBL⟩
     have XZ1 := Lh (X5.out.trans X5c.out)
     obtain ⟨LL, hLL⟩ : ∃ LL : Nat → Prop, LL = fun g => playL pb (.slice SA ss.length sc) (.slice RA ss.length rc) noP g ∨ (w3.heap.size ≤ g ∧ g < wc.heap.size) := ⟨_, rfl⟩
     have HS := Lh (show Pl2 W0 wc b x N' LL vs ss sa vs ss ra [] from by rw [hLL]; exact HX.out.st.since XZ1.out)
     have MLP := Lh (show LL pb from by rw [hLL]; exact .inl (.inl rfl))
     have MLN := Lh (show ∀ g, w3.heap.size ≤ g → g < wc.heap.size → LL g from fun g h1 h2 => by rw [hLL]; exact .inr ⟨h1, h2⟩)
     clear hLL
     have NW := Lh (XZ1.out.heap NR.out)
     have kb := blk_cell NW.out 13
     simp at kb
     have kb := (ext_alloc1 wc (.cells #[] 5)).cell kb
     have HBW := Lh (show BytesAt wc (.slice UA nu uc) bs from BytesAt.ext HRA.out.2.2.2.1 (X0.out.trans (HX.out.st.base.trans XZ1.out)))
     go_wp2_with (at_builtin; refine wpList_copyE rfl _ _ rfl _ bs HBW.out rfl rfl (by have h : bs.length ≤ 60 := HZF.out.bytes; omega) ?_; intro v6 W6 r6 x6; refine stop_of ?_)
     unfold Stop
     obtain ⟨S6, c6, hv6⟩ := own_slice r6
     obtain ⟨n6, hn6⟩ : ∃ n, n = bs.length := ⟨_, rfl⟩
     rw [← hn6] at hv6
     subst hv6
     have HN6 := Lh hn6
     have hn60 : n6 ≤ 60 := by have h : bs.length ≤ 60 := HZF.out.bytes; omega
     have H6 := Lh (HS.out.hold x6 r6 (Nat.le_refl _)); have XX6 := Lh (XZ1.out.trans x6); have R6 := Lh r6; have X6 := Lh x6
     have HB7 := Lh (show W0.heap.size ≤ wc.heap.size from HS.out.base.size)
     have N6 := Lh (x6.heap NW.out)
     clear kb r6 x6 HS HBW NW hn6
     have kk := blk_cell N6.out 0
     simp at kk
     by_cases e1 : kd = 1
     ·subst e1
      go_wp2_with fail
      have P0 : W6.drew.heap[pb]? = some (.cells #[ptrV b, ptrV x, .slice SA ss.length sc, .slice RA ss.length rc] 68) := XX6.out.heap HX.out.blk
      have A0 : W6.drew.heap[fb]? = some (.cells #[.int .i64 1, .string ⟨obj.toArray⟩, .string ⟨tt.toArray⟩, .bool tw, .int .i64 mod, .int .i64 len, .int .i64 hav, .int .i64 fr, .int .i64 wh, .int .i64 er, .slice KA nk KC, .string ⟨ten.toArray⟩, .bool keep, .slice UA nu uc, .string ⟨fo.toArray⟩, .int .i64 ff, .int .i64 fto, .string ⟨mt.toArray⟩, .bool mw, .string ⟨nt.toArray⟩, .bool nw, .int .u8 st, .int .i64 tn] 40) := N6.out
      have H6d := Lh (H6.out.ext (Ext.drew (Ext.refl W6))); have R6d := Lh (show BRow W6.drew wc.heap.size (.slice S6 n6 c6) bs from ownsRow_below R6.out (Ext.drew (Ext.refl W6)))
      have HKT6 := Lh (TextsAt.ext HRA.out.2.1 (X0.out.trans H6d.out.base))
      have HKL := Lh (show LowV W0 (.slice KA nk KC) from (HRA.out.ext X0.out).2.2.1)
      have HCAP := Lh (fun (i : Nat) (v : Vn) (hn : nowI vs obj = some i) (hv : vs[i]? = some v) => (show v.bytes.length + bs.length ≤ 100000 from by have h1 := HX.out.good.bytes v (List.mem_of_getElem? hv); have h2 : bs.length ≤ 60 := HZF.out.bytes; have h3 := HJ40.out; omega))
      have G0 : ∀ y : GrowR (keepB2 pb fb (.cells #[ptrV b, ptrV x, .slice SA ss.length sc, .slice RA ss.length rc] 68) (.cells #[.int .i64 1, .string ⟨obj.toArray⟩, .string ⟨tt.toArray⟩, .bool tw, .int .i64 mod, .int .i64 len, .int .i64 hav, .int .i64 fr, .int .i64 wh, .int .i64 er, .slice KA nk KC, .string ⟨ten.toArray⟩, .bool keep, .slice UA nu uc, .string ⟨fo.toArray⟩, .int .i64 ff, .int .i64 fto, .string ⟨mt.toArray⟩, .bool mw, .string ⟨nt.toArray⟩, .bool nw, .int .u8 st, .int .i64 tn] 40)) W6.drew, y.v.cell? ⟨pb, 0, none⟩ = some (.pointer (some ⟨b, 0, none⟩)) := fun y => blk_cell (y.ext.1 P0) 0
      have G1 : ∀ y : GrowR (keepB2 pb fb (.cells #[ptrV b, ptrV x, .slice SA ss.length sc, .slice RA ss.length rc] 68) (.cells #[.int .i64 1, .string ⟨obj.toArray⟩, .string ⟨tt.toArray⟩, .bool tw, .int .i64 mod, .int .i64 len, .int .i64 hav, .int .i64 fr, .int .i64 wh, .int .i64 er, .slice KA nk KC, .string ⟨ten.toArray⟩, .bool keep, .slice UA nu uc, .string ⟨fo.toArray⟩, .int .i64 ff, .int .i64 fto, .string ⟨mt.toArray⟩, .bool mw, .string ⟨nt.toArray⟩, .bool nw, .int .u8 st, .int .i64 tn] 40)) W6.drew, y.v.cell? ⟨fb, 1, none⟩ = some (.string ⟨obj.toArray⟩) := fun y => blk_cell (y.ext.2 A0) 1
      refine wp_region_segsR (keepB2 pb fb (.cells #[ptrV b, ptrV x, .slice SA ss.length sc, .slice RA ss.length rc] 68) (.cells #[.int .i64 1, .string ⟨obj.toArray⟩, .string ⟨tt.toArray⟩, .bool tw, .int .i64 mod, .int .i64 len, .int .i64 hav, .int .i64 fr, .int .i64 wh, .int .i64 er, .slice KA nk KC, .string ⟨ten.toArray⟩, .bool keep, .slice UA nu uc, .string ⟨fo.toArray⟩, .int .i64 ff, .int .i64 fto, .string ⟨mt.toArray⟩, .bool mw, .string ⟨nt.toArray⟩, .bool nw, .int .u8 st, .int .i64 tn] 40)) [.inl [0, 1, 2, 3, 4, 5, 6, 7, 8], .inr (.inl 9), .inl [10]] (by kernel_rfl) (by kernel_rfl) (fun c a d v w h => by cases d <;> exact h) ?_
      (rw [wpSegsR_inl]; simp only [pickOps, mCc, mNn, gSs, gZz]; (repeat (go_big_quiet_step (fail))); (refine wpQuiet_get 38 _ rfl _ rfl fb 2 40 _ [.string ⟨tt.toArray⟩, .bool tw, .int .i64 mod, .int .i64 len, .int .i64 hav, .int .i64 fr, .int .i64 wh, .int .i64 er, .slice KA nk KC, .string ⟨ten.toArray⟩, .bool keep] rfl (fun W hW => by obtain ⟨y, rfl⟩ := hW; exact y.ext.2 A0) (by kernel_rfl) Try.underlying38 rfl size38 ?_; simp only [Act.put, sAa, sSs, sZz]); (repeat (go_big_quiet_step (fail))); refine wpQuiet_nil ?_)
      (rw [wpSegsR_grow]; simp only [pickOps, mCc, mNn, gSs, gZz]; go_wp2_with ((go_at_call 13; refine (p_setR (m := ⟨tt, tw, mod, len, hav, fr, wh, er, keys, ten, keep⟩) H6d.out HNL.out.1 (by have h : obj.length ≤ 300 := HZF.out.obj; omega) HZF.out.m HKT6.out HKL.out List.mem_cons_self (by have h : bs.length ≤ 60 := HZF.out.bytes; omega) (fun _ => R6d.out)).mono ?_; rintro e w7 ⟨rfl, h7, q7, b7⟩; refine stop_of ?_)))
      unfold Stop
      go_wp2_with fail
      refine ⟨keepB2_of ((q7 pb MLP.out).trans P0) (h7.base.heap N0.out), ?_⟩
      clear G0 G1
      (rw [wpSegsR_inl]; simp only [pickOps, mCc, mNn, gSs, gZz]; (repeat (go_big_quiet_step (fail))); refine wpQuiet_nil ?_)
      rw [wpSegsR_nil]
      obtain ⟨us, hus⟩ : ∃ us, us = (setA vs obj ⟨tt, tw, mod, len, hav, fr, wh, er, keys, ten, keep⟩ bs).2 := ⟨_, rfl⟩
      obtain ⟨ec, hec⟩ : ∃ e, e = (setA vs obj ⟨tt, tw, mod, len, hav, fr, wh, er, keys, ten, keep⟩ bs).1 := ⟨_, rfl⟩
      rw [← hus] at h7
      rw [← hec]
      have HSV := Lh (show ec ≠ 0 → us = vs from by rw [hec, hus]; exact setA_no)
      clear P0 A0 hus hec
      have H7 := Lh (show Pl2 W0 w7 b x 900000 LL us ss sa vs ss ra [(.slice S6 n6 c6, bs)] from h7.more (by have := HNL.out; omega)); have K7 := Lh (show KeepP LL W6 w7 from fun g hg => (q7 g hg).trans rfl); have B7 := Lh b7
      clear h7 q7 b7
      have HOB := Lh (show obj.length ≤ 1000000 from by have h : obj.length ≤ 300 := HZF.out.obj; omega)
      have P7 := Lh ((K7.out pb MLP.out).trans (XX6.out.heap HX.out.blk))
      have A7 := Lh (show w7.heap[fb]? = some (.cells #[.int .i64 1, .string ⟨obj.toArray⟩, .string ⟨tt.toArray⟩, .bool tw, .int .i64 mod, .int .i64 len, .int .i64 hav, .int .i64 fr, .int .i64 wh, .int .i64 er, .slice KA nk KC, .string ⟨ten.toArray⟩, .bool keep, .slice UA nu uc, .string ⟨fo.toArray⟩, .int .i64 ff, .int .i64 fto, .string ⟨mt.toArray⟩, .bool mw, .string ⟨nt.toArray⟩, .bool nw, .int .u8 st, .int .i64 tn] 40) from H7.out.base.heap N0.out)
      rw [HAO.out]
      go_wp2_with fail
      have XD7 := Lh (Ext.drew (Ext.refl w7))
      have G0 : ∀ y : Grow [] w7.drew, y.v.cell? ⟨pb, 0, none⟩ = some (.pointer (some ⟨b, 0, none⟩)) := fun y => y.ext.cell (XD7.out.cell (blk_cell P7.out 0)) (by simp)
      have G1 : ∀ y : Grow [] w7.drew, y.v.cell? ⟨fb, 1, none⟩ = some (.string ⟨obj.toArray⟩) := fun y => y.ext.cell (XD7.out.cell (blk_cell A7.out 1)) (by simp)
      refine wp_region_segs [] [.inl [0, 1, 2, 3, 4, 5], .inr (.inl 6), .inl [7, 8]] (by kernel_rfl) (by kernel_rfl) (fun c a d v w h => by cases d <;> exact h) ?_
      (rw [wpSegs_inl]; simp only [pickOps, mCc, mNn, gSs, gZz]; (repeat (go_big_quiet_step (fail))); refine wpQuiet_nil ?_)
      clear G0 G1
      (rw [wpSegs_grow]; simp only [pickOps, mCc, mNn, gSs, gZz]; go_wp2_with ((go_at_call 20; refine (p_bytes (H7.out.ext XD7.out) HOB.out).mono ?_; rintro e q7 ⟨v7, rfl, r7, h7, x7⟩; refine stop_of ?_)))
      unfold Stop
      have X7 := Lh (XD7.out.trans x7); have R7 := Lh r7; have HQ7 := Lh h7
      go_wp2_with fail
      refine ⟨.of x7 _, ?_⟩
      clear x7 r7 h7
      have c1 : ∀ y : Grow [] q7, (convert 22 9 v7).run Try.prog y.v = .ok (.string ⟨(bytesA us obj).toArray⟩) y.v := fun y => run_str (BytesAt.ext R7.out.at_ y.ext.ext)
      (rw [wpSegs_inl]; simp only [pickOps, mCc, mNn, gSs, gZz]; (repeat (go_big_quiet_step (fail))); refine wpQuiet_nil ?_)
      clear c1
      rw [wpSegs_nil]
      have H8 := Lh (H7.out.ext X7.out)
      have K8 := Lh (KeepP.trans K7.out (KeepP.ext X7.out fun g hg => H7.out.plt hg))
      have P8 := Lh (X7.out.heap P7.out)
      have B8 := Lh (fun hn => ownsRow_below (B7.out hn) X7.out)
      obtain ⟨g6, ht⟩ := TurnR.start H8.out List.mem_cons_self B8.out HB7.out
      rw [← HN6.out] at ht
      have T8 := Lh ht
      clear ht B7 B8 H8 X7 HQ7 R7 K7 H7 P7 A7
      go_wp2_with fail
      go_loopw [126, 15] (fun i _ wr => ∃ j : Nat, j ≤ n6 ∧ i = .int .i64 j ∧ Hid (TurnR W0 q7 wr b x 900000 LL us ss sa vs ss ra (.slice S6 n6 c6) n6 g6)) (fun i _ _ => n6 - (intOf i).toNat)
      case atStart => exact ⟨0, by omega, rfl, T8⟩
      case round =>
       clear T8
       obtain ⟨j6, hj6, rfl, HT⟩ := hrel
       by_cases hlt : j6 < n6
       ·obtain ⟨cur, hb, hcs, hz⟩ := HT.out.wr.blk (by omega)
        obtain ⟨z, hz⟩ := hz j6 hlt
        obtain ⟨cc, hv, hcc⟩ := HT.out.wr.val (by omega)
        obtain ⟨hS, rfl⟩ : S6 = some ⟨g6, 0, none⟩ ∧ c6 = cc := by injection hv with e1 e2 e3; exact ⟨e1, e3⟩
        clear hv
        subst hS
        have hcell : wr.cell? ⟨g6, j6, none⟩ = some (.int .u8 z) := by rw [blk_cell hb]; exact hz
        have hfree := blk_free hb j6
        have HB := Lh hb
        clear hb hz hcs
        go_wp2
        go_roundw
        case rel => exact ⟨j6 + 1, by omega, by go_num, Lh (HT.out.put (by omega) _ _)⟩
        case measure => simp [intOf]; omega
       ·obtain ⟨q96, hq⟩ : ∃ W, W = wr := ⟨_, rfl⟩
        rw [← hq] at HT ⊢
        clear hq
        go_wp2_with fail
        clear hlt hj6
        have KK := Lh (K8.out.trans HT.out.keep)
        have H9 := Lh HT.out.st
        have P9 := Lh ((HT.out.keep pb MLP.out).trans P8.out)
        have A9 := Lh (show q96.heap[fb]? = some (.cells #[.int .i64 1, .string ⟨obj.toArray⟩, .string ⟨tt.toArray⟩, .bool tw, .int .i64 mod, .int .i64 len, .int .i64 hav, .int .i64 fr, .int .i64 wh, .int .i64 er, .slice KA nk KC, .string ⟨ten.toArray⟩, .bool keep, .slice UA nu uc, .string ⟨fo.toArray⟩, .int .i64 ff, .int .i64 fto, .string ⟨mt.toArray⟩, .bool mw, .string ⟨nt.toArray⟩, .bool nw, .int .u8 st, .int .i64 tn] 40) from H9.out.base.heap N0.out)
        have MLP9 := Lh (show addV (.slice S6 n6 c6) n6 LL pb from .inr MLP.out)
        clear HT K8 P8
        have XD9 := Lh (Ext.drew (Ext.refl q96))
        have G0 : ∀ y : Grow [] q96.drew, y.v.cell? ⟨pb, 0, none⟩ = some (.pointer (some ⟨b, 0, none⟩)) := fun y => y.ext.cell (XD9.out.cell (blk_cell P9.out 0)) (by simp)
        have G1 : ∀ y : Grow [] q96.drew, y.v.cell? ⟨fb, 1, none⟩ = some (.string ⟨obj.toArray⟩) := fun y => y.ext.cell (XD9.out.cell (blk_cell A9.out 1)) (by simp)
        refine wp_region_segs [] [.inl [0, 1, 2, 3, 4, 5], .inr (.inl 6), .inl [7]] (by kernel_rfl) (by kernel_rfl) (fun c a d v w h => by cases d <;> exact h) ?_
        (rw [wpSegs_inl]; simp only [pickOps, mCc, mNn, gSs, gZz]; (repeat (go_big_quiet_step (fail))); refine wpQuiet_nil ?_)
        clear G0 G1
        (rw [wpSegs_grow]; simp only [pickOps, mCc, mNn, gSs, gZz]; go_wp2_with ((go_at_call 20; refine (p_bytes (H9.out.ext XD9.out) HOB.out).mono ?_; rintro e q9 ⟨v9, rfl, r9, h9, x9⟩; refine stop_of ?_)))
        unfold Stop
        have X9 := Lh (XD9.out.trans x9); have R9 := Lh r9; have HQ9 := Lh h9
        go_wp2_with fail
        refine ⟨.of x9 _, ?_⟩
        clear x9 r9 h9
        (rw [wpSegs_inl]; simp only [pickOps, mCc, mNn, gSs, gZz]; (repeat (go_big_quiet_step (fail))); refine wpQuiet_nil ?_)
        rw [wpSegs_nil]
        obtain ⟨S1, c1, hv9⟩ := own_slice R9.out
        subst hv9
        obtain ⟨n1, hn1⟩ : ∃ n, n = (bytesA us obj).length := ⟨_, rfl⟩
        obtain ⟨g1, ht⟩ := TurnR.start HQ9.out List.mem_cons_self (fun _ => R9.out) (H9.out.base.size)
        rw [← hn1] at ht ⊢
        have T9 := Lh ht
        have hn19 : n1 ≤ 100000 := by have := bytesA_le H9.out obj; omega
        have K9 := Lh (KK.out.trans (KeepP.ext X9.out fun g hg => H9.out.plt (.inr hg)))
        have P10 := Lh (X9.out.heap P9.out)
        clear ht hn1 HQ9 R9 X9 KK H9 P9 A9
        go_wp2_with fail
        go_loopw [145, 17] (fun i _ wr => ∃ j : Nat, j ≤ n1 ∧ i = .int .i64 j ∧ Hid (TurnR W0 q9 wr b x 900000 (addV (.slice S6 n6 c6) n6 LL) us ss sa vs ss ra (.slice S1 n1 c1) n1 g1)) (fun i _ _ => n1 - (intOf i).toNat)
        case atStart => exact ⟨0, by omega, rfl, T9⟩
        case round =>
         clear T9
         obtain ⟨j1, hj1, rfl, HT⟩ := hrel
         by_cases hlt : j1 < n1
         ·obtain ⟨cur, hb, hcs, hz⟩ := HT.out.wr.blk (by omega)
          obtain ⟨z, hz⟩ := hz j1 hlt
          obtain ⟨cc, hv, hcc⟩ := HT.out.wr.val (by omega)
          obtain ⟨hS, rfl⟩ : S1 = some ⟨g1, 0, none⟩ ∧ c1 = cc := by injection hv with e1 e2 e3; exact ⟨e1, e3⟩
          clear hv
          subst hS
          have hcell : wr.cell? ⟨g1, j1, none⟩ = some (.int .u8 z) := by rw [blk_cell hb]; exact hz
          have hfree := blk_free hb j1
          have HB := Lh hb
          clear hb hz hcs
          go_wp2
          go_roundw
          case rel => exact ⟨j1 + 1, by omega, by go_num, Lh (HT.out.put (by omega) _ _)⟩
          case measure => simp [intOf]; omega
         ·obtain ⟨q91, hq⟩ : ∃ W, W = wr := ⟨_, rfl⟩
          rw [← hq] at HT ⊢
          clear hq
          go_wp2_with fail
          clear hlt hj1
          have KL := Lh (K9.out.trans (HT.out.keep.sub fun g hg => .inr hg))
          have H11 := Lh HT.out.st
          have C0b := Lh (show q91.cell? ⟨pb, 0, none⟩ = some (.pointer (some ⟨b, 0, none⟩)) from by rw [blk_cell ((HT.out.keep pb MLP9.out).trans P10.out)]; rfl)
          have COb := Lh (show q91.cell? ⟨fb, 1, none⟩ = some (.string ⟨obj.toArray⟩) from blk_cell (H11.out.base.heap N0.out) 1)
          clear HT K9 P10 MLP9
          have M11 := Lh (kept_blk M1.out MBL.out MLN.out X6.out KL.out)
          have TR11 := Lh (SRow.texts (kept_row TR1.out (Nat.le_refl _) MLN.out X6.out KL.out))
          have T11 := Lh (SRow.texts (kept_row (show SRow wc w3.heap.size v4 (objsR vs) from ownsRow_below R5.out X5c.out) (Nat.le_refl _) MLN.out X6.out KL.out))
          have XR := Lh (Ext.refl q91)
          by_cases e0 : ec = 0
          ·subst e0
           obtain ⟨⟨m2, mo2⟩, hm2⟩ : ∃ m, m = metaA us obj := ⟨_, rfl⟩
           obtain ⟨mk2, hmk2⟩ : ∃ n, n = m2.keys.length := ⟨_, rfl⟩
           have HMQ := Lh (prog_meta H11.out HOB.out hm2 hmk2)
           clear hm2 hmk2
           go_wp2_with fail
           obtain ⟨BB2, hbb⟩ : ∃ p, p = q91.drew.heap.size := ⟨_, rfl⟩
           have HB2 := Lh hbb
           clear hbb
           have XD2 := Lh (Ext.drew (Ext.refl q91))
           have GA : ∀ y : GrowR (keepLow BB2) q91.drew, y.v.cell? ⟨pb, 0, none⟩ = some (.pointer (some ⟨b, 0, none⟩)) := fun y => (y.low HB2.out).cell (XD2.out.cell (XR.out.cell C0b.out))
           have GB : ∀ y : GrowR (keepLow BB2) q91.drew, y.v.cell? ⟨fb, 1, none⟩ = some (.string ⟨obj.toArray⟩) := fun y => (y.low HB2.out).cell (XD2.out.cell (XR.out.cell COb.out))
           have XS2 := Lh (show BB2 ≤ q91.drew.heap.size from Nat.le_of_eq HB2.out)
           refine wp_region_trzR (keepLow BB2) [] [] (.pure [0, 1, 2, 3, 4, 5] (.fork 6 (.pure [7, 8, 9] (.one 10 (.one 11 (.pure [12] (.done))))) 10 (.one 6 (.pure [7, 8, 9] (.one 11 (.pure [12] (.done))))))) (by kernel_rfl) (by kernel_rfl) (fun c a d v w h => by cases d <;> exact h) ?_
           (simp only [pickOps, mCc, mNn, gSs, gZz]; refine wpQuiet_nil ?_)
           (rw [wpTzR_pure]; simp only [pickOps, mCc, mNn, gSs, gZz]; (repeat (go_big_quiet_step (fail))); refine wpQuiet_nil ?_)
           clear GA GB
           rw [wpTzR_fork]
           refine ⟨?_, ?_⟩
           ·(simp only [pickOps, mCc, mNn, gSs, gZz]; go_wp2_with (go_at_call 21; refine (HMQ.out _ (XR.out.trans XD2.out)).mono ?_; rintro e wa2 ⟨KA2, KC2, rfl, tx, xa⟩; refine stop_of ?_))
            unfold Stop
            go_wp2_with fail
            refine ⟨Below.mono xa XS2.out, ?_⟩
            have XA2 := Lh (XD2.out.trans xa); have SA2 := Lh (Nat.le_trans XS2.out xa.size)
            have T2 := Lh tx
            (rw [wpTzR_pure]; simp only [pickOps, mCc, mNn, gSs, gZz]; (repeat (go_big_quiet_step (fail))); refine wpQuiet_nil ?_)
            clear xa tx
            (rw [wpTzR_one]; simp only [pickOps, mCc, mNn, gSs, gZz]; go_wp2_with (refine wpList_new 38 _ zero38 rfl rfl ?_; intro wb2 xb nb sb; refine stop_of ?_))
            unfold Stop
            obtain ⟨mb2, hmb⟩ : ∃ p, p = wa2.heap.size := ⟨_, rfl⟩
            have nb := (show wb2.heap[mb2]? = wb2.heap[wa2.heap.size]? from by rw [hmb]).trans nb
            rw [← hmb]
            have MN2 := Lh nb; have MB2 := Lh (show q91.heap.size ≤ mb2 from by have h1 := SA2.out; have h2 : BB2 = q91.heap.size := HB2.out; omega)
            clear hmb
            go_wp2_with fail
            refine ⟨Below.mono xb SA2.out, ?_⟩
            have XB2 := Lh (XA2.out.trans xb); have SB2 := Lh (Nat.le_trans SA2.out xb.size)
            have TB2 := Lh (ownsRow_below T2.out xb)
            (rw [wpTzR_one]; simp only [pickOps, mCc, mNn, gSs, gZz]; go_wp2_with (refine wpList_put 38 rfl _ _ rfl mb2 0 38 _ (metaC m2 (.slice KA2 mk2 KC2)).toArray (metaC m2 (.slice KA2 mk2 KC2)) _ MN2.out rfl rfl rfl (by simp [metaC]) rfl size38 (by kernel_rfl) ?_; intro wc2 xc nc sc; refine stop_of ?_))
            unfold Stop
            have M2 := Lh nc
            go_wp2_with fail
            refine ⟨⟨xc.os, xc.tape, xc.output, xc.size, fun k hk => xc.block k (Nat.lt_of_lt_of_le hk SB2.out) (fun hh => by have := MB2.out; have h3 : BB2 = q91.heap.size := HB2.out; have h2 : k = mb2 := (by simpa using hh); omega)⟩, ?_⟩
            have XC2 := Lh (show Ext q91 wc2 from XB2.out.thenB xc (by have := MB2.out; simp; omega))
            have XZ2 := Lh (XR.out.trans XC2.out)
            have TT2 := Lh (SRow.texts (own_extB TB2.out xc (fun y hy e => by have h1 := kind_row TB2.out e; rw [show y = mb2 by simpa using hy, kind_cells MN2.out] at h1; cases h1)))
            clear xb nb sb xc nc sc MN2 XA2 XB2 T2 TB2
            (rw [wpTzR_pure]; simp only [pickOps, mCc, mNn, gSs, gZz]; (repeat (go_big_quiet_step (fail))); refine wpQuiet_nil ?_)
            rw [wpTzR_done]
            go_wp2_with fail
            have XF := Lh (XZ2.out.trans (Ext.drew (Ext.refl wc2)))
            have G0 : ∀ y : Grow [] wc2.drew, y.v.cell? ⟨pb, 0, none⟩ = some (.pointer (some ⟨b, 0, none⟩)) := fun y => y.ext.cell (XF.out.cell C0b.out) (by simp)
            have G1 : ∀ y : Grow [] wc2.drew, y.v.cell? ⟨fb, 1, none⟩ = some (.string ⟨obj.toArray⟩) := fun y => y.ext.cell (XF.out.cell COb.out) (by simp)
            refine wp_region_segs [] [.inl [0, 1, 2, 3, 4, 5, 8], .inr (.inl 6), .inl [7, 9, 10, 11, 12, 13, 14, 15, 16, 17, 18, 19], .inr (.inl 20), .inl [21, 22, 23, 24, 25, 26, 28], .inr (.inl 27), .inr (.inl 29), .inl [30, 31, 32, 33]] (by kernel_rfl) (by kernel_rfl) (fun c a d v w h => by cases d <;> exact h) ?_
            (rw [wpSegs_inl]; simp only [pickOps, mCc, mNn, gSs, gZz]; (repeat (go_big_quiet_step (fail))); refine wpQuiet_nil ?_)
            clear G0 G1
            (rw [wpSegs_grow]; simp only [pickOps, mCc, mNn, gSs, gZz]; go_wp2_with ((go_at_call 20; refine (p_bytes (H11.out.ext XF.out) HOB.out).mono ?_; rintro e u1 ⟨v20, rfl, r20, h20, x20⟩; refine stop_of ?_)))
            unfold Stop
            have XF1 := Lh (XF.out.trans x20); have B20 := Lh r20.at_
            go_wp2_with fail
            refine ⟨.of x20 _, ?_⟩
            clear x20 r20 h20
            have c1 : ∀ y : Grow [] u1, (convert 22 9 v20).run Try.prog y.v = .ok (.string ⟨(bytesA us obj).toArray⟩) y.v := fun y => run_str (BytesAt.ext B20.out y.ext.ext)
            (rw [wpSegs_inl]; simp only [pickOps, mCc, mNn, gSs, gZz]; (repeat (go_big_quiet_step (fail))); refine wpQuiet_nil ?_)
            clear c1
            (rw [wpSegs_grow]; simp only [pickOps, mCc, mNn, gSs, gZz]; go_wp2_with (fail))
            refine ⟨.of (Ext.refl _) _, ?_⟩
            (rw [wpSegs_inl]; simp only [pickOps, mCc, mNn, gSs, gZz]; (repeat (go_big_quiet_step (fail))); refine wpQuiet_nil ?_)
            (rw [wpSegs_grow]; simp only [pickOps, mCc, mNn, gSs, gZz]; go_wp2_with (fail))
            refine ⟨.of (Ext.refl _) _, ?_⟩
            (rw [wpSegs_grow]; simp only [pickOps, mCc, mNn, gSs, gZz]; go_wp2_with (fail))
            refine ⟨.of (Ext.refl _) _, ?_⟩
            (rw [wpSegs_inl]; simp only [pickOps, mCc, mNn, gSs, gZz]; (repeat (go_big_quiet_step (fail))); refine wpQuiet_nil ?_)
            rw [wpSegs_nil]
            go_wp2
            go_ret
            exact ⟨rfl, X0.out.trans (H11.out.base.trans XF1.out)⟩
           ·(simp only [pickOps, mCc, mNn, gSs, gZz]; go_wp2_with (refine wpList_new 38 _ zero38 rfl rfl ?_; intro wb2 xb nb sb; refine stop_of ?_))
            unfold Stop
            obtain ⟨mb2, hmb⟩ : ∃ p, p = q91.heap.size := ⟨_, rfl⟩
            have nb := (show wb2.heap[mb2]? = wb2.heap[q91.heap.size]? from by rw [hmb]).trans nb
            rw [← hmb]
            have MN2 := Lh nb; have MB2 := Lh (show q91.heap.size ≤ mb2 from by have h1 := XS2.out; have h2 : BB2 = q91.heap.size := HB2.out; omega)
            clear hmb
            go_wp2_with fail
            refine ⟨Below.mono xb XS2.out, ?_⟩
            have XB2 := Lh (XD2.out.trans xb); have SB2 := Lh (Nat.le_trans XS2.out xb.size)
            clear xb sb
            (rw [wpTzR_one]; simp only [pickOps, mCc, mNn, gSs, gZz]; go_wp2_with (go_at_call 21; refine (HMQ.out _ (XR.out.trans XB2.out)).mono ?_; rintro e wa2 ⟨KA2, KC2, rfl, tx, xa⟩; refine stop_of ?_))
            unfold Stop
            go_wp2_with fail
            refine ⟨Below.mono xa SB2.out, ?_⟩
            have XA2 := Lh (XB2.out.trans xa); have SA2 := Lh (Nat.le_trans SB2.out xa.size)
            have T2 := Lh tx
            have MN2 := Lh (xa.heap MN2.out)
            (rw [wpTzR_pure]; simp only [pickOps, mCc, mNn, gSs, gZz]; (repeat (go_big_quiet_step (fail))); refine wpQuiet_nil ?_)
            clear xa tx nb
            (rw [wpTzR_one]; simp only [pickOps, mCc, mNn, gSs, gZz]; go_wp2_with (refine wpList_put 38 rfl _ _ rfl mb2 0 38 _ (metaC m2 (.slice KA2 mk2 KC2)).toArray (metaC m2 (.slice KA2 mk2 KC2)) _ MN2.out rfl rfl rfl (by simp [metaC]) rfl size38 (by kernel_rfl) ?_; intro wc2 xc nc sc; refine stop_of ?_))
            unfold Stop
            have M2 := Lh nc
            go_wp2_with fail
            refine ⟨⟨xc.os, xc.tape, xc.output, xc.size, fun k hk => xc.block k (Nat.lt_of_lt_of_le hk SA2.out) (fun hh => by have := MB2.out; have h3 : BB2 = q91.heap.size := HB2.out; have h2 : k = mb2 := (by simpa using hh); omega)⟩, ?_⟩
            have XC2 := Lh (show Ext q91 wc2 from XA2.out.thenB xc (by have := MB2.out; simp; omega))
            have XZ2 := Lh (XR.out.trans XC2.out)
            have TT2 := Lh (SRow.texts (own_extB T2.out xc (fun y hy e => by have h1 := kind_row T2.out e; rw [show y = mb2 by simpa using hy, kind_cells MN2.out] at h1; cases h1)))
            clear xc nc sc MN2 XA2 XB2 T2
            (rw [wpTzR_pure]; simp only [pickOps, mCc, mNn, gSs, gZz]; (repeat (go_big_quiet_step (fail))); refine wpQuiet_nil ?_)
            rw [wpTzR_done]
            go_wp2_with fail
            have XF := Lh (XZ2.out.trans (Ext.drew (Ext.refl wc2)))
            have G0 : ∀ y : Grow [] wc2.drew, y.v.cell? ⟨pb, 0, none⟩ = some (.pointer (some ⟨b, 0, none⟩)) := fun y => y.ext.cell (XF.out.cell C0b.out) (by simp)
            have G1 : ∀ y : Grow [] wc2.drew, y.v.cell? ⟨fb, 1, none⟩ = some (.string ⟨obj.toArray⟩) := fun y => y.ext.cell (XF.out.cell COb.out) (by simp)
            refine wp_region_segs [] [.inl [0, 1, 2, 3, 4, 5, 8], .inr (.inl 6), .inl [7, 9, 10, 11, 12, 13, 14, 15, 16, 17, 18, 19], .inr (.inl 20), .inl [21, 22, 23, 24, 25, 26, 28], .inr (.inl 27), .inr (.inl 29), .inl [30, 31, 32, 33]] (by kernel_rfl) (by kernel_rfl) (fun c a d v w h => by cases d <;> exact h) ?_
            (rw [wpSegs_inl]; simp only [pickOps, mCc, mNn, gSs, gZz]; (repeat (go_big_quiet_step (fail))); refine wpQuiet_nil ?_)
            clear G0 G1
            (rw [wpSegs_grow]; simp only [pickOps, mCc, mNn, gSs, gZz]; go_wp2_with ((go_at_call 20; refine (p_bytes (H11.out.ext XF.out) HOB.out).mono ?_; rintro e u1 ⟨v20, rfl, r20, h20, x20⟩; refine stop_of ?_)))
            unfold Stop
            have XF1 := Lh (XF.out.trans x20); have B20 := Lh r20.at_
            go_wp2_with fail
            refine ⟨.of x20 _, ?_⟩
            clear x20 r20 h20
            have c1 : ∀ y : Grow [] u1, (convert 22 9 v20).run Try.prog y.v = .ok (.string ⟨(bytesA us obj).toArray⟩) y.v := fun y => run_str (BytesAt.ext B20.out y.ext.ext)
            (rw [wpSegs_inl]; simp only [pickOps, mCc, mNn, gSs, gZz]; (repeat (go_big_quiet_step (fail))); refine wpQuiet_nil ?_)
            clear c1
            (rw [wpSegs_grow]; simp only [pickOps, mCc, mNn, gSs, gZz]; go_wp2_with (fail))
            refine ⟨.of (Ext.refl _) _, ?_⟩
            (rw [wpSegs_inl]; simp only [pickOps, mCc, mNn, gSs, gZz]; (repeat (go_big_quiet_step (fail))); refine wpQuiet_nil ?_)
            (rw [wpSegs_grow]; simp only [pickOps, mCc, mNn, gSs, gZz]; go_wp2_with (fail))
            refine ⟨.of (Ext.refl _) _, ?_⟩
            (rw [wpSegs_grow]; simp only [pickOps, mCc, mNn, gSs, gZz]; go_wp2_with (fail))
            refine ⟨.of (Ext.refl _) _, ?_⟩
            (rw [wpSegs_inl]; simp only [pickOps, mCc, mNn, gSs, gZz]; (repeat (go_big_quiet_step (fail))); refine wpQuiet_nil ?_)
            rw [wpSegs_nil]
            go_wp2
            go_ret
            exact ⟨rfl, X0.out.trans (H11.out.base.trans XF1.out)⟩
          ·obtain rfl := (HSV.out e0).symm
           have HMQ := Lh (prog_meta H11.out HOB.out (show (mm, mo) = metaA vs obj from by rw [← HAO.out]; exact HM.out) HKK.out)
           have d0 : (ec == 0) = false := by simpa using e0
           go_wp2_with fail
           obtain ⟨BB3, hbb⟩ : ∃ p, p = q91.drew.heap.size := ⟨_, rfl⟩
           have HB3 := Lh hbb
           clear hbb
           have XD3 := Lh (Ext.drew (Ext.refl q91))
           have GA : ∀ y : GrowR (keepLow BB3) q91.drew, y.v.cell? ⟨pb, 0, none⟩ = some (.pointer (some ⟨b, 0, none⟩)) := fun y => (y.low HB3.out).cell (XD3.out.cell (XR.out.cell C0b.out))
           have GB : ∀ y : GrowR (keepLow BB3) q91.drew, y.v.cell? ⟨fb, 1, none⟩ = some (.string ⟨obj.toArray⟩) := fun y => (y.low HB3.out).cell (XD3.out.cell (XR.out.cell COb.out))
           have XS3 := Lh (show BB3 ≤ q91.drew.heap.size from Nat.le_of_eq HB3.out)
           refine wp_region_trzR (keepLow BB3) [] [] (.pure [0, 1, 2, 3, 4, 5] (.fork 6 (.pure [7, 8, 9] (.one 10 (.one 11 (.pure [12] (.done))))) 10 (.one 6 (.pure [7, 8, 9] (.one 11 (.pure [12] (.done))))))) (by kernel_rfl) (by kernel_rfl) (fun c a d v w h => by cases d <;> exact h) ?_
           (simp only [pickOps, mCc, mNn, gSs, gZz]; refine wpQuiet_nil ?_)
           (rw [wpTzR_pure]; simp only [pickOps, mCc, mNn, gSs, gZz]; (repeat (go_big_quiet_step (fail))); refine wpQuiet_nil ?_)
           clear GA GB
           rw [wpTzR_fork]
           refine ⟨?_, ?_⟩
           ·(simp only [pickOps, mCc, mNn, gSs, gZz]; go_wp2_with (go_at_call 21; refine (HMQ.out _ (XR.out.trans XD3.out)).mono ?_; rintro e wa3 ⟨KA3, KC3, rfl, tx, xa⟩; refine stop_of ?_))
            unfold Stop
            go_wp2_with fail
            refine ⟨Below.mono xa XS3.out, ?_⟩
            have XA3 := Lh (XD3.out.trans xa); have SA3 := Lh (Nat.le_trans XS3.out xa.size)
            have T3 := Lh tx
            (rw [wpTzR_pure]; simp only [pickOps, mCc, mNn, gSs, gZz]; (repeat (go_big_quiet_step (fail))); refine wpQuiet_nil ?_)
            clear xa tx
            (rw [wpTzR_one]; simp only [pickOps, mCc, mNn, gSs, gZz]; go_wp2_with (refine wpList_new 38 _ zero38 rfl rfl ?_; intro wb3 xb nb sb; refine stop_of ?_))
            unfold Stop
            obtain ⟨mb3, hmb⟩ : ∃ p, p = wa3.heap.size := ⟨_, rfl⟩
            have nb := (show wb3.heap[mb3]? = wb3.heap[wa3.heap.size]? from by rw [hmb]).trans nb
            rw [← hmb]
            have MN3 := Lh nb; have MB3 := Lh (show q91.heap.size ≤ mb3 from by have h1 := SA3.out; have h2 : BB3 = q91.heap.size := HB3.out; omega)
            clear hmb
            go_wp2_with fail
            refine ⟨Below.mono xb SA3.out, ?_⟩
            have XB3 := Lh (XA3.out.trans xb); have SB3 := Lh (Nat.le_trans SA3.out xb.size)
            have TB3 := Lh (ownsRow_below T3.out xb)
            (rw [wpTzR_one]; simp only [pickOps, mCc, mNn, gSs, gZz]; go_wp2_with (refine wpList_put 38 rfl _ _ rfl mb3 0 38 _ (metaC mm (.slice KA3 mk KC3)).toArray (metaC mm (.slice KA3 mk KC3)) _ MN3.out rfl rfl rfl (by simp [metaC]) rfl size38 (by kernel_rfl) ?_; intro wc3 xc nc sc; refine stop_of ?_))
            unfold Stop
            have M3 := Lh nc
            go_wp2_with fail
            refine ⟨⟨xc.os, xc.tape, xc.output, xc.size, fun k hk => xc.block k (Nat.lt_of_lt_of_le hk SB3.out) (fun hh => by have := MB3.out; have h3 : BB3 = q91.heap.size := HB3.out; have h2 : k = mb3 := (by simpa using hh); omega)⟩, ?_⟩
            have XC3 := Lh (show Ext q91 wc3 from XB3.out.thenB xc (by have := MB3.out; simp; omega))
            have XZ3 := Lh (XR.out.trans XC3.out)
            have TT3 := Lh (SRow.texts (own_extB TB3.out xc (fun y hy e => by have h1 := kind_row TB3.out e; rw [show y = mb3 by simpa using hy, kind_cells MN3.out] at h1; cases h1)))
            clear xb nb sb xc nc sc MN3 XA3 XB3 T3 TB3
            (rw [wpTzR_pure]; simp only [pickOps, mCc, mNn, gSs, gZz]; (repeat (go_big_quiet_step (fail))); refine wpQuiet_nil ?_)
            rw [wpTzR_done]
            have MQ := Lh (XC3.out.heap M11.out); have TQ := Lh (TextsAt.ext TR11.out XC3.out); have TW := Lh (TextsAt.ext T11.out XC3.out)
            go_wp2_with fail
            have XF := Lh (XZ3.out.trans (Ext.drew (Ext.refl wc3)))
            have G0 : ∀ y : Grow [] wc3.drew, y.v.cell? ⟨pb, 0, none⟩ = some (.pointer (some ⟨b, 0, none⟩)) := fun y => y.ext.cell (XF.out.cell C0b.out) (by simp)
            have G1 : ∀ y : Grow [] wc3.drew, y.v.cell? ⟨fb, 1, none⟩ = some (.string ⟨obj.toArray⟩) := fun y => y.ext.cell (XF.out.cell COb.out) (by simp)
            refine wp_region_segs [] [.inl [0, 1, 2, 3, 4, 5, 8], .inr (.inl 6), .inl [7, 9, 10, 11, 12, 13, 14, 15, 16, 17, 18, 19], .inr (.inl 20), .inl [21, 22, 23, 24, 25, 26, 28], .inr (.inl 27), .inr (.inl 29), .inl [30, 31, 32, 33]] (by kernel_rfl) (by kernel_rfl) (fun c a d v w h => by cases d <;> exact h) ?_
            (rw [wpSegs_inl]; simp only [pickOps, mCc, mNn, gSs, gZz]; (repeat (go_big_quiet_step (fail))); refine wpQuiet_nil ?_)
            clear G0 G1
            (rw [wpSegs_grow]; simp only [pickOps, mCc, mNn, gSs, gZz]; go_wp2_with ((go_at_call 20; refine (p_bytes (H11.out.ext XF.out) HOB.out).mono ?_; rintro e u1 ⟨v20, rfl, r20, h20, x20⟩; refine stop_of ?_)))
            unfold Stop
            have XF1 := Lh (XF.out.trans x20); have XU1 := Lh x20; have B20 := Lh r20.at_
            go_wp2_with fail
            refine ⟨.of x20 _, ?_⟩
            clear x20 r20 h20
            have c1 : ∀ y : Grow [] u1, (convert 22 9 v20).run Try.prog y.v = .ok (.string ⟨(bytesA vs obj).toArray⟩) y.v := fun y => run_str (BytesAt.ext B20.out y.ext.ext)
            have MX := Lh (XU1.out.heap (show wc3.drew.heap[mb1]? = _ from MQ.out)); have MY := Lh (XU1.out.heap (show wc3.drew.heap[mb3]? = _ from M3.out))
            have T1 := Lh (TextsAt.ext TQ.out ((Ext.drew (Ext.refl wc3)).trans XU1.out)); have T2 := Lh (TextsAt.ext TT3.out ((Ext.drew (Ext.refl wc3)).trans XU1.out)); have TZ := Lh (TextsAt.ext TW.out ((Ext.drew (Ext.refl wc3)).trans XU1.out))
            (rw [wpSegs_inl]; simp only [pickOps, mCc, mNn, gSs, gZz]; (repeat (go_big_quiet_step (fail))); (refine wpQuiet_get 38 _ rfl _ rfl mb1 0 38 _ (metaC mm (.slice KA1 mk KC1)) rfl (fun W hW => by obtain ⟨y, rfl⟩ := hW; exact y.ext.heap (a := u1) MX.out (by simp)) (by kernel_rfl) Try.underlying38 rfl size38 ?_; simp only [Act.put, sAa, sSs, sZz]); (repeat (go_big_quiet_step (fail))); (refine wpQuiet_get 38 _ rfl _ rfl mb3 0 38 _ (metaC mm (.slice KA3 mk KC3)) rfl (fun W hW => by obtain ⟨y, rfl⟩ := hW; exact y.ext.heap (a := u1) MY.out (by simp)) (by kernel_rfl) Try.underlying38 rfl size38 ?_; simp only [Act.put, sAa, sSs, sZz]); (repeat (go_big_quiet_step (fail))); refine wpQuiet_nil ?_)
            clear c1
            (rw [wpSegs_grow]; simp only [pickOps, mCc, mNn, gSs, gZz]; go_wp2_with ((go_at_call 28; refine (rsame_eq mm (.slice KA1 mk KC1) (.slice KA3 mk KC3) _ HMK.out T1.out T2.out).mono ?_; rintro e u2 ⟨rfl, x21⟩; refine stop_of ?_)))
            unfold Stop
            have XF2 := Lh (XF1.out.trans x21); have TZ2 := Lh (TextsAt.ext TZ.out x21)
            go_wp2_with fail
            refine ⟨.of x21 _, ?_⟩
            clear x21
            have G0 : ∀ y : Grow [] u2, y.v.cell? ⟨pb, 0, none⟩ = some (.pointer (some ⟨b, 0, none⟩)) := fun y => y.ext.cell (XF2.out.cell C0b.out) (by simp)
            (rw [wpSegs_inl]; simp only [pickOps, mCc, mNn, gSs, gZz]; (repeat (go_big_quiet_step (fail))); refine wpQuiet_nil ?_)
            clear G0
            (rw [wpSegs_grow]; simp only [pickOps, mCc, mNn, gSs, gZz]; go_wp2_with ((go_at_call 25; refine (p_objs_R (H11.out.ext XF2.out) (by omega)).mono ?_; rintro e u3 ⟨v22, rfl, r22, h22, x22⟩; refine stop_of ?_)))
            unfold Stop
            have XF3 := Lh (XF2.out.trans x22); have T22 := Lh (SRow.texts r22); have TZ3 := Lh (TextsAt.ext TZ2.out x22)
            go_wp2_with fail
            refine ⟨.of x22 _, ?_⟩
            clear x22 r22 h22
            (rw [wpSegs_grow]; simp only [pickOps, mCc, mNn, gSs, gZz]; go_wp2_with ((go_at_call 24; refine (rnames_eq (objsR vs) v22 v4 _ (by have := objsR_le vs; have := HNL.out; omega) T22.out TZ3.out).mono ?_; rintro e u4 ⟨rfl, x23⟩; refine stop_of ?_)))
            unfold Stop
            have XF4 := Lh (XF3.out.trans x23)
            go_wp2_with fail
            refine ⟨.of x23 _, ?_⟩
            clear x23
            (rw [wpSegs_inl]; simp only [pickOps, mCc, mNn, gSs, gZz]; (repeat (go_big_quiet_step (fail))); refine wpQuiet_nil ?_)
            rw [wpSegs_nil]
            go_wp2
            go_ret
            exact ⟨rfl, X0.out.trans (H11.out.base.trans XF4.out)⟩
           ·(simp only [pickOps, mCc, mNn, gSs, gZz]; go_wp2_with (refine wpList_new 38 _ zero38 rfl rfl ?_; intro wb3 xb nb sb; refine stop_of ?_))
            unfold Stop
            obtain ⟨mb3, hmb⟩ : ∃ p, p = q91.heap.size := ⟨_, rfl⟩
            have nb := (show wb3.heap[mb3]? = wb3.heap[q91.heap.size]? from by rw [hmb]).trans nb
            rw [← hmb]
            have MN3 := Lh nb; have MB3 := Lh (show q91.heap.size ≤ mb3 from by have h1 := XS3.out; have h2 : BB3 = q91.heap.size := HB3.out; omega)
            clear hmb
            go_wp2_with fail
            refine ⟨Below.mono xb XS3.out, ?_⟩
            have XB3 := Lh (XD3.out.trans xb); have SB3 := Lh (Nat.le_trans XS3.out xb.size)
            clear xb sb
            (rw [wpTzR_one]; simp only [pickOps, mCc, mNn, gSs, gZz]; go_wp2_with (go_at_call 21; refine (HMQ.out _ (XR.out.trans XB3.out)).mono ?_; rintro e wa3 ⟨KA3, KC3, rfl, tx, xa⟩; refine stop_of ?_))
            unfold Stop
            go_wp2_with fail
            refine ⟨Below.mono xa SB3.out, ?_⟩
            have XA3 := Lh (XB3.out.trans xa); have SA3 := Lh (Nat.le_trans SB3.out xa.size)
            have T3 := Lh tx
            have MN3 := Lh (xa.heap MN3.out)
            (rw [wpTzR_pure]; simp only [pickOps, mCc, mNn, gSs, gZz]; (repeat (go_big_quiet_step (fail))); refine wpQuiet_nil ?_)
            clear xa tx nb
            (rw [wpTzR_one]; simp only [pickOps, mCc, mNn, gSs, gZz]; go_wp2_with (refine wpList_put 38 rfl _ _ rfl mb3 0 38 _ (metaC mm (.slice KA3 mk KC3)).toArray (metaC mm (.slice KA3 mk KC3)) _ MN3.out rfl rfl rfl (by simp [metaC]) rfl size38 (by kernel_rfl) ?_; intro wc3 xc nc sc; refine stop_of ?_))
            unfold Stop
            have M3 := Lh nc
            go_wp2_with fail
            refine ⟨⟨xc.os, xc.tape, xc.output, xc.size, fun k hk => xc.block k (Nat.lt_of_lt_of_le hk SA3.out) (fun hh => by have := MB3.out; have h3 : BB3 = q91.heap.size := HB3.out; have h2 : k = mb3 := (by simpa using hh); omega)⟩, ?_⟩
            have XC3 := Lh (show Ext q91 wc3 from XA3.out.thenB xc (by have := MB3.out; simp; omega))
            have XZ3 := Lh (XR.out.trans XC3.out)
            have TT3 := Lh (SRow.texts (own_extB T3.out xc (fun y hy e => by have h1 := kind_row T3.out e; rw [show y = mb3 by simpa using hy, kind_cells MN3.out] at h1; cases h1)))
            clear xc nc sc MN3 XA3 XB3 T3
            (rw [wpTzR_pure]; simp only [pickOps, mCc, mNn, gSs, gZz]; (repeat (go_big_quiet_step (fail))); refine wpQuiet_nil ?_)
            rw [wpTzR_done]
            have MQ := Lh (XC3.out.heap M11.out); have TQ := Lh (TextsAt.ext TR11.out XC3.out); have TW := Lh (TextsAt.ext T11.out XC3.out)
            go_wp2_with fail
            have XF := Lh (XZ3.out.trans (Ext.drew (Ext.refl wc3)))
            have G0 : ∀ y : Grow [] wc3.drew, y.v.cell? ⟨pb, 0, none⟩ = some (.pointer (some ⟨b, 0, none⟩)) := fun y => y.ext.cell (XF.out.cell C0b.out) (by simp)
            have G1 : ∀ y : Grow [] wc3.drew, y.v.cell? ⟨fb, 1, none⟩ = some (.string ⟨obj.toArray⟩) := fun y => y.ext.cell (XF.out.cell COb.out) (by simp)
            refine wp_region_segs [] [.inl [0, 1, 2, 3, 4, 5, 8], .inr (.inl 6), .inl [7, 9, 10, 11, 12, 13, 14, 15, 16, 17, 18, 19], .inr (.inl 20), .inl [21, 22, 23, 24, 25, 26, 28], .inr (.inl 27), .inr (.inl 29), .inl [30, 31, 32, 33]] (by kernel_rfl) (by kernel_rfl) (fun c a d v w h => by cases d <;> exact h) ?_
            (rw [wpSegs_inl]; simp only [pickOps, mCc, mNn, gSs, gZz]; (repeat (go_big_quiet_step (fail))); refine wpQuiet_nil ?_)
            clear G0 G1
            (rw [wpSegs_grow]; simp only [pickOps, mCc, mNn, gSs, gZz]; go_wp2_with ((go_at_call 20; refine (p_bytes (H11.out.ext XF.out) HOB.out).mono ?_; rintro e u1 ⟨v20, rfl, r20, h20, x20⟩; refine stop_of ?_)))
            unfold Stop
            have XF1 := Lh (XF.out.trans x20); have XU1 := Lh x20; have B20 := Lh r20.at_
            go_wp2_with fail
            refine ⟨.of x20 _, ?_⟩
            clear x20 r20 h20
            have c1 : ∀ y : Grow [] u1, (convert 22 9 v20).run Try.prog y.v = .ok (.string ⟨(bytesA vs obj).toArray⟩) y.v := fun y => run_str (BytesAt.ext B20.out y.ext.ext)
            have MX := Lh (XU1.out.heap (show wc3.drew.heap[mb1]? = _ from MQ.out)); have MY := Lh (XU1.out.heap (show wc3.drew.heap[mb3]? = _ from M3.out))
            have T1 := Lh (TextsAt.ext TQ.out ((Ext.drew (Ext.refl wc3)).trans XU1.out)); have T2 := Lh (TextsAt.ext TT3.out ((Ext.drew (Ext.refl wc3)).trans XU1.out)); have TZ := Lh (TextsAt.ext TW.out ((Ext.drew (Ext.refl wc3)).trans XU1.out))
            (rw [wpSegs_inl]; simp only [pickOps, mCc, mNn, gSs, gZz]; (repeat (go_big_quiet_step (fail))); (refine wpQuiet_get 38 _ rfl _ rfl mb1 0 38 _ (metaC mm (.slice KA1 mk KC1)) rfl (fun W hW => by obtain ⟨y, rfl⟩ := hW; exact y.ext.heap (a := u1) MX.out (by simp)) (by kernel_rfl) Try.underlying38 rfl size38 ?_; simp only [Act.put, sAa, sSs, sZz]); (repeat (go_big_quiet_step (fail))); (refine wpQuiet_get 38 _ rfl _ rfl mb3 0 38 _ (metaC mm (.slice KA3 mk KC3)) rfl (fun W hW => by obtain ⟨y, rfl⟩ := hW; exact y.ext.heap (a := u1) MY.out (by simp)) (by kernel_rfl) Try.underlying38 rfl size38 ?_; simp only [Act.put, sAa, sSs, sZz]); (repeat (go_big_quiet_step (fail))); refine wpQuiet_nil ?_)
            clear c1
            (rw [wpSegs_grow]; simp only [pickOps, mCc, mNn, gSs, gZz]; go_wp2_with ((go_at_call 28; refine (rsame_eq mm (.slice KA1 mk KC1) (.slice KA3 mk KC3) _ HMK.out T1.out T2.out).mono ?_; rintro e u2 ⟨rfl, x21⟩; refine stop_of ?_)))
            unfold Stop
            have XF2 := Lh (XF1.out.trans x21); have TZ2 := Lh (TextsAt.ext TZ.out x21)
            go_wp2_with fail
            refine ⟨.of x21 _, ?_⟩
            clear x21
            have G0 : ∀ y : Grow [] u2, y.v.cell? ⟨pb, 0, none⟩ = some (.pointer (some ⟨b, 0, none⟩)) := fun y => y.ext.cell (XF2.out.cell C0b.out) (by simp)
            (rw [wpSegs_inl]; simp only [pickOps, mCc, mNn, gSs, gZz]; (repeat (go_big_quiet_step (fail))); refine wpQuiet_nil ?_)
            clear G0
            (rw [wpSegs_grow]; simp only [pickOps, mCc, mNn, gSs, gZz]; go_wp2_with ((go_at_call 25; refine (p_objs_R (H11.out.ext XF2.out) (by omega)).mono ?_; rintro e u3 ⟨v22, rfl, r22, h22, x22⟩; refine stop_of ?_)))
            unfold Stop
            have XF3 := Lh (XF2.out.trans x22); have T22 := Lh (SRow.texts r22); have TZ3 := Lh (TextsAt.ext TZ2.out x22)
            go_wp2_with fail
            refine ⟨.of x22 _, ?_⟩
            clear x22 r22 h22
            (rw [wpSegs_grow]; simp only [pickOps, mCc, mNn, gSs, gZz]; go_wp2_with ((go_at_call 24; refine (rnames_eq (objsR vs) v22 v4 _ (by have := objsR_le vs; have := HNL.out; omega) T22.out TZ3.out).mono ?_; rintro e u4 ⟨rfl, x23⟩; refine stop_of ?_)))
            unfold Stop
            have XF4 := Lh (XF3.out.trans x23)
            go_wp2_with fail
            refine ⟨.of x23 _, ?_⟩
            clear x23
            (rw [wpSegs_inl]; simp only [pickOps, mCc, mNn, gSs, gZz]; (repeat (go_big_quiet_step (fail))); refine wpQuiet_nil ?_)
            rw [wpSegs_nil]
            go_wp2
            go_ret
            exact ⟨rfl, X0.out.trans (H11.out.base.trans XF4.out)⟩
     by_cases e2 : kd = 2
     ·subst e2
      go_wp2_with fail
      have P0 : W6.drew.heap[pb]? = some (.cells #[ptrV b, ptrV x, .slice SA ss.length sc, .slice RA ss.length rc] 68) := XX6.out.heap HX.out.blk
      have A0 : W6.drew.heap[fb]? = some (.cells #[.int .i64 2, .string ⟨obj.toArray⟩, .string ⟨tt.toArray⟩, .bool tw, .int .i64 mod, .int .i64 len, .int .i64 hav, .int .i64 fr, .int .i64 wh, .int .i64 er, .slice KA nk KC, .string ⟨ten.toArray⟩, .bool keep, .slice UA nu uc, .string ⟨fo.toArray⟩, .int .i64 ff, .int .i64 fto, .string ⟨mt.toArray⟩, .bool mw, .string ⟨nt.toArray⟩, .bool nw, .int .u8 st, .int .i64 tn] 40) := N6.out
      have H6d := Lh (H6.out.ext (Ext.drew (Ext.refl W6))); have R6d := Lh (show BRow W6.drew wc.heap.size (.slice S6 n6 c6) bs from ownsRow_below R6.out (Ext.drew (Ext.refl W6)))
      have HKT6 := Lh (TextsAt.ext HRA.out.2.1 (X0.out.trans H6d.out.base))
      have HKL := Lh (show LowV W0 (.slice KA nk KC) from (HRA.out.ext X0.out).2.2.1)
      have HCAP := Lh (fun (i : Nat) (v : Vn) (hn : nowI vs obj = some i) (hv : vs[i]? = some v) => (show v.bytes.length + bs.length ≤ 100000 from by have h1 := HX.out.good.bytes v (List.mem_of_getElem? hv); have h2 : bs.length ≤ 60 := HZF.out.bytes; have h3 := HJ40.out; omega))
      have G0 : ∀ y : GrowR (keepB2 pb fb (.cells #[ptrV b, ptrV x, .slice SA ss.length sc, .slice RA ss.length rc] 68) (.cells #[.int .i64 2, .string ⟨obj.toArray⟩, .string ⟨tt.toArray⟩, .bool tw, .int .i64 mod, .int .i64 len, .int .i64 hav, .int .i64 fr, .int .i64 wh, .int .i64 er, .slice KA nk KC, .string ⟨ten.toArray⟩, .bool keep, .slice UA nu uc, .string ⟨fo.toArray⟩, .int .i64 ff, .int .i64 fto, .string ⟨mt.toArray⟩, .bool mw, .string ⟨nt.toArray⟩, .bool nw, .int .u8 st, .int .i64 tn] 40)) W6.drew, y.v.cell? ⟨pb, 0, none⟩ = some (.pointer (some ⟨b, 0, none⟩)) := fun y => blk_cell (y.ext.1 P0) 0
      have G1 : ∀ y : GrowR (keepB2 pb fb (.cells #[ptrV b, ptrV x, .slice SA ss.length sc, .slice RA ss.length rc] 68) (.cells #[.int .i64 2, .string ⟨obj.toArray⟩, .string ⟨tt.toArray⟩, .bool tw, .int .i64 mod, .int .i64 len, .int .i64 hav, .int .i64 fr, .int .i64 wh, .int .i64 er, .slice KA nk KC, .string ⟨ten.toArray⟩, .bool keep, .slice UA nu uc, .string ⟨fo.toArray⟩, .int .i64 ff, .int .i64 fto, .string ⟨mt.toArray⟩, .bool mw, .string ⟨nt.toArray⟩, .bool nw, .int .u8 st, .int .i64 tn] 40)) W6.drew, y.v.cell? ⟨fb, 1, none⟩ = some (.string ⟨obj.toArray⟩) := fun y => blk_cell (y.ext.2 A0) 1
      refine wp_region_segsR (keepB2 pb fb (.cells #[ptrV b, ptrV x, .slice SA ss.length sc, .slice RA ss.length rc] 68) (.cells #[.int .i64 2, .string ⟨obj.toArray⟩, .string ⟨tt.toArray⟩, .bool tw, .int .i64 mod, .int .i64 len, .int .i64 hav, .int .i64 fr, .int .i64 wh, .int .i64 er, .slice KA nk KC, .string ⟨ten.toArray⟩, .bool keep, .slice UA nu uc, .string ⟨fo.toArray⟩, .int .i64 ff, .int .i64 fto, .string ⟨mt.toArray⟩, .bool mw, .string ⟨nt.toArray⟩, .bool nw, .int .u8 st, .int .i64 tn] 40)) [.inl [0, 1, 2, 3, 4, 5, 6], .inr (.inl 7), .inl [8]] (by kernel_rfl) (by kernel_rfl) (fun c a d v w h => by cases d <;> exact h) ?_
      (rw [wpSegsR_inl]; simp only [pickOps, mCc, mNn, gSs, gZz]; (repeat (go_big_quiet_step (fail))); refine wpQuiet_nil ?_)
      (rw [wpSegsR_grow]; simp only [pickOps, mCc, mNn, gSs, gZz]; go_wp2_with ((go_at_call 17; refine (p_growR H6d.out (by have h : obj.length ≤ 300 := HZF.out.obj; omega) List.mem_cons_self (by have h : bs.length ≤ 60 := HZF.out.bytes; omega) HCAP.out (fun _ => R6d.out)).mono ?_; rintro e w7 ⟨rfl, h7, q7, b7⟩; refine stop_of ?_)))
      unfold Stop
      go_wp2_with fail
      refine ⟨keepB2_of ((q7 pb MLP.out).trans P0) (h7.base.heap N0.out), ?_⟩
      clear G0 G1
      (rw [wpSegsR_inl]; simp only [pickOps, mCc, mNn, gSs, gZz]; (repeat (go_big_quiet_step (fail))); refine wpQuiet_nil ?_)
      rw [wpSegsR_nil]
      obtain ⟨us, hus⟩ : ∃ us, us = (growA vs obj bs).2 := ⟨_, rfl⟩
      obtain ⟨ec, hec⟩ : ∃ e, e = (growA vs obj bs).1 := ⟨_, rfl⟩
      rw [← hus] at h7
      rw [← hec]
      have HSV := Lh (show ec ≠ 0 → us = vs from by rw [hec, hus]; exact growA_no)
      clear P0 A0 hus hec
      have H7 := Lh (show Pl2 W0 w7 b x 900000 LL us ss sa vs ss ra [(.slice S6 n6 c6, bs)] from h7.more (by have := HNL.out; omega)); have K7 := Lh (show KeepP LL W6 w7 from fun g hg => (q7 g hg).trans rfl); have B7 := Lh b7
      clear h7 q7 b7
      have HOB := Lh (show obj.length ≤ 1000000 from by have h : obj.length ≤ 300 := HZF.out.obj; omega)
      have P7 := Lh ((K7.out pb MLP.out).trans (XX6.out.heap HX.out.blk))
      have A7 := Lh (show w7.heap[fb]? = some (.cells #[.int .i64 2, .string ⟨obj.toArray⟩, .string ⟨tt.toArray⟩, .bool tw, .int .i64 mod, .int .i64 len, .int .i64 hav, .int .i64 fr, .int .i64 wh, .int .i64 er, .slice KA nk KC, .string ⟨ten.toArray⟩, .bool keep, .slice UA nu uc, .string ⟨fo.toArray⟩, .int .i64 ff, .int .i64 fto, .string ⟨mt.toArray⟩, .bool mw, .string ⟨nt.toArray⟩, .bool nw, .int .u8 st, .int .i64 tn] 40) from H7.out.base.heap N0.out)
      rw [HAO.out]
      go_wp2_with fail
      have XD7 := Lh (Ext.drew (Ext.refl w7))
      have G0 : ∀ y : Grow [] w7.drew, y.v.cell? ⟨pb, 0, none⟩ = some (.pointer (some ⟨b, 0, none⟩)) := fun y => y.ext.cell (XD7.out.cell (blk_cell P7.out 0)) (by simp)
      have G1 : ∀ y : Grow [] w7.drew, y.v.cell? ⟨fb, 1, none⟩ = some (.string ⟨obj.toArray⟩) := fun y => y.ext.cell (XD7.out.cell (blk_cell A7.out 1)) (by simp)
      refine wp_region_segs [] [.inl [0, 1, 2, 3, 4, 5], .inr (.inl 6), .inl [7, 8]] (by kernel_rfl) (by kernel_rfl) (fun c a d v w h => by cases d <;> exact h) ?_
      (rw [wpSegs_inl]; simp only [pickOps, mCc, mNn, gSs, gZz]; (repeat (go_big_quiet_step (fail))); refine wpQuiet_nil ?_)
      clear G0 G1
      (rw [wpSegs_grow]; simp only [pickOps, mCc, mNn, gSs, gZz]; go_wp2_with ((go_at_call 20; refine (p_bytes (H7.out.ext XD7.out) HOB.out).mono ?_; rintro e q7 ⟨v7, rfl, r7, h7, x7⟩; refine stop_of ?_)))
      unfold Stop
      have X7 := Lh (XD7.out.trans x7); have R7 := Lh r7; have HQ7 := Lh h7
      go_wp2_with fail
      refine ⟨.of x7 _, ?_⟩
      clear x7 r7 h7
      have c1 : ∀ y : Grow [] q7, (convert 22 9 v7).run Try.prog y.v = .ok (.string ⟨(bytesA us obj).toArray⟩) y.v := fun y => run_str (BytesAt.ext R7.out.at_ y.ext.ext)
      (rw [wpSegs_inl]; simp only [pickOps, mCc, mNn, gSs, gZz]; (repeat (go_big_quiet_step (fail))); refine wpQuiet_nil ?_)
      clear c1
      rw [wpSegs_nil]
      have H8 := Lh (H7.out.ext X7.out)
      have K8 := Lh (KeepP.trans K7.out (KeepP.ext X7.out fun g hg => H7.out.plt hg))
      have P8 := Lh (X7.out.heap P7.out)
      have B8 := Lh (fun hn => ownsRow_below (B7.out hn) X7.out)
      obtain ⟨g6, ht⟩ := TurnR.start H8.out List.mem_cons_self B8.out HB7.out
      rw [← HN6.out] at ht
      have T8 := Lh ht
      clear ht B7 B8 H8 X7 HQ7 R7 K7 H7 P7 A7
      go_wp2_with fail
      go_loopw [126, 15] (fun i _ wr => ∃ j : Nat, j ≤ n6 ∧ i = .int .i64 j ∧ Hid (TurnR W0 q7 wr b x 900000 LL us ss sa vs ss ra (.slice S6 n6 c6) n6 g6)) (fun i _ _ => n6 - (intOf i).toNat)
      case atStart => exact ⟨0, by omega, rfl, T8⟩
      case round =>
       clear T8
       obtain ⟨j6, hj6, rfl, HT⟩ := hrel
       by_cases hlt : j6 < n6
       ·obtain ⟨cur, hb, hcs, hz⟩ := HT.out.wr.blk (by omega)
        obtain ⟨z, hz⟩ := hz j6 hlt
        obtain ⟨cc, hv, hcc⟩ := HT.out.wr.val (by omega)
        obtain ⟨hS, rfl⟩ : S6 = some ⟨g6, 0, none⟩ ∧ c6 = cc := by injection hv with e1 e2 e3; exact ⟨e1, e3⟩
        clear hv
        subst hS
        have hcell : wr.cell? ⟨g6, j6, none⟩ = some (.int .u8 z) := by rw [blk_cell hb]; exact hz
        have hfree := blk_free hb j6
        have HB := Lh hb
        clear hb hz hcs
        go_wp2
        go_roundw
        case rel => exact ⟨j6 + 1, by omega, by go_num, Lh (HT.out.put (by omega) _ _)⟩
        case measure => simp [intOf]; omega
       ·obtain ⟨q96, hq⟩ : ∃ W, W = wr := ⟨_, rfl⟩
        rw [← hq] at HT ⊢
        clear hq
        go_wp2_with fail
        clear hlt hj6
        have KK := Lh (K8.out.trans HT.out.keep)
        have H9 := Lh HT.out.st
        have P9 := Lh ((HT.out.keep pb MLP.out).trans P8.out)
        have A9 := Lh (show q96.heap[fb]? = some (.cells #[.int .i64 2, .string ⟨obj.toArray⟩, .string ⟨tt.toArray⟩, .bool tw, .int .i64 mod, .int .i64 len, .int .i64 hav, .int .i64 fr, .int .i64 wh, .int .i64 er, .slice KA nk KC, .string ⟨ten.toArray⟩, .bool keep, .slice UA nu uc, .string ⟨fo.toArray⟩, .int .i64 ff, .int .i64 fto, .string ⟨mt.toArray⟩, .bool mw, .string ⟨nt.toArray⟩, .bool nw, .int .u8 st, .int .i64 tn] 40) from H9.out.base.heap N0.out)
        have MLP9 := Lh (show addV (.slice S6 n6 c6) n6 LL pb from .inr MLP.out)
        clear HT K8 P8
        have XD9 := Lh (Ext.drew (Ext.refl q96))
        have G0 : ∀ y : Grow [] q96.drew, y.v.cell? ⟨pb, 0, none⟩ = some (.pointer (some ⟨b, 0, none⟩)) := fun y => y.ext.cell (XD9.out.cell (blk_cell P9.out 0)) (by simp)
        have G1 : ∀ y : Grow [] q96.drew, y.v.cell? ⟨fb, 1, none⟩ = some (.string ⟨obj.toArray⟩) := fun y => y.ext.cell (XD9.out.cell (blk_cell A9.out 1)) (by simp)
        refine wp_region_segs [] [.inl [0, 1, 2, 3, 4, 5], .inr (.inl 6), .inl [7]] (by kernel_rfl) (by kernel_rfl) (fun c a d v w h => by cases d <;> exact h) ?_
        (rw [wpSegs_inl]; simp only [pickOps, mCc, mNn, gSs, gZz]; (repeat (go_big_quiet_step (fail))); refine wpQuiet_nil ?_)
        clear G0 G1
        (rw [wpSegs_grow]; simp only [pickOps, mCc, mNn, gSs, gZz]; go_wp2_with ((go_at_call 20; refine (p_bytes (H9.out.ext XD9.out) HOB.out).mono ?_; rintro e q9 ⟨v9, rfl, r9, h9, x9⟩; refine stop_of ?_)))
        unfold Stop
        have X9 := Lh (XD9.out.trans x9); have R9 := Lh r9; have HQ9 := Lh h9
        go_wp2_with fail
        refine ⟨.of x9 _, ?_⟩
        clear x9 r9 h9
        (rw [wpSegs_inl]; simp only [pickOps, mCc, mNn, gSs, gZz]; (repeat (go_big_quiet_step (fail))); refine wpQuiet_nil ?_)
        rw [wpSegs_nil]
        obtain ⟨S1, c1, hv9⟩ := own_slice R9.out
        subst hv9
        obtain ⟨n1, hn1⟩ : ∃ n, n = (bytesA us obj).length := ⟨_, rfl⟩
        obtain ⟨g1, ht⟩ := TurnR.start HQ9.out List.mem_cons_self (fun _ => R9.out) (H9.out.base.size)
        rw [← hn1] at ht ⊢
        have T9 := Lh ht
        have hn19 : n1 ≤ 100000 := by have := bytesA_le H9.out obj; omega
        have K9 := Lh (KK.out.trans (KeepP.ext X9.out fun g hg => H9.out.plt (.inr hg)))
        have P10 := Lh (X9.out.heap P9.out)
        clear ht hn1 HQ9 R9 X9 KK H9 P9 A9
        go_wp2_with fail
        go_loopw [145, 17] (fun i _ wr => ∃ j : Nat, j ≤ n1 ∧ i = .int .i64 j ∧ Hid (TurnR W0 q9 wr b x 900000 (addV (.slice S6 n6 c6) n6 LL) us ss sa vs ss ra (.slice S1 n1 c1) n1 g1)) (fun i _ _ => n1 - (intOf i).toNat)
        case atStart => exact ⟨0, by omega, rfl, T9⟩
        case round =>
         clear T9
         obtain ⟨j1, hj1, rfl, HT⟩ := hrel
         by_cases hlt : j1 < n1
         ·obtain ⟨cur, hb, hcs, hz⟩ := HT.out.wr.blk (by omega)
          obtain ⟨z, hz⟩ := hz j1 hlt
          obtain ⟨cc, hv, hcc⟩ := HT.out.wr.val (by omega)
          obtain ⟨hS, rfl⟩ : S1 = some ⟨g1, 0, none⟩ ∧ c1 = cc := by injection hv with e1 e2 e3; exact ⟨e1, e3⟩
          clear hv
          subst hS
          have hcell : wr.cell? ⟨g1, j1, none⟩ = some (.int .u8 z) := by rw [blk_cell hb]; exact hz
          have hfree := blk_free hb j1
          have HB := Lh hb
          clear hb hz hcs
          go_wp2
          go_roundw
          case rel => exact ⟨j1 + 1, by omega, by go_num, Lh (HT.out.put (by omega) _ _)⟩
          case measure => simp [intOf]; omega
         ·obtain ⟨q91, hq⟩ : ∃ W, W = wr := ⟨_, rfl⟩
          rw [← hq] at HT ⊢
          clear hq
          go_wp2_with fail
          clear hlt hj1
          have KL := Lh (K9.out.trans (HT.out.keep.sub fun g hg => .inr hg))
          have H11 := Lh HT.out.st
          have C0b := Lh (show q91.cell? ⟨pb, 0, none⟩ = some (.pointer (some ⟨b, 0, none⟩)) from by rw [blk_cell ((HT.out.keep pb MLP9.out).trans P10.out)]; rfl)
          have COb := Lh (show q91.cell? ⟨fb, 1, none⟩ = some (.string ⟨obj.toArray⟩) from blk_cell (H11.out.base.heap N0.out) 1)
          clear HT K9 P10 MLP9
          have M11 := Lh (kept_blk M1.out MBL.out MLN.out X6.out KL.out)
          have TR11 := Lh (SRow.texts (kept_row TR1.out (Nat.le_refl _) MLN.out X6.out KL.out))
          have T11 := Lh (SRow.texts (kept_row (show SRow wc w3.heap.size v4 (objsR vs) from ownsRow_below R5.out X5c.out) (Nat.le_refl _) MLN.out X6.out KL.out))
          have XR := Lh (Ext.refl q91)
          by_cases e0 : ec = 0
          ·subst e0
           obtain ⟨⟨m2, mo2⟩, hm2⟩ : ∃ m, m = metaA us obj := ⟨_, rfl⟩
           obtain ⟨mk2, hmk2⟩ : ∃ n, n = m2.keys.length := ⟨_, rfl⟩
           have HMQ := Lh (prog_meta H11.out HOB.out hm2 hmk2)
           clear hm2 hmk2
           go_wp2_with fail
           obtain ⟨BB4, hbb⟩ : ∃ p, p = q91.drew.heap.size := ⟨_, rfl⟩
           have HB4 := Lh hbb
           clear hbb
           have XD4 := Lh (Ext.drew (Ext.refl q91))
           have GA : ∀ y : GrowR (keepLow BB4) q91.drew, y.v.cell? ⟨pb, 0, none⟩ = some (.pointer (some ⟨b, 0, none⟩)) := fun y => (y.low HB4.out).cell (XD4.out.cell (XR.out.cell C0b.out))
           have GB : ∀ y : GrowR (keepLow BB4) q91.drew, y.v.cell? ⟨fb, 1, none⟩ = some (.string ⟨obj.toArray⟩) := fun y => (y.low HB4.out).cell (XD4.out.cell (XR.out.cell COb.out))
           have XS4 := Lh (show BB4 ≤ q91.drew.heap.size from Nat.le_of_eq HB4.out)
           refine wp_region_trzR (keepLow BB4) [] [] (.pure [0, 1, 2, 3, 4, 5] (.fork 6 (.pure [7, 8, 9] (.one 10 (.one 11 (.pure [12] (.done))))) 10 (.one 6 (.pure [7, 8, 9] (.one 11 (.pure [12] (.done))))))) (by kernel_rfl) (by kernel_rfl) (fun c a d v w h => by cases d <;> exact h) ?_
           (simp only [pickOps, mCc, mNn, gSs, gZz]; refine wpQuiet_nil ?_)
           (rw [wpTzR_pure]; simp only [pickOps, mCc, mNn, gSs, gZz]; (repeat (go_big_quiet_step (fail))); refine wpQuiet_nil ?_)
           clear GA GB
           rw [wpTzR_fork]
           refine ⟨?_, ?_⟩
           ·(simp only [pickOps, mCc, mNn, gSs, gZz]; go_wp2_with (go_at_call 21; refine (HMQ.out _ (XR.out.trans XD4.out)).mono ?_; rintro e wa4 ⟨KA4, KC4, rfl, tx, xa⟩; refine stop_of ?_))
            unfold Stop
            go_wp2_with fail
            refine ⟨Below.mono xa XS4.out, ?_⟩
            have XA4 := Lh (XD4.out.trans xa); have SA4 := Lh (Nat.le_trans XS4.out xa.size)
            have T4 := Lh tx
            (rw [wpTzR_pure]; simp only [pickOps, mCc, mNn, gSs, gZz]; (repeat (go_big_quiet_step (fail))); refine wpQuiet_nil ?_)
            clear xa tx
            (rw [wpTzR_one]; simp only [pickOps, mCc, mNn, gSs, gZz]; go_wp2_with (refine wpList_new 38 _ zero38 rfl rfl ?_; intro wb4 xb nb sb; refine stop_of ?_))
            unfold Stop
            obtain ⟨mb4, hmb⟩ : ∃ p, p = wa4.heap.size := ⟨_, rfl⟩
            have nb := (show wb4.heap[mb4]? = wb4.heap[wa4.heap.size]? from by rw [hmb]).trans nb
            rw [← hmb]
            have MN4 := Lh nb; have MB4 := Lh (show q91.heap.size ≤ mb4 from by have h1 := SA4.out; have h2 : BB4 = q91.heap.size := HB4.out; omega)
            clear hmb
            go_wp2_with fail
            refine ⟨Below.mono xb SA4.out, ?_⟩
            have XB4 := Lh (XA4.out.trans xb); have SB4 := Lh (Nat.le_trans SA4.out xb.size)
            have TB4 := Lh (ownsRow_below T4.out xb)
            (rw [wpTzR_one]; simp only [pickOps, mCc, mNn, gSs, gZz]; go_wp2_with (refine wpList_put 38 rfl _ _ rfl mb4 0 38 _ (metaC m2 (.slice KA4 mk2 KC4)).toArray (metaC m2 (.slice KA4 mk2 KC4)) _ MN4.out rfl rfl rfl (by simp [metaC]) rfl size38 (by kernel_rfl) ?_; intro wc4 xc nc sc; refine stop_of ?_))
            unfold Stop
            have M4 := Lh nc
            go_wp2_with fail
            refine ⟨⟨xc.os, xc.tape, xc.output, xc.size, fun k hk => xc.block k (Nat.lt_of_lt_of_le hk SB4.out) (fun hh => by have := MB4.out; have h3 : BB4 = q91.heap.size := HB4.out; have h2 : k = mb4 := (by simpa using hh); omega)⟩, ?_⟩
            have XC4 := Lh (show Ext q91 wc4 from XB4.out.thenB xc (by have := MB4.out; simp; omega))
            have XZ4 := Lh (XR.out.trans XC4.out)
            have TT4 := Lh (SRow.texts (own_extB TB4.out xc (fun y hy e => by have h1 := kind_row TB4.out e; rw [show y = mb4 by simpa using hy, kind_cells MN4.out] at h1; cases h1)))
            clear xb nb sb xc nc sc MN4 XA4 XB4 T4 TB4
            (rw [wpTzR_pure]; simp only [pickOps, mCc, mNn, gSs, gZz]; (repeat (go_big_quiet_step (fail))); refine wpQuiet_nil ?_)
            rw [wpTzR_done]
            go_wp2_with fail
            have XF := Lh (XZ4.out.trans (Ext.drew (Ext.refl wc4)))
            have G0 : ∀ y : Grow [] wc4.drew, y.v.cell? ⟨pb, 0, none⟩ = some (.pointer (some ⟨b, 0, none⟩)) := fun y => y.ext.cell (XF.out.cell C0b.out) (by simp)
            have G1 : ∀ y : Grow [] wc4.drew, y.v.cell? ⟨fb, 1, none⟩ = some (.string ⟨obj.toArray⟩) := fun y => y.ext.cell (XF.out.cell COb.out) (by simp)
            refine wp_region_segs [] [.inl [0, 1, 2, 3, 4, 5, 8], .inr (.inl 6), .inl [7, 9, 10, 11, 12, 13, 14, 15, 16, 17, 18, 19], .inr (.inl 20), .inl [21, 22, 23, 24, 25, 26, 28], .inr (.inl 27), .inr (.inl 29), .inl [30, 31, 32, 33]] (by kernel_rfl) (by kernel_rfl) (fun c a d v w h => by cases d <;> exact h) ?_
            (rw [wpSegs_inl]; simp only [pickOps, mCc, mNn, gSs, gZz]; (repeat (go_big_quiet_step (fail))); refine wpQuiet_nil ?_)
            clear G0 G1
            (rw [wpSegs_grow]; simp only [pickOps, mCc, mNn, gSs, gZz]; go_wp2_with ((go_at_call 20; refine (p_bytes (H11.out.ext XF.out) HOB.out).mono ?_; rintro e u1 ⟨v20, rfl, r20, h20, x20⟩; refine stop_of ?_)))
            unfold Stop
            have XF1 := Lh (XF.out.trans x20); have B20 := Lh r20.at_
            go_wp2_with fail
            refine ⟨.of x20 _, ?_⟩
            clear x20 r20 h20
            have c1 : ∀ y : Grow [] u1, (convert 22 9 v20).run Try.prog y.v = .ok (.string ⟨(bytesA us obj).toArray⟩) y.v := fun y => run_str (BytesAt.ext B20.out y.ext.ext)
            (rw [wpSegs_inl]; simp only [pickOps, mCc, mNn, gSs, gZz]; (repeat (go_big_quiet_step (fail))); refine wpQuiet_nil ?_)
            clear c1
            (rw [wpSegs_grow]; simp only [pickOps, mCc, mNn, gSs, gZz]; go_wp2_with (fail))
            refine ⟨.of (Ext.refl _) _, ?_⟩
            (rw [wpSegs_inl]; simp only [pickOps, mCc, mNn, gSs, gZz]; (repeat (go_big_quiet_step (fail))); refine wpQuiet_nil ?_)
            (rw [wpSegs_grow]; simp only [pickOps, mCc, mNn, gSs, gZz]; go_wp2_with (fail))
            refine ⟨.of (Ext.refl _) _, ?_⟩
            (rw [wpSegs_grow]; simp only [pickOps, mCc, mNn, gSs, gZz]; go_wp2_with (fail))
            refine ⟨.of (Ext.refl _) _, ?_⟩
            (rw [wpSegs_inl]; simp only [pickOps, mCc, mNn, gSs, gZz]; (repeat (go_big_quiet_step (fail))); refine wpQuiet_nil ?_)
            rw [wpSegs_nil]
            go_wp2
            go_ret
            exact ⟨rfl, X0.out.trans (H11.out.base.trans XF1.out)⟩
           ·(simp only [pickOps, mCc, mNn, gSs, gZz]; go_wp2_with (refine wpList_new 38 _ zero38 rfl rfl ?_; intro wb4 xb nb sb; refine stop_of ?_))
            unfold Stop
            obtain ⟨mb4, hmb⟩ : ∃ p, p = q91.heap.size := ⟨_, rfl⟩
            have nb := (show wb4.heap[mb4]? = wb4.heap[q91.heap.size]? from by rw [hmb]).trans nb
            rw [← hmb]
            have MN4 := Lh nb; have MB4 := Lh (show q91.heap.size ≤ mb4 from by have h1 := XS4.out; have h2 : BB4 = q91.heap.size := HB4.out; omega)
            clear hmb
            go_wp2_with fail
            refine ⟨Below.mono xb XS4.out, ?_⟩
            have XB4 := Lh (XD4.out.trans xb); have SB4 := Lh (Nat.le_trans XS4.out xb.size)
            clear xb sb
            (rw [wpTzR_one]; simp only [pickOps, mCc, mNn, gSs, gZz]; go_wp2_with (go_at_call 21; refine (HMQ.out _ (XR.out.trans XB4.out)).mono ?_; rintro e wa4 ⟨KA4, KC4, rfl, tx, xa⟩; refine stop_of ?_))
            unfold Stop
            go_wp2_with fail
            refine ⟨Below.mono xa SB4.out, ?_⟩
            have XA4 := Lh (XB4.out.trans xa); have SA4 := Lh (Nat.le_trans SB4.out xa.size)
            have T4 := Lh tx
            have MN4 := Lh (xa.heap MN4.out)
            (rw [wpTzR_pure]; simp only [pickOps, mCc, mNn, gSs, gZz]; (repeat (go_big_quiet_step (fail))); refine wpQuiet_nil ?_)
            clear xa tx nb
            (rw [wpTzR_one]; simp only [pickOps, mCc, mNn, gSs, gZz]; go_wp2_with (refine wpList_put 38 rfl _ _ rfl mb4 0 38 _ (metaC m2 (.slice KA4 mk2 KC4)).toArray (metaC m2 (.slice KA4 mk2 KC4)) _ MN4.out rfl rfl rfl (by simp [metaC]) rfl size38 (by kernel_rfl) ?_; intro wc4 xc nc sc; refine stop_of ?_))
            unfold Stop
            have M4 := Lh nc
            go_wp2_with fail
            refine ⟨⟨xc.os, xc.tape, xc.output, xc.size, fun k hk => xc.block k (Nat.lt_of_lt_of_le hk SA4.out) (fun hh => by have := MB4.out; have h3 : BB4 = q91.heap.size := HB4.out; have h2 : k = mb4 := (by simpa using hh); omega)⟩, ?_⟩
            have XC4 := Lh (show Ext q91 wc4 from XA4.out.thenB xc (by have := MB4.out; simp; omega))
            have XZ4 := Lh (XR.out.trans XC4.out)
            have TT4 := Lh (SRow.texts (own_extB T4.out xc (fun y hy e => by have h1 := kind_row T4.out e; rw [show y = mb4 by simpa using hy, kind_cells MN4.out] at h1; cases h1)))
            clear xc nc sc MN4 XA4 XB4 T4
            (rw [wpTzR_pure]; simp only [pickOps, mCc, mNn, gSs, gZz]; (repeat (go_big_quiet_step (fail))); refine wpQuiet_nil ?_)
            rw [wpTzR_done]
            go_wp2_with fail
            have XF := Lh (XZ4.out.trans (Ext.drew (Ext.refl wc4)))
            have G0 : ∀ y : Grow [] wc4.drew, y.v.cell? ⟨pb, 0, none⟩ = some (.pointer (some ⟨b, 0, none⟩)) := fun y => y.ext.cell (XF.out.cell C0b.out) (by simp)
            have G1 : ∀ y : Grow [] wc4.drew, y.v.cell? ⟨fb, 1, none⟩ = some (.string ⟨obj.toArray⟩) := fun y => y.ext.cell (XF.out.cell COb.out) (by simp)
            refine wp_region_segs [] [.inl [0, 1, 2, 3, 4, 5, 8], .inr (.inl 6), .inl [7, 9, 10, 11, 12, 13, 14, 15, 16, 17, 18, 19], .inr (.inl 20), .inl [21, 22, 23, 24, 25, 26, 28], .inr (.inl 27), .inr (.inl 29), .inl [30, 31, 32, 33]] (by kernel_rfl) (by kernel_rfl) (fun c a d v w h => by cases d <;> exact h) ?_
            (rw [wpSegs_inl]; simp only [pickOps, mCc, mNn, gSs, gZz]; (repeat (go_big_quiet_step (fail))); refine wpQuiet_nil ?_)
            clear G0 G1
            (rw [wpSegs_grow]; simp only [pickOps, mCc, mNn, gSs, gZz]; go_wp2_with ((go_at_call 20; refine (p_bytes (H11.out.ext XF.out) HOB.out).mono ?_; rintro e u1 ⟨v20, rfl, r20, h20, x20⟩; refine stop_of ?_)))
            unfold Stop
            have XF1 := Lh (XF.out.trans x20); have B20 := Lh r20.at_
            go_wp2_with fail
            refine ⟨.of x20 _, ?_⟩
            clear x20 r20 h20
            have c1 : ∀ y : Grow [] u1, (convert 22 9 v20).run Try.prog y.v = .ok (.string ⟨(bytesA us obj).toArray⟩) y.v := fun y => run_str (BytesAt.ext B20.out y.ext.ext)
            (rw [wpSegs_inl]; simp only [pickOps, mCc, mNn, gSs, gZz]; (repeat (go_big_quiet_step (fail))); refine wpQuiet_nil ?_)
            clear c1
            (rw [wpSegs_grow]; simp only [pickOps, mCc, mNn, gSs, gZz]; go_wp2_with (fail))
            refine ⟨.of (Ext.refl _) _, ?_⟩
            (rw [wpSegs_inl]; simp only [pickOps, mCc, mNn, gSs, gZz]; (repeat (go_big_quiet_step (fail))); refine wpQuiet_nil ?_)
            (rw [wpSegs_grow]; simp only [pickOps, mCc, mNn, gSs, gZz]; go_wp2_with (fail))
            refine ⟨.of (Ext.refl _) _, ?_⟩
            (rw [wpSegs_grow]; simp only [pickOps, mCc, mNn, gSs, gZz]; go_wp2_with (fail))
            refine ⟨.of (Ext.refl _) _, ?_⟩
            (rw [wpSegs_inl]; simp only [pickOps, mCc, mNn, gSs, gZz]; (repeat (go_big_quiet_step (fail))); refine wpQuiet_nil ?_)
            rw [wpSegs_nil]
            go_wp2
            go_ret
            exact ⟨rfl, X0.out.trans (H11.out.base.trans XF1.out)⟩
          ·obtain rfl := (HSV.out e0).symm
           have HMQ := Lh (prog_meta H11.out HOB.out (show (mm, mo) = metaA vs obj from by rw [← HAO.out]; exact HM.out) HKK.out)
           have d0 : (ec == 0) = false := by simpa using e0
           go_wp2_with fail
           obtain ⟨BB5, hbb⟩ : ∃ p, p = q91.drew.heap.size := ⟨_, rfl⟩
           have HB5 := Lh hbb
           clear hbb
           have XD5 := Lh (Ext.drew (Ext.refl q91))
           have GA : ∀ y : GrowR (keepLow BB5) q91.drew, y.v.cell? ⟨pb, 0, none⟩ = some (.pointer (some ⟨b, 0, none⟩)) := fun y => (y.low HB5.out).cell (XD5.out.cell (XR.out.cell C0b.out))
           have GB : ∀ y : GrowR (keepLow BB5) q91.drew, y.v.cell? ⟨fb, 1, none⟩ = some (.string ⟨obj.toArray⟩) := fun y => (y.low HB5.out).cell (XD5.out.cell (XR.out.cell COb.out))
           have XS5 := Lh (show BB5 ≤ q91.drew.heap.size from Nat.le_of_eq HB5.out)
           refine wp_region_trzR (keepLow BB5) [] [] (.pure [0, 1, 2, 3, 4, 5] (.fork 6 (.pure [7, 8, 9] (.one 10 (.one 11 (.pure [12] (.done))))) 10 (.one 6 (.pure [7, 8, 9] (.one 11 (.pure [12] (.done))))))) (by kernel_rfl) (by kernel_rfl) (fun c a d v w h => by cases d <;> exact h) ?_
           (simp only [pickOps, mCc, mNn, gSs, gZz]; refine wpQuiet_nil ?_)
           (rw [wpTzR_pure]; simp only [pickOps, mCc, mNn, gSs, gZz]; (repeat (go_big_quiet_step (fail))); refine wpQuiet_nil ?_)
           clear GA GB
           rw [wpTzR_fork]
           refine ⟨?_, ?_⟩
           ·(simp only [pickOps, mCc, mNn, gSs, gZz]; go_wp2_with (go_at_call 21; refine (HMQ.out _ (XR.out.trans XD5.out)).mono ?_; rintro e wa5 ⟨KA5, KC5, rfl, tx, xa⟩; refine stop_of ?_))
            unfold Stop
            go_wp2_with fail
            refine ⟨Below.mono xa XS5.out, ?_⟩
            have XA5 := Lh (XD5.out.trans xa); have SA5 := Lh (Nat.le_trans XS5.out xa.size)
            have T5 := Lh tx
            (rw [wpTzR_pure]; simp only [pickOps, mCc, mNn, gSs, gZz]; (repeat (go_big_quiet_step (fail))); refine wpQuiet_nil ?_)
            clear xa tx
            (rw [wpTzR_one]; simp only [pickOps, mCc, mNn, gSs, gZz]; go_wp2_with (refine wpList_new 38 _ zero38 rfl rfl ?_; intro wb5 xb nb sb; refine stop_of ?_))
            unfold Stop
            obtain ⟨mb5, hmb⟩ : ∃ p, p = wa5.heap.size := ⟨_, rfl⟩
            have nb := (show wb5.heap[mb5]? = wb5.heap[wa5.heap.size]? from by rw [hmb]).trans nb
            rw [← hmb]
            have MN5 := Lh nb; have MB5 := Lh (show q91.heap.size ≤ mb5 from by have h1 := SA5.out; have h2 : BB5 = q91.heap.size := HB5.out; omega)
            clear hmb
            go_wp2_with fail
            refine ⟨Below.mono xb SA5.out, ?_⟩
            have XB5 := Lh (XA5.out.trans xb); have SB5 := Lh (Nat.le_trans SA5.out xb.size)
            have TB5 := Lh (ownsRow_below T5.out xb)
            (rw [wpTzR_one]; simp only [pickOps, mCc, mNn, gSs, gZz]; go_wp2_with (refine wpList_put 38 rfl _ _ rfl mb5 0 38 _ (metaC mm (.slice KA5 mk KC5)).toArray (metaC mm (.slice KA5 mk KC5)) _ MN5.out rfl rfl rfl (by simp [metaC]) rfl size38 (by kernel_rfl) ?_; intro wc5 xc nc sc; refine stop_of ?_))
            unfold Stop
            have M5 := Lh nc
            go_wp2_with fail
            refine ⟨⟨xc.os, xc.tape, xc.output, xc.size, fun k hk => xc.block k (Nat.lt_of_lt_of_le hk SB5.out) (fun hh => by have := MB5.out; have h3 : BB5 = q91.heap.size := HB5.out; have h2 : k = mb5 := (by simpa using hh); omega)⟩, ?_⟩
            have XC5 := Lh (show Ext q91 wc5 from XB5.out.thenB xc (by have := MB5.out; simp; omega))
            have XZ5 := Lh (XR.out.trans XC5.out)
            have TT5 := Lh (SRow.texts (own_extB TB5.out xc (fun y hy e => by have h1 := kind_row TB5.out e; rw [show y = mb5 by simpa using hy, kind_cells MN5.out] at h1; cases h1)))
            clear xb nb sb xc nc sc MN5 XA5 XB5 T5 TB5
            (rw [wpTzR_pure]; simp only [pickOps, mCc, mNn, gSs, gZz]; (repeat (go_big_quiet_step (fail))); refine wpQuiet_nil ?_)
            rw [wpTzR_done]
            have MQ := Lh (XC5.out.heap M11.out); have TQ := Lh (TextsAt.ext TR11.out XC5.out); have TW := Lh (TextsAt.ext T11.out XC5.out)
            go_wp2_with fail
            have XF := Lh (XZ5.out.trans (Ext.drew (Ext.refl wc5)))
            have G0 : ∀ y : Grow [] wc5.drew, y.v.cell? ⟨pb, 0, none⟩ = some (.pointer (some ⟨b, 0, none⟩)) := fun y => y.ext.cell (XF.out.cell C0b.out) (by simp)
            have G1 : ∀ y : Grow [] wc5.drew, y.v.cell? ⟨fb, 1, none⟩ = some (.string ⟨obj.toArray⟩) := fun y => y.ext.cell (XF.out.cell COb.out) (by simp)
            refine wp_region_segs [] [.inl [0, 1, 2, 3, 4, 5, 8], .inr (.inl 6), .inl [7, 9, 10, 11, 12, 13, 14, 15, 16, 17, 18, 19], .inr (.inl 20), .inl [21, 22, 23, 24, 25, 26, 28], .inr (.inl 27), .inr (.inl 29), .inl [30, 31, 32, 33]] (by kernel_rfl) (by kernel_rfl) (fun c a d v w h => by cases d <;> exact h) ?_
            (rw [wpSegs_inl]; simp only [pickOps, mCc, mNn, gSs, gZz]; (repeat (go_big_quiet_step (fail))); refine wpQuiet_nil ?_)
            clear G0 G1
            (rw [wpSegs_grow]; simp only [pickOps, mCc, mNn, gSs, gZz]; go_wp2_with ((go_at_call 20; refine (p_bytes (H11.out.ext XF.out) HOB.out).mono ?_; rintro e u1 ⟨v20, rfl, r20, h20, x20⟩; refine stop_of ?_)))
            unfold Stop
            have XF1 := Lh (XF.out.trans x20); have XU1 := Lh x20; have B20 := Lh r20.at_
            go_wp2_with fail
            refine ⟨.of x20 _, ?_⟩
            clear x20 r20 h20
            have c1 : ∀ y : Grow [] u1, (convert 22 9 v20).run Try.prog y.v = .ok (.string ⟨(bytesA vs obj).toArray⟩) y.v := fun y => run_str (BytesAt.ext B20.out y.ext.ext)
            have MX := Lh (XU1.out.heap (show wc5.drew.heap[mb1]? = _ from MQ.out)); have MY := Lh (XU1.out.heap (show wc5.drew.heap[mb5]? = _ from M5.out))
            have T1 := Lh (TextsAt.ext TQ.out ((Ext.drew (Ext.refl wc5)).trans XU1.out)); have T2 := Lh (TextsAt.ext TT5.out ((Ext.drew (Ext.refl wc5)).trans XU1.out)); have TZ := Lh (TextsAt.ext TW.out ((Ext.drew (Ext.refl wc5)).trans XU1.out))
            (rw [wpSegs_inl]; simp only [pickOps, mCc, mNn, gSs, gZz]; (repeat (go_big_quiet_step (fail))); (refine wpQuiet_get 38 _ rfl _ rfl mb1 0 38 _ (metaC mm (.slice KA1 mk KC1)) rfl (fun W hW => by obtain ⟨y, rfl⟩ := hW; exact y.ext.heap (a := u1) MX.out (by simp)) (by kernel_rfl) Try.underlying38 rfl size38 ?_; simp only [Act.put, sAa, sSs, sZz]); (repeat (go_big_quiet_step (fail))); (refine wpQuiet_get 38 _ rfl _ rfl mb5 0 38 _ (metaC mm (.slice KA5 mk KC5)) rfl (fun W hW => by obtain ⟨y, rfl⟩ := hW; exact y.ext.heap (a := u1) MY.out (by simp)) (by kernel_rfl) Try.underlying38 rfl size38 ?_; simp only [Act.put, sAa, sSs, sZz]); (repeat (go_big_quiet_step (fail))); refine wpQuiet_nil ?_)
            clear c1
            (rw [wpSegs_grow]; simp only [pickOps, mCc, mNn, gSs, gZz]; go_wp2_with ((go_at_call 28; refine (rsame_eq mm (.slice KA1 mk KC1) (.slice KA5 mk KC5) _ HMK.out T1.out T2.out).mono ?_; rintro e u2 ⟨rfl, x21⟩; refine stop_of ?_)))
            unfold Stop
            have XF2 := Lh (XF1.out.trans x21); have TZ2 := Lh (TextsAt.ext TZ.out x21)
            go_wp2_with fail
            refine ⟨.of x21 _, ?_⟩
            clear x21
            have G0 : ∀ y : Grow [] u2, y.v.cell? ⟨pb, 0, none⟩ = some (.pointer (some ⟨b, 0, none⟩)) := fun y => y.ext.cell (XF2.out.cell C0b.out) (by simp)
            (rw [wpSegs_inl]; simp only [pickOps, mCc, mNn, gSs, gZz]; (repeat (go_big_quiet_step (fail))); refine wpQuiet_nil ?_)
            clear G0
            (rw [wpSegs_grow]; simp only [pickOps, mCc, mNn, gSs, gZz]; go_wp2_with ((go_at_call 25; refine (p_objs_R (H11.out.ext XF2.out) (by omega)).mono ?_; rintro e u3 ⟨v22, rfl, r22, h22, x22⟩; refine stop_of ?_)))
            unfold Stop
            have XF3 := Lh (XF2.out.trans x22); have T22 := Lh (SRow.texts r22); have TZ3 := Lh (TextsAt.ext TZ2.out x22)
            go_wp2_with fail
            refine ⟨.of x22 _, ?_⟩
            clear x22 r22 h22
            (rw [wpSegs_grow]; simp only [pickOps, mCc, mNn, gSs, gZz]; go_wp2_with ((go_at_call 24; refine (rnames_eq (objsR vs) v22 v4 _ (by have := objsR_le vs; have := HNL.out; omega) T22.out TZ3.out).mono ?_; rintro e u4 ⟨rfl, x23⟩; refine stop_of ?_)))
            unfold Stop
            have XF4 := Lh (XF3.out.trans x23)
            go_wp2_with fail
            refine ⟨.of x23 _, ?_⟩
            clear x23
            (rw [wpSegs_inl]; simp only [pickOps, mCc, mNn, gSs, gZz]; (repeat (go_big_quiet_step (fail))); refine wpQuiet_nil ?_)
            rw [wpSegs_nil]
            go_wp2
            go_ret
            exact ⟨rfl, X0.out.trans (H11.out.base.trans XF4.out)⟩
           ·(simp only [pickOps, mCc, mNn, gSs, gZz]; go_wp2_with (refine wpList_new 38 _ zero38 rfl rfl ?_; intro wb5 xb nb sb; refine stop_of ?_))
            unfold Stop
            obtain ⟨mb5, hmb⟩ : ∃ p, p = q91.heap.size := ⟨_, rfl⟩
            have nb := (show wb5.heap[mb5]? = wb5.heap[q91.heap.size]? from by rw [hmb]).trans nb
            rw [← hmb]
            have MN5 := Lh nb; have MB5 := Lh (show q91.heap.size ≤ mb5 from by have h1 := XS5.out; have h2 : BB5 = q91.heap.size := HB5.out; omega)
            clear hmb
            go_wp2_with fail
            refine ⟨Below.mono xb XS5.out, ?_⟩
            have XB5 := Lh (XD5.out.trans xb); have SB5 := Lh (Nat.le_trans XS5.out xb.size)
            clear xb sb
            (rw [wpTzR_one]; simp only [pickOps, mCc, mNn, gSs, gZz]; go_wp2_with (go_at_call 21; refine (HMQ.out _ (XR.out.trans XB5.out)).mono ?_; rintro e wa5 ⟨KA5, KC5, rfl, tx, xa⟩; refine stop_of ?_))
            unfold Stop
            go_wp2_with fail
            refine ⟨Below.mono xa SB5.out, ?_⟩
            have XA5 := Lh (XB5.out.trans xa); have SA5 := Lh (Nat.le_trans SB5.out xa.size)
            have T5 := Lh tx
            have MN5 := Lh (xa.heap MN5.out)
            (rw [wpTzR_pure]; simp only [pickOps, mCc, mNn, gSs, gZz]; (repeat (go_big_quiet_step (fail))); refine wpQuiet_nil ?_)
            clear xa tx nb
            (rw [wpTzR_one]; simp only [pickOps, mCc, mNn, gSs, gZz]; go_wp2_with (refine wpList_put 38 rfl _ _ rfl mb5 0 38 _ (metaC mm (.slice KA5 mk KC5)).toArray (metaC mm (.slice KA5 mk KC5)) _ MN5.out rfl rfl rfl (by simp [metaC]) rfl size38 (by kernel_rfl) ?_; intro wc5 xc nc sc; refine stop_of ?_))
            unfold Stop
            have M5 := Lh nc
            go_wp2_with fail
            refine ⟨⟨xc.os, xc.tape, xc.output, xc.size, fun k hk => xc.block k (Nat.lt_of_lt_of_le hk SA5.out) (fun hh => by have := MB5.out; have h3 : BB5 = q91.heap.size := HB5.out; have h2 : k = mb5 := (by simpa using hh); omega)⟩, ?_⟩
            have XC5 := Lh (show Ext q91 wc5 from XA5.out.thenB xc (by have := MB5.out; simp; omega))
            have XZ5 := Lh (XR.out.trans XC5.out)
            have TT5 := Lh (SRow.texts (own_extB T5.out xc (fun y hy e => by have h1 := kind_row T5.out e; rw [show y = mb5 by simpa using hy, kind_cells MN5.out] at h1; cases h1)))
            clear xc nc sc MN5 XA5 XB5 T5
            (rw [wpTzR_pure]; simp only [pickOps, mCc, mNn, gSs, gZz]; (repeat (go_big_quiet_step (fail))); refine wpQuiet_nil ?_)
            rw [wpTzR_done]
            have MQ := Lh (XC5.out.heap M11.out); have TQ := Lh (TextsAt.ext TR11.out XC5.out); have TW := Lh (TextsAt.ext T11.out XC5.out)
            go_wp2_with fail
            have XF := Lh (XZ5.out.trans (Ext.drew (Ext.refl wc5)))
            have G0 : ∀ y : Grow [] wc5.drew, y.v.cell? ⟨pb, 0, none⟩ = some (.pointer (some ⟨b, 0, none⟩)) := fun y => y.ext.cell (XF.out.cell C0b.out) (by simp)
            have G1 : ∀ y : Grow [] wc5.drew, y.v.cell? ⟨fb, 1, none⟩ = some (.string ⟨obj.toArray⟩) := fun y => y.ext.cell (XF.out.cell COb.out) (by simp)
            refine wp_region_segs [] [.inl [0, 1, 2, 3, 4, 5, 8], .inr (.inl 6), .inl [7, 9, 10, 11, 12, 13, 14, 15, 16, 17, 18, 19], .inr (.inl 20), .inl [21, 22, 23, 24, 25, 26, 28], .inr (.inl 27), .inr (.inl 29), .inl [30, 31, 32, 33]] (by kernel_rfl) (by kernel_rfl) (fun c a d v w h => by cases d <;> exact h) ?_
            (rw [wpSegs_inl]; simp only [pickOps, mCc, mNn, gSs, gZz]; (repeat (go_big_quiet_step (fail))); refine wpQuiet_nil ?_)
            clear G0 G1
            (rw [wpSegs_grow]; simp only [pickOps, mCc, mNn, gSs, gZz]; go_wp2_with ((go_at_call 20; refine (p_bytes (H11.out.ext XF.out) HOB.out).mono ?_; rintro e u1 ⟨v20, rfl, r20, h20, x20⟩; refine stop_of ?_)))
            unfold Stop
            have XF1 := Lh (XF.out.trans x20); have XU1 := Lh x20; have B20 := Lh r20.at_
            go_wp2_with fail
            refine ⟨.of x20 _, ?_⟩
            clear x20 r20 h20
            have c1 : ∀ y : Grow [] u1, (convert 22 9 v20).run Try.prog y.v = .ok (.string ⟨(bytesA vs obj).toArray⟩) y.v := fun y => run_str (BytesAt.ext B20.out y.ext.ext)
            have MX := Lh (XU1.out.heap (show wc5.drew.heap[mb1]? = _ from MQ.out)); have MY := Lh (XU1.out.heap (show wc5.drew.heap[mb5]? = _ from M5.out))
            have T1 := Lh (TextsAt.ext TQ.out ((Ext.drew (Ext.refl wc5)).trans XU1.out)); have T2 := Lh (TextsAt.ext TT5.out ((Ext.drew (Ext.refl wc5)).trans XU1.out)); have TZ := Lh (TextsAt.ext TW.out ((Ext.drew (Ext.refl wc5)).trans XU1.out))
            (rw [wpSegs_inl]; simp only [pickOps, mCc, mNn, gSs, gZz]; (repeat (go_big_quiet_step (fail))); (refine wpQuiet_get 38 _ rfl _ rfl mb1 0 38 _ (metaC mm (.slice KA1 mk KC1)) rfl (fun W hW => by obtain ⟨y, rfl⟩ := hW; exact y.ext.heap (a := u1) MX.out (by simp)) (by kernel_rfl) Try.underlying38 rfl size38 ?_; simp only [Act.put, sAa, sSs, sZz]); (repeat (go_big_quiet_step (fail))); (refine wpQuiet_get 38 _ rfl _ rfl mb5 0 38 _ (metaC mm (.slice KA5 mk KC5)) rfl (fun W hW => by obtain ⟨y, rfl⟩ := hW; exact y.ext.heap (a := u1) MY.out (by simp)) (by kernel_rfl) Try.underlying38 rfl size38 ?_; simp only [Act.put, sAa, sSs, sZz]); (repeat (go_big_quiet_step (fail))); refine wpQuiet_nil ?_)
            clear c1
            (rw [wpSegs_grow]; simp only [pickOps, mCc, mNn, gSs, gZz]; go_wp2_with ((go_at_call 28; refine (rsame_eq mm (.slice KA1 mk KC1) (.slice KA5 mk KC5) _ HMK.out T1.out T2.out).mono ?_; rintro e u2 ⟨rfl, x21⟩; refine stop_of ?_)))
            unfold Stop
            have XF2 := Lh (XF1.out.trans x21); have TZ2 := Lh (TextsAt.ext TZ.out x21)
            go_wp2_with fail
            refine ⟨.of x21 _, ?_⟩
            clear x21
            have G0 : ∀ y : Grow [] u2, y.v.cell? ⟨pb, 0, none⟩ = some (.pointer (some ⟨b, 0, none⟩)) := fun y => y.ext.cell (XF2.out.cell C0b.out) (by simp)
            (rw [wpSegs_inl]; simp only [pickOps, mCc, mNn, gSs, gZz]; (repeat (go_big_quiet_step (fail))); refine wpQuiet_nil ?_)
            clear G0
            (rw [wpSegs_grow]; simp only [pickOps, mCc, mNn, gSs, gZz]; go_wp2_with ((go_at_call 25; refine (p_objs_R (H11.out.ext XF2.out) (by omega)).mono ?_; rintro e u3 ⟨v22, rfl, r22, h22, x22⟩; refine stop_of ?_)))
            unfold Stop
            have XF3 := Lh (XF2.out.trans x22); have T22 := Lh (SRow.texts r22); have TZ3 := Lh (TextsAt.ext TZ2.out x22)
            go_wp2_with fail
            refine ⟨.of x22 _, ?_⟩
            clear x22 r22 h22
            (rw [wpSegs_grow]; simp only [pickOps, mCc, mNn, gSs, gZz]; go_wp2_with ((go_at_call 24; refine (rnames_eq (objsR vs) v22 v4 _ (by have := objsR_le vs; have := HNL.out; omega) T22.out TZ3.out).mono ?_; rintro e u4 ⟨rfl, x23⟩; refine stop_of ?_)))
            unfold Stop
            have XF4 := Lh (XF3.out.trans x23)
            go_wp2_with fail
            refine ⟨.of x23 _, ?_⟩
            clear x23
            (rw [wpSegs_inl]; simp only [pickOps, mCc, mNn, gSs, gZz]; (repeat (go_big_quiet_step (fail))); refine wpQuiet_nil ?_)
            rw [wpSegs_nil]
            go_wp2
            go_ret
            exact ⟨rfl, X0.out.trans (H11.out.base.trans XF4.out)⟩
     by_cases e3 : kd = 3
     ·subst e3
      go_wp2_with fail
      have P0 : W6.drew.heap[pb]? = some (.cells #[ptrV b, ptrV x, .slice SA ss.length sc, .slice RA ss.length rc] 68) := XX6.out.heap HX.out.blk
      have A0 : W6.drew.heap[fb]? = some (.cells #[.int .i64 3, .string ⟨obj.toArray⟩, .string ⟨tt.toArray⟩, .bool tw, .int .i64 mod, .int .i64 len, .int .i64 hav, .int .i64 fr, .int .i64 wh, .int .i64 er, .slice KA nk KC, .string ⟨ten.toArray⟩, .bool keep, .slice UA nu uc, .string ⟨fo.toArray⟩, .int .i64 ff, .int .i64 fto, .string ⟨mt.toArray⟩, .bool mw, .string ⟨nt.toArray⟩, .bool nw, .int .u8 st, .int .i64 tn] 40) := N6.out
      have H6d := Lh (H6.out.ext (Ext.drew (Ext.refl W6))); have R6d := Lh (show BRow W6.drew wc.heap.size (.slice S6 n6 c6) bs from ownsRow_below R6.out (Ext.drew (Ext.refl W6)))
      have HKT6 := Lh (TextsAt.ext HRA.out.2.1 (X0.out.trans H6d.out.base))
      have HKL := Lh (show LowV W0 (.slice KA nk KC) from (HRA.out.ext X0.out).2.2.1)
      have HCAP := Lh (fun (i : Nat) (v : Vn) (hn : nowI vs obj = some i) (hv : vs[i]? = some v) => (show v.bytes.length + bs.length ≤ 100000 from by have h1 := HX.out.good.bytes v (List.mem_of_getElem? hv); have h2 : bs.length ≤ 60 := HZF.out.bytes; have h3 := HJ40.out; omega))
      have G0 : ∀ y : GrowR (keepB2 pb fb (.cells #[ptrV b, ptrV x, .slice SA ss.length sc, .slice RA ss.length rc] 68) (.cells #[.int .i64 3, .string ⟨obj.toArray⟩, .string ⟨tt.toArray⟩, .bool tw, .int .i64 mod, .int .i64 len, .int .i64 hav, .int .i64 fr, .int .i64 wh, .int .i64 er, .slice KA nk KC, .string ⟨ten.toArray⟩, .bool keep, .slice UA nu uc, .string ⟨fo.toArray⟩, .int .i64 ff, .int .i64 fto, .string ⟨mt.toArray⟩, .bool mw, .string ⟨nt.toArray⟩, .bool nw, .int .u8 st, .int .i64 tn] 40)) W6.drew, y.v.cell? ⟨pb, 0, none⟩ = some (.pointer (some ⟨b, 0, none⟩)) := fun y => blk_cell (y.ext.1 P0) 0
      have G1 : ∀ y : GrowR (keepB2 pb fb (.cells #[ptrV b, ptrV x, .slice SA ss.length sc, .slice RA ss.length rc] 68) (.cells #[.int .i64 3, .string ⟨obj.toArray⟩, .string ⟨tt.toArray⟩, .bool tw, .int .i64 mod, .int .i64 len, .int .i64 hav, .int .i64 fr, .int .i64 wh, .int .i64 er, .slice KA nk KC, .string ⟨ten.toArray⟩, .bool keep, .slice UA nu uc, .string ⟨fo.toArray⟩, .int .i64 ff, .int .i64 fto, .string ⟨mt.toArray⟩, .bool mw, .string ⟨nt.toArray⟩, .bool nw, .int .u8 st, .int .i64 tn] 40)) W6.drew, y.v.cell? ⟨fb, 1, none⟩ = some (.string ⟨obj.toArray⟩) := fun y => blk_cell (y.ext.2 A0) 1
      refine wp_region_segsR (keepB2 pb fb (.cells #[ptrV b, ptrV x, .slice SA ss.length sc, .slice RA ss.length rc] 68) (.cells #[.int .i64 3, .string ⟨obj.toArray⟩, .string ⟨tt.toArray⟩, .bool tw, .int .i64 mod, .int .i64 len, .int .i64 hav, .int .i64 fr, .int .i64 wh, .int .i64 er, .slice KA nk KC, .string ⟨ten.toArray⟩, .bool keep, .slice UA nu uc, .string ⟨fo.toArray⟩, .int .i64 ff, .int .i64 fto, .string ⟨mt.toArray⟩, .bool mw, .string ⟨nt.toArray⟩, .bool nw, .int .u8 st, .int .i64 tn] 40)) [.inl [0, 1, 2, 3, 4, 5], .inr (.inl 6), .inl [7]] (by kernel_rfl) (by kernel_rfl) (fun c a d v w h => by cases d <;> exact h) ?_
      (rw [wpSegsR_inl]; simp only [pickOps, mCc, mNn, gSs, gZz]; (repeat (go_big_quiet_step (fail))); refine wpQuiet_nil ?_)
      (rw [wpSegsR_grow]; simp only [pickOps, mCc, mNn, gSs, gZz]; go_wp2_with ((go_at_call 19; refine (p_sealR H6d.out (by have h : obj.length ≤ 300 := HZF.out.obj; omega) List.mem_cons_self (fun _ => R6d.out)).mono ?_; rintro e w7 ⟨rfl, h7, q7, b7⟩; refine stop_of ?_)))
      unfold Stop
      go_wp2_with fail
      refine ⟨keepB2_of ((q7 pb MLP.out).trans P0) (h7.base.heap N0.out), ?_⟩
      clear G0 G1
      (rw [wpSegsR_inl]; simp only [pickOps, mCc, mNn, gSs, gZz]; (repeat (go_big_quiet_step (fail))); refine wpQuiet_nil ?_)
      rw [wpSegsR_nil]
      obtain ⟨us, hus⟩ : ∃ us, us = (sealA vs obj).2 := ⟨_, rfl⟩
      obtain ⟨ec, hec⟩ : ∃ e, e = (sealA vs obj).1 := ⟨_, rfl⟩
      rw [← hus] at h7
      rw [← hec]
      have HSV := Lh (show ec ≠ 0 → us = vs from by rw [hec, hus]; exact sealA_no)
      clear P0 A0 hus hec
      have H7 := Lh (show Pl2 W0 w7 b x 900000 LL us ss sa vs ss ra [(.slice S6 n6 c6, bs)] from h7.more (by have := HNL.out; omega)); have K7 := Lh (show KeepP LL W6 w7 from fun g hg => (q7 g hg).trans rfl); have B7 := Lh b7
      clear h7 q7 b7
      have HOB := Lh (show obj.length ≤ 1000000 from by have h : obj.length ≤ 300 := HZF.out.obj; omega)
      have P7 := Lh ((K7.out pb MLP.out).trans (XX6.out.heap HX.out.blk))
      have A7 := Lh (show w7.heap[fb]? = some (.cells #[.int .i64 3, .string ⟨obj.toArray⟩, .string ⟨tt.toArray⟩, .bool tw, .int .i64 mod, .int .i64 len, .int .i64 hav, .int .i64 fr, .int .i64 wh, .int .i64 er, .slice KA nk KC, .string ⟨ten.toArray⟩, .bool keep, .slice UA nu uc, .string ⟨fo.toArray⟩, .int .i64 ff, .int .i64 fto, .string ⟨mt.toArray⟩, .bool mw, .string ⟨nt.toArray⟩, .bool nw, .int .u8 st, .int .i64 tn] 40) from H7.out.base.heap N0.out)
      rw [HAO.out]
      go_wp2_with fail
      have XD7 := Lh (Ext.drew (Ext.refl w7))
      have G0 : ∀ y : Grow [] w7.drew, y.v.cell? ⟨pb, 0, none⟩ = some (.pointer (some ⟨b, 0, none⟩)) := fun y => y.ext.cell (XD7.out.cell (blk_cell P7.out 0)) (by simp)
      have G1 : ∀ y : Grow [] w7.drew, y.v.cell? ⟨fb, 1, none⟩ = some (.string ⟨obj.toArray⟩) := fun y => y.ext.cell (XD7.out.cell (blk_cell A7.out 1)) (by simp)
      refine wp_region_segs [] [.inl [0, 1, 2, 3, 4, 5], .inr (.inl 6), .inl [7, 8]] (by kernel_rfl) (by kernel_rfl) (fun c a d v w h => by cases d <;> exact h) ?_
      (rw [wpSegs_inl]; simp only [pickOps, mCc, mNn, gSs, gZz]; (repeat (go_big_quiet_step (fail))); refine wpQuiet_nil ?_)
      clear G0 G1
      (rw [wpSegs_grow]; simp only [pickOps, mCc, mNn, gSs, gZz]; go_wp2_with ((go_at_call 20; refine (p_bytes (H7.out.ext XD7.out) HOB.out).mono ?_; rintro e q7 ⟨v7, rfl, r7, h7, x7⟩; refine stop_of ?_)))
      unfold Stop
      have X7 := Lh (XD7.out.trans x7); have R7 := Lh r7; have HQ7 := Lh h7
      go_wp2_with fail
      refine ⟨.of x7 _, ?_⟩
      clear x7 r7 h7
      have c1 : ∀ y : Grow [] q7, (convert 22 9 v7).run Try.prog y.v = .ok (.string ⟨(bytesA us obj).toArray⟩) y.v := fun y => run_str (BytesAt.ext R7.out.at_ y.ext.ext)
      (rw [wpSegs_inl]; simp only [pickOps, mCc, mNn, gSs, gZz]; (repeat (go_big_quiet_step (fail))); refine wpQuiet_nil ?_)
      clear c1
      rw [wpSegs_nil]
      have H8 := Lh (H7.out.ext X7.out)
      have K8 := Lh (KeepP.trans K7.out (KeepP.ext X7.out fun g hg => H7.out.plt hg))
      have P8 := Lh (X7.out.heap P7.out)
      have B8 := Lh (fun hn => ownsRow_below (B7.out hn) X7.out)
      obtain ⟨g6, ht⟩ := TurnR.start H8.out List.mem_cons_self B8.out HB7.out
      rw [← HN6.out] at ht
      have T8 := Lh ht
      clear ht B7 B8 H8 X7 HQ7 R7 K7 H7 P7 A7
      go_wp2_with fail
      go_loopw [126, 15] (fun i _ wr => ∃ j : Nat, j ≤ n6 ∧ i = .int .i64 j ∧ Hid (TurnR W0 q7 wr b x 900000 LL us ss sa vs ss ra (.slice S6 n6 c6) n6 g6)) (fun i _ _ => n6 - (intOf i).toNat)
      case atStart => exact ⟨0, by omega, rfl, T8⟩
      case round =>
       clear T8
       obtain ⟨j6, hj6, rfl, HT⟩ := hrel
       by_cases hlt : j6 < n6
       ·obtain ⟨cur, hb, hcs, hz⟩ := HT.out.wr.blk (by omega)
        obtain ⟨z, hz⟩ := hz j6 hlt
        obtain ⟨cc, hv, hcc⟩ := HT.out.wr.val (by omega)
        obtain ⟨hS, rfl⟩ : S6 = some ⟨g6, 0, none⟩ ∧ c6 = cc := by injection hv with e1 e2 e3; exact ⟨e1, e3⟩
        clear hv
        subst hS
        have hcell : wr.cell? ⟨g6, j6, none⟩ = some (.int .u8 z) := by rw [blk_cell hb]; exact hz
        have hfree := blk_free hb j6
        have HB := Lh hb
        clear hb hz hcs
        go_wp2
        go_roundw
        case rel => exact ⟨j6 + 1, by omega, by go_num, Lh (HT.out.put (by omega) _ _)⟩
        case measure => simp [intOf]; omega
       ·obtain ⟨q96, hq⟩ : ∃ W, W = wr := ⟨_, rfl⟩
        rw [← hq] at HT ⊢
        clear hq
        go_wp2_with fail
        clear hlt hj6
        have KK := Lh (K8.out.trans HT.out.keep)
        have H9 := Lh HT.out.st
        have P9 := Lh ((HT.out.keep pb MLP.out).trans P8.out)
        have A9 := Lh (show q96.heap[fb]? = some (.cells #[.int .i64 3, .string ⟨obj.toArray⟩, .string ⟨tt.toArray⟩, .bool tw, .int .i64 mod, .int .i64 len, .int .i64 hav, .int .i64 fr, .int .i64 wh, .int .i64 er, .slice KA nk KC, .string ⟨ten.toArray⟩, .bool keep, .slice UA nu uc, .string ⟨fo.toArray⟩, .int .i64 ff, .int .i64 fto, .string ⟨mt.toArray⟩, .bool mw, .string ⟨nt.toArray⟩, .bool nw, .int .u8 st, .int .i64 tn] 40) from H9.out.base.heap N0.out)
        have MLP9 := Lh (show addV (.slice S6 n6 c6) n6 LL pb from .inr MLP.out)
        clear HT K8 P8
        have XD9 := Lh (Ext.drew (Ext.refl q96))
        have G0 : ∀ y : Grow [] q96.drew, y.v.cell? ⟨pb, 0, none⟩ = some (.pointer (some ⟨b, 0, none⟩)) := fun y => y.ext.cell (XD9.out.cell (blk_cell P9.out 0)) (by simp)
        have G1 : ∀ y : Grow [] q96.drew, y.v.cell? ⟨fb, 1, none⟩ = some (.string ⟨obj.toArray⟩) := fun y => y.ext.cell (XD9.out.cell (blk_cell A9.out 1)) (by simp)
        refine wp_region_segs [] [.inl [0, 1, 2, 3, 4, 5], .inr (.inl 6), .inl [7]] (by kernel_rfl) (by kernel_rfl) (fun c a d v w h => by cases d <;> exact h) ?_
        (rw [wpSegs_inl]; simp only [pickOps, mCc, mNn, gSs, gZz]; (repeat (go_big_quiet_step (fail))); refine wpQuiet_nil ?_)
        clear G0 G1
        (rw [wpSegs_grow]; simp only [pickOps, mCc, mNn, gSs, gZz]; go_wp2_with ((go_at_call 20; refine (p_bytes (H9.out.ext XD9.out) HOB.out).mono ?_; rintro e q9 ⟨v9, rfl, r9, h9, x9⟩; refine stop_of ?_)))
        unfold Stop
        have X9 := Lh (XD9.out.trans x9); have R9 := Lh r9; have HQ9 := Lh h9
        go_wp2_with fail
        refine ⟨.of x9 _, ?_⟩
        clear x9 r9 h9
        (rw [wpSegs_inl]; simp only [pickOps, mCc, mNn, gSs, gZz]; (repeat (go_big_quiet_step (fail))); refine wpQuiet_nil ?_)
        rw [wpSegs_nil]
        obtain ⟨S1, c1, hv9⟩ := own_slice R9.out
        subst hv9
        obtain ⟨n1, hn1⟩ : ∃ n, n = (bytesA us obj).length := ⟨_, rfl⟩
        obtain ⟨g1, ht⟩ := TurnR.start HQ9.out List.mem_cons_self (fun _ => R9.out) (H9.out.base.size)
        rw [← hn1] at ht ⊢
        have T9 := Lh ht
        have hn19 : n1 ≤ 100000 := by have := bytesA_le H9.out obj; omega
        have K9 := Lh (KK.out.trans (KeepP.ext X9.out fun g hg => H9.out.plt (.inr hg)))
        have P10 := Lh (X9.out.heap P9.out)
        clear ht hn1 HQ9 R9 X9 KK H9 P9 A9
        go_wp2_with fail
        go_loopw [145, 17] (fun i _ wr => ∃ j : Nat, j ≤ n1 ∧ i = .int .i64 j ∧ Hid (TurnR W0 q9 wr b x 900000 (addV (.slice S6 n6 c6) n6 LL) us ss sa vs ss ra (.slice S1 n1 c1) n1 g1)) (fun i _ _ => n1 - (intOf i).toNat)
        case atStart => exact ⟨0, by omega, rfl, T9⟩
        case round =>
         clear T9
         obtain ⟨j1, hj1, rfl, HT⟩ := hrel
         by_cases hlt : j1 < n1
         ·obtain ⟨cur, hb, hcs, hz⟩ := HT.out.wr.blk (by omega)
          obtain ⟨z, hz⟩ := hz j1 hlt
          obtain ⟨cc, hv, hcc⟩ := HT.out.wr.val (by omega)
          obtain ⟨hS, rfl⟩ : S1 = some ⟨g1, 0, none⟩ ∧ c1 = cc := by injection hv with e1 e2 e3; exact ⟨e1, e3⟩
          clear hv
          subst hS
          have hcell : wr.cell? ⟨g1, j1, none⟩ = some (.int .u8 z) := by rw [blk_cell hb]; exact hz
          have hfree := blk_free hb j1
          have HB := Lh hb
          clear hb hz hcs
          go_wp2
          go_roundw
          case rel => exact ⟨j1 + 1, by omega, by go_num, Lh (HT.out.put (by omega) _ _)⟩
          case measure => simp [intOf]; omega
         ·obtain ⟨q91, hq⟩ : ∃ W, W = wr := ⟨_, rfl⟩
          rw [← hq] at HT ⊢
          clear hq
          go_wp2_with fail
          clear hlt hj1
          have KL := Lh (K9.out.trans (HT.out.keep.sub fun g hg => .inr hg))
          have H11 := Lh HT.out.st
          have C0b := Lh (show q91.cell? ⟨pb, 0, none⟩ = some (.pointer (some ⟨b, 0, none⟩)) from by rw [blk_cell ((HT.out.keep pb MLP9.out).trans P10.out)]; rfl)
          have COb := Lh (show q91.cell? ⟨fb, 1, none⟩ = some (.string ⟨obj.toArray⟩) from blk_cell (H11.out.base.heap N0.out) 1)
          clear HT K9 P10 MLP9
          have M11 := Lh (kept_blk M1.out MBL.out MLN.out X6.out KL.out)
          have TR11 := Lh (SRow.texts (kept_row TR1.out (Nat.le_refl _) MLN.out X6.out KL.out))
          have T11 := Lh (SRow.texts (kept_row (show SRow wc w3.heap.size v4 (objsR vs) from ownsRow_below R5.out X5c.out) (Nat.le_refl _) MLN.out X6.out KL.out))
          have XR := Lh (Ext.refl q91)
          by_cases e0 : ec = 0
          ·subst e0
           obtain ⟨⟨m2, mo2⟩, hm2⟩ : ∃ m, m = metaA us obj := ⟨_, rfl⟩
           obtain ⟨mk2, hmk2⟩ : ∃ n, n = m2.keys.length := ⟨_, rfl⟩
           have HMQ := Lh (prog_meta H11.out HOB.out hm2 hmk2)
           clear hm2 hmk2
           go_wp2_with fail
           obtain ⟨BB6, hbb⟩ : ∃ p, p = q91.drew.heap.size := ⟨_, rfl⟩
           have HB6 := Lh hbb
           clear hbb
           have XD6 := Lh (Ext.drew (Ext.refl q91))
           have GA : ∀ y : GrowR (keepLow BB6) q91.drew, y.v.cell? ⟨pb, 0, none⟩ = some (.pointer (some ⟨b, 0, none⟩)) := fun y => (y.low HB6.out).cell (XD6.out.cell (XR.out.cell C0b.out))
           have GB : ∀ y : GrowR (keepLow BB6) q91.drew, y.v.cell? ⟨fb, 1, none⟩ = some (.string ⟨obj.toArray⟩) := fun y => (y.low HB6.out).cell (XD6.out.cell (XR.out.cell COb.out))
           have XS6 := Lh (show BB6 ≤ q91.drew.heap.size from Nat.le_of_eq HB6.out)
           refine wp_region_trzR (keepLow BB6) [] [] (.pure [0, 1, 2, 3, 4, 5] (.fork 6 (.pure [7, 8, 9] (.one 10 (.one 11 (.pure [12] (.done))))) 10 (.one 6 (.pure [7, 8, 9] (.one 11 (.pure [12] (.done))))))) (by kernel_rfl) (by kernel_rfl) (fun c a d v w h => by cases d <;> exact h) ?_
           (simp only [pickOps, mCc, mNn, gSs, gZz]; refine wpQuiet_nil ?_)
           (rw [wpTzR_pure]; simp only [pickOps, mCc, mNn, gSs, gZz]; (repeat (go_big_quiet_step (fail))); refine wpQuiet_nil ?_)
           clear GA GB
           rw [wpTzR_fork]
           refine ⟨?_, ?_⟩
           ·(simp only [pickOps, mCc, mNn, gSs, gZz]; go_wp2_with (go_at_call 21; refine (HMQ.out _ (XR.out.trans XD6.out)).mono ?_; rintro e wa6 ⟨KA6, KC6, rfl, tx, xa⟩; refine stop_of ?_))
            unfold Stop
            go_wp2_with fail
            refine ⟨Below.mono xa XS6.out, ?_⟩
            have XA6 := Lh (XD6.out.trans xa); have SA6 := Lh (Nat.le_trans XS6.out xa.size)
            have T6 := Lh tx
            (rw [wpTzR_pure]; simp only [pickOps, mCc, mNn, gSs, gZz]; (repeat (go_big_quiet_step (fail))); refine wpQuiet_nil ?_)
            clear xa tx
            (rw [wpTzR_one]; simp only [pickOps, mCc, mNn, gSs, gZz]; go_wp2_with (refine wpList_new 38 _ zero38 rfl rfl ?_; intro wb6 xb nb sb; refine stop_of ?_))
            unfold Stop
            obtain ⟨mb6, hmb⟩ : ∃ p, p = wa6.heap.size := ⟨_, rfl⟩
            have nb := (show wb6.heap[mb6]? = wb6.heap[wa6.heap.size]? from by rw [hmb]).trans nb
            rw [← hmb]
            have MN6 := Lh nb; have MB6 := Lh (show q91.heap.size ≤ mb6 from by have h1 := SA6.out; have h2 : BB6 = q91.heap.size := HB6.out; omega)
            clear hmb
            go_wp2_with fail
            refine ⟨Below.mono xb SA6.out, ?_⟩
            have XB6 := Lh (XA6.out.trans xb); have SB6 := Lh (Nat.le_trans SA6.out xb.size)
            have TB6 := Lh (ownsRow_below T6.out xb)
            (rw [wpTzR_one]; simp only [pickOps, mCc, mNn, gSs, gZz]; go_wp2_with (refine wpList_put 38 rfl _ _ rfl mb6 0 38 _ (metaC m2 (.slice KA6 mk2 KC6)).toArray (metaC m2 (.slice KA6 mk2 KC6)) _ MN6.out rfl rfl rfl (by simp [metaC]) rfl size38 (by kernel_rfl) ?_; intro wc6 xc nc sc; refine stop_of ?_))
            unfold Stop
            have M6 := Lh nc
            go_wp2_with fail
            refine ⟨⟨xc.os, xc.tape, xc.output, xc.size, fun k hk => xc.block k (Nat.lt_of_lt_of_le hk SB6.out) (fun hh => by have := MB6.out; have h3 : BB6 = q91.heap.size := HB6.out; have h2 : k = mb6 := (by simpa using hh); omega)⟩, ?_⟩
            have XC6 := Lh (show Ext q91 wc6 from XB6.out.thenB xc (by have := MB6.out; simp; omega))
            have XZ6 := Lh (XR.out.trans XC6.out)
            have TT6 := Lh (SRow.texts (own_extB TB6.out xc (fun y hy e => by have h1 := kind_row TB6.out e; rw [show y = mb6 by simpa using hy, kind_cells MN6.out] at h1; cases h1)))
            clear xb nb sb xc nc sc MN6 XA6 XB6 T6 TB6
            (rw [wpTzR_pure]; simp only [pickOps, mCc, mNn, gSs, gZz]; (repeat (go_big_quiet_step (fail))); refine wpQuiet_nil ?_)
            rw [wpTzR_done]
            go_wp2_with fail
            have XF := Lh (XZ6.out.trans (Ext.drew (Ext.refl wc6)))
            have G0 : ∀ y : Grow [] wc6.drew, y.v.cell? ⟨pb, 0, none⟩ = some (.pointer (some ⟨b, 0, none⟩)) := fun y => y.ext.cell (XF.out.cell C0b.out) (by simp)
            have G1 : ∀ y : Grow [] wc6.drew, y.v.cell? ⟨fb, 1, none⟩ = some (.string ⟨obj.toArray⟩) := fun y => y.ext.cell (XF.out.cell COb.out) (by simp)
            refine wp_region_segs [] [.inl [0, 1, 2, 3, 4, 5, 8], .inr (.inl 6), .inl [7, 9, 10, 11, 12, 13, 14, 15, 16, 17, 18, 19], .inr (.inl 20), .inl [21, 22, 23, 24, 25, 26, 28], .inr (.inl 27), .inr (.inl 29), .inl [30, 31, 32, 33]] (by kernel_rfl) (by kernel_rfl) (fun c a d v w h => by cases d <;> exact h) ?_
            (rw [wpSegs_inl]; simp only [pickOps, mCc, mNn, gSs, gZz]; (repeat (go_big_quiet_step (fail))); refine wpQuiet_nil ?_)
            clear G0 G1
            (rw [wpSegs_grow]; simp only [pickOps, mCc, mNn, gSs, gZz]; go_wp2_with ((go_at_call 20; refine (p_bytes (H11.out.ext XF.out) HOB.out).mono ?_; rintro e u1 ⟨v20, rfl, r20, h20, x20⟩; refine stop_of ?_)))
            unfold Stop
            have XF1 := Lh (XF.out.trans x20); have B20 := Lh r20.at_
            go_wp2_with fail
            refine ⟨.of x20 _, ?_⟩
            clear x20 r20 h20
            have c1 : ∀ y : Grow [] u1, (convert 22 9 v20).run Try.prog y.v = .ok (.string ⟨(bytesA us obj).toArray⟩) y.v := fun y => run_str (BytesAt.ext B20.out y.ext.ext)
            (rw [wpSegs_inl]; simp only [pickOps, mCc, mNn, gSs, gZz]; (repeat (go_big_quiet_step (fail))); refine wpQuiet_nil ?_)
            clear c1
            (rw [wpSegs_grow]; simp only [pickOps, mCc, mNn, gSs, gZz]; go_wp2_with (fail))
            refine ⟨.of (Ext.refl _) _, ?_⟩
            (rw [wpSegs_inl]; simp only [pickOps, mCc, mNn, gSs, gZz]; (repeat (go_big_quiet_step (fail))); refine wpQuiet_nil ?_)
            (rw [wpSegs_grow]; simp only [pickOps, mCc, mNn, gSs, gZz]; go_wp2_with (fail))
            refine ⟨.of (Ext.refl _) _, ?_⟩
            (rw [wpSegs_grow]; simp only [pickOps, mCc, mNn, gSs, gZz]; go_wp2_with (fail))
            refine ⟨.of (Ext.refl _) _, ?_⟩
            (rw [wpSegs_inl]; simp only [pickOps, mCc, mNn, gSs, gZz]; (repeat (go_big_quiet_step (fail))); refine wpQuiet_nil ?_)
            rw [wpSegs_nil]
            go_wp2
            go_ret
            exact ⟨rfl, X0.out.trans (H11.out.base.trans XF1.out)⟩
           ·(simp only [pickOps, mCc, mNn, gSs, gZz]; go_wp2_with (refine wpList_new 38 _ zero38 rfl rfl ?_; intro wb6 xb nb sb; refine stop_of ?_))
            unfold Stop
            obtain ⟨mb6, hmb⟩ : ∃ p, p = q91.heap.size := ⟨_, rfl⟩
            have nb := (show wb6.heap[mb6]? = wb6.heap[q91.heap.size]? from by rw [hmb]).trans nb
            rw [← hmb]
            have MN6 := Lh nb; have MB6 := Lh (show q91.heap.size ≤ mb6 from by have h1 := XS6.out; have h2 : BB6 = q91.heap.size := HB6.out; omega)
            clear hmb
            go_wp2_with fail
            refine ⟨Below.mono xb XS6.out, ?_⟩
            have XB6 := Lh (XD6.out.trans xb); have SB6 := Lh (Nat.le_trans XS6.out xb.size)
            clear xb sb
            (rw [wpTzR_one]; simp only [pickOps, mCc, mNn, gSs, gZz]; go_wp2_with (go_at_call 21; refine (HMQ.out _ (XR.out.trans XB6.out)).mono ?_; rintro e wa6 ⟨KA6, KC6, rfl, tx, xa⟩; refine stop_of ?_))
            unfold Stop
            go_wp2_with fail
            refine ⟨Below.mono xa SB6.out, ?_⟩
            have XA6 := Lh (XB6.out.trans xa); have SA6 := Lh (Nat.le_trans SB6.out xa.size)
            have T6 := Lh tx
            have MN6 := Lh (xa.heap MN6.out)
            (rw [wpTzR_pure]; simp only [pickOps, mCc, mNn, gSs, gZz]; (repeat (go_big_quiet_step (fail))); refine wpQuiet_nil ?_)
            clear xa tx nb
            (rw [wpTzR_one]; simp only [pickOps, mCc, mNn, gSs, gZz]; go_wp2_with (refine wpList_put 38 rfl _ _ rfl mb6 0 38 _ (metaC m2 (.slice KA6 mk2 KC6)).toArray (metaC m2 (.slice KA6 mk2 KC6)) _ MN6.out rfl rfl rfl (by simp [metaC]) rfl size38 (by kernel_rfl) ?_; intro wc6 xc nc sc; refine stop_of ?_))
            unfold Stop
            have M6 := Lh nc
            go_wp2_with fail
            refine ⟨⟨xc.os, xc.tape, xc.output, xc.size, fun k hk => xc.block k (Nat.lt_of_lt_of_le hk SA6.out) (fun hh => by have := MB6.out; have h3 : BB6 = q91.heap.size := HB6.out; have h2 : k = mb6 := (by simpa using hh); omega)⟩, ?_⟩
            have XC6 := Lh (show Ext q91 wc6 from XA6.out.thenB xc (by have := MB6.out; simp; omega))
            have XZ6 := Lh (XR.out.trans XC6.out)
            have TT6 := Lh (SRow.texts (own_extB T6.out xc (fun y hy e => by have h1 := kind_row T6.out e; rw [show y = mb6 by simpa using hy, kind_cells MN6.out] at h1; cases h1)))
            clear xc nc sc MN6 XA6 XB6 T6
            (rw [wpTzR_pure]; simp only [pickOps, mCc, mNn, gSs, gZz]; (repeat (go_big_quiet_step (fail))); refine wpQuiet_nil ?_)
            rw [wpTzR_done]
            go_wp2_with fail
            have XF := Lh (XZ6.out.trans (Ext.drew (Ext.refl wc6)))
            have G0 : ∀ y : Grow [] wc6.drew, y.v.cell? ⟨pb, 0, none⟩ = some (.pointer (some ⟨b, 0, none⟩)) := fun y => y.ext.cell (XF.out.cell C0b.out) (by simp)
            have G1 : ∀ y : Grow [] wc6.drew, y.v.cell? ⟨fb, 1, none⟩ = some (.string ⟨obj.toArray⟩) := fun y => y.ext.cell (XF.out.cell COb.out) (by simp)
            refine wp_region_segs [] [.inl [0, 1, 2, 3, 4, 5, 8], .inr (.inl 6), .inl [7, 9, 10, 11, 12, 13, 14, 15, 16, 17, 18, 19], .inr (.inl 20), .inl [21, 22, 23, 24, 25, 26, 28], .inr (.inl 27), .inr (.inl 29), .inl [30, 31, 32, 33]] (by kernel_rfl) (by kernel_rfl) (fun c a d v w h => by cases d <;> exact h) ?_
            (rw [wpSegs_inl]; simp only [pickOps, mCc, mNn, gSs, gZz]; (repeat (go_big_quiet_step (fail))); refine wpQuiet_nil ?_)
            clear G0 G1
            (rw [wpSegs_grow]; simp only [pickOps, mCc, mNn, gSs, gZz]; go_wp2_with ((go_at_call 20; refine (p_bytes (H11.out.ext XF.out) HOB.out).mono ?_; rintro e u1 ⟨v20, rfl, r20, h20, x20⟩; refine stop_of ?_)))
            unfold Stop
            have XF1 := Lh (XF.out.trans x20); have B20 := Lh r20.at_
            go_wp2_with fail
            refine ⟨.of x20 _, ?_⟩
            clear x20 r20 h20
            have c1 : ∀ y : Grow [] u1, (convert 22 9 v20).run Try.prog y.v = .ok (.string ⟨(bytesA us obj).toArray⟩) y.v := fun y => run_str (BytesAt.ext B20.out y.ext.ext)
            (rw [wpSegs_inl]; simp only [pickOps, mCc, mNn, gSs, gZz]; (repeat (go_big_quiet_step (fail))); refine wpQuiet_nil ?_)
            clear c1
            (rw [wpSegs_grow]; simp only [pickOps, mCc, mNn, gSs, gZz]; go_wp2_with (fail))
            refine ⟨.of (Ext.refl _) _, ?_⟩
            (rw [wpSegs_inl]; simp only [pickOps, mCc, mNn, gSs, gZz]; (repeat (go_big_quiet_step (fail))); refine wpQuiet_nil ?_)
            (rw [wpSegs_grow]; simp only [pickOps, mCc, mNn, gSs, gZz]; go_wp2_with (fail))
            refine ⟨.of (Ext.refl _) _, ?_⟩
            (rw [wpSegs_grow]; simp only [pickOps, mCc, mNn, gSs, gZz]; go_wp2_with (fail))
            refine ⟨.of (Ext.refl _) _, ?_⟩
            (rw [wpSegs_inl]; simp only [pickOps, mCc, mNn, gSs, gZz]; (repeat (go_big_quiet_step (fail))); refine wpQuiet_nil ?_)
            rw [wpSegs_nil]
            go_wp2
            go_ret
            exact ⟨rfl, X0.out.trans (H11.out.base.trans XF1.out)⟩
          ·obtain rfl := (HSV.out e0).symm
           have HMQ := Lh (prog_meta H11.out HOB.out (show (mm, mo) = metaA vs obj from by rw [← HAO.out]; exact HM.out) HKK.out)
           have d0 : (ec == 0) = false := by simpa using e0
           go_wp2_with fail
           obtain ⟨BB7, hbb⟩ : ∃ p, p = q91.drew.heap.size := ⟨_, rfl⟩
           have HB7 := Lh hbb
           clear hbb
           have XD7 := Lh (Ext.drew (Ext.refl q91))
           have GA : ∀ y : GrowR (keepLow BB7) q91.drew, y.v.cell? ⟨pb, 0, none⟩ = some (.pointer (some ⟨b, 0, none⟩)) := fun y => (y.low HB7.out).cell (XD7.out.cell (XR.out.cell C0b.out))
           have GB : ∀ y : GrowR (keepLow BB7) q91.drew, y.v.cell? ⟨fb, 1, none⟩ = some (.string ⟨obj.toArray⟩) := fun y => (y.low HB7.out).cell (XD7.out.cell (XR.out.cell COb.out))
           have XS7 := Lh (show BB7 ≤ q91.drew.heap.size from Nat.le_of_eq HB7.out)
           refine wp_region_trzR (keepLow BB7) [] [] (.pure [0, 1, 2, 3, 4, 5] (.fork 6 (.pure [7, 8, 9] (.one 10 (.one 11 (.pure [12] (.done))))) 10 (.one 6 (.pure [7, 8, 9] (.one 11 (.pure [12] (.done))))))) (by kernel_rfl) (by kernel_rfl) (fun c a d v w h => by cases d <;> exact h) ?_
           (simp only [pickOps, mCc, mNn, gSs, gZz]; refine wpQuiet_nil ?_)
           (rw [wpTzR_pure]; simp only [pickOps, mCc, mNn, gSs, gZz]; (repeat (go_big_quiet_step (fail))); refine wpQuiet_nil ?_)
           clear GA GB
           rw [wpTzR_fork]
           refine ⟨?_, ?_⟩
           ·(simp only [pickOps, mCc, mNn, gSs, gZz]; go_wp2_with (go_at_call 21; refine (HMQ.out _ (XR.out.trans XD7.out)).mono ?_; rintro e wa7 ⟨KA7, KC7, rfl, tx, xa⟩; refine stop_of ?_))
            unfold Stop
            go_wp2_with fail
            refine ⟨Below.mono xa XS7.out, ?_⟩
            have XA7 := Lh (XD7.out.trans xa); have SA7 := Lh (Nat.le_trans XS7.out xa.size)
            have T7 := Lh tx
            (rw [wpTzR_pure]; simp only [pickOps, mCc, mNn, gSs, gZz]; (repeat (go_big_quiet_step (fail))); refine wpQuiet_nil ?_)
            clear xa tx
            (rw [wpTzR_one]; simp only [pickOps, mCc, mNn, gSs, gZz]; go_wp2_with (refine wpList_new 38 _ zero38 rfl rfl ?_; intro wb7 xb nb sb; refine stop_of ?_))
            unfold Stop
            obtain ⟨mb7, hmb⟩ : ∃ p, p = wa7.heap.size := ⟨_, rfl⟩
            have nb := (show wb7.heap[mb7]? = wb7.heap[wa7.heap.size]? from by rw [hmb]).trans nb
            rw [← hmb]
            have MN7 := Lh nb; have MB7 := Lh (show q91.heap.size ≤ mb7 from by have h1 := SA7.out; have h2 : BB7 = q91.heap.size := HB7.out; omega)
            clear hmb
            go_wp2_with fail
            refine ⟨Below.mono xb SA7.out, ?_⟩
            have XB7 := Lh (XA7.out.trans xb); have SB7 := Lh (Nat.le_trans SA7.out xb.size)
            have TB7 := Lh (ownsRow_below T7.out xb)
            (rw [wpTzR_one]; simp only [pickOps, mCc, mNn, gSs, gZz]; go_wp2_with (refine wpList_put 38 rfl _ _ rfl mb7 0 38 _ (metaC mm (.slice KA7 mk KC7)).toArray (metaC mm (.slice KA7 mk KC7)) _ MN7.out rfl rfl rfl (by simp [metaC]) rfl size38 (by kernel_rfl) ?_; intro wc7 xc nc sc; refine stop_of ?_))
            unfold Stop
            have M7 := Lh nc
            go_wp2_with fail
            refine ⟨⟨xc.os, xc.tape, xc.output, xc.size, fun k hk => xc.block k (Nat.lt_of_lt_of_le hk SB7.out) (fun hh => by have := MB7.out; have h3 : BB7 = q91.heap.size := HB7.out; have h2 : k = mb7 := (by simpa using hh); omega)⟩, ?_⟩
            have XC7 := Lh (show Ext q91 wc7 from XB7.out.thenB xc (by have := MB7.out; simp; omega))
            have XZ7 := Lh (XR.out.trans XC7.out)
            have TT7 := Lh (SRow.texts (own_extB TB7.out xc (fun y hy e => by have h1 := kind_row TB7.out e; rw [show y = mb7 by simpa using hy, kind_cells MN7.out] at h1; cases h1)))
            clear xb nb sb xc nc sc MN7 XA7 XB7 T7 TB7
            (rw [wpTzR_pure]; simp only [pickOps, mCc, mNn, gSs, gZz]; (repeat (go_big_quiet_step (fail))); refine wpQuiet_nil ?_)
            rw [wpTzR_done]
            have MQ := Lh (XC7.out.heap M11.out); have TQ := Lh (TextsAt.ext TR11.out XC7.out); have TW := Lh (TextsAt.ext T11.out XC7.out)
            go_wp2_with fail
            have XF := Lh (XZ7.out.trans (Ext.drew (Ext.refl wc7)))
            have G0 : ∀ y : Grow [] wc7.drew, y.v.cell? ⟨pb, 0, none⟩ = some (.pointer (some ⟨b, 0, none⟩)) := fun y => y.ext.cell (XF.out.cell C0b.out) (by simp)
            have G1 : ∀ y : Grow [] wc7.drew, y.v.cell? ⟨fb, 1, none⟩ = some (.string ⟨obj.toArray⟩) := fun y => y.ext.cell (XF.out.cell COb.out) (by simp)
            refine wp_region_segs [] [.inl [0, 1, 2, 3, 4, 5, 8], .inr (.inl 6), .inl [7, 9, 10, 11, 12, 13, 14, 15, 16, 17, 18, 19], .inr (.inl 20), .inl [21, 22, 23, 24, 25, 26, 28], .inr (.inl 27), .inr (.inl 29), .inl [30, 31, 32, 33]] (by kernel_rfl) (by kernel_rfl) (fun c a d v w h => by cases d <;> exact h) ?_
            (rw [wpSegs_inl]; simp only [pickOps, mCc, mNn, gSs, gZz]; (repeat (go_big_quiet_step (fail))); refine wpQuiet_nil ?_)
            clear G0 G1
            (rw [wpSegs_grow]; simp only [pickOps, mCc, mNn, gSs, gZz]; go_wp2_with ((go_at_call 20; refine (p_bytes (H11.out.ext XF.out) HOB.out).mono ?_; rintro e u1 ⟨v20, rfl, r20, h20, x20⟩; refine stop_of ?_)))
            unfold Stop
            have XF1 := Lh (XF.out.trans x20); have XU1 := Lh x20; have B20 := Lh r20.at_
            go_wp2_with fail
            refine ⟨.of x20 _, ?_⟩
            clear x20 r20 h20
            have c1 : ∀ y : Grow [] u1, (convert 22 9 v20).run Try.prog y.v = .ok (.string ⟨(bytesA vs obj).toArray⟩) y.v := fun y => run_str (BytesAt.ext B20.out y.ext.ext)
            have MX := Lh (XU1.out.heap (show wc7.drew.heap[mb1]? = _ from MQ.out)); have MY := Lh (XU1.out.heap (show wc7.drew.heap[mb7]? = _ from M7.out))
            have T1 := Lh (TextsAt.ext TQ.out ((Ext.drew (Ext.refl wc7)).trans XU1.out)); have T2 := Lh (TextsAt.ext TT7.out ((Ext.drew (Ext.refl wc7)).trans XU1.out)); have TZ := Lh (TextsAt.ext TW.out ((Ext.drew (Ext.refl wc7)).trans XU1.out))
            (rw [wpSegs_inl]; simp only [pickOps, mCc, mNn, gSs, gZz]; (repeat (go_big_quiet_step (fail))); (refine wpQuiet_get 38 _ rfl _ rfl mb1 0 38 _ (metaC mm (.slice KA1 mk KC1)) rfl (fun W hW => by obtain ⟨y, rfl⟩ := hW; exact y.ext.heap (a := u1) MX.out (by simp)) (by kernel_rfl) Try.underlying38 rfl size38 ?_; simp only [Act.put, sAa, sSs, sZz]); (repeat (go_big_quiet_step (fail))); (refine wpQuiet_get 38 _ rfl _ rfl mb7 0 38 _ (metaC mm (.slice KA7 mk KC7)) rfl (fun W hW => by obtain ⟨y, rfl⟩ := hW; exact y.ext.heap (a := u1) MY.out (by simp)) (by kernel_rfl) Try.underlying38 rfl size38 ?_; simp only [Act.put, sAa, sSs, sZz]); (repeat (go_big_quiet_step (fail))); refine wpQuiet_nil ?_)
            clear c1
            (rw [wpSegs_grow]; simp only [pickOps, mCc, mNn, gSs, gZz]; go_wp2_with ((go_at_call 28; refine (rsame_eq mm (.slice KA1 mk KC1) (.slice KA7 mk KC7) _ HMK.out T1.out T2.out).mono ?_; rintro e u2 ⟨rfl, x21⟩; refine stop_of ?_)))
            unfold Stop
            have XF2 := Lh (XF1.out.trans x21); have TZ2 := Lh (TextsAt.ext TZ.out x21)
            go_wp2_with fail
            refine ⟨.of x21 _, ?_⟩
            clear x21
            have G0 : ∀ y : Grow [] u2, y.v.cell? ⟨pb, 0, none⟩ = some (.pointer (some ⟨b, 0, none⟩)) := fun y => y.ext.cell (XF2.out.cell C0b.out) (by simp)
            (rw [wpSegs_inl]; simp only [pickOps, mCc, mNn, gSs, gZz]; (repeat (go_big_quiet_step (fail))); refine wpQuiet_nil ?_)
            clear G0
            (rw [wpSegs_grow]; simp only [pickOps, mCc, mNn, gSs, gZz]; go_wp2_with ((go_at_call 25; refine (p_objs_R (H11.out.ext XF2.out) (by omega)).mono ?_; rintro e u3 ⟨v22, rfl, r22, h22, x22⟩; refine stop_of ?_)))
            unfold Stop
            have XF3 := Lh (XF2.out.trans x22); have T22 := Lh (SRow.texts r22); have TZ3 := Lh (TextsAt.ext TZ2.out x22)
            go_wp2_with fail
            refine ⟨.of x22 _, ?_⟩
            clear x22 r22 h22
            (rw [wpSegs_grow]; simp only [pickOps, mCc, mNn, gSs, gZz]; go_wp2_with ((go_at_call 24; refine (rnames_eq (objsR vs) v22 v4 _ (by have := objsR_le vs; have := HNL.out; omega) T22.out TZ3.out).mono ?_; rintro e u4 ⟨rfl, x23⟩; refine stop_of ?_)))
            unfold Stop
            have XF4 := Lh (XF3.out.trans x23)
            go_wp2_with fail
            refine ⟨.of x23 _, ?_⟩
            clear x23
            (rw [wpSegs_inl]; simp only [pickOps, mCc, mNn, gSs, gZz]; (repeat (go_big_quiet_step (fail))); refine wpQuiet_nil ?_)
            rw [wpSegs_nil]
            go_wp2
            go_ret
            exact ⟨rfl, X0.out.trans (H11.out.base.trans XF4.out)⟩
           ·(simp only [pickOps, mCc, mNn, gSs, gZz]; go_wp2_with (refine wpList_new 38 _ zero38 rfl rfl ?_; intro wb7 xb nb sb; refine stop_of ?_))
            unfold Stop
            obtain ⟨mb7, hmb⟩ : ∃ p, p = q91.heap.size := ⟨_, rfl⟩
            have nb := (show wb7.heap[mb7]? = wb7.heap[q91.heap.size]? from by rw [hmb]).trans nb
            rw [← hmb]
            have MN7 := Lh nb; have MB7 := Lh (show q91.heap.size ≤ mb7 from by have h1 := XS7.out; have h2 : BB7 = q91.heap.size := HB7.out; omega)
            clear hmb
            go_wp2_with fail
            refine ⟨Below.mono xb XS7.out, ?_⟩
            have XB7 := Lh (XD7.out.trans xb); have SB7 := Lh (Nat.le_trans XS7.out xb.size)
            clear xb sb
            (rw [wpTzR_one]; simp only [pickOps, mCc, mNn, gSs, gZz]; go_wp2_with (go_at_call 21; refine (HMQ.out _ (XR.out.trans XB7.out)).mono ?_; rintro e wa7 ⟨KA7, KC7, rfl, tx, xa⟩; refine stop_of ?_))
            unfold Stop
            go_wp2_with fail
            refine ⟨Below.mono xa SB7.out, ?_⟩
            have XA7 := Lh (XB7.out.trans xa); have SA7 := Lh (Nat.le_trans SB7.out xa.size)
            have T7 := Lh tx
            have MN7 := Lh (xa.heap MN7.out)
            (rw [wpTzR_pure]; simp only [pickOps, mCc, mNn, gSs, gZz]; (repeat (go_big_quiet_step (fail))); refine wpQuiet_nil ?_)
            clear xa tx nb
            (rw [wpTzR_one]; simp only [pickOps, mCc, mNn, gSs, gZz]; go_wp2_with (refine wpList_put 38 rfl _ _ rfl mb7 0 38 _ (metaC mm (.slice KA7 mk KC7)).toArray (metaC mm (.slice KA7 mk KC7)) _ MN7.out rfl rfl rfl (by simp [metaC]) rfl size38 (by kernel_rfl) ?_; intro wc7 xc nc sc; refine stop_of ?_))
            unfold Stop
            have M7 := Lh nc
            go_wp2_with fail
            refine ⟨⟨xc.os, xc.tape, xc.output, xc.size, fun k hk => xc.block k (Nat.lt_of_lt_of_le hk SA7.out) (fun hh => by have := MB7.out; have h3 : BB7 = q91.heap.size := HB7.out; have h2 : k = mb7 := (by simpa using hh); omega)⟩, ?_⟩
            have XC7 := Lh (show Ext q91 wc7 from XA7.out.thenB xc (by have := MB7.out; simp; omega))
            have XZ7 := Lh (XR.out.trans XC7.out)
            have TT7 := Lh (SRow.texts (own_extB T7.out xc (fun y hy e => by have h1 := kind_row T7.out e; rw [show y = mb7 by simpa using hy, kind_cells MN7.out] at h1; cases h1)))
            clear xc nc sc MN7 XA7 XB7 T7
            (rw [wpTzR_pure]; simp only [pickOps, mCc, mNn, gSs, gZz]; (repeat (go_big_quiet_step (fail))); refine wpQuiet_nil ?_)
            rw [wpTzR_done]
            have MQ := Lh (XC7.out.heap M11.out); have TQ := Lh (TextsAt.ext TR11.out XC7.out); have TW := Lh (TextsAt.ext T11.out XC7.out)
            go_wp2_with fail
            have XF := Lh (XZ7.out.trans (Ext.drew (Ext.refl wc7)))
            have G0 : ∀ y : Grow [] wc7.drew, y.v.cell? ⟨pb, 0, none⟩ = some (.pointer (some ⟨b, 0, none⟩)) := fun y => y.ext.cell (XF.out.cell C0b.out) (by simp)
            have G1 : ∀ y : Grow [] wc7.drew, y.v.cell? ⟨fb, 1, none⟩ = some (.string ⟨obj.toArray⟩) := fun y => y.ext.cell (XF.out.cell COb.out) (by simp)
            refine wp_region_segs [] [.inl [0, 1, 2, 3, 4, 5, 8], .inr (.inl 6), .inl [7, 9, 10, 11, 12, 13, 14, 15, 16, 17, 18, 19], .inr (.inl 20), .inl [21, 22, 23, 24, 25, 26, 28], .inr (.inl 27), .inr (.inl 29), .inl [30, 31, 32, 33]] (by kernel_rfl) (by kernel_rfl) (fun c a d v w h => by cases d <;> exact h) ?_
            (rw [wpSegs_inl]; simp only [pickOps, mCc, mNn, gSs, gZz]; (repeat (go_big_quiet_step (fail))); refine wpQuiet_nil ?_)
            clear G0 G1
            (rw [wpSegs_grow]; simp only [pickOps, mCc, mNn, gSs, gZz]; go_wp2_with ((go_at_call 20; refine (p_bytes (H11.out.ext XF.out) HOB.out).mono ?_; rintro e u1 ⟨v20, rfl, r20, h20, x20⟩; refine stop_of ?_)))
            unfold Stop
            have XF1 := Lh (XF.out.trans x20); have XU1 := Lh x20; have B20 := Lh r20.at_
            go_wp2_with fail
            refine ⟨.of x20 _, ?_⟩
            clear x20 r20 h20
            have c1 : ∀ y : Grow [] u1, (convert 22 9 v20).run Try.prog y.v = .ok (.string ⟨(bytesA vs obj).toArray⟩) y.v := fun y => run_str (BytesAt.ext B20.out y.ext.ext)
            have MX := Lh (XU1.out.heap (show wc7.drew.heap[mb1]? = _ from MQ.out)); have MY := Lh (XU1.out.heap (show wc7.drew.heap[mb7]? = _ from M7.out))
            have T1 := Lh (TextsAt.ext TQ.out ((Ext.drew (Ext.refl wc7)).trans XU1.out)); have T2 := Lh (TextsAt.ext TT7.out ((Ext.drew (Ext.refl wc7)).trans XU1.out)); have TZ := Lh (TextsAt.ext TW.out ((Ext.drew (Ext.refl wc7)).trans XU1.out))
            (rw [wpSegs_inl]; simp only [pickOps, mCc, mNn, gSs, gZz]; (repeat (go_big_quiet_step (fail))); (refine wpQuiet_get 38 _ rfl _ rfl mb1 0 38 _ (metaC mm (.slice KA1 mk KC1)) rfl (fun W hW => by obtain ⟨y, rfl⟩ := hW; exact y.ext.heap (a := u1) MX.out (by simp)) (by kernel_rfl) Try.underlying38 rfl size38 ?_; simp only [Act.put, sAa, sSs, sZz]); (repeat (go_big_quiet_step (fail))); (refine wpQuiet_get 38 _ rfl _ rfl mb7 0 38 _ (metaC mm (.slice KA7 mk KC7)) rfl (fun W hW => by obtain ⟨y, rfl⟩ := hW; exact y.ext.heap (a := u1) MY.out (by simp)) (by kernel_rfl) Try.underlying38 rfl size38 ?_; simp only [Act.put, sAa, sSs, sZz]); (repeat (go_big_quiet_step (fail))); refine wpQuiet_nil ?_)
            clear c1
            (rw [wpSegs_grow]; simp only [pickOps, mCc, mNn, gSs, gZz]; go_wp2_with ((go_at_call 28; refine (rsame_eq mm (.slice KA1 mk KC1) (.slice KA7 mk KC7) _ HMK.out T1.out T2.out).mono ?_; rintro e u2 ⟨rfl, x21⟩; refine stop_of ?_)))
            unfold Stop
            have XF2 := Lh (XF1.out.trans x21); have TZ2 := Lh (TextsAt.ext TZ.out x21)
            go_wp2_with fail
            refine ⟨.of x21 _, ?_⟩
            clear x21
            have G0 : ∀ y : Grow [] u2, y.v.cell? ⟨pb, 0, none⟩ = some (.pointer (some ⟨b, 0, none⟩)) := fun y => y.ext.cell (XF2.out.cell C0b.out) (by simp)
            (rw [wpSegs_inl]; simp only [pickOps, mCc, mNn, gSs, gZz]; (repeat (go_big_quiet_step (fail))); refine wpQuiet_nil ?_)
            clear G0
            (rw [wpSegs_grow]; simp only [pickOps, mCc, mNn, gSs, gZz]; go_wp2_with ((go_at_call 25; refine (p_objs_R (H11.out.ext XF2.out) (by omega)).mono ?_; rintro e u3 ⟨v22, rfl, r22, h22, x22⟩; refine stop_of ?_)))
            unfold Stop
            have XF3 := Lh (XF2.out.trans x22); have T22 := Lh (SRow.texts r22); have TZ3 := Lh (TextsAt.ext TZ2.out x22)
            go_wp2_with fail
            refine ⟨.of x22 _, ?_⟩
            clear x22 r22 h22
            (rw [wpSegs_grow]; simp only [pickOps, mCc, mNn, gSs, gZz]; go_wp2_with ((go_at_call 24; refine (rnames_eq (objsR vs) v22 v4 _ (by have := objsR_le vs; have := HNL.out; omega) T22.out TZ3.out).mono ?_; rintro e u4 ⟨rfl, x23⟩; refine stop_of ?_)))
            unfold Stop
            have XF4 := Lh (XF3.out.trans x23)
            go_wp2_with fail
            refine ⟨.of x23 _, ?_⟩
            clear x23
            (rw [wpSegs_inl]; simp only [pickOps, mCc, mNn, gSs, gZz]; (repeat (go_big_quiet_step (fail))); refine wpQuiet_nil ?_)
            rw [wpSegs_nil]
            go_wp2
            go_ret
            exact ⟨rfl, X0.out.trans (H11.out.base.trans XF4.out)⟩
     by_cases e4 : kd = 4
     ·subst e4
      go_wp2_with fail
      have P0 : W6.drew.heap[pb]? = some (.cells #[ptrV b, ptrV x, .slice SA ss.length sc, .slice RA ss.length rc] 68) := XX6.out.heap HX.out.blk
      have A0 : W6.drew.heap[fb]? = some (.cells #[.int .i64 4, .string ⟨obj.toArray⟩, .string ⟨tt.toArray⟩, .bool tw, .int .i64 mod, .int .i64 len, .int .i64 hav, .int .i64 fr, .int .i64 wh, .int .i64 er, .slice KA nk KC, .string ⟨ten.toArray⟩, .bool keep, .slice UA nu uc, .string ⟨fo.toArray⟩, .int .i64 ff, .int .i64 fto, .string ⟨mt.toArray⟩, .bool mw, .string ⟨nt.toArray⟩, .bool nw, .int .u8 st, .int .i64 tn] 40) := N6.out
      have H6d := Lh (H6.out.ext (Ext.drew (Ext.refl W6))); have R6d := Lh (show BRow W6.drew wc.heap.size (.slice S6 n6 c6) bs from ownsRow_below R6.out (Ext.drew (Ext.refl W6)))
      have HKT6 := Lh (TextsAt.ext HRA.out.2.1 (X0.out.trans H6d.out.base))
      have HKL := Lh (show LowV W0 (.slice KA nk KC) from (HRA.out.ext X0.out).2.2.1)
      have HCAP := Lh (fun (i : Nat) (v : Vn) (hn : nowI vs obj = some i) (hv : vs[i]? = some v) => (show v.bytes.length + bs.length ≤ 100000 from by have h1 := HX.out.good.bytes v (List.mem_of_getElem? hv); have h2 : bs.length ≤ 60 := HZF.out.bytes; have h3 := HJ40.out; omega))
      have G0 : ∀ y : GrowR (keepB2 pb fb (.cells #[ptrV b, ptrV x, .slice SA ss.length sc, .slice RA ss.length rc] 68) (.cells #[.int .i64 4, .string ⟨obj.toArray⟩, .string ⟨tt.toArray⟩, .bool tw, .int .i64 mod, .int .i64 len, .int .i64 hav, .int .i64 fr, .int .i64 wh, .int .i64 er, .slice KA nk KC, .string ⟨ten.toArray⟩, .bool keep, .slice UA nu uc, .string ⟨fo.toArray⟩, .int .i64 ff, .int .i64 fto, .string ⟨mt.toArray⟩, .bool mw, .string ⟨nt.toArray⟩, .bool nw, .int .u8 st, .int .i64 tn] 40)) W6.drew, y.v.cell? ⟨pb, 0, none⟩ = some (.pointer (some ⟨b, 0, none⟩)) := fun y => blk_cell (y.ext.1 P0) 0
      have G1 : ∀ y : GrowR (keepB2 pb fb (.cells #[ptrV b, ptrV x, .slice SA ss.length sc, .slice RA ss.length rc] 68) (.cells #[.int .i64 4, .string ⟨obj.toArray⟩, .string ⟨tt.toArray⟩, .bool tw, .int .i64 mod, .int .i64 len, .int .i64 hav, .int .i64 fr, .int .i64 wh, .int .i64 er, .slice KA nk KC, .string ⟨ten.toArray⟩, .bool keep, .slice UA nu uc, .string ⟨fo.toArray⟩, .int .i64 ff, .int .i64 fto, .string ⟨mt.toArray⟩, .bool mw, .string ⟨nt.toArray⟩, .bool nw, .int .u8 st, .int .i64 tn] 40)) W6.drew, y.v.cell? ⟨fb, 1, none⟩ = some (.string ⟨obj.toArray⟩) := fun y => blk_cell (y.ext.2 A0) 1
      refine wp_region_segsR (keepB2 pb fb (.cells #[ptrV b, ptrV x, .slice SA ss.length sc, .slice RA ss.length rc] 68) (.cells #[.int .i64 4, .string ⟨obj.toArray⟩, .string ⟨tt.toArray⟩, .bool tw, .int .i64 mod, .int .i64 len, .int .i64 hav, .int .i64 fr, .int .i64 wh, .int .i64 er, .slice KA nk KC, .string ⟨ten.toArray⟩, .bool keep, .slice UA nu uc, .string ⟨fo.toArray⟩, .int .i64 ff, .int .i64 fto, .string ⟨mt.toArray⟩, .bool mw, .string ⟨nt.toArray⟩, .bool nw, .int .u8 st, .int .i64 tn] 40)) [.inl [0, 1, 2, 3, 4, 5], .inr (.inl 6), .inl [7]] (by kernel_rfl) (by kernel_rfl) (fun c a d v w h => by cases d <;> exact h) ?_
      (rw [wpSegsR_inl]; simp only [pickOps, mCc, mNn, gSs, gZz]; (repeat (go_big_quiet_step (fail))); refine wpQuiet_nil ?_)
      (rw [wpSegsR_grow]; simp only [pickOps, mCc, mNn, gSs, gZz]; go_wp2_with ((go_at_call 33; refine (p_goneR H6d.out (by have h : obj.length ≤ 300 := HZF.out.obj; omega) List.mem_cons_self (fun _ => R6d.out)).mono ?_; rintro e w7 ⟨rfl, h7, q7, b7⟩; refine stop_of ?_)))
      unfold Stop
      go_wp2_with fail
      refine ⟨keepB2_of ((q7 pb MLP.out).trans P0) (h7.base.heap N0.out), ?_⟩
      clear G0 G1
      (rw [wpSegsR_inl]; simp only [pickOps, mCc, mNn, gSs, gZz]; (repeat (go_big_quiet_step (fail))); refine wpQuiet_nil ?_)
      rw [wpSegsR_nil]
      obtain ⟨us, hus⟩ : ∃ us, us = (goneA vs obj).2 := ⟨_, rfl⟩
      obtain ⟨ec, hec⟩ : ∃ e, e = (goneA vs obj).1 := ⟨_, rfl⟩
      rw [← hus] at h7
      rw [← hec]
      have HSV := Lh (show ec ≠ 0 → us = vs from by rw [hec, hus]; exact goneA_no)
      clear P0 A0 hus hec
      have H7 := Lh (show Pl2 W0 w7 b x 900000 LL us ss sa vs ss ra [(.slice S6 n6 c6, bs)] from h7.more (by have := HNL.out; omega)); have K7 := Lh (show KeepP LL W6 w7 from fun g hg => (q7 g hg).trans rfl); have B7 := Lh b7
      clear h7 q7 b7
      have HOB := Lh (show obj.length ≤ 1000000 from by have h : obj.length ≤ 300 := HZF.out.obj; omega)
      have P7 := Lh ((K7.out pb MLP.out).trans (XX6.out.heap HX.out.blk))
      have A7 := Lh (show w7.heap[fb]? = some (.cells #[.int .i64 4, .string ⟨obj.toArray⟩, .string ⟨tt.toArray⟩, .bool tw, .int .i64 mod, .int .i64 len, .int .i64 hav, .int .i64 fr, .int .i64 wh, .int .i64 er, .slice KA nk KC, .string ⟨ten.toArray⟩, .bool keep, .slice UA nu uc, .string ⟨fo.toArray⟩, .int .i64 ff, .int .i64 fto, .string ⟨mt.toArray⟩, .bool mw, .string ⟨nt.toArray⟩, .bool nw, .int .u8 st, .int .i64 tn] 40) from H7.out.base.heap N0.out)
      rw [HAO.out]
      go_wp2_with fail
      have XD7 := Lh (Ext.drew (Ext.refl w7))
      have G0 : ∀ y : Grow [] w7.drew, y.v.cell? ⟨pb, 0, none⟩ = some (.pointer (some ⟨b, 0, none⟩)) := fun y => y.ext.cell (XD7.out.cell (blk_cell P7.out 0)) (by simp)
      have G1 : ∀ y : Grow [] w7.drew, y.v.cell? ⟨fb, 1, none⟩ = some (.string ⟨obj.toArray⟩) := fun y => y.ext.cell (XD7.out.cell (blk_cell A7.out 1)) (by simp)
      refine wp_region_segs [] [.inl [0, 1, 2, 3, 4, 5], .inr (.inl 6), .inl [7, 8]] (by kernel_rfl) (by kernel_rfl) (fun c a d v w h => by cases d <;> exact h) ?_
      (rw [wpSegs_inl]; simp only [pickOps, mCc, mNn, gSs, gZz]; (repeat (go_big_quiet_step (fail))); refine wpQuiet_nil ?_)
      clear G0 G1
      (rw [wpSegs_grow]; simp only [pickOps, mCc, mNn, gSs, gZz]; go_wp2_with ((go_at_call 20; refine (p_bytes (H7.out.ext XD7.out) HOB.out).mono ?_; rintro e q7 ⟨v7, rfl, r7, h7, x7⟩; refine stop_of ?_)))
      unfold Stop
      have X7 := Lh (XD7.out.trans x7); have R7 := Lh r7; have HQ7 := Lh h7
      go_wp2_with fail
      refine ⟨.of x7 _, ?_⟩
      clear x7 r7 h7
      have c1 : ∀ y : Grow [] q7, (convert 22 9 v7).run Try.prog y.v = .ok (.string ⟨(bytesA us obj).toArray⟩) y.v := fun y => run_str (BytesAt.ext R7.out.at_ y.ext.ext)
      (rw [wpSegs_inl]; simp only [pickOps, mCc, mNn, gSs, gZz]; (repeat (go_big_quiet_step (fail))); refine wpQuiet_nil ?_)
      clear c1
      rw [wpSegs_nil]
      have H8 := Lh (H7.out.ext X7.out)
      have K8 := Lh (KeepP.trans K7.out (KeepP.ext X7.out fun g hg => H7.out.plt hg))
      have P8 := Lh (X7.out.heap P7.out)
      have B8 := Lh (fun hn => ownsRow_below (B7.out hn) X7.out)
      obtain ⟨g6, ht⟩ := TurnR.start H8.out List.mem_cons_self B8.out HB7.out
      rw [← HN6.out] at ht
      have T8 := Lh ht
      clear ht B7 B8 H8 X7 HQ7 R7 K7 H7 P7 A7
      go_wp2_with fail
      go_loopw [126, 15] (fun i _ wr => ∃ j : Nat, j ≤ n6 ∧ i = .int .i64 j ∧ Hid (TurnR W0 q7 wr b x 900000 LL us ss sa vs ss ra (.slice S6 n6 c6) n6 g6)) (fun i _ _ => n6 - (intOf i).toNat)
      case atStart => exact ⟨0, by omega, rfl, T8⟩
      case round =>
       clear T8
       obtain ⟨j6, hj6, rfl, HT⟩ := hrel
       by_cases hlt : j6 < n6
       ·obtain ⟨cur, hb, hcs, hz⟩ := HT.out.wr.blk (by omega)
        obtain ⟨z, hz⟩ := hz j6 hlt
        obtain ⟨cc, hv, hcc⟩ := HT.out.wr.val (by omega)
        obtain ⟨hS, rfl⟩ : S6 = some ⟨g6, 0, none⟩ ∧ c6 = cc := by injection hv with e1 e2 e3; exact ⟨e1, e3⟩
        clear hv
        subst hS
        have hcell : wr.cell? ⟨g6, j6, none⟩ = some (.int .u8 z) := by rw [blk_cell hb]; exact hz
        have hfree := blk_free hb j6
        have HB := Lh hb
        clear hb hz hcs
        go_wp2
        go_roundw
        case rel => exact ⟨j6 + 1, by omega, by go_num, Lh (HT.out.put (by omega) _ _)⟩
        case measure => simp [intOf]; omega
       ·obtain ⟨q96, hq⟩ : ∃ W, W = wr := ⟨_, rfl⟩
        rw [← hq] at HT ⊢
        clear hq
        go_wp2_with fail
        clear hlt hj6
        have KK := Lh (K8.out.trans HT.out.keep)
        have H9 := Lh HT.out.st
        have P9 := Lh ((HT.out.keep pb MLP.out).trans P8.out)
        have A9 := Lh (show q96.heap[fb]? = some (.cells #[.int .i64 4, .string ⟨obj.toArray⟩, .string ⟨tt.toArray⟩, .bool tw, .int .i64 mod, .int .i64 len, .int .i64 hav, .int .i64 fr, .int .i64 wh, .int .i64 er, .slice KA nk KC, .string ⟨ten.toArray⟩, .bool keep, .slice UA nu uc, .string ⟨fo.toArray⟩, .int .i64 ff, .int .i64 fto, .string ⟨mt.toArray⟩, .bool mw, .string ⟨nt.toArray⟩, .bool nw, .int .u8 st, .int .i64 tn] 40) from H9.out.base.heap N0.out)
        have MLP9 := Lh (show addV (.slice S6 n6 c6) n6 LL pb from .inr MLP.out)
        clear HT K8 P8
        have XD9 := Lh (Ext.drew (Ext.refl q96))
        have G0 : ∀ y : Grow [] q96.drew, y.v.cell? ⟨pb, 0, none⟩ = some (.pointer (some ⟨b, 0, none⟩)) := fun y => y.ext.cell (XD9.out.cell (blk_cell P9.out 0)) (by simp)
        have G1 : ∀ y : Grow [] q96.drew, y.v.cell? ⟨fb, 1, none⟩ = some (.string ⟨obj.toArray⟩) := fun y => y.ext.cell (XD9.out.cell (blk_cell A9.out 1)) (by simp)
        refine wp_region_segs [] [.inl [0, 1, 2, 3, 4, 5], .inr (.inl 6), .inl [7]] (by kernel_rfl) (by kernel_rfl) (fun c a d v w h => by cases d <;> exact h) ?_
        (rw [wpSegs_inl]; simp only [pickOps, mCc, mNn, gSs, gZz]; (repeat (go_big_quiet_step (fail))); refine wpQuiet_nil ?_)
        clear G0 G1
        (rw [wpSegs_grow]; simp only [pickOps, mCc, mNn, gSs, gZz]; go_wp2_with ((go_at_call 20; refine (p_bytes (H9.out.ext XD9.out) HOB.out).mono ?_; rintro e q9 ⟨v9, rfl, r9, h9, x9⟩; refine stop_of ?_)))
        unfold Stop
        have X9 := Lh (XD9.out.trans x9); have R9 := Lh r9; have HQ9 := Lh h9
        go_wp2_with fail
        refine ⟨.of x9 _, ?_⟩
        clear x9 r9 h9
        (rw [wpSegs_inl]; simp only [pickOps, mCc, mNn, gSs, gZz]; (repeat (go_big_quiet_step (fail))); refine wpQuiet_nil ?_)
        rw [wpSegs_nil]
        obtain ⟨S1, c1, hv9⟩ := own_slice R9.out
        subst hv9
        obtain ⟨n1, hn1⟩ : ∃ n, n = (bytesA us obj).length := ⟨_, rfl⟩
        obtain ⟨g1, ht⟩ := TurnR.start HQ9.out List.mem_cons_self (fun _ => R9.out) (H9.out.base.size)
        rw [← hn1] at ht ⊢
        have T9 := Lh ht
        have hn19 : n1 ≤ 100000 := by have := bytesA_le H9.out obj; omega
        have K9 := Lh (KK.out.trans (KeepP.ext X9.out fun g hg => H9.out.plt (.inr hg)))
        have P10 := Lh (X9.out.heap P9.out)
        clear ht hn1 HQ9 R9 X9 KK H9 P9 A9
        go_wp2_with fail
        go_loopw [145, 17] (fun i _ wr => ∃ j : Nat, j ≤ n1 ∧ i = .int .i64 j ∧ Hid (TurnR W0 q9 wr b x 900000 (addV (.slice S6 n6 c6) n6 LL) us ss sa vs ss ra (.slice S1 n1 c1) n1 g1)) (fun i _ _ => n1 - (intOf i).toNat)
        case atStart => exact ⟨0, by omega, rfl, T9⟩
        case round =>
         clear T9
         obtain ⟨j1, hj1, rfl, HT⟩ := hrel
         by_cases hlt : j1 < n1
         ·obtain ⟨cur, hb, hcs, hz⟩ := HT.out.wr.blk (by omega)
          obtain ⟨z, hz⟩ := hz j1 hlt
          obtain ⟨cc, hv, hcc⟩ := HT.out.wr.val (by omega)
          obtain ⟨hS, rfl⟩ : S1 = some ⟨g1, 0, none⟩ ∧ c1 = cc := by injection hv with e1 e2 e3; exact ⟨e1, e3⟩
          clear hv
          subst hS
          have hcell : wr.cell? ⟨g1, j1, none⟩ = some (.int .u8 z) := by rw [blk_cell hb]; exact hz
          have hfree := blk_free hb j1
          have HB := Lh hb
          clear hb hz hcs
          go_wp2
          go_roundw
          case rel => exact ⟨j1 + 1, by omega, by go_num, Lh (HT.out.put (by omega) _ _)⟩
          case measure => simp [intOf]; omega
         ·obtain ⟨q91, hq⟩ : ∃ W, W = wr := ⟨_, rfl⟩
          rw [← hq] at HT ⊢
          clear hq
          go_wp2_with fail
          clear hlt hj1
          have KL := Lh (K9.out.trans (HT.out.keep.sub fun g hg => .inr hg))
          have H11 := Lh HT.out.st
          have C0b := Lh (show q91.cell? ⟨pb, 0, none⟩ = some (.pointer (some ⟨b, 0, none⟩)) from by rw [blk_cell ((HT.out.keep pb MLP9.out).trans P10.out)]; rfl)
          have COb := Lh (show q91.cell? ⟨fb, 1, none⟩ = some (.string ⟨obj.toArray⟩) from blk_cell (H11.out.base.heap N0.out) 1)
          clear HT K9 P10 MLP9
          have M11 := Lh (kept_blk M1.out MBL.out MLN.out X6.out KL.out)
          have TR11 := Lh (SRow.texts (kept_row TR1.out (Nat.le_refl _) MLN.out X6.out KL.out))
          have T11 := Lh (SRow.texts (kept_row (show SRow wc w3.heap.size v4 (objsR vs) from ownsRow_below R5.out X5c.out) (Nat.le_refl _) MLN.out X6.out KL.out))
          have XR := Lh (Ext.refl q91)
          by_cases e0 : ec = 0
          ·subst e0
           obtain ⟨⟨m2, mo2⟩, hm2⟩ : ∃ m, m = metaA us obj := ⟨_, rfl⟩
           obtain ⟨mk2, hmk2⟩ : ∃ n, n = m2.keys.length := ⟨_, rfl⟩
           have HMQ := Lh (prog_meta H11.out HOB.out hm2 hmk2)
           clear hm2 hmk2
           go_wp2_with fail
           obtain ⟨BB8, hbb⟩ : ∃ p, p = q91.drew.heap.size := ⟨_, rfl⟩
           have HB8 := Lh hbb
           clear hbb
           have XD8 := Lh (Ext.drew (Ext.refl q91))
           have GA : ∀ y : GrowR (keepLow BB8) q91.drew, y.v.cell? ⟨pb, 0, none⟩ = some (.pointer (some ⟨b, 0, none⟩)) := fun y => (y.low HB8.out).cell (XD8.out.cell (XR.out.cell C0b.out))
           have GB : ∀ y : GrowR (keepLow BB8) q91.drew, y.v.cell? ⟨fb, 1, none⟩ = some (.string ⟨obj.toArray⟩) := fun y => (y.low HB8.out).cell (XD8.out.cell (XR.out.cell COb.out))
           have XS8 := Lh (show BB8 ≤ q91.drew.heap.size from Nat.le_of_eq HB8.out)
           refine wp_region_trzR (keepLow BB8) [] [] (.pure [0, 1, 2, 3, 4, 5] (.fork 6 (.pure [7, 8, 9] (.one 10 (.one 11 (.pure [12] (.done))))) 10 (.one 6 (.pure [7, 8, 9] (.one 11 (.pure [12] (.done))))))) (by kernel_rfl) (by kernel_rfl) (fun c a d v w h => by cases d <;> exact h) ?_
           (simp only [pickOps, mCc, mNn, gSs, gZz]; refine wpQuiet_nil ?_)
           (rw [wpTzR_pure]; simp only [pickOps, mCc, mNn, gSs, gZz]; (repeat (go_big_quiet_step (fail))); refine wpQuiet_nil ?_)
           clear GA GB
           rw [wpTzR_fork]
           refine ⟨?_, ?_⟩
           ·(simp only [pickOps, mCc, mNn, gSs, gZz]; go_wp2_with (go_at_call 21; refine (HMQ.out _ (XR.out.trans XD8.out)).mono ?_; rintro e wa8 ⟨KA8, KC8, rfl, tx, xa⟩; refine stop_of ?_))
            unfold Stop
            go_wp2_with fail
            refine ⟨Below.mono xa XS8.out, ?_⟩
            have XA8 := Lh (XD8.out.trans xa); have SA8 := Lh (Nat.le_trans XS8.out xa.size)
            have T8 := Lh tx
            (rw [wpTzR_pure]; simp only [pickOps, mCc, mNn, gSs, gZz]; (repeat (go_big_quiet_step (fail))); refine wpQuiet_nil ?_)
            clear xa tx
            (rw [wpTzR_one]; simp only [pickOps, mCc, mNn, gSs, gZz]; go_wp2_with (refine wpList_new 38 _ zero38 rfl rfl ?_; intro wb8 xb nb sb; refine stop_of ?_))
            unfold Stop
            obtain ⟨mb8, hmb⟩ : ∃ p, p = wa8.heap.size := ⟨_, rfl⟩
            have nb := (show wb8.heap[mb8]? = wb8.heap[wa8.heap.size]? from by rw [hmb]).trans nb
            rw [← hmb]
            have MN8 := Lh nb; have MB8 := Lh (show q91.heap.size ≤ mb8 from by have h1 := SA8.out; have h2 : BB8 = q91.heap.size := HB8.out; omega)
            clear hmb
            go_wp2_with fail
            refine ⟨Below.mono xb SA8.out, ?_⟩
            have XB8 := Lh (XA8.out.trans xb); have SB8 := Lh (Nat.le_trans SA8.out xb.size)
            have TB8 := Lh (ownsRow_below T8.out xb)
            (rw [wpTzR_one]; simp only [pickOps, mCc, mNn, gSs, gZz]; go_wp2_with (refine wpList_put 38 rfl _ _ rfl mb8 0 38 _ (metaC m2 (.slice KA8 mk2 KC8)).toArray (metaC m2 (.slice KA8 mk2 KC8)) _ MN8.out rfl rfl rfl (by simp [metaC]) rfl size38 (by kernel_rfl) ?_; intro wc8 xc nc sc; refine stop_of ?_))
            unfold Stop
            have M8 := Lh nc
            go_wp2_with fail
            refine ⟨⟨xc.os, xc.tape, xc.output, xc.size, fun k hk => xc.block k (Nat.lt_of_lt_of_le hk SB8.out) (fun hh => by have := MB8.out; have h3 : BB8 = q91.heap.size := HB8.out; have h2 : k = mb8 := (by simpa using hh); omega)⟩, ?_⟩
            have XC8 := Lh (show Ext q91 wc8 from XB8.out.thenB xc (by have := MB8.out; simp; omega))
            have XZ8 := Lh (XR.out.trans XC8.out)
            have TT8 := Lh (SRow.texts (own_extB TB8.out xc (fun y hy e => by have h1 := kind_row TB8.out e; rw [show y = mb8 by simpa using hy, kind_cells MN8.out] at h1; cases h1)))
            clear xb nb sb xc nc sc MN8 XA8 XB8 T8 TB8
            (rw [wpTzR_pure]; simp only [pickOps, mCc, mNn, gSs, gZz]; (repeat (go_big_quiet_step (fail))); refine wpQuiet_nil ?_)
            rw [wpTzR_done]
            go_wp2_with fail
            have XF := Lh (XZ8.out.trans (Ext.drew (Ext.refl wc8)))
            have G0 : ∀ y : Grow [] wc8.drew, y.v.cell? ⟨pb, 0, none⟩ = some (.pointer (some ⟨b, 0, none⟩)) := fun y => y.ext.cell (XF.out.cell C0b.out) (by simp)
            have G1 : ∀ y : Grow [] wc8.drew, y.v.cell? ⟨fb, 1, none⟩ = some (.string ⟨obj.toArray⟩) := fun y => y.ext.cell (XF.out.cell COb.out) (by simp)
            refine wp_region_segs [] [.inl [0, 1, 2, 3, 4, 5, 8], .inr (.inl 6), .inl [7, 9, 10, 11, 12, 13, 14, 15, 16, 17, 18, 19], .inr (.inl 20), .inl [21, 22, 23, 24, 25, 26, 28], .inr (.inl 27), .inr (.inl 29), .inl [30, 31, 32, 33]] (by kernel_rfl) (by kernel_rfl) (fun c a d v w h => by cases d <;> exact h) ?_
            (rw [wpSegs_inl]; simp only [pickOps, mCc, mNn, gSs, gZz]; (repeat (go_big_quiet_step (fail))); refine wpQuiet_nil ?_)
            clear G0 G1
            (rw [wpSegs_grow]; simp only [pickOps, mCc, mNn, gSs, gZz]; go_wp2_with ((go_at_call 20; refine (p_bytes (H11.out.ext XF.out) HOB.out).mono ?_; rintro e u1 ⟨v20, rfl, r20, h20, x20⟩; refine stop_of ?_)))
            unfold Stop
            have XF1 := Lh (XF.out.trans x20); have B20 := Lh r20.at_
            go_wp2_with fail
            refine ⟨.of x20 _, ?_⟩
            clear x20 r20 h20
            have c1 : ∀ y : Grow [] u1, (convert 22 9 v20).run Try.prog y.v = .ok (.string ⟨(bytesA us obj).toArray⟩) y.v := fun y => run_str (BytesAt.ext B20.out y.ext.ext)
            (rw [wpSegs_inl]; simp only [pickOps, mCc, mNn, gSs, gZz]; (repeat (go_big_quiet_step (fail))); refine wpQuiet_nil ?_)
            clear c1
            (rw [wpSegs_grow]; simp only [pickOps, mCc, mNn, gSs, gZz]; go_wp2_with (fail))
            refine ⟨.of (Ext.refl _) _, ?_⟩
            (rw [wpSegs_inl]; simp only [pickOps, mCc, mNn, gSs, gZz]; (repeat (go_big_quiet_step (fail))); refine wpQuiet_nil ?_)
            (rw [wpSegs_grow]; simp only [pickOps, mCc, mNn, gSs, gZz]; go_wp2_with (fail))
            refine ⟨.of (Ext.refl _) _, ?_⟩
            (rw [wpSegs_grow]; simp only [pickOps, mCc, mNn, gSs, gZz]; go_wp2_with (fail))
            refine ⟨.of (Ext.refl _) _, ?_⟩
            (rw [wpSegs_inl]; simp only [pickOps, mCc, mNn, gSs, gZz]; (repeat (go_big_quiet_step (fail))); refine wpQuiet_nil ?_)
            rw [wpSegs_nil]
            go_wp2
            go_ret
            exact ⟨rfl, X0.out.trans (H11.out.base.trans XF1.out)⟩
           ·(simp only [pickOps, mCc, mNn, gSs, gZz]; go_wp2_with (refine wpList_new 38 _ zero38 rfl rfl ?_; intro wb8 xb nb sb; refine stop_of ?_))
            unfold Stop
            obtain ⟨mb8, hmb⟩ : ∃ p, p = q91.heap.size := ⟨_, rfl⟩
            have nb := (show wb8.heap[mb8]? = wb8.heap[q91.heap.size]? from by rw [hmb]).trans nb
            rw [← hmb]
            have MN8 := Lh nb; have MB8 := Lh (show q91.heap.size ≤ mb8 from by have h1 := XS8.out; have h2 : BB8 = q91.heap.size := HB8.out; omega)
            clear hmb
            go_wp2_with fail
            refine ⟨Below.mono xb XS8.out, ?_⟩
            have XB8 := Lh (XD8.out.trans xb); have SB8 := Lh (Nat.le_trans XS8.out xb.size)
            clear xb sb
            (rw [wpTzR_one]; simp only [pickOps, mCc, mNn, gSs, gZz]; go_wp2_with (go_at_call 21; refine (HMQ.out _ (XR.out.trans XB8.out)).mono ?_; rintro e wa8 ⟨KA8, KC8, rfl, tx, xa⟩; refine stop_of ?_))
            unfold Stop
            go_wp2_with fail
            refine ⟨Below.mono xa SB8.out, ?_⟩
            have XA8 := Lh (XB8.out.trans xa); have SA8 := Lh (Nat.le_trans SB8.out xa.size)
            have T8 := Lh tx
            have MN8 := Lh (xa.heap MN8.out)
            (rw [wpTzR_pure]; simp only [pickOps, mCc, mNn, gSs, gZz]; (repeat (go_big_quiet_step (fail))); refine wpQuiet_nil ?_)
            clear xa tx nb
            (rw [wpTzR_one]; simp only [pickOps, mCc, mNn, gSs, gZz]; go_wp2_with (refine wpList_put 38 rfl _ _ rfl mb8 0 38 _ (metaC m2 (.slice KA8 mk2 KC8)).toArray (metaC m2 (.slice KA8 mk2 KC8)) _ MN8.out rfl rfl rfl (by simp [metaC]) rfl size38 (by kernel_rfl) ?_; intro wc8 xc nc sc; refine stop_of ?_))
            unfold Stop
            have M8 := Lh nc
            go_wp2_with fail
            refine ⟨⟨xc.os, xc.tape, xc.output, xc.size, fun k hk => xc.block k (Nat.lt_of_lt_of_le hk SA8.out) (fun hh => by have := MB8.out; have h3 : BB8 = q91.heap.size := HB8.out; have h2 : k = mb8 := (by simpa using hh); omega)⟩, ?_⟩
            have XC8 := Lh (show Ext q91 wc8 from XA8.out.thenB xc (by have := MB8.out; simp; omega))
            have XZ8 := Lh (XR.out.trans XC8.out)
            have TT8 := Lh (SRow.texts (own_extB T8.out xc (fun y hy e => by have h1 := kind_row T8.out e; rw [show y = mb8 by simpa using hy, kind_cells MN8.out] at h1; cases h1)))
            clear xc nc sc MN8 XA8 XB8 T8
            (rw [wpTzR_pure]; simp only [pickOps, mCc, mNn, gSs, gZz]; (repeat (go_big_quiet_step (fail))); refine wpQuiet_nil ?_)
            rw [wpTzR_done]
            go_wp2_with fail
            have XF := Lh (XZ8.out.trans (Ext.drew (Ext.refl wc8)))
            have G0 : ∀ y : Grow [] wc8.drew, y.v.cell? ⟨pb, 0, none⟩ = some (.pointer (some ⟨b, 0, none⟩)) := fun y => y.ext.cell (XF.out.cell C0b.out) (by simp)
            have G1 : ∀ y : Grow [] wc8.drew, y.v.cell? ⟨fb, 1, none⟩ = some (.string ⟨obj.toArray⟩) := fun y => y.ext.cell (XF.out.cell COb.out) (by simp)
            refine wp_region_segs [] [.inl [0, 1, 2, 3, 4, 5, 8], .inr (.inl 6), .inl [7, 9, 10, 11, 12, 13, 14, 15, 16, 17, 18, 19], .inr (.inl 20), .inl [21, 22, 23, 24, 25, 26, 28], .inr (.inl 27), .inr (.inl 29), .inl [30, 31, 32, 33]] (by kernel_rfl) (by kernel_rfl) (fun c a d v w h => by cases d <;> exact h) ?_
            (rw [wpSegs_inl]; simp only [pickOps, mCc, mNn, gSs, gZz]; (repeat (go_big_quiet_step (fail))); refine wpQuiet_nil ?_)
            clear G0 G1
            (rw [wpSegs_grow]; simp only [pickOps, mCc, mNn, gSs, gZz]; go_wp2_with ((go_at_call 20; refine (p_bytes (H11.out.ext XF.out) HOB.out).mono ?_; rintro e u1 ⟨v20, rfl, r20, h20, x20⟩; refine stop_of ?_)))
            unfold Stop
            have XF1 := Lh (XF.out.trans x20); have B20 := Lh r20.at_
            go_wp2_with fail
            refine ⟨.of x20 _, ?_⟩
            clear x20 r20 h20
            have c1 : ∀ y : Grow [] u1, (convert 22 9 v20).run Try.prog y.v = .ok (.string ⟨(bytesA us obj).toArray⟩) y.v := fun y => run_str (BytesAt.ext B20.out y.ext.ext)
            (rw [wpSegs_inl]; simp only [pickOps, mCc, mNn, gSs, gZz]; (repeat (go_big_quiet_step (fail))); refine wpQuiet_nil ?_)
            clear c1
            (rw [wpSegs_grow]; simp only [pickOps, mCc, mNn, gSs, gZz]; go_wp2_with (fail))
            refine ⟨.of (Ext.refl _) _, ?_⟩
            (rw [wpSegs_inl]; simp only [pickOps, mCc, mNn, gSs, gZz]; (repeat (go_big_quiet_step (fail))); refine wpQuiet_nil ?_)
            (rw [wpSegs_grow]; simp only [pickOps, mCc, mNn, gSs, gZz]; go_wp2_with (fail))
            refine ⟨.of (Ext.refl _) _, ?_⟩
            (rw [wpSegs_grow]; simp only [pickOps, mCc, mNn, gSs, gZz]; go_wp2_with (fail))
            refine ⟨.of (Ext.refl _) _, ?_⟩
            (rw [wpSegs_inl]; simp only [pickOps, mCc, mNn, gSs, gZz]; (repeat (go_big_quiet_step (fail))); refine wpQuiet_nil ?_)
            rw [wpSegs_nil]
            go_wp2
            go_ret
            exact ⟨rfl, X0.out.trans (H11.out.base.trans XF1.out)⟩
          ·obtain rfl := (HSV.out e0).symm
           have HMQ := Lh (prog_meta H11.out HOB.out (show (mm, mo) = metaA vs obj from by rw [← HAO.out]; exact HM.out) HKK.out)
           have d0 : (ec == 0) = false := by simpa using e0
           go_wp2_with fail
           obtain ⟨BB9, hbb⟩ : ∃ p, p = q91.drew.heap.size := ⟨_, rfl⟩
           have HB9 := Lh hbb
           clear hbb
           have XD9 := Lh (Ext.drew (Ext.refl q91))
           have GA : ∀ y : GrowR (keepLow BB9) q91.drew, y.v.cell? ⟨pb, 0, none⟩ = some (.pointer (some ⟨b, 0, none⟩)) := fun y => (y.low HB9.out).cell (XD9.out.cell (XR.out.cell C0b.out))
           have GB : ∀ y : GrowR (keepLow BB9) q91.drew, y.v.cell? ⟨fb, 1, none⟩ = some (.string ⟨obj.toArray⟩) := fun y => (y.low HB9.out).cell (XD9.out.cell (XR.out.cell COb.out))
           have XS9 := Lh (show BB9 ≤ q91.drew.heap.size from Nat.le_of_eq HB9.out)
           refine wp_region_trzR (keepLow BB9) [] [] (.pure [0, 1, 2, 3, 4, 5] (.fork 6 (.pure [7, 8, 9] (.one 10 (.one 11 (.pure [12] (.done))))) 10 (.one 6 (.pure [7, 8, 9] (.one 11 (.pure [12] (.done))))))) (by kernel_rfl) (by kernel_rfl) (fun c a d v w h => by cases d <;> exact h) ?_
           (simp only [pickOps, mCc, mNn, gSs, gZz]; refine wpQuiet_nil ?_)
           (rw [wpTzR_pure]; simp only [pickOps, mCc, mNn, gSs, gZz]; (repeat (go_big_quiet_step (fail))); refine wpQuiet_nil ?_)
           clear GA GB
           rw [wpTzR_fork]
           refine ⟨?_, ?_⟩
           ·(simp only [pickOps, mCc, mNn, gSs, gZz]; go_wp2_with (go_at_call 21; refine (HMQ.out _ (XR.out.trans XD9.out)).mono ?_; rintro e wa9 ⟨KA9, KC9, rfl, tx, xa⟩; refine stop_of ?_))
            unfold Stop
            go_wp2_with fail
            refine ⟨Below.mono xa XS9.out, ?_⟩
            have XA9 := Lh (XD9.out.trans xa); have SA9 := Lh (Nat.le_trans XS9.out xa.size)
            have T9 := Lh tx
            (rw [wpTzR_pure]; simp only [pickOps, mCc, mNn, gSs, gZz]; (repeat (go_big_quiet_step (fail))); refine wpQuiet_nil ?_)
            clear xa tx
            (rw [wpTzR_one]; simp only [pickOps, mCc, mNn, gSs, gZz]; go_wp2_with (refine wpList_new 38 _ zero38 rfl rfl ?_; intro wb9 xb nb sb; refine stop_of ?_))
            unfold Stop
            obtain ⟨mb9, hmb⟩ : ∃ p, p = wa9.heap.size := ⟨_, rfl⟩
            have nb := (show wb9.heap[mb9]? = wb9.heap[wa9.heap.size]? from by rw [hmb]).trans nb
            rw [← hmb]
            have MN9 := Lh nb; have MB9 := Lh (show q91.heap.size ≤ mb9 from by have h1 := SA9.out; have h2 : BB9 = q91.heap.size := HB9.out; omega)
            clear hmb
            go_wp2_with fail
            refine ⟨Below.mono xb SA9.out, ?_⟩
            have XB9 := Lh (XA9.out.trans xb); have SB9 := Lh (Nat.le_trans SA9.out xb.size)
            have TB9 := Lh (ownsRow_below T9.out xb)
            (rw [wpTzR_one]; simp only [pickOps, mCc, mNn, gSs, gZz]; go_wp2_with (refine wpList_put 38 rfl _ _ rfl mb9 0 38 _ (metaC mm (.slice KA9 mk KC9)).toArray (metaC mm (.slice KA9 mk KC9)) _ MN9.out rfl rfl rfl (by simp [metaC]) rfl size38 (by kernel_rfl) ?_; intro wc9 xc nc sc; refine stop_of ?_))
            unfold Stop
            have M9 := Lh nc
            go_wp2_with fail
            refine ⟨⟨xc.os, xc.tape, xc.output, xc.size, fun k hk => xc.block k (Nat.lt_of_lt_of_le hk SB9.out) (fun hh => by have := MB9.out; have h3 : BB9 = q91.heap.size := HB9.out; have h2 : k = mb9 := (by simpa using hh); omega)⟩, ?_⟩
            have XC9 := Lh (show Ext q91 wc9 from XB9.out.thenB xc (by have := MB9.out; simp; omega))
            have XZ9 := Lh (XR.out.trans XC9.out)
            have TT9 := Lh (SRow.texts (own_extB TB9.out xc (fun y hy e => by have h1 := kind_row TB9.out e; rw [show y = mb9 by simpa using hy, kind_cells MN9.out] at h1; cases h1)))
            clear xb nb sb xc nc sc MN9 XA9 XB9 T9 TB9
            (rw [wpTzR_pure]; simp only [pickOps, mCc, mNn, gSs, gZz]; (repeat (go_big_quiet_step (fail))); refine wpQuiet_nil ?_)
            rw [wpTzR_done]
            have MQ := Lh (XC9.out.heap M11.out); have TQ := Lh (TextsAt.ext TR11.out XC9.out); have TW := Lh (TextsAt.ext T11.out XC9.out)
            go_wp2_with fail
            have XF := Lh (XZ9.out.trans (Ext.drew (Ext.refl wc9)))
            have G0 : ∀ y : Grow [] wc9.drew, y.v.cell? ⟨pb, 0, none⟩ = some (.pointer (some ⟨b, 0, none⟩)) := fun y => y.ext.cell (XF.out.cell C0b.out) (by simp)
            have G1 : ∀ y : Grow [] wc9.drew, y.v.cell? ⟨fb, 1, none⟩ = some (.string ⟨obj.toArray⟩) := fun y => y.ext.cell (XF.out.cell COb.out) (by simp)
            refine wp_region_segs [] [.inl [0, 1, 2, 3, 4, 5, 8], .inr (.inl 6), .inl [7, 9, 10, 11, 12, 13, 14, 15, 16, 17, 18, 19], .inr (.inl 20), .inl [21, 22, 23, 24, 25, 26, 28], .inr (.inl 27), .inr (.inl 29), .inl [30, 31, 32, 33]] (by kernel_rfl) (by kernel_rfl) (fun c a d v w h => by cases d <;> exact h) ?_
            (rw [wpSegs_inl]; simp only [pickOps, mCc, mNn, gSs, gZz]; (repeat (go_big_quiet_step (fail))); refine wpQuiet_nil ?_)
            clear G0 G1
            (rw [wpSegs_grow]; simp only [pickOps, mCc, mNn, gSs, gZz]; go_wp2_with ((go_at_call 20; refine (p_bytes (H11.out.ext XF.out) HOB.out).mono ?_; rintro e u1 ⟨v20, rfl, r20, h20, x20⟩; refine stop_of ?_)))
            unfold Stop
            have XF1 := Lh (XF.out.trans x20); have XU1 := Lh x20; have B20 := Lh r20.at_
            go_wp2_with fail
            refine ⟨.of x20 _, ?_⟩
            clear x20 r20 h20
            have c1 : ∀ y : Grow [] u1, (convert 22 9 v20).run Try.prog y.v = .ok (.string ⟨(bytesA vs obj).toArray⟩) y.v := fun y => run_str (BytesAt.ext B20.out y.ext.ext)
            have MX := Lh (XU1.out.heap (show wc9.drew.heap[mb1]? = _ from MQ.out)); have MY := Lh (XU1.out.heap (show wc9.drew.heap[mb9]? = _ from M9.out))
            have T1 := Lh (TextsAt.ext TQ.out ((Ext.drew (Ext.refl wc9)).trans XU1.out)); have T2 := Lh (TextsAt.ext TT9.out ((Ext.drew (Ext.refl wc9)).trans XU1.out)); have TZ := Lh (TextsAt.ext TW.out ((Ext.drew (Ext.refl wc9)).trans XU1.out))
            (rw [wpSegs_inl]; simp only [pickOps, mCc, mNn, gSs, gZz]; (repeat (go_big_quiet_step (fail))); (refine wpQuiet_get 38 _ rfl _ rfl mb1 0 38 _ (metaC mm (.slice KA1 mk KC1)) rfl (fun W hW => by obtain ⟨y, rfl⟩ := hW; exact y.ext.heap (a := u1) MX.out (by simp)) (by kernel_rfl) Try.underlying38 rfl size38 ?_; simp only [Act.put, sAa, sSs, sZz]); (repeat (go_big_quiet_step (fail))); (refine wpQuiet_get 38 _ rfl _ rfl mb9 0 38 _ (metaC mm (.slice KA9 mk KC9)) rfl (fun W hW => by obtain ⟨y, rfl⟩ := hW; exact y.ext.heap (a := u1) MY.out (by simp)) (by kernel_rfl) Try.underlying38 rfl size38 ?_; simp only [Act.put, sAa, sSs, sZz]); (repeat (go_big_quiet_step (fail))); refine wpQuiet_nil ?_)
            clear c1
            (rw [wpSegs_grow]; simp only [pickOps, mCc, mNn, gSs, gZz]; go_wp2_with ((go_at_call 28; refine (rsame_eq mm (.slice KA1 mk KC1) (.slice KA9 mk KC9) _ HMK.out T1.out T2.out).mono ?_; rintro e u2 ⟨rfl, x21⟩; refine stop_of ?_)))
            unfold Stop
            have XF2 := Lh (XF1.out.trans x21); have TZ2 := Lh (TextsAt.ext TZ.out x21)
            go_wp2_with fail
            refine ⟨.of x21 _, ?_⟩
            clear x21
            have G0 : ∀ y : Grow [] u2, y.v.cell? ⟨pb, 0, none⟩ = some (.pointer (some ⟨b, 0, none⟩)) := fun y => y.ext.cell (XF2.out.cell C0b.out) (by simp)
            (rw [wpSegs_inl]; simp only [pickOps, mCc, mNn, gSs, gZz]; (repeat (go_big_quiet_step (fail))); refine wpQuiet_nil ?_)
            clear G0
            (rw [wpSegs_grow]; simp only [pickOps, mCc, mNn, gSs, gZz]; go_wp2_with ((go_at_call 25; refine (p_objs_R (H11.out.ext XF2.out) (by omega)).mono ?_; rintro e u3 ⟨v22, rfl, r22, h22, x22⟩; refine stop_of ?_)))
            unfold Stop
            have XF3 := Lh (XF2.out.trans x22); have T22 := Lh (SRow.texts r22); have TZ3 := Lh (TextsAt.ext TZ2.out x22)
            go_wp2_with fail
            refine ⟨.of x22 _, ?_⟩
            clear x22 r22 h22
            (rw [wpSegs_grow]; simp only [pickOps, mCc, mNn, gSs, gZz]; go_wp2_with ((go_at_call 24; refine (rnames_eq (objsR vs) v22 v4 _ (by have := objsR_le vs; have := HNL.out; omega) T22.out TZ3.out).mono ?_; rintro e u4 ⟨rfl, x23⟩; refine stop_of ?_)))
            unfold Stop
            have XF4 := Lh (XF3.out.trans x23)
            go_wp2_with fail
            refine ⟨.of x23 _, ?_⟩
            clear x23
            (rw [wpSegs_inl]; simp only [pickOps, mCc, mNn, gSs, gZz]; (repeat (go_big_quiet_step (fail))); refine wpQuiet_nil ?_)
            rw [wpSegs_nil]
            go_wp2
            go_ret
            exact ⟨rfl, X0.out.trans (H11.out.base.trans XF4.out)⟩
           ·(simp only [pickOps, mCc, mNn, gSs, gZz]; go_wp2_with (refine wpList_new 38 _ zero38 rfl rfl ?_; intro wb9 xb nb sb; refine stop_of ?_))
            unfold Stop
            obtain ⟨mb9, hmb⟩ : ∃ p, p = q91.heap.size := ⟨_, rfl⟩
            have nb := (show wb9.heap[mb9]? = wb9.heap[q91.heap.size]? from by rw [hmb]).trans nb
            rw [← hmb]
            have MN9 := Lh nb; have MB9 := Lh (show q91.heap.size ≤ mb9 from by have h1 := XS9.out; have h2 : BB9 = q91.heap.size := HB9.out; omega)
            clear hmb
            go_wp2_with fail
            refine ⟨Below.mono xb XS9.out, ?_⟩
            have XB9 := Lh (XD9.out.trans xb); have SB9 := Lh (Nat.le_trans XS9.out xb.size)
            clear xb sb
            (rw [wpTzR_one]; simp only [pickOps, mCc, mNn, gSs, gZz]; go_wp2_with (go_at_call 21; refine (HMQ.out _ (XR.out.trans XB9.out)).mono ?_; rintro e wa9 ⟨KA9, KC9, rfl, tx, xa⟩; refine stop_of ?_))
            unfold Stop
            go_wp2_with fail
            refine ⟨Below.mono xa SB9.out, ?_⟩
            have XA9 := Lh (XB9.out.trans xa); have SA9 := Lh (Nat.le_trans SB9.out xa.size)
            have T9 := Lh tx
            have MN9 := Lh (xa.heap MN9.out)
            (rw [wpTzR_pure]; simp only [pickOps, mCc, mNn, gSs, gZz]; (repeat (go_big_quiet_step (fail))); refine wpQuiet_nil ?_)
            clear xa tx nb
            (rw [wpTzR_one]; simp only [pickOps, mCc, mNn, gSs, gZz]; go_wp2_with (refine wpList_put 38 rfl _ _ rfl mb9 0 38 _ (metaC mm (.slice KA9 mk KC9)).toArray (metaC mm (.slice KA9 mk KC9)) _ MN9.out rfl rfl rfl (by simp [metaC]) rfl size38 (by kernel_rfl) ?_; intro wc9 xc nc sc; refine stop_of ?_))
            unfold Stop
            have M9 := Lh nc
            go_wp2_with fail
            refine ⟨⟨xc.os, xc.tape, xc.output, xc.size, fun k hk => xc.block k (Nat.lt_of_lt_of_le hk SA9.out) (fun hh => by have := MB9.out; have h3 : BB9 = q91.heap.size := HB9.out; have h2 : k = mb9 := (by simpa using hh); omega)⟩, ?_⟩
            have XC9 := Lh (show Ext q91 wc9 from XA9.out.thenB xc (by have := MB9.out; simp; omega))
            have XZ9 := Lh (XR.out.trans XC9.out)
            have TT9 := Lh (SRow.texts (own_extB T9.out xc (fun y hy e => by have h1 := kind_row T9.out e; rw [show y = mb9 by simpa using hy, kind_cells MN9.out] at h1; cases h1)))
            clear xc nc sc MN9 XA9 XB9 T9
            (rw [wpTzR_pure]; simp only [pickOps, mCc, mNn, gSs, gZz]; (repeat (go_big_quiet_step (fail))); refine wpQuiet_nil ?_)
            rw [wpTzR_done]
            have MQ := Lh (XC9.out.heap M11.out); have TQ := Lh (TextsAt.ext TR11.out XC9.out); have TW := Lh (TextsAt.ext T11.out XC9.out)
            go_wp2_with fail
            have XF := Lh (XZ9.out.trans (Ext.drew (Ext.refl wc9)))
            have G0 : ∀ y : Grow [] wc9.drew, y.v.cell? ⟨pb, 0, none⟩ = some (.pointer (some ⟨b, 0, none⟩)) := fun y => y.ext.cell (XF.out.cell C0b.out) (by simp)
            have G1 : ∀ y : Grow [] wc9.drew, y.v.cell? ⟨fb, 1, none⟩ = some (.string ⟨obj.toArray⟩) := fun y => y.ext.cell (XF.out.cell COb.out) (by simp)
            refine wp_region_segs [] [.inl [0, 1, 2, 3, 4, 5, 8], .inr (.inl 6), .inl [7, 9, 10, 11, 12, 13, 14, 15, 16, 17, 18, 19], .inr (.inl 20), .inl [21, 22, 23, 24, 25, 26, 28], .inr (.inl 27), .inr (.inl 29), .inl [30, 31, 32, 33]] (by kernel_rfl) (by kernel_rfl) (fun c a d v w h => by cases d <;> exact h) ?_
            (rw [wpSegs_inl]; simp only [pickOps, mCc, mNn, gSs, gZz]; (repeat (go_big_quiet_step (fail))); refine wpQuiet_nil ?_)
            clear G0 G1
            (rw [wpSegs_grow]; simp only [pickOps, mCc, mNn, gSs, gZz]; go_wp2_with ((go_at_call 20; refine (p_bytes (H11.out.ext XF.out) HOB.out).mono ?_; rintro e u1 ⟨v20, rfl, r20, h20, x20⟩; refine stop_of ?_)))
            unfold Stop
            have XF1 := Lh (XF.out.trans x20); have XU1 := Lh x20; have B20 := Lh r20.at_
            go_wp2_with fail
            refine ⟨.of x20 _, ?_⟩
            clear x20 r20 h20
            have c1 : ∀ y : Grow [] u1, (convert 22 9 v20).run Try.prog y.v = .ok (.string ⟨(bytesA vs obj).toArray⟩) y.v := fun y => run_str (BytesAt.ext B20.out y.ext.ext)
            have MX := Lh (XU1.out.heap (show wc9.drew.heap[mb1]? = _ from MQ.out)); have MY := Lh (XU1.out.heap (show wc9.drew.heap[mb9]? = _ from M9.out))
            have T1 := Lh (TextsAt.ext TQ.out ((Ext.drew (Ext.refl wc9)).trans XU1.out)); have T2 := Lh (TextsAt.ext TT9.out ((Ext.drew (Ext.refl wc9)).trans XU1.out)); have TZ := Lh (TextsAt.ext TW.out ((Ext.drew (Ext.refl wc9)).trans XU1.out))
            (rw [wpSegs_inl]; simp only [pickOps, mCc, mNn, gSs, gZz]; (repeat (go_big_quiet_step (fail))); (refine wpQuiet_get 38 _ rfl _ rfl mb1 0 38 _ (metaC mm (.slice KA1 mk KC1)) rfl (fun W hW => by obtain ⟨y, rfl⟩ := hW; exact y.ext.heap (a := u1) MX.out (by simp)) (by kernel_rfl) Try.underlying38 rfl size38 ?_; simp only [Act.put, sAa, sSs, sZz]); (repeat (go_big_quiet_step (fail))); (refine wpQuiet_get 38 _ rfl _ rfl mb9 0 38 _ (metaC mm (.slice KA9 mk KC9)) rfl (fun W hW => by obtain ⟨y, rfl⟩ := hW; exact y.ext.heap (a := u1) MY.out (by simp)) (by kernel_rfl) Try.underlying38 rfl size38 ?_; simp only [Act.put, sAa, sSs, sZz]); (repeat (go_big_quiet_step (fail))); refine wpQuiet_nil ?_)
            clear c1
            (rw [wpSegs_grow]; simp only [pickOps, mCc, mNn, gSs, gZz]; go_wp2_with ((go_at_call 28; refine (rsame_eq mm (.slice KA1 mk KC1) (.slice KA9 mk KC9) _ HMK.out T1.out T2.out).mono ?_; rintro e u2 ⟨rfl, x21⟩; refine stop_of ?_)))
            unfold Stop
            have XF2 := Lh (XF1.out.trans x21); have TZ2 := Lh (TextsAt.ext TZ.out x21)
            go_wp2_with fail
            refine ⟨.of x21 _, ?_⟩
            clear x21
            have G0 : ∀ y : Grow [] u2, y.v.cell? ⟨pb, 0, none⟩ = some (.pointer (some ⟨b, 0, none⟩)) := fun y => y.ext.cell (XF2.out.cell C0b.out) (by simp)
            (rw [wpSegs_inl]; simp only [pickOps, mCc, mNn, gSs, gZz]; (repeat (go_big_quiet_step (fail))); refine wpQuiet_nil ?_)
            clear G0
            (rw [wpSegs_grow]; simp only [pickOps, mCc, mNn, gSs, gZz]; go_wp2_with ((go_at_call 25; refine (p_objs_R (H11.out.ext XF2.out) (by omega)).mono ?_; rintro e u3 ⟨v22, rfl, r22, h22, x22⟩; refine stop_of ?_)))
            unfold Stop
            have XF3 := Lh (XF2.out.trans x22); have T22 := Lh (SRow.texts r22); have TZ3 := Lh (TextsAt.ext TZ2.out x22)
            go_wp2_with fail
            refine ⟨.of x22 _, ?_⟩
            clear x22 r22 h22
            (rw [wpSegs_grow]; simp only [pickOps, mCc, mNn, gSs, gZz]; go_wp2_with ((go_at_call 24; refine (rnames_eq (objsR vs) v22 v4 _ (by have := objsR_le vs; have := HNL.out; omega) T22.out TZ3.out).mono ?_; rintro e u4 ⟨rfl, x23⟩; refine stop_of ?_)))
            unfold Stop
            have XF4 := Lh (XF3.out.trans x23)
            go_wp2_with fail
            refine ⟨.of x23 _, ?_⟩
            clear x23
            (rw [wpSegs_inl]; simp only [pickOps, mCc, mNn, gSs, gZz]; (repeat (go_big_quiet_step (fail))); refine wpQuiet_nil ?_)
            rw [wpSegs_nil]
            go_wp2
            go_ret
            exact ⟨rfl, X0.out.trans (H11.out.base.trans XF4.out)⟩
     have d1 : decide (kd = 1) = false := decide_eq_false e1
     have d2 : decide (kd = 2) = false := decide_eq_false e2
     have d3 : decide (kd = 3) = false := decide_eq_false e3
     have d4 : decide (kd = 4) = false := decide_eq_false e4
     obtain ⟨w7, hw7⟩ : ∃ W, W = W6 := ⟨_, rfl⟩
     obtain ⟨us, hus⟩ : ∃ us, us = vs := ⟨_, rfl⟩
     have h7 := H6.out
     have q7 : KeepP LL W6.drew W6 := fun g hg => rfl
     have b7 := fun (_ : 0 < bs.length) => R6.out
     rw [← hw7] at h7 b7 kk ⊢
     have q7 : KeepP LL W6.drew w7 := fun g hg => by rw [hw7]; rfl
     rw [show Pl2 W0 w7 b x N' LL vs ss sa vs ss ra [(.slice S6 n6 c6, bs)] = Pl2 W0 w7 b x N' LL us ss sa vs ss ra [(.slice S6 n6 c6, bs)] from by rw [hus]] at h7
     clear hus hw7
     have H7 := Lh (show Pl2 W0 w7 b x 900000 LL us ss sa vs ss ra [(.slice S6 n6 c6, bs)] from h7.more (by have := HNL.out; omega)); have K7 := Lh (show KeepP LL W6 w7 from fun g hg => (q7 g hg).trans rfl); have B7 := Lh b7
     clear h7 q7 b7
     have HOB := Lh (show obj.length ≤ 1000000 from by have h : obj.length ≤ 300 := HZF.out.obj; omega)
     have P7 := Lh ((K7.out pb MLP.out).trans (XX6.out.heap HX.out.blk))
     have A7 := Lh (show w7.heap[fb]? = some (.cells #[.int .i64 kd, .string ⟨obj.toArray⟩, .string ⟨tt.toArray⟩, .bool tw, .int .i64 mod, .int .i64 len, .int .i64 hav, .int .i64 fr, .int .i64 wh, .int .i64 er, .slice KA nk KC, .string ⟨ten.toArray⟩, .bool keep, .slice UA nu uc, .string ⟨fo.toArray⟩, .int .i64 ff, .int .i64 fto, .string ⟨mt.toArray⟩, .bool mw, .string ⟨nt.toArray⟩, .bool nw, .int .u8 st, .int .i64 tn] 40) from H7.out.base.heap N0.out)
     rw [HAO.out]
     go_wp2_with fail
     have XD7 := Lh (Ext.drew (Ext.refl w7))
     have G0 : ∀ y : Grow [] w7.drew, y.v.cell? ⟨pb, 0, none⟩ = some (.pointer (some ⟨b, 0, none⟩)) := fun y => y.ext.cell (XD7.out.cell (blk_cell P7.out 0)) (by simp)
     have G1 : ∀ y : Grow [] w7.drew, y.v.cell? ⟨fb, 1, none⟩ = some (.string ⟨obj.toArray⟩) := fun y => y.ext.cell (XD7.out.cell (blk_cell A7.out 1)) (by simp)
     refine wp_region_segs [] [.inl [0, 1, 2, 3, 4, 5], .inr (.inl 6), .inl [7, 8]] (by kernel_rfl) (by kernel_rfl) (fun c a d v w h => by cases d <;> exact h) ?_
     (rw [wpSegs_inl]; simp only [pickOps, mCc, mNn, gSs, gZz]; (repeat (go_big_quiet_step (fail))); refine wpQuiet_nil ?_)
     clear G0 G1
     (rw [wpSegs_grow]; simp only [pickOps, mCc, mNn, gSs, gZz]; go_wp2_with ((go_at_call 20; refine (p_bytes (H7.out.ext XD7.out) HOB.out).mono ?_; rintro e q7 ⟨v7, rfl, r7, h7, x7⟩; refine stop_of ?_)))
     unfold Stop
     have X7 := Lh (XD7.out.trans x7); have R7 := Lh r7; have HQ7 := Lh h7
     go_wp2_with fail
     refine ⟨.of x7 _, ?_⟩
     clear x7 r7 h7
     have c1 : ∀ y : Grow [] q7, (convert 22 9 v7).run Try.prog y.v = .ok (.string ⟨(bytesA us obj).toArray⟩) y.v := fun y => run_str (BytesAt.ext R7.out.at_ y.ext.ext)
     (rw [wpSegs_inl]; simp only [pickOps, mCc, mNn, gSs, gZz]; (repeat (go_big_quiet_step (fail))); refine wpQuiet_nil ?_)
     clear c1
     rw [wpSegs_nil]
     have H8 := Lh (H7.out.ext X7.out)
     have K8 := Lh (KeepP.trans K7.out (KeepP.ext X7.out fun g hg => H7.out.plt hg))
     have P8 := Lh (X7.out.heap P7.out)
     have B8 := Lh (fun hn => ownsRow_below (B7.out hn) X7.out)
     obtain ⟨g6, ht⟩ := TurnR.start H8.out List.mem_cons_self B8.out HB7.out
     rw [← HN6.out] at ht
     have T8 := Lh ht
     clear ht B7 B8 H8 X7 HQ7 R7 K7 H7 P7 A7
     go_wp2_with fail
     go_loopw [126, 15] (fun i _ wr => ∃ j : Nat, j ≤ n6 ∧ i = .int .i64 j ∧ Hid (TurnR W0 q7 wr b x 900000 LL us ss sa vs ss ra (.slice S6 n6 c6) n6 g6)) (fun i _ _ => n6 - (intOf i).toNat)
     case atStart => exact ⟨0, by omega, rfl, T8⟩
     case round =>
      clear T8
      obtain ⟨j6, hj6, rfl, HT⟩ := hrel
      by_cases hlt : j6 < n6
      ·obtain ⟨cur, hb, hcs, hz⟩ := HT.out.wr.blk (by omega)
       obtain ⟨z, hz⟩ := hz j6 hlt
       obtain ⟨cc, hv, hcc⟩ := HT.out.wr.val (by omega)
       obtain ⟨hS, rfl⟩ : S6 = some ⟨g6, 0, none⟩ ∧ c6 = cc := by injection hv with e1 e2 e3; exact ⟨e1, e3⟩
       clear hv
       subst hS
       have hcell : wr.cell? ⟨g6, j6, none⟩ = some (.int .u8 z) := by rw [blk_cell hb]; exact hz
       have hfree := blk_free hb j6
       have HB := Lh hb
       clear hb hz hcs
       go_wp2
       go_roundw
       case rel => exact ⟨j6 + 1, by omega, by go_num, Lh (HT.out.put (by omega) _ _)⟩
       case measure => simp [intOf]; omega
      ·obtain ⟨q96, hq⟩ : ∃ W, W = wr := ⟨_, rfl⟩
       rw [← hq] at HT ⊢
       clear hq
       go_wp2_with fail
       clear hlt hj6
       have KK := Lh (K8.out.trans HT.out.keep)
       have H9 := Lh HT.out.st
       have P9 := Lh ((HT.out.keep pb MLP.out).trans P8.out)
       have A9 := Lh (show q96.heap[fb]? = some (.cells #[.int .i64 kd, .string ⟨obj.toArray⟩, .string ⟨tt.toArray⟩, .bool tw, .int .i64 mod, .int .i64 len, .int .i64 hav, .int .i64 fr, .int .i64 wh, .int .i64 er, .slice KA nk KC, .string ⟨ten.toArray⟩, .bool keep, .slice UA nu uc, .string ⟨fo.toArray⟩, .int .i64 ff, .int .i64 fto, .string ⟨mt.toArray⟩, .bool mw, .string ⟨nt.toArray⟩, .bool nw, .int .u8 st, .int .i64 tn] 40) from H9.out.base.heap N0.out)
       have MLP9 := Lh (show addV (.slice S6 n6 c6) n6 LL pb from .inr MLP.out)
       clear HT K8 P8
       have XD9 := Lh (Ext.drew (Ext.refl q96))
       have G0 : ∀ y : Grow [] q96.drew, y.v.cell? ⟨pb, 0, none⟩ = some (.pointer (some ⟨b, 0, none⟩)) := fun y => y.ext.cell (XD9.out.cell (blk_cell P9.out 0)) (by simp)
       have G1 : ∀ y : Grow [] q96.drew, y.v.cell? ⟨fb, 1, none⟩ = some (.string ⟨obj.toArray⟩) := fun y => y.ext.cell (XD9.out.cell (blk_cell A9.out 1)) (by simp)
       refine wp_region_segs [] [.inl [0, 1, 2, 3, 4, 5], .inr (.inl 6), .inl [7]] (by kernel_rfl) (by kernel_rfl) (fun c a d v w h => by cases d <;> exact h) ?_
       (rw [wpSegs_inl]; simp only [pickOps, mCc, mNn, gSs, gZz]; (repeat (go_big_quiet_step (fail))); refine wpQuiet_nil ?_)
       clear G0 G1
       (rw [wpSegs_grow]; simp only [pickOps, mCc, mNn, gSs, gZz]; go_wp2_with ((go_at_call 20; refine (p_bytes (H9.out.ext XD9.out) HOB.out).mono ?_; rintro e q9 ⟨v9, rfl, r9, h9, x9⟩; refine stop_of ?_)))
       unfold Stop
       have X9 := Lh (XD9.out.trans x9); have R9 := Lh r9; have HQ9 := Lh h9
       go_wp2_with fail
       refine ⟨.of x9 _, ?_⟩
       clear x9 r9 h9
       (rw [wpSegs_inl]; simp only [pickOps, mCc, mNn, gSs, gZz]; (repeat (go_big_quiet_step (fail))); refine wpQuiet_nil ?_)
       rw [wpSegs_nil]
       obtain ⟨S1, c1, hv9⟩ := own_slice R9.out
       subst hv9
       obtain ⟨n1, hn1⟩ : ∃ n, n = (bytesA us obj).length := ⟨_, rfl⟩
       obtain ⟨g1, ht⟩ := TurnR.start HQ9.out List.mem_cons_self (fun _ => R9.out) (H9.out.base.size)
       rw [← hn1] at ht ⊢
       have T9 := Lh ht
       have hn19 : n1 ≤ 100000 := by have := bytesA_le H9.out obj; omega
       have K9 := Lh (KK.out.trans (KeepP.ext X9.out fun g hg => H9.out.plt (.inr hg)))
       have P10 := Lh (X9.out.heap P9.out)
       clear ht hn1 HQ9 R9 X9 KK H9 P9 A9
       go_wp2_with fail
       go_loopw [145, 17] (fun i _ wr => ∃ j : Nat, j ≤ n1 ∧ i = .int .i64 j ∧ Hid (TurnR W0 q9 wr b x 900000 (addV (.slice S6 n6 c6) n6 LL) us ss sa vs ss ra (.slice S1 n1 c1) n1 g1)) (fun i _ _ => n1 - (intOf i).toNat)
       case atStart => exact ⟨0, by omega, rfl, T9⟩
       case round =>
        clear T9
        obtain ⟨j1, hj1, rfl, HT⟩ := hrel
        by_cases hlt : j1 < n1
        ·obtain ⟨cur, hb, hcs, hz⟩ := HT.out.wr.blk (by omega)
         obtain ⟨z, hz⟩ := hz j1 hlt
         obtain ⟨cc, hv, hcc⟩ := HT.out.wr.val (by omega)
         obtain ⟨hS, rfl⟩ : S1 = some ⟨g1, 0, none⟩ ∧ c1 = cc := by injection hv with e1 e2 e3; exact ⟨e1, e3⟩
         clear hv
         subst hS
         have hcell : wr.cell? ⟨g1, j1, none⟩ = some (.int .u8 z) := by rw [blk_cell hb]; exact hz
         have hfree := blk_free hb j1
         have HB := Lh hb
         clear hb hz hcs
         go_wp2
         go_roundw
         case rel => exact ⟨j1 + 1, by omega, by go_num, Lh (HT.out.put (by omega) _ _)⟩
         case measure => simp [intOf]; omega
        ·obtain ⟨q91, hq⟩ : ∃ W, W = wr := ⟨_, rfl⟩
         rw [← hq] at HT ⊢
         clear hq
         go_wp2_with fail
         clear hlt hj1
         have KL := Lh (K9.out.trans (HT.out.keep.sub fun g hg => .inr hg))
         have H11 := Lh HT.out.st
         have C0b := Lh (show q91.cell? ⟨pb, 0, none⟩ = some (.pointer (some ⟨b, 0, none⟩)) from by rw [blk_cell ((HT.out.keep pb MLP9.out).trans P10.out)]; rfl)
         have COb := Lh (show q91.cell? ⟨fb, 1, none⟩ = some (.string ⟨obj.toArray⟩) from blk_cell (H11.out.base.heap N0.out) 1)
         clear HT K9 P10 MLP9
         have M11 := Lh (kept_blk M1.out MBL.out MLN.out X6.out KL.out)
         have TR11 := Lh (SRow.texts (kept_row TR1.out (Nat.le_refl _) MLN.out X6.out KL.out))
         have T11 := Lh (SRow.texts (kept_row (show SRow wc w3.heap.size v4 (objsR vs) from ownsRow_below R5.out X5c.out) (Nat.le_refl _) MLN.out X6.out KL.out))
         have XR := Lh (Ext.refl q91)
         obtain ⟨⟨m2, mo2⟩, hm2⟩ : ∃ m, m = metaA us obj := ⟨_, rfl⟩
         obtain ⟨mk2, hmk2⟩ : ∃ n, n = m2.keys.length := ⟨_, rfl⟩
         have HMQ := Lh (prog_meta H11.out HOB.out hm2 hmk2)
         clear hm2 hmk2
         go_wp2_with fail
         obtain ⟨BB10, hbb⟩ : ∃ p, p = q91.drew.heap.size := ⟨_, rfl⟩
         have HB10 := Lh hbb
         clear hbb
         have XD10 := Lh (Ext.drew (Ext.refl q91))
         have GA : ∀ y : GrowR (keepLow BB10) q91.drew, y.v.cell? ⟨pb, 0, none⟩ = some (.pointer (some ⟨b, 0, none⟩)) := fun y => (y.low HB10.out).cell (XD10.out.cell (XR.out.cell C0b.out))
         have GB : ∀ y : GrowR (keepLow BB10) q91.drew, y.v.cell? ⟨fb, 1, none⟩ = some (.string ⟨obj.toArray⟩) := fun y => (y.low HB10.out).cell (XD10.out.cell (XR.out.cell COb.out))
         have XS10 := Lh (show BB10 ≤ q91.drew.heap.size from Nat.le_of_eq HB10.out)
         refine wp_region_trzR (keepLow BB10) [] [] (.pure [0, 1, 2, 3, 4, 5] (.fork 6 (.pure [7, 8, 9] (.one 10 (.one 11 (.pure [12] (.done))))) 10 (.one 6 (.pure [7, 8, 9] (.one 11 (.pure [12] (.done))))))) (by kernel_rfl) (by kernel_rfl) (fun c a d v w h => by cases d <;> exact h) ?_
         (simp only [pickOps, mCc, mNn, gSs, gZz]; refine wpQuiet_nil ?_)
         (rw [wpTzR_pure]; simp only [pickOps, mCc, mNn, gSs, gZz]; (repeat (go_big_quiet_step (fail))); refine wpQuiet_nil ?_)
         clear GA GB
         rw [wpTzR_fork]
         refine ⟨?_, ?_⟩
         ·(simp only [pickOps, mCc, mNn, gSs, gZz]; go_wp2_with (go_at_call 21; refine (HMQ.out _ (XR.out.trans XD10.out)).mono ?_; rintro e wa10 ⟨KA10, KC10, rfl, tx, xa⟩; refine stop_of ?_))
          unfold Stop
          go_wp2_with fail
          refine ⟨Below.mono xa XS10.out, ?_⟩
          have XA10 := Lh (XD10.out.trans xa); have SA10 := Lh (Nat.le_trans XS10.out xa.size)
          have T10 := Lh tx
          (rw [wpTzR_pure]; simp only [pickOps, mCc, mNn, gSs, gZz]; (repeat (go_big_quiet_step (fail))); refine wpQuiet_nil ?_)
          clear xa tx
          (rw [wpTzR_one]; simp only [pickOps, mCc, mNn, gSs, gZz]; go_wp2_with (refine wpList_new 38 _ zero38 rfl rfl ?_; intro wb10 xb nb sb; refine stop_of ?_))
          unfold Stop
          obtain ⟨mb10, hmb⟩ : ∃ p, p = wa10.heap.size := ⟨_, rfl⟩
          have nb := (show wb10.heap[mb10]? = wb10.heap[wa10.heap.size]? from by rw [hmb]).trans nb
          rw [← hmb]
          have MN10 := Lh nb; have MB10 := Lh (show q91.heap.size ≤ mb10 from by have h1 := SA10.out; have h2 : BB10 = q91.heap.size := HB10.out; omega)
          clear hmb
          go_wp2_with fail
          refine ⟨Below.mono xb SA10.out, ?_⟩
          have XB10 := Lh (XA10.out.trans xb); have SB10 := Lh (Nat.le_trans SA10.out xb.size)
          have TB10 := Lh (ownsRow_below T10.out xb)
          (rw [wpTzR_one]; simp only [pickOps, mCc, mNn, gSs, gZz]; go_wp2_with (refine wpList_put 38 rfl _ _ rfl mb10 0 38 _ (metaC m2 (.slice KA10 mk2 KC10)).toArray (metaC m2 (.slice KA10 mk2 KC10)) _ MN10.out rfl rfl rfl (by simp [metaC]) rfl size38 (by kernel_rfl) ?_; intro wc10 xc nc sc; refine stop_of ?_))
          unfold Stop
          have M10 := Lh nc
          go_wp2_with fail
          refine ⟨⟨xc.os, xc.tape, xc.output, xc.size, fun k hk => xc.block k (Nat.lt_of_lt_of_le hk SB10.out) (fun hh => by have := MB10.out; have h3 : BB10 = q91.heap.size := HB10.out; have h2 : k = mb10 := (by simpa using hh); omega)⟩, ?_⟩
          have XC10 := Lh (show Ext q91 wc10 from XB10.out.thenB xc (by have := MB10.out; simp; omega))
          have XZ10 := Lh (XR.out.trans XC10.out)
          have TT10 := Lh (SRow.texts (own_extB TB10.out xc (fun y hy e => by have h1 := kind_row TB10.out e; rw [show y = mb10 by simpa using hy, kind_cells MN10.out] at h1; cases h1)))
          clear xb nb sb xc nc sc MN10 XA10 XB10 T10 TB10
          (rw [wpTzR_pure]; simp only [pickOps, mCc, mNn, gSs, gZz]; (repeat (go_big_quiet_step (fail))); refine wpQuiet_nil ?_)
          rw [wpTzR_done]
          go_wp2_with fail
          have XF := Lh (XZ10.out.trans (Ext.drew (Ext.refl wc10)))
          have G0 : ∀ y : Grow [] wc10.drew, y.v.cell? ⟨pb, 0, none⟩ = some (.pointer (some ⟨b, 0, none⟩)) := fun y => y.ext.cell (XF.out.cell C0b.out) (by simp)
          have G1 : ∀ y : Grow [] wc10.drew, y.v.cell? ⟨fb, 1, none⟩ = some (.string ⟨obj.toArray⟩) := fun y => y.ext.cell (XF.out.cell COb.out) (by simp)
          refine wp_region_segs [] [.inl [0, 1, 2, 3, 4, 5, 8], .inr (.inl 6), .inl [7, 9, 10, 11, 12, 13, 14, 15, 16, 17, 18, 19], .inr (.inl 20), .inl [21, 22, 23, 24, 25, 26, 28], .inr (.inl 27), .inr (.inl 29), .inl [30, 31, 32, 33]] (by kernel_rfl) (by kernel_rfl) (fun c a d v w h => by cases d <;> exact h) ?_
          (rw [wpSegs_inl]; simp only [pickOps, mCc, mNn, gSs, gZz]; (repeat (go_big_quiet_step (fail))); refine wpQuiet_nil ?_)
          clear G0 G1
          (rw [wpSegs_grow]; simp only [pickOps, mCc, mNn, gSs, gZz]; go_wp2_with ((go_at_call 20; refine (p_bytes (H11.out.ext XF.out) HOB.out).mono ?_; rintro e u1 ⟨v20, rfl, r20, h20, x20⟩; refine stop_of ?_)))
          unfold Stop
          have XF1 := Lh (XF.out.trans x20); have B20 := Lh r20.at_
          go_wp2_with fail
          refine ⟨.of x20 _, ?_⟩
          clear x20 r20 h20
          have c1 : ∀ y : Grow [] u1, (convert 22 9 v20).run Try.prog y.v = .ok (.string ⟨(bytesA us obj).toArray⟩) y.v := fun y => run_str (BytesAt.ext B20.out y.ext.ext)
          (rw [wpSegs_inl]; simp only [pickOps, mCc, mNn, gSs, gZz]; (repeat (go_big_quiet_step (fail))); refine wpQuiet_nil ?_)
          clear c1
          (rw [wpSegs_grow]; simp only [pickOps, mCc, mNn, gSs, gZz]; go_wp2_with (fail))
          refine ⟨.of (Ext.refl _) _, ?_⟩
          (rw [wpSegs_inl]; simp only [pickOps, mCc, mNn, gSs, gZz]; (repeat (go_big_quiet_step (fail))); refine wpQuiet_nil ?_)
          (rw [wpSegs_grow]; simp only [pickOps, mCc, mNn, gSs, gZz]; go_wp2_with (fail))
          refine ⟨.of (Ext.refl _) _, ?_⟩
          (rw [wpSegs_grow]; simp only [pickOps, mCc, mNn, gSs, gZz]; go_wp2_with (fail))
          refine ⟨.of (Ext.refl _) _, ?_⟩
          (rw [wpSegs_inl]; simp only [pickOps, mCc, mNn, gSs, gZz]; (repeat (go_big_quiet_step (fail))); refine wpQuiet_nil ?_)
          rw [wpSegs_nil]
          go_wp2
          go_ret
          exact ⟨rfl, X0.out.trans (H11.out.base.trans XF1.out)⟩
         ·(simp only [pickOps, mCc, mNn, gSs, gZz]; go_wp2_with (refine wpList_new 38 _ zero38 rfl rfl ?_; intro wb10 xb nb sb; refine stop_of ?_))
          unfold Stop
          obtain ⟨mb10, hmb⟩ : ∃ p, p = q91.heap.size := ⟨_, rfl⟩
          have nb := (show wb10.heap[mb10]? = wb10.heap[q91.heap.size]? from by rw [hmb]).trans nb
          rw [← hmb]
          have MN10 := Lh nb; have MB10 := Lh (show q91.heap.size ≤ mb10 from by have h1 := XS10.out; have h2 : BB10 = q91.heap.size := HB10.out; omega)
          clear hmb
          go_wp2_with fail
          refine ⟨Below.mono xb XS10.out, ?_⟩
          have XB10 := Lh (XD10.out.trans xb); have SB10 := Lh (Nat.le_trans XS10.out xb.size)
          clear xb sb
          (rw [wpTzR_one]; simp only [pickOps, mCc, mNn, gSs, gZz]; go_wp2_with (go_at_call 21; refine (HMQ.out _ (XR.out.trans XB10.out)).mono ?_; rintro e wa10 ⟨KA10, KC10, rfl, tx, xa⟩; refine stop_of ?_))
          unfold Stop
          go_wp2_with fail
          refine ⟨Below.mono xa SB10.out, ?_⟩
          have XA10 := Lh (XB10.out.trans xa); have SA10 := Lh (Nat.le_trans SB10.out xa.size)
          have T10 := Lh tx
          have MN10 := Lh (xa.heap MN10.out)
          (rw [wpTzR_pure]; simp only [pickOps, mCc, mNn, gSs, gZz]; (repeat (go_big_quiet_step (fail))); refine wpQuiet_nil ?_)
          clear xa tx nb
          (rw [wpTzR_one]; simp only [pickOps, mCc, mNn, gSs, gZz]; go_wp2_with (refine wpList_put 38 rfl _ _ rfl mb10 0 38 _ (metaC m2 (.slice KA10 mk2 KC10)).toArray (metaC m2 (.slice KA10 mk2 KC10)) _ MN10.out rfl rfl rfl (by simp [metaC]) rfl size38 (by kernel_rfl) ?_; intro wc10 xc nc sc; refine stop_of ?_))
          unfold Stop
          have M10 := Lh nc
          go_wp2_with fail
          refine ⟨⟨xc.os, xc.tape, xc.output, xc.size, fun k hk => xc.block k (Nat.lt_of_lt_of_le hk SA10.out) (fun hh => by have := MB10.out; have h3 : BB10 = q91.heap.size := HB10.out; have h2 : k = mb10 := (by simpa using hh); omega)⟩, ?_⟩
          have XC10 := Lh (show Ext q91 wc10 from XA10.out.thenB xc (by have := MB10.out; simp; omega))
          have XZ10 := Lh (XR.out.trans XC10.out)
          have TT10 := Lh (SRow.texts (own_extB T10.out xc (fun y hy e => by have h1 := kind_row T10.out e; rw [show y = mb10 by simpa using hy, kind_cells MN10.out] at h1; cases h1)))
          clear xc nc sc MN10 XA10 XB10 T10
          (rw [wpTzR_pure]; simp only [pickOps, mCc, mNn, gSs, gZz]; (repeat (go_big_quiet_step (fail))); refine wpQuiet_nil ?_)
          rw [wpTzR_done]
          go_wp2_with fail
          have XF := Lh (XZ10.out.trans (Ext.drew (Ext.refl wc10)))
          have G0 : ∀ y : Grow [] wc10.drew, y.v.cell? ⟨pb, 0, none⟩ = some (.pointer (some ⟨b, 0, none⟩)) := fun y => y.ext.cell (XF.out.cell C0b.out) (by simp)
          have G1 : ∀ y : Grow [] wc10.drew, y.v.cell? ⟨fb, 1, none⟩ = some (.string ⟨obj.toArray⟩) := fun y => y.ext.cell (XF.out.cell COb.out) (by simp)
          refine wp_region_segs [] [.inl [0, 1, 2, 3, 4, 5, 8], .inr (.inl 6), .inl [7, 9, 10, 11, 12, 13, 14, 15, 16, 17, 18, 19], .inr (.inl 20), .inl [21, 22, 23, 24, 25, 26, 28], .inr (.inl 27), .inr (.inl 29), .inl [30, 31, 32, 33]] (by kernel_rfl) (by kernel_rfl) (fun c a d v w h => by cases d <;> exact h) ?_
          (rw [wpSegs_inl]; simp only [pickOps, mCc, mNn, gSs, gZz]; (repeat (go_big_quiet_step (fail))); refine wpQuiet_nil ?_)
          clear G0 G1
          (rw [wpSegs_grow]; simp only [pickOps, mCc, mNn, gSs, gZz]; go_wp2_with ((go_at_call 20; refine (p_bytes (H11.out.ext XF.out) HOB.out).mono ?_; rintro e u1 ⟨v20, rfl, r20, h20, x20⟩; refine stop_of ?_)))
          unfold Stop
          have XF1 := Lh (XF.out.trans x20); have B20 := Lh r20.at_
          go_wp2_with fail
          refine ⟨.of x20 _, ?_⟩
          clear x20 r20 h20
          have c1 : ∀ y : Grow [] u1, (convert 22 9 v20).run Try.prog y.v = .ok (.string ⟨(bytesA us obj).toArray⟩) y.v := fun y => run_str (BytesAt.ext B20.out y.ext.ext)
          (rw [wpSegs_inl]; simp only [pickOps, mCc, mNn, gSs, gZz]; (repeat (go_big_quiet_step (fail))); refine wpQuiet_nil ?_)
          clear c1
          (rw [wpSegs_grow]; simp only [pickOps, mCc, mNn, gSs, gZz]; go_wp2_with (fail))
          refine ⟨.of (Ext.refl _) _, ?_⟩
          (rw [wpSegs_inl]; simp only [pickOps, mCc, mNn, gSs, gZz]; (repeat (go_big_quiet_step (fail))); refine wpQuiet_nil ?_)
          (rw [wpSegs_grow]; simp only [pickOps, mCc, mNn, gSs, gZz]; go_wp2_with (fail))
          refine ⟨.of (Ext.refl _) _, ?_⟩
          (rw [wpSegs_grow]; simp only [pickOps, mCc, mNn, gSs, gZz]; go_wp2_with (fail))
          refine ⟨.of (Ext.refl _) _, ?_⟩
          (rw [wpSegs_inl]; simp only [pickOps, mCc, mNn, gSs, gZz]; (repeat (go_big_quiet_step (fail))); refine wpQuiet_nil ?_)
          rw [wpSegs_nil]
          go_wp2
          go_ret
          exact ⟨rfl, X0.out.trans (H11.out.base.trans XF1.out)⟩
set_option maxRecDepth 100000 in
theorem originRefused_lifted (os : Os) (started : os.Started) (H : Type) (enc : TypeId × Value → H) :
  ReturnsInHanded {} Try.checked os 9 .any (Rows.originRefusedSpec.pre6 enc Try.prog Try.f9 Rows.originRefusedRow.domain false) (Rows.originRefusedSpec.post enc Try.prog Try.f9 false true false false) := by
 refine returnsInHanded_of_change_sized (C := Try.checked) own started (by kernel_rfl) Try.func9
  (ChangeSpec.witness6 (enc := enc) (C := Try.checked) false ⟨#[], #[.slice none 0 0, .agg #[.int .i64 0, .string ⟨#[]⟩, .string ⟨#[]⟩, .bool false, .int .i64 0, .int .i64 0, .int .i64 0, .int .i64 0, .int .i64 0, .int .i64 0, .slice none 0 0, .string ⟨#[]⟩, .bool false, .slice none 0 0, .string ⟨#[]⟩, .int .i64 0, .int .i64 0, .string ⟨#[]⟩, .bool false, .string ⟨#[]⟩, .bool false, .int .u8 0, .int .i64 0]], []⟩ 8 (by kernel_rfl) (by kernel_rfl) (by kernel_rfl) (by kernel_rfl)) ?_
 intro W base args ds gs before hval0 hW hcnd hsz _
 have hval : ∀ (j : Nat) t v, Try.f9.params[j]? = some t → args[j]? = some v → Value.okWide Try.prog W .any base t v := hval0
 have hW' := hW
 obtain ⟨p, q, hA0, hV, rfl, hfz, hnd⟩ := hW
 have hA : DataW.TrodAll enc Try.prog W 0 (fun _ => true) true Try.f9.params.toList args.toList ds p := hA0
 rw [Try.params9] at hA hval
 obtain ⟨v0, vs0, d0, ds0, p0, q0, hargs, rfl, rfl, h0, r0⟩ := trodAll_cons hA
 obtain ⟨v1, vs1, d1, ds1, p1, q1, rfl, rfl, rfl, h1, r1⟩ := trodAll_cons r0
 obtain ⟨rfl, rfl, rfl⟩ := trodAll_nil r1
 obtain rfl : args = #[v0, v1] := by cases args; simp_all
 obtain ⟨rfl, rfl⟩ := trodVars_none hV
 have lt0 : ∀ x ∈ p0, x.block < W.heap.size := by obtain ⟨m, hm⟩ := h0; exact DataW.trod_lt m _ _ _ hm
 have t0 := fun W' (bel : Below W.heap.size W W') => Below.trod laidOut (by kernel_rfl) (of_decide_eq_true (by kernel_rfl)) h0 bel lt0
 have lt1 : ∀ x ∈ p1, x.block < W.heap.size := by obtain ⟨m, hm⟩ := h1; exact DataW.trod_lt m _ _ _ hm
 have t1 := fun W' (bel : Below W.heap.size W W') => Below.trod laidOut (by kernel_rfl) (of_decide_eq_true (by kernel_rfl)) h1 bel lt1
 have wk0 : WOk Try.prog 41 d0 := wok_arg hsz (j := 0) rfl rfl
 obtain ⟨xs0, ha0, hl0⟩ := acts_open (hval 0 41 v0 rfl rfl) h0
 have wt0 := acts_weight wk0 h0 ha0
 have wk1 : WOk Try.prog 40 d1 := wok_arg hsz (j := 1) rfl rfl
 obtain ⟨a1, rfl, ha1⟩ := act_open (hval 1 40 v1 rfl rfl) h1
 clear hA0 hval0 hsz
 refine (refused_walk v0 xs0 a1 W ha0 wt0 ha1 ).mono fun e W' ⟨he, bel⟩ => ?_
 subst he
 exact ⟨_, rfl, _, _, _, [], _, [], hW', trodAll_mk1 (shut_bool Try.underlying4 _), (trodAll_cons_mk (t0 W' bel) (trodAll_cons_mk (t1 W' bel) trodAll_mk0)), rfl, bel.frame _, fun h => by cases h⟩
theorem OriginRefused_proved : Rows.OriginRefusedSaid :=
 OpenClaim.holds_of_wide 9 Try.f9 rfl rfl rfl rfl rfl rfl rfl ⟨rfl, rfl, rfl, rfl, rfl⟩ rfl rfl rfl rfl rfl (by kernel_rfl) Try.func9 (by kernel_rfl)
  (of_decide_eq_true (by kernel_rfl)) (by unfold Func.isWrapper; first | (rw [if_pos (by decide +kernel)]; kernel_rfl) | (rw [if_neg (by decide +kernel)]; exact ⟨rfl, rfl⟩))
  (fun os started H enc _ => originRefused_lifted os started H enc)
#print axioms OriginRefused_proved
end Go.Proofs.Ytpangoddbfiagaa
