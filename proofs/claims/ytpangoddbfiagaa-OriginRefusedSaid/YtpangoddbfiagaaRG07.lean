import Derived.Test.YtpangoddbfiagaaRG05
namespace Go.Proofs.Ytpangoddbfiagaa
open Go.RowKit Go.Maps Go.ChangeMaps
set_option linter.unusedVariables false
set_option linter.unusedSimpArgs false
section
variable {w w' : World} {b B N : Nat} {own : Nat → Prop} {vs : List Vn} {ss : List Sn} {sa : List Nat} {gs : List Vg} {mo mh : Option Nat} {H : Bs → Option Nat} {K : Bs → Bs → Option Bool}
set_option maxRecDepth 100000 in
set_option maxHeartbeats 8000000 in
theorem set_A_new (hI : OIx w b B N own vs ss sa gs mo mh H K) (hN : N ≤ 800000) {o bs : Bs} {tt : Bs} {tw : Bool} {mod hav fr wh er : Int} {keys : List Bs} {ten : Bs} {keep : Bool} {kv u : Value} (ho : o.length ≤ 1000) (hz : MetaZ (⟨tt, tw, mod, (-1), hav, fr, wh, er, keys, ten, keep⟩ : MetaP)) (hk : TextsAt w kv keys) (hu : BytesAt w u bs) (hbs : bs.length ≤ 1000) (hfk : FarV own kv) (hfu : FarV own u) (hb : setOk o (⟨tt, tw, mod, (-1), hav, fr, wh, er, keys, ten, keep⟩ : MetaP) bs = true) (hnt : noTag (⟨tt, tw, mod, (-1), hav, fr, wh, er, keys, ten, keep⟩ : MetaP) = false) (hhd : hadF H K o tt = none) : Calls Try.prog 13 #[.pointer (some ⟨b, 0, none⟩), .string ⟨o.toArray⟩, .agg ([.string ⟨tt.toArray⟩, .bool tw, .int .i64 mod, .int .i64 (-1), .int .i64 hav, .int .i64 fr, .int .i64 wh, .int .i64 er, kv, .string ⟨ten.toArray⟩, .bool keep]).toArray, u] w fun e w' => e = .returned (.int .i64 (setA vs o (⟨tt, tw, mod, (-1), hav, fr, wh, er, keys, ten, keep⟩ : MetaP) bs).1) ∧ OI w' b B (N + 2) (grownOwn own w w') (setA vs o (⟨tt, tw, mod, (-1), hav, fr, wh, er, keys, ten, keep⟩ : MetaP) bs).2 ss sa ∧ ExtP own w w' := by
 have HOBJ := Lh fun W => obj_any o W (by omega)
 have HZ := Lh hz; have HK := Lh hk; have HU := Lh hu; have HFK := Lh hfk; have HFU := Lh hfu; have HI := Lh hI
 obtain ⟨A, c, rfl, hc0, _, _⟩ := hu
 obtain ⟨KA, KC, rfl, _, _, _⟩ := hk
 rw [List.length_map] at HU HFU hc0 ⊢
 obtain ⟨y1, hy1⟩ : ∃ y, y = objB o := ⟨_, rfl⟩
 rw [← hy1] at HOBJ
 obtain ⟨y2, hy2⟩ : ∃ y, y = metaB (⟨tt, tw, mod, (-1), bs.length, fr, wh, er, keys, ten, keep⟩ : MetaP) := ⟨_, rfl⟩
 have HMR : Hid (∀ W, Ext w W → Calls Try.prog 36 #[.agg ([.string ⟨tt.toArray⟩, .bool tw, .int .i64 mod, .int .i64 (-1), .int .i64 bs.length, .int .i64 fr, .int .i64 wh, .int .i64 er, .slice KA keys.length KC, .string ⟨ten.toArray⟩, .bool keep]).toArray] W fun e w' => e = .returned (.bool y2) ∧ Ext W w') := Lh fun W x => by rw [hy2]; exact meta_right _ _ W ⟨HZ.out.tt, HZ.out.keys, HZ.out.key, HZ.out.ten⟩ (HK.out.ext x)
 obtain ⟨r, hr⟩ : ∃ r, r = setA vs o (⟨tt, tw, mod, (-1), hav, fr, wh, er, keys, ten, keep⟩ : MetaP) bs := ⟨_, rfl⟩
 rw [← hr]
 have HR : Hid (r = if (y1 && true && y2) = false then (1, vs) else if refused vs o (⟨tt, tw, mod, (-1), hav, fr, wh, er, keys, ten, keep⟩ : MetaP) = true then (12, vs) else (0, offVs vs o ++ [⟨o, (⟨tt, tw, mod, (-1), bs.length, fr, wh, er, keys, ten, keep⟩ : MetaP), bs, false⟩])) := Lh (by rw [hr, hy1, hy2]; unfold setA setOk newV; simp)
 have hyy : y1 = true ∧ y2 = true := by rw [hy1, hy2]; unfold setOk at hb; simpa using hb
 obtain ⟨rfl, rfl⟩ := hyy
 have HNT : Hid ((!(tt == [] && !tw)) = true) := Lh (by have h := hnt; unfold noTag at h; simp only at h; rw [h]; rfl)
 have hadE : ∀ o' t', hadF H K o' t' = hadA vs o' t' := fun o' t' => HI.out.maps.tie o' t'
 have HHD := Lh hhd
 have HREF : refused vs o (⟨tt, tw, mod, (-1), hav, fr, wh, er, keys, ten, keep⟩ : MetaP) = false := by unfold refused; rw [hnt]; simp only; rw [← hadE, hhd]; simp
 have HR2 : Hid (r = (0, offVs vs o ++ [⟨o, (⟨tt, tw, mod, (-1), bs.length, fr, wh, er, keys, ten, keep⟩ : MetaP), bs, false⟩])) := Lh (by rw [HR.out, HREF]; simp)
 have HTIE : Hid (∀ o' t', (if o' = o ∧ t' = tt then some (!tw) else hadF H K o' t') = hadA (offVs vs o ++ [⟨o, (⟨tt, tw, mod, (-1), bs.length, fr, wh, er, keys, ten, keep⟩ : MetaP), bs, false⟩]) o' t') := Lh fun o' t' => by
  have h := tie_some (vs := vs) o (⟨tt, tw, mod, (-1), hav, fr, wh, er, keys, ten, keep⟩ : MetaP) bs hnt HREF o' t'
  rw [hadE]
  exact h.symm
 clear hz hc0 hI hy1 hy2 hfk hfu hr HR hb hnt HREF hhd hadE
 have q82 := q82; have hmm := @run_makeMap Try.prog
 go_enter Try.func13, Try.ntmps13
 go_wp2_with (refine wpList_boxA 38 rfl _ rfl ([.string ⟨tt.toArray⟩, .bool tw, .int .i64 mod, .int .i64 (-1), .int .i64 hav, .int .i64 fr, .int .i64 wh, .int .i64 er, .slice KA keys.length KC, .string ⟨ten.toArray⟩, .bool keep]).toArray rfl ?_; intro W0 x0 n0 s0; refine stop_of ?_)
 unfold Stop
 have X0 := Lh x0; have N0 := Lh n0
 have k3 := blk_cell n0 3
 simp at k3
 clear x0 n0 s0
 go_wp2_with (go_at_call 35; refine (HOBJ.out _).mono ?_; rintro e w1 ⟨rfl, rfl⟩; refine stop_of ?_)
 unfold Stop
 go_wp2_with (refine wpList_put 2 rfl _ _ rfl _ 4 38 _ ([.string ⟨tt.toArray⟩, .bool tw, .int .i64 mod, .int .i64 (-1), .int .i64 bs.length, .int .i64 fr, .int .i64 wh, .int .i64 er, .slice KA keys.length KC, .string ⟨ten.toArray⟩, .bool keep]).toArray [.int .i64 bs.length] (.int .i64 bs.length) N0.out rfl rfl rfl (by simp) rfl size2 (by kernel_rfl) ?_; intro W1 x1 n1 s1; refine stop_of ?_)
 unfold Stop
 have X1 := Lh (X0.out.thenB x1 (by simp)); have N1 := Lh n1
 clear x1 n1 s1 X0 N0 k3
 go_wp2_with (first | (refine wpList_get 38 _ rfl _ rfl _ 0 38 _ ([.string ⟨tt.toArray⟩, .bool tw, .int .i64 mod, .int .i64 (-1), .int .i64 bs.length, .int .i64 fr, .int .i64 wh, .int .i64 er, .slice KA keys.length KC, .string ⟨ten.toArray⟩, .bool keep]) N1.out rfl (by kernel_rfl) Try.underlying38 rfl size38 ?_) | (go_at_call 36; refine (HMR.out _ X1.out).mono ?_; rintro e w2 ⟨rfl, x2⟩; refine stop_of ?_))
 unfold Stop
 have X2 := Lh (X1.out.trans x2); have N2 := Lh (x2.heap N1.out)
 clear x2 X1 N1
 have hq := fun W => q27 W tt tw
 rw [HNT.out] at hq
 go_wp2_with (refine wpList_get 27 _ rfl _ rfl _ 0 38 _ [.string ⟨tt.toArray⟩, .bool tw] N2.out rfl (by kernel_rfl) Try.underlying27 rfl size27 ?_; refine stop_of ?_)
 unfold Stop
 go_wp2_with fail
 have M2 := Lh (HI.out.mid.ext X2.out)
 have G1 : ∀ x : Grow [] w2, x.v.cell? ⟨b, 1, none⟩ = some (.map mh) := fun x => x.ext.cell (blk_cell M2.out.blk 1) (by simp)
 have G2 : ∀ x : Grow [] w2, x.v.cell? ⟨w.heap.size, 0, none⟩ = some (.string ⟨tt.toArray⟩) := fun x => x.ext.cell (blk_cell N2.out 0) (by simp)
 have GL : ∀ x : Grow [] w2, (Instr.lookup 78 (.map mh) (.string ⟨o.toArray⟩) false).run Try.prog x.v = .ok (.map (H o)) x.v := fun x => M2.out.had.look_grow x (by omega)
 have GL2 : ∀ x : Grow [] w2, (Instr.lookup 79 (.map (H o)) (.string ⟨tt.toArray⟩) true).run Try.prog x.v = .ok (.tuple #[.bool false, .bool false]) x.v := fun x => by
  have h := (M2.out.ext (x.ext.ext)).had.look2 (o := o) (t := tt) (by have := HZ.out.tt; simp only at this; omega)
  rw [HHD.out] at h
  exact h
 (refine wp_region_grow (by kernel_rfl) (by kernel_rfl) ?_; (repeat (go_big_quiet_step (fail))); refine wpQuiet_nil ?_)
 clear G1 G2 GL GL2
 intro w3 hx3
 have X3 := Lh (X2.out.trans hx3); have N3 := Lh (hx3.heap N2.out)
 have M3 := Lh (M2.out.ext hx3)
 clear hx3 X2 N2 M2
 have k1 := blk_cell N3.out 1
 simp at k1
 go_wp2_with (first | (refine wpList_get 27 _ rfl _ rfl _ 0 38 _ [.string ⟨tt.toArray⟩, .bool tw] N3.out rfl (by kernel_rfl) Try.underlying27 rfl size27 ?_) | (go_at_call 37; refine (tell_any M3.out.blk M3.out.had (by omega) tw (by omega) (by have := HZ.out.tt; simp only at this; omega) (.inl HI.out.ob) (M3.out.lt HI.out.lt)).mono ?_; rintro e w4 ⟨rfl, tr4⟩; refine stop_of ?_))
 unfold Stop
 obtain ⟨mh4, H4, K4, hm4, hf4⟩ := M3.out.tell HI.out.lt tr4
 have M4 := Lh hm4
 have N4 := Lh (tr4.ext.heap N3.out (by
  intro hh
  have h1 := kind_cells N3.out
  rcases tellX M3.out hh with e | e
  ·rw [e] at h1; cases h1
  ·rw [e] at h1; cases h1))
 have HTIE4 := Lh fun o' t' => (hf4 o' t').trans (HTIE.out o' t')
 clear tr4 hm4 hf4 M3 N3 X3 k1
 have k0 := blk_cell M4.out.blk 0
 simp at k0
 cases mo with
 | some mm =>
  have k0' := blk_cell M4.out.blk 0
  simp at k0'
  cases hn : nowI vs o with
  | none =>
   have hl := M4.out.obs.look Try.underlying82 (zero88 w4) (k := o) (by omega)
   have hF : nowF vs gs o = none := by simp [nowF, hn]
   rw [hF] at hl
   have HM9 : Hid (Mid w own w4 b B (N + 1) (offVs vs o) gs ss sa (some mm) mh4 H4 K4 (nowF vs gs)) := Lh (by unfold offVs; rw [hn]; exact M4.out)
   have hl' : (Instr.lookup 82 (.map (some mm)) (.string ⟨o.toArray⟩) false).run Try.prog w4 = .ok (.pointer none) w4 := hl
   clear hl hF hn M4
   have k8 := blk_cell N4.out 8
   simp at k8
   have hsz6 : w.heap.size ≤ w4.heap.size := HM9.out.size
   have hmb6 : w.heap.size < w4.heap.size := blk_lt N4.out
   go_wp2_with (at_builtin; refine wpList_copyS rfl _ _ rfl _ keys (TextsAt.far HK.out HM9.out.xp HFK.out) rfl rfl (by have := HZ.out.keys; simp only at this; omega) ?_; intro kv' W7 t7 x7; refine stop_of ?_)
   unfold Stop
   obtain ⟨A7, c7, rfl, _, _, _⟩ := t7.texts
   have M7 := Lh (HM9.out.ext x7); have N7 := Lh (x7.heap N4.out); have T7 := Lh t7
   have hs7 := x7.size
   clear x7 t7 k8
   go_wp2_with (refine wpList_put 36 rfl _ _ rfl _ 8 38 _ ([.string ⟨tt.toArray⟩, .bool tw, .int .i64 mod, .int .i64 (-1), .int .i64 bs.length, .int .i64 fr, .int .i64 wh, .int .i64 er, .slice A7 keys.length c7, .string ⟨ten.toArray⟩, .bool keep]).toArray [.slice A7 keys.length c7] _ N7.out rfl rfl rfl (by simp) rfl size36 (by kernel_rfl) ?_; intro W8 x8 n8 s8; refine stop_of ?_)
   unfold Stop
   have hX8 : ∀ g ∈ [w.heap.size], kindOf W7 g = 38 := fun g hg => by rw [show g = w.heap.size by simpa using hg]; exact kind_cells N7.out
   have M8 := Lh (M7.out.extK x8 (fun g hg => by rw [hX8 g hg]; decide) (fun g hg => by rw [show g = w.heap.size by simpa using hg]; exact .inr ⟨Nat.le_refl _, blk_lt N7.out⟩))
   have T8 := Lh (show SRow W8 w4.heap.size (.slice A7 keys.length c7) keys from own_extB T7.out x8 (by
    intro g hg
    have : g = w.heap.size := by simpa using hg
    exact own_low T7.out (by omega)))
   have N8 := Lh n8
   have hsz8 : w4.heap.size ≤ W8.heap.size := Nat.le_trans hs7 x8.size
   clear hX8 x8 n8 s8 M7 N7 T7
   have G0 : ∀ x : Grow [] W8.drew, x.v.cell? ⟨b, 0, none⟩ = some (.map (some mm)) := fun x => x.ext.cell (a := W8.drew) (blk_cell M8.out.blk 0) (by simp)
   go_wp2_with fail
   refine wp_region_segs [] [.inl [0, 1, 2, 3, 4, 5, 6], .inr (.inl 7), .inl [8], .inr (.inl 9), .inr (.inr 10)] (by kernel_rfl) (by kernel_rfl) (fun c a d v w h => by cases d <;> exact h) ?_
   (rw [wpSegs_inl]; simp only [pickOps, mCc, mNn, gSs, gZz]; (repeat (go_big_quiet_step (fail))); (refine wpQuiet_get 38 _ rfl _ rfl w.heap.size 0 38 _ ([.string ⟨tt.toArray⟩, .bool tw, .int .i64 mod, .int .i64 (-1), .int .i64 bs.length, .int .i64 fr, .int .i64 wh, .int .i64 er, .slice A7 keys.length c7, .string ⟨ten.toArray⟩, .bool keep]) rfl (fun W hW => by obtain ⟨y, rfl⟩ := hW; exact y.ext.heap (a := W8.drew) N8.out (by simp)) (by kernel_rfl) Try.underlying38 rfl size38 ?_; simp only [Act.put, sAa, sSs, sZz]); (repeat (go_big_quiet_step (fail))); refine wpQuiet_nil ?_)
   clear G0
   have M9 := Lh (M8.out.ext (Ext.refl W8).drew)
   (rw [wpSegs_grow]; simp only [pickOps, mCc, mNn, gSs, gZz]; go_wp2_with ((at_builtin; refine wpList_copyB rfl _ _ rfl _ bs (RowAt.far HU.out M9.out.xp HFU.out) rfl rfl (by omega) ?_)))
   intro v9 W9 r9 x9
   obtain ⟨A9, c9, rfl⟩ := own_slice r9
   have M10 := Lh (M9.out.ext x9); have R9 := Lh r9; have T9 := Lh (ownsRow_below T8.out ((Ext.refl W8).drew.trans x9)); have hs9 := x9.size
   go_wp2_with fail
   refine ⟨.of x9 _, ?_⟩
   clear x9 r9 M8 N8 T8 M9
   (rw [wpSegs_inl]; simp only [pickOps, mCc, mNn, gSs, gZz]; (repeat (go_big_quiet_step (fail))); refine wpQuiet_nil ?_)
   (rw [wpSegs_grow]; simp only [pickOps, mCc, mNn, gSs, gZz]; go_wp2_with ((refine wpList_boxA 90 rfl _ rfl (verC (⟨tt, tw, mod, (-1), bs.length, fr, wh, er, keys, ten, keep⟩ : MetaP) (.slice A7 keys.length c7) (.slice A9 bs.length c9) false) rfl ?_; intro W10 x10 n10 s10; refine stop_of ?_)))
   unfold Stop
   go_wp2_with fail
   refine ⟨.of x10 _, ?_⟩
   have M11 := Lh (M10.out.ext x10); have R10 := Lh (ownsRow_below R9.out x10); have T10 := Lh (ownsRow_below T9.out x10)
   have N10 := Lh n10
   have hs8 : W8.heap.size ≤ W9.heap.size := hs9
   clear x10 n10 s10 M10 R9 T9 hs9
   obtain ⟨W11, hput, h11, t11⟩ : ∃ W11, (Instr.mapUpdate 82 (.map (some mm)) (.string ⟨o.toArray⟩) (.pointer (some ⟨W9.heap.size, 0, none⟩))).run Try.prog W10 = .ok () W11 ∧ GMap ptE W11 mm (N + 2) (upd (nowF vs gs) o (some W9.heap.size)) ∧ W10.mapTurned W11 mm := by
    rcases M11.out.obs with ⟨e, _⟩ | ⟨m', e, hM'⟩
    ·cases e
    ·obtain rfl := Option.some.inj e
     exact hM'.put (by omega) Try.underlying82 (by omega) W9.heap.size
   have H11 := Lh h11; have T11 := Lh t11
   clear h11 t11
   (rw [wpSegs_last]; simp only [pickOps, mCc, mNn, gSs, gZz]; go_wp2_with (fail))
   rw [wpSegs_nil]
   go_wp2
   go_ret
   exact fin_set (mp := (⟨tt, tw, mod, (-1), bs.length, fr, wh, er, keys, ten, keep⟩ : MetaP)) (g := ⟨W9.heap.size, .slice A7 keys.length c7, .slice A9 bs.length c9, bs.length⟩) HI.out (Nat.le_trans HI.out.lowB hsz6) hsz6 M11.out ho N10.out T10.out (ownsRow_base R10.out (by show _ ≤ W8.heap.size; exact hsz8)) (by show _ ≤ W9.heap.size; omega) ⟨HZ.out.tt, HZ.out.keys, HZ.out.key, HZ.out.ten⟩ hbs (frs_of HI.out hsz6) H11.out T11.out (fun _ _ => HTIE4.out _ _) HR2.out
  | some i =>
   obtain ⟨v, hv, hvo, hvw⟩ := nowI_some hn
   obtain ⟨g, hg, _⟩ := HI.out.vers.get hv
   have hok := M4.out.vers.at_ i v g hv hg
   have hF : nowF vs gs o = some g.b := by simp [nowF, hn, hg]
   have hl := M4.out.obs.look Try.underlying82 (zero88 w4) (k := o) (by omega)
   rw [hF] at hl
   obtain ⟨q, hq⟩ : ∃ q, q = g.b := ⟨_, rfl⟩
   have hbk := hok.blk
   rw [← hq, hvw] at hbk
   have hl' : (Instr.lookup 82 (.map (some mm)) (.string ⟨o.toArray⟩) false).run Try.prog w4 = .ok (.pointer (some ⟨q, 0, none⟩)) w4 := by rw [hq]; exact hl
   have HV := Lh hv; have HG := Lh hg; have HQ := Lh hq; have HBK := Lh hbk; have HN := Lh hn
   clear hl hF hn hv hg hq hok hbk hvo hvw
   go_wp2_with (refine wpList_put 4 rfl _ _ rfl _ 12 90 _ (verC { v.m with hav := g.h } g.kv g.bv true) [.bool true] (.bool true) HBK.out rfl rfl rfl (by simp [verC]) rfl size4 (by simp [putA, verC]) ?_; intro W6 x6 n6 s6; refine stop_of ?_)
   unfold Stop
   have N6 := Lh (x6.heap N4.out (by
    intro hh
    have e : w.heap.size = q := by simpa using hh
    have h1 := kind_cells HBK.out; rw [← e, kind_cells N4.out] at h1; cases h1))
   rw [HQ.out] at x6 n6
   have HM9 : Hid (Mid w own W6 b B (N + 1) (offVs vs o) gs ss sa (some mm) mh4 H4 K4 (nowF vs gs)) := Lh (by unfold offVs; rw [HN.out]; simp only [HV.out]; exact M4.out.went HV.out HG.out n6 x6)
   have k0 := blk_cell HM9.out.blk 0
   simp at k0
   clear x6 n6 s6 M4 HV HG HQ HBK HN k0' hl'
   have k8 := blk_cell N6.out 8
   simp at k8
   have hsz6 : w.heap.size ≤ W6.heap.size := HM9.out.size
   have hmb6 : w.heap.size < W6.heap.size := blk_lt N6.out
   go_wp2_with (at_builtin; refine wpList_copyS rfl _ _ rfl _ keys (TextsAt.far HK.out HM9.out.xp HFK.out) rfl rfl (by have := HZ.out.keys; simp only at this; omega) ?_; intro kv' W7 t7 x7; refine stop_of ?_)
   unfold Stop
   obtain ⟨A7, c7, rfl, _, _, _⟩ := t7.texts
   have M7 := Lh (HM9.out.ext x7); have N7 := Lh (x7.heap N6.out); have T7 := Lh t7
   have hs7 := x7.size
   clear x7 t7 k8
   go_wp2_with (refine wpList_put 36 rfl _ _ rfl _ 8 38 _ ([.string ⟨tt.toArray⟩, .bool tw, .int .i64 mod, .int .i64 (-1), .int .i64 bs.length, .int .i64 fr, .int .i64 wh, .int .i64 er, .slice A7 keys.length c7, .string ⟨ten.toArray⟩, .bool keep]).toArray [.slice A7 keys.length c7] _ N7.out rfl rfl rfl (by simp) rfl size36 (by kernel_rfl) ?_; intro W8 x8 n8 s8; refine stop_of ?_)
   unfold Stop
   have hX8 : ∀ g ∈ [w.heap.size], kindOf W7 g = 38 := fun g hg => by rw [show g = w.heap.size by simpa using hg]; exact kind_cells N7.out
   have M8 := Lh (M7.out.extK x8 (fun g hg => by rw [hX8 g hg]; decide) (fun g hg => by rw [show g = w.heap.size by simpa using hg]; exact .inr ⟨Nat.le_refl _, blk_lt N7.out⟩))
   have T8 := Lh (show SRow W8 W6.heap.size (.slice A7 keys.length c7) keys from own_extB T7.out x8 (by
    intro g hg
    have : g = w.heap.size := by simpa using hg
    exact own_low T7.out (by omega)))
   have N8 := Lh n8
   have hsz8 : W6.heap.size ≤ W8.heap.size := Nat.le_trans hs7 x8.size
   clear hX8 x8 n8 s8 M7 N7 T7
   have G0 : ∀ x : Grow [] W8.drew, x.v.cell? ⟨b, 0, none⟩ = some (.map (some mm)) := fun x => x.ext.cell (a := W8.drew) (blk_cell M8.out.blk 0) (by simp)
   go_wp2_with fail
   refine wp_region_segs [] [.inl [0, 1, 2, 3, 4, 5, 6], .inr (.inl 7), .inl [8], .inr (.inl 9), .inr (.inr 10)] (by kernel_rfl) (by kernel_rfl) (fun c a d v w h => by cases d <;> exact h) ?_
   (rw [wpSegs_inl]; simp only [pickOps, mCc, mNn, gSs, gZz]; (repeat (go_big_quiet_step (fail))); (refine wpQuiet_get 38 _ rfl _ rfl w.heap.size 0 38 _ ([.string ⟨tt.toArray⟩, .bool tw, .int .i64 mod, .int .i64 (-1), .int .i64 bs.length, .int .i64 fr, .int .i64 wh, .int .i64 er, .slice A7 keys.length c7, .string ⟨ten.toArray⟩, .bool keep]) rfl (fun W hW => by obtain ⟨y, rfl⟩ := hW; exact y.ext.heap (a := W8.drew) N8.out (by simp)) (by kernel_rfl) Try.underlying38 rfl size38 ?_; simp only [Act.put, sAa, sSs, sZz]); (repeat (go_big_quiet_step (fail))); refine wpQuiet_nil ?_)
   clear G0
   have M9 := Lh (M8.out.ext (Ext.refl W8).drew)
   (rw [wpSegs_grow]; simp only [pickOps, mCc, mNn, gSs, gZz]; go_wp2_with ((at_builtin; refine wpList_copyB rfl _ _ rfl _ bs (RowAt.far HU.out M9.out.xp HFU.out) rfl rfl (by omega) ?_)))
   intro v9 W9 r9 x9
   obtain ⟨A9, c9, rfl⟩ := own_slice r9
   have M10 := Lh (M9.out.ext x9); have R9 := Lh r9; have T9 := Lh (ownsRow_below T8.out ((Ext.refl W8).drew.trans x9)); have hs9 := x9.size
   go_wp2_with fail
   refine ⟨.of x9 _, ?_⟩
   clear x9 r9 M8 N8 T8 M9
   (rw [wpSegs_inl]; simp only [pickOps, mCc, mNn, gSs, gZz]; (repeat (go_big_quiet_step (fail))); refine wpQuiet_nil ?_)
   (rw [wpSegs_grow]; simp only [pickOps, mCc, mNn, gSs, gZz]; go_wp2_with ((refine wpList_boxA 90 rfl _ rfl (verC (⟨tt, tw, mod, (-1), bs.length, fr, wh, er, keys, ten, keep⟩ : MetaP) (.slice A7 keys.length c7) (.slice A9 bs.length c9) false) rfl ?_; intro W10 x10 n10 s10; refine stop_of ?_)))
   unfold Stop
   go_wp2_with fail
   refine ⟨.of x10 _, ?_⟩
   have M11 := Lh (M10.out.ext x10); have R10 := Lh (ownsRow_below R9.out x10); have T10 := Lh (ownsRow_below T9.out x10)
   have N10 := Lh n10
   have hs8 : W8.heap.size ≤ W9.heap.size := hs9
   clear x10 n10 s10 M10 R9 T9 hs9
   obtain ⟨W11, hput, h11, t11⟩ : ∃ W11, (Instr.mapUpdate 82 (.map (some mm)) (.string ⟨o.toArray⟩) (.pointer (some ⟨W9.heap.size, 0, none⟩))).run Try.prog W10 = .ok () W11 ∧ GMap ptE W11 mm (N + 2) (upd (nowF vs gs) o (some W9.heap.size)) ∧ W10.mapTurned W11 mm := by
    rcases M11.out.obs with ⟨e, _⟩ | ⟨m', e, hM'⟩
    ·cases e
    ·obtain rfl := Option.some.inj e
     exact hM'.put (by omega) Try.underlying82 (by omega) W9.heap.size
   have H11 := Lh h11; have T11 := Lh t11
   clear h11 t11
   (rw [wpSegs_last]; simp only [pickOps, mCc, mNn, gSs, gZz]; go_wp2_with (fail))
   rw [wpSegs_nil]
   go_wp2
   go_ret
   exact fin_set (mp := (⟨tt, tw, mod, (-1), bs.length, fr, wh, er, keys, ten, keep⟩ : MetaP)) (g := ⟨W9.heap.size, .slice A7 keys.length c7, .slice A9 bs.length c9, bs.length⟩) HI.out (Nat.le_trans HI.out.lowB hsz6) hsz6 M11.out ho N10.out T10.out (ownsRow_base R10.out (by show _ ≤ W8.heap.size; exact hsz8)) (by show _ ≤ W9.heap.size; omega) ⟨HZ.out.tt, HZ.out.keys, HZ.out.key, HZ.out.ten⟩ hbs (frs_of HI.out hsz6) H11.out T11.out (fun _ _ => HTIE4.out _ _) HR2.out
 | none =>
  have hbl : b < w4.heap.size := blk_lt M4.out.blk
  go_wp2_with (refine wpList_put 82 rfl _ _ rfl _ 0 84 _ #[.map (some w4.heap.size), .map mh4] [.map (some w4.heap.size)] (.map (some w4.heap.size)) ((ext_alloc1 w4 (.map #[] 0)).heap M4.out.blk) rfl rfl rfl (by simp) rfl size82 (by kernel_rfl) ?_; intro W5 x5 n5 s5; refine stop_of ?_)
  unfold Stop
  have HM5 := Lh (M4.out.made HI.out.lt x5 n5)
  have N5 := Lh (x5.heap ((ext_alloc1 w4 (.map #[] 0)).heap N4.out) (by
   intro hh
   have e : w.heap.size = b := by simpa using hh
   have h1 := kind_cells M4.out.blk; rw [← e, kind_cells N4.out] at h1; cases h1))
  obtain ⟨mm, hmm'⟩ : ∃ mm, mm = w4.heap.size := ⟨_, rfl⟩
  rw [← hmm'] at HM5
  clear x5 n5 s5 M4 hbl k0 hmm'
  have k0' := blk_cell HM5.out.blk 0
  simp at k0'
  cases hn : nowI vs o with
  | none =>
   have hl := HM5.out.obs.look Try.underlying82 (zero88 W5) (k := o) (by omega)
   have hF : nowF vs gs o = none := by simp [nowF, hn]
   rw [hF] at hl
   have HM9 : Hid (Mid w own W5 b B (N + 1) (offVs vs o) gs ss sa (some mm) mh4 H4 K4 (nowF vs gs)) := Lh (by unfold offVs; rw [hn]; exact HM5.out)
   have hl' : (Instr.lookup 82 (.map (some mm)) (.string ⟨o.toArray⟩) false).run Try.prog W5 = .ok (.pointer none) W5 := hl
   clear hl hF hn HM5
   have k8 := blk_cell N5.out 8
   simp at k8
   have hsz6 : w.heap.size ≤ W5.heap.size := HM9.out.size
   have hmb6 : w.heap.size < W5.heap.size := blk_lt N5.out
   go_wp2_with (at_builtin; refine wpList_copyS rfl _ _ rfl _ keys (TextsAt.far HK.out HM9.out.xp HFK.out) rfl rfl (by have := HZ.out.keys; simp only at this; omega) ?_; intro kv' W7 t7 x7; refine stop_of ?_)
   unfold Stop
   obtain ⟨A7, c7, rfl, _, _, _⟩ := t7.texts
   have M7 := Lh (HM9.out.ext x7); have N7 := Lh (x7.heap N5.out); have T7 := Lh t7
   have hs7 := x7.size
   clear x7 t7 k8
   go_wp2_with (refine wpList_put 36 rfl _ _ rfl _ 8 38 _ ([.string ⟨tt.toArray⟩, .bool tw, .int .i64 mod, .int .i64 (-1), .int .i64 bs.length, .int .i64 fr, .int .i64 wh, .int .i64 er, .slice A7 keys.length c7, .string ⟨ten.toArray⟩, .bool keep]).toArray [.slice A7 keys.length c7] _ N7.out rfl rfl rfl (by simp) rfl size36 (by kernel_rfl) ?_; intro W8 x8 n8 s8; refine stop_of ?_)
   unfold Stop
   have hX8 : ∀ g ∈ [w.heap.size], kindOf W7 g = 38 := fun g hg => by rw [show g = w.heap.size by simpa using hg]; exact kind_cells N7.out
   have M8 := Lh (M7.out.extK x8 (fun g hg => by rw [hX8 g hg]; decide) (fun g hg => by rw [show g = w.heap.size by simpa using hg]; exact .inr ⟨Nat.le_refl _, blk_lt N7.out⟩))
   have T8 := Lh (show SRow W8 W5.heap.size (.slice A7 keys.length c7) keys from own_extB T7.out x8 (by
    intro g hg
    have : g = w.heap.size := by simpa using hg
    exact own_low T7.out (by omega)))
   have N8 := Lh n8
   have hsz8 : W5.heap.size ≤ W8.heap.size := Nat.le_trans hs7 x8.size
   clear hX8 x8 n8 s8 M7 N7 T7
   have G0 : ∀ x : Grow [] W8.drew, x.v.cell? ⟨b, 0, none⟩ = some (.map (some mm)) := fun x => x.ext.cell (a := W8.drew) (blk_cell M8.out.blk 0) (by simp)
   go_wp2_with fail
   refine wp_region_segs [] [.inl [0, 1, 2, 3, 4, 5, 6], .inr (.inl 7), .inl [8], .inr (.inl 9), .inr (.inr 10)] (by kernel_rfl) (by kernel_rfl) (fun c a d v w h => by cases d <;> exact h) ?_
   (rw [wpSegs_inl]; simp only [pickOps, mCc, mNn, gSs, gZz]; (repeat (go_big_quiet_step (fail))); (refine wpQuiet_get 38 _ rfl _ rfl w.heap.size 0 38 _ ([.string ⟨tt.toArray⟩, .bool tw, .int .i64 mod, .int .i64 (-1), .int .i64 bs.length, .int .i64 fr, .int .i64 wh, .int .i64 er, .slice A7 keys.length c7, .string ⟨ten.toArray⟩, .bool keep]) rfl (fun W hW => by obtain ⟨y, rfl⟩ := hW; exact y.ext.heap (a := W8.drew) N8.out (by simp)) (by kernel_rfl) Try.underlying38 rfl size38 ?_; simp only [Act.put, sAa, sSs, sZz]); (repeat (go_big_quiet_step (fail))); refine wpQuiet_nil ?_)
   clear G0
   have M9 := Lh (M8.out.ext (Ext.refl W8).drew)
   (rw [wpSegs_grow]; simp only [pickOps, mCc, mNn, gSs, gZz]; go_wp2_with ((at_builtin; refine wpList_copyB rfl _ _ rfl _ bs (RowAt.far HU.out M9.out.xp HFU.out) rfl rfl (by omega) ?_)))
   intro v9 W9 r9 x9
   obtain ⟨A9, c9, rfl⟩ := own_slice r9
   have M10 := Lh (M9.out.ext x9); have R9 := Lh r9; have T9 := Lh (ownsRow_below T8.out ((Ext.refl W8).drew.trans x9)); have hs9 := x9.size
   go_wp2_with fail
   refine ⟨.of x9 _, ?_⟩
   clear x9 r9 M8 N8 T8 M9
   (rw [wpSegs_inl]; simp only [pickOps, mCc, mNn, gSs, gZz]; (repeat (go_big_quiet_step (fail))); refine wpQuiet_nil ?_)
   (rw [wpSegs_grow]; simp only [pickOps, mCc, mNn, gSs, gZz]; go_wp2_with ((refine wpList_boxA 90 rfl _ rfl (verC (⟨tt, tw, mod, (-1), bs.length, fr, wh, er, keys, ten, keep⟩ : MetaP) (.slice A7 keys.length c7) (.slice A9 bs.length c9) false) rfl ?_; intro W10 x10 n10 s10; refine stop_of ?_)))
   unfold Stop
   go_wp2_with fail
   refine ⟨.of x10 _, ?_⟩
   have M11 := Lh (M10.out.ext x10); have R10 := Lh (ownsRow_below R9.out x10); have T10 := Lh (ownsRow_below T9.out x10)
   have N10 := Lh n10
   have hs8 : W8.heap.size ≤ W9.heap.size := hs9
   clear x10 n10 s10 M10 R9 T9 hs9
   obtain ⟨W11, hput, h11, t11⟩ : ∃ W11, (Instr.mapUpdate 82 (.map (some mm)) (.string ⟨o.toArray⟩) (.pointer (some ⟨W9.heap.size, 0, none⟩))).run Try.prog W10 = .ok () W11 ∧ GMap ptE W11 mm (N + 2) (upd (nowF vs gs) o (some W9.heap.size)) ∧ W10.mapTurned W11 mm := by
    rcases M11.out.obs with ⟨e, _⟩ | ⟨m', e, hM'⟩
    ·cases e
    ·obtain rfl := Option.some.inj e
     exact hM'.put (by omega) Try.underlying82 (by omega) W9.heap.size
   have H11 := Lh h11; have T11 := Lh t11
   clear h11 t11
   (rw [wpSegs_last]; simp only [pickOps, mCc, mNn, gSs, gZz]; go_wp2_with (fail))
   rw [wpSegs_nil]
   go_wp2
   go_ret
   exact fin_set (mp := (⟨tt, tw, mod, (-1), bs.length, fr, wh, er, keys, ten, keep⟩ : MetaP)) (g := ⟨W9.heap.size, .slice A7 keys.length c7, .slice A9 bs.length c9, bs.length⟩) HI.out (Nat.le_trans HI.out.lowB hsz6) hsz6 M11.out ho N10.out T10.out (ownsRow_base R10.out (by show _ ≤ W8.heap.size; exact hsz8)) (by show _ ≤ W9.heap.size; omega) ⟨HZ.out.tt, HZ.out.keys, HZ.out.key, HZ.out.ten⟩ hbs (frs_of HI.out hsz6) H11.out T11.out (fun _ _ => HTIE4.out _ _) HR2.out
  | some i =>
   obtain ⟨v, hv, hvo, hvw⟩ := nowI_some hn
   obtain ⟨g, hg, _⟩ := HI.out.vers.get hv
   have hok := HM5.out.vers.at_ i v g hv hg
   have hF : nowF vs gs o = some g.b := by simp [nowF, hn, hg]
   have hl := HM5.out.obs.look Try.underlying82 (zero88 W5) (k := o) (by omega)
   rw [hF] at hl
   obtain ⟨q, hq⟩ : ∃ q, q = g.b := ⟨_, rfl⟩
   have hbk := hok.blk
   rw [← hq, hvw] at hbk
   have hl' : (Instr.lookup 82 (.map (some mm)) (.string ⟨o.toArray⟩) false).run Try.prog W5 = .ok (.pointer (some ⟨q, 0, none⟩)) W5 := by rw [hq]; exact hl
   have HV := Lh hv; have HG := Lh hg; have HQ := Lh hq; have HBK := Lh hbk; have HN := Lh hn
   clear hl hF hn hv hg hq hok hbk hvo hvw
   go_wp2_with (refine wpList_put 4 rfl _ _ rfl _ 12 90 _ (verC { v.m with hav := g.h } g.kv g.bv true) [.bool true] (.bool true) HBK.out rfl rfl rfl (by simp [verC]) rfl size4 (by simp [putA, verC]) ?_; intro W6 x6 n6 s6; refine stop_of ?_)
   unfold Stop
   have N6 := Lh (x6.heap N5.out (by
    intro hh
    have e : w.heap.size = q := by simpa using hh
    have h1 := kind_cells HBK.out; rw [← e, kind_cells N5.out] at h1; cases h1))
   rw [HQ.out] at x6 n6
   have HM9 : Hid (Mid w own W6 b B (N + 1) (offVs vs o) gs ss sa (some mm) mh4 H4 K4 (nowF vs gs)) := Lh (by unfold offVs; rw [HN.out]; simp only [HV.out]; exact HM5.out.went HV.out HG.out n6 x6)
   have k0 := blk_cell HM9.out.blk 0
   simp at k0
   clear x6 n6 s6 HM5 HV HG HQ HBK HN k0' hl'
   have k8 := blk_cell N6.out 8
   simp at k8
   have hsz6 : w.heap.size ≤ W6.heap.size := HM9.out.size
   have hmb6 : w.heap.size < W6.heap.size := blk_lt N6.out
   go_wp2_with (at_builtin; refine wpList_copyS rfl _ _ rfl _ keys (TextsAt.far HK.out HM9.out.xp HFK.out) rfl rfl (by have := HZ.out.keys; simp only at this; omega) ?_; intro kv' W7 t7 x7; refine stop_of ?_)
   unfold Stop
   obtain ⟨A7, c7, rfl, _, _, _⟩ := t7.texts
   have M7 := Lh (HM9.out.ext x7); have N7 := Lh (x7.heap N6.out); have T7 := Lh t7
   have hs7 := x7.size
   clear x7 t7 k8
   go_wp2_with (refine wpList_put 36 rfl _ _ rfl _ 8 38 _ ([.string ⟨tt.toArray⟩, .bool tw, .int .i64 mod, .int .i64 (-1), .int .i64 bs.length, .int .i64 fr, .int .i64 wh, .int .i64 er, .slice A7 keys.length c7, .string ⟨ten.toArray⟩, .bool keep]).toArray [.slice A7 keys.length c7] _ N7.out rfl rfl rfl (by simp) rfl size36 (by kernel_rfl) ?_; intro W8 x8 n8 s8; refine stop_of ?_)
   unfold Stop
   have hX8 : ∀ g ∈ [w.heap.size], kindOf W7 g = 38 := fun g hg => by rw [show g = w.heap.size by simpa using hg]; exact kind_cells N7.out
   have M8 := Lh (M7.out.extK x8 (fun g hg => by rw [hX8 g hg]; decide) (fun g hg => by rw [show g = w.heap.size by simpa using hg]; exact .inr ⟨Nat.le_refl _, blk_lt N7.out⟩))
   have T8 := Lh (show SRow W8 W6.heap.size (.slice A7 keys.length c7) keys from own_extB T7.out x8 (by
    intro g hg
    have : g = w.heap.size := by simpa using hg
    exact own_low T7.out (by omega)))
   have N8 := Lh n8
   have hsz8 : W6.heap.size ≤ W8.heap.size := Nat.le_trans hs7 x8.size
   clear hX8 x8 n8 s8 M7 N7 T7
   have G0 : ∀ x : Grow [] W8.drew, x.v.cell? ⟨b, 0, none⟩ = some (.map (some mm)) := fun x => x.ext.cell (a := W8.drew) (blk_cell M8.out.blk 0) (by simp)
   go_wp2_with fail
   refine wp_region_segs [] [.inl [0, 1, 2, 3, 4, 5, 6], .inr (.inl 7), .inl [8], .inr (.inl 9), .inr (.inr 10)] (by kernel_rfl) (by kernel_rfl) (fun c a d v w h => by cases d <;> exact h) ?_
   (rw [wpSegs_inl]; simp only [pickOps, mCc, mNn, gSs, gZz]; (repeat (go_big_quiet_step (fail))); (refine wpQuiet_get 38 _ rfl _ rfl w.heap.size 0 38 _ ([.string ⟨tt.toArray⟩, .bool tw, .int .i64 mod, .int .i64 (-1), .int .i64 bs.length, .int .i64 fr, .int .i64 wh, .int .i64 er, .slice A7 keys.length c7, .string ⟨ten.toArray⟩, .bool keep]) rfl (fun W hW => by obtain ⟨y, rfl⟩ := hW; exact y.ext.heap (a := W8.drew) N8.out (by simp)) (by kernel_rfl) Try.underlying38 rfl size38 ?_; simp only [Act.put, sAa, sSs, sZz]); (repeat (go_big_quiet_step (fail))); refine wpQuiet_nil ?_)
   clear G0
   have M9 := Lh (M8.out.ext (Ext.refl W8).drew)
   (rw [wpSegs_grow]; simp only [pickOps, mCc, mNn, gSs, gZz]; go_wp2_with ((at_builtin; refine wpList_copyB rfl _ _ rfl _ bs (RowAt.far HU.out M9.out.xp HFU.out) rfl rfl (by omega) ?_)))
   intro v9 W9 r9 x9
   obtain ⟨A9, c9, rfl⟩ := own_slice r9
   have M10 := Lh (M9.out.ext x9); have R9 := Lh r9; have T9 := Lh (ownsRow_below T8.out ((Ext.refl W8).drew.trans x9)); have hs9 := x9.size
   go_wp2_with fail
   refine ⟨.of x9 _, ?_⟩
   clear x9 r9 M8 N8 T8 M9
   (rw [wpSegs_inl]; simp only [pickOps, mCc, mNn, gSs, gZz]; (repeat (go_big_quiet_step (fail))); refine wpQuiet_nil ?_)
   (rw [wpSegs_grow]; simp only [pickOps, mCc, mNn, gSs, gZz]; go_wp2_with ((refine wpList_boxA 90 rfl _ rfl (verC (⟨tt, tw, mod, (-1), bs.length, fr, wh, er, keys, ten, keep⟩ : MetaP) (.slice A7 keys.length c7) (.slice A9 bs.length c9) false) rfl ?_; intro W10 x10 n10 s10; refine stop_of ?_)))
   unfold Stop
   go_wp2_with fail
   refine ⟨.of x10 _, ?_⟩
   have M11 := Lh (M10.out.ext x10); have R10 := Lh (ownsRow_below R9.out x10); have T10 := Lh (ownsRow_below T9.out x10)
   have N10 := Lh n10
   have hs8 : W8.heap.size ≤ W9.heap.size := hs9
   clear x10 n10 s10 M10 R9 T9 hs9
   obtain ⟨W11, hput, h11, t11⟩ : ∃ W11, (Instr.mapUpdate 82 (.map (some mm)) (.string ⟨o.toArray⟩) (.pointer (some ⟨W9.heap.size, 0, none⟩))).run Try.prog W10 = .ok () W11 ∧ GMap ptE W11 mm (N + 2) (upd (nowF vs gs) o (some W9.heap.size)) ∧ W10.mapTurned W11 mm := by
    rcases M11.out.obs with ⟨e, _⟩ | ⟨m', e, hM'⟩
    ·cases e
    ·obtain rfl := Option.some.inj e
     exact hM'.put (by omega) Try.underlying82 (by omega) W9.heap.size
   have H11 := Lh h11; have T11 := Lh t11
   clear h11 t11
   (rw [wpSegs_last]; simp only [pickOps, mCc, mNn, gSs, gZz]; go_wp2_with (fail))
   rw [wpSegs_nil]
   go_wp2
   go_ret
   exact fin_set (mp := (⟨tt, tw, mod, (-1), bs.length, fr, wh, er, keys, ten, keep⟩ : MetaP)) (g := ⟨W9.heap.size, .slice A7 keys.length c7, .slice A9 bs.length c9, bs.length⟩) HI.out (Nat.le_trans HI.out.lowB hsz6) hsz6 M11.out ho N10.out T10.out (ownsRow_base R10.out (by show _ ≤ W8.heap.size; exact hsz8)) (by show _ ≤ W9.heap.size; omega) ⟨HZ.out.tt, HZ.out.keys, HZ.out.key, HZ.out.ten⟩ hbs (frs_of HI.out hsz6) H11.out T11.out (fun _ _ => HTIE4.out _ _) HR2.out
end
end Go.Proofs.Ytpangoddbfiagaa
namespace Go.Proofs.Ytpangoddbfiagaa
open Go.RowKit Go.Maps Go.ChangeMaps
set_option linter.unusedVariables false
set_option linter.unusedSimpArgs false
section
variable {w w' : World} {b B N : Nat} {own : Nat → Prop} {vs : List Vn} {ss : List Sn} {sa : List Nat} {gs : List Vg} {mo mh : Option Nat} {H : Bs → Option Nat} {K : Bs → Bs → Option Bool}
set_option maxRecDepth 100000 in
set_option maxHeartbeats 8000000 in
theorem set_B_new (hI : OIx w b B N own vs ss sa gs mo mh H K) (hN : N ≤ 800000) {o bs : Bs} {tt : Bs} {tw : Bool} {mod hav fr wh er : Int} {keys : List Bs} {ten : Bs} {keep : Bool} {kv u : Value} (ho : o.length ≤ 1000) (hz : MetaZ (⟨tt, tw, mod, bs.length, hav, fr, wh, er, keys, ten, keep⟩ : MetaP)) (hk : TextsAt w kv keys) (hu : BytesAt w u bs) (hbs : bs.length ≤ 1000) (hfk : FarV own kv) (hfu : FarV own u) (hb : setOk o (⟨tt, tw, mod, bs.length, hav, fr, wh, er, keys, ten, keep⟩ : MetaP) bs = true) (hnt : noTag (⟨tt, tw, mod, bs.length, hav, fr, wh, er, keys, ten, keep⟩ : MetaP) = false) (hhd : hadF H K o tt = none) : Calls Try.prog 13 #[.pointer (some ⟨b, 0, none⟩), .string ⟨o.toArray⟩, .agg ([.string ⟨tt.toArray⟩, .bool tw, .int .i64 mod, .int .i64 bs.length, .int .i64 hav, .int .i64 fr, .int .i64 wh, .int .i64 er, kv, .string ⟨ten.toArray⟩, .bool keep]).toArray, u] w fun e w' => e = .returned (.int .i64 (setA vs o (⟨tt, tw, mod, bs.length, hav, fr, wh, er, keys, ten, keep⟩ : MetaP) bs).1) ∧ OI w' b B (N + 2) (grownOwn own w w') (setA vs o (⟨tt, tw, mod, bs.length, hav, fr, wh, er, keys, ten, keep⟩ : MetaP) bs).2 ss sa ∧ ExtP own w w' := by
 have HOBJ := Lh fun W => obj_any o W (by omega)
 have HZ := Lh hz; have HK := Lh hk; have HU := Lh hu; have HFK := Lh hfk; have HFU := Lh hfu; have HI := Lh hI
 obtain ⟨A, c, rfl, hc0, _, _⟩ := hu
 obtain ⟨KA, KC, rfl, _, _, _⟩ := hk
 rw [List.length_map] at HU HFU hc0 ⊢
 obtain ⟨y1, hy1⟩ : ∃ y, y = objB o := ⟨_, rfl⟩
 rw [← hy1] at HOBJ
 obtain ⟨y2, hy2⟩ : ∃ y, y = metaB (⟨tt, tw, mod, bs.length, bs.length, fr, wh, er, keys, ten, keep⟩ : MetaP) := ⟨_, rfl⟩
 have HMR : Hid (∀ W, Ext w W → Calls Try.prog 36 #[.agg ([.string ⟨tt.toArray⟩, .bool tw, .int .i64 mod, .int .i64 bs.length, .int .i64 bs.length, .int .i64 fr, .int .i64 wh, .int .i64 er, .slice KA keys.length KC, .string ⟨ten.toArray⟩, .bool keep]).toArray] W fun e w' => e = .returned (.bool y2) ∧ Ext W w') := Lh fun W x => by rw [hy2]; exact meta_right _ _ W ⟨HZ.out.tt, HZ.out.keys, HZ.out.key, HZ.out.ten⟩ (HK.out.ext x)
 obtain ⟨r, hr⟩ : ∃ r, r = setA vs o (⟨tt, tw, mod, bs.length, hav, fr, wh, er, keys, ten, keep⟩ : MetaP) bs := ⟨_, rfl⟩
 rw [← hr]
 have HR : Hid (r = if (y1 && true && y2) = false then (1, vs) else if refused vs o (⟨tt, tw, mod, bs.length, hav, fr, wh, er, keys, ten, keep⟩ : MetaP) = true then (12, vs) else (0, offVs vs o ++ [⟨o, (⟨tt, tw, mod, bs.length, bs.length, fr, wh, er, keys, ten, keep⟩ : MetaP), bs, false⟩])) := Lh (by rw [hr, hy1, hy2]; unfold setA setOk newV; simp)
 have hyy : y1 = true ∧ y2 = true := by rw [hy1, hy2]; unfold setOk at hb; simpa using hb
 obtain ⟨rfl, rfl⟩ := hyy
 have HNT : Hid ((!(tt == [] && !tw)) = true) := Lh (by have h := hnt; unfold noTag at h; simp only at h; rw [h]; rfl)
 have hadE : ∀ o' t', hadF H K o' t' = hadA vs o' t' := fun o' t' => HI.out.maps.tie o' t'
 have HHD := Lh hhd
 have HREF : refused vs o (⟨tt, tw, mod, bs.length, hav, fr, wh, er, keys, ten, keep⟩ : MetaP) = false := by unfold refused; rw [hnt]; simp only; rw [← hadE, hhd]; simp
 have HR2 : Hid (r = (0, offVs vs o ++ [⟨o, (⟨tt, tw, mod, bs.length, bs.length, fr, wh, er, keys, ten, keep⟩ : MetaP), bs, false⟩])) := Lh (by rw [HR.out, HREF]; simp)
 have HTIE : Hid (∀ o' t', (if o' = o ∧ t' = tt then some (!tw) else hadF H K o' t') = hadA (offVs vs o ++ [⟨o, (⟨tt, tw, mod, bs.length, bs.length, fr, wh, er, keys, ten, keep⟩ : MetaP), bs, false⟩]) o' t') := Lh fun o' t' => by
  have h := tie_some (vs := vs) o (⟨tt, tw, mod, bs.length, hav, fr, wh, er, keys, ten, keep⟩ : MetaP) bs hnt HREF o' t'
  rw [hadE]
  exact h.symm
 clear hz hc0 hI hy1 hy2 hfk hfu hr HR hb hnt HREF hhd hadE
 have q82 := q82; have hmm := @run_makeMap Try.prog
 go_enter Try.func13, Try.ntmps13
 go_wp2_with (refine wpList_boxA 38 rfl _ rfl ([.string ⟨tt.toArray⟩, .bool tw, .int .i64 mod, .int .i64 bs.length, .int .i64 hav, .int .i64 fr, .int .i64 wh, .int .i64 er, .slice KA keys.length KC, .string ⟨ten.toArray⟩, .bool keep]).toArray rfl ?_; intro W0 x0 n0 s0; refine stop_of ?_)
 unfold Stop
 have X0 := Lh x0; have N0 := Lh n0
 have k3 := blk_cell n0 3
 simp at k3
 clear x0 n0 s0
 go_wp2_with (go_at_call 35; refine (HOBJ.out _).mono ?_; rintro e w1 ⟨rfl, rfl⟩; refine stop_of ?_)
 unfold Stop
 go_wp2_with (refine wpList_put 2 rfl _ _ rfl _ 4 38 _ ([.string ⟨tt.toArray⟩, .bool tw, .int .i64 mod, .int .i64 bs.length, .int .i64 bs.length, .int .i64 fr, .int .i64 wh, .int .i64 er, .slice KA keys.length KC, .string ⟨ten.toArray⟩, .bool keep]).toArray [.int .i64 bs.length] (.int .i64 bs.length) N0.out rfl rfl rfl (by simp) rfl size2 (by kernel_rfl) ?_; intro W1 x1 n1 s1; refine stop_of ?_)
 unfold Stop
 have X1 := Lh (X0.out.thenB x1 (by simp)); have N1 := Lh n1
 clear x1 n1 s1 X0 N0 k3
 go_wp2_with (first | (refine wpList_get 38 _ rfl _ rfl _ 0 38 _ ([.string ⟨tt.toArray⟩, .bool tw, .int .i64 mod, .int .i64 bs.length, .int .i64 bs.length, .int .i64 fr, .int .i64 wh, .int .i64 er, .slice KA keys.length KC, .string ⟨ten.toArray⟩, .bool keep]) N1.out rfl (by kernel_rfl) Try.underlying38 rfl size38 ?_) | (go_at_call 36; refine (HMR.out _ X1.out).mono ?_; rintro e w2 ⟨rfl, x2⟩; refine stop_of ?_))
 unfold Stop
 have X2 := Lh (X1.out.trans x2); have N2 := Lh (x2.heap N1.out)
 clear x2 X1 N1
 have hq := fun W => q27 W tt tw
 rw [HNT.out] at hq
 go_wp2_with (refine wpList_get 27 _ rfl _ rfl _ 0 38 _ [.string ⟨tt.toArray⟩, .bool tw] N2.out rfl (by kernel_rfl) Try.underlying27 rfl size27 ?_; refine stop_of ?_)
 unfold Stop
 go_wp2_with fail
 have M2 := Lh (HI.out.mid.ext X2.out)
 have G1 : ∀ x : Grow [] w2, x.v.cell? ⟨b, 1, none⟩ = some (.map mh) := fun x => x.ext.cell (blk_cell M2.out.blk 1) (by simp)
 have G2 : ∀ x : Grow [] w2, x.v.cell? ⟨w.heap.size, 0, none⟩ = some (.string ⟨tt.toArray⟩) := fun x => x.ext.cell (blk_cell N2.out 0) (by simp)
 have GL : ∀ x : Grow [] w2, (Instr.lookup 78 (.map mh) (.string ⟨o.toArray⟩) false).run Try.prog x.v = .ok (.map (H o)) x.v := fun x => M2.out.had.look_grow x (by omega)
 have GL2 : ∀ x : Grow [] w2, (Instr.lookup 79 (.map (H o)) (.string ⟨tt.toArray⟩) true).run Try.prog x.v = .ok (.tuple #[.bool false, .bool false]) x.v := fun x => by
  have h := (M2.out.ext (x.ext.ext)).had.look2 (o := o) (t := tt) (by have := HZ.out.tt; simp only at this; omega)
  rw [HHD.out] at h
  exact h
 (refine wp_region_grow (by kernel_rfl) (by kernel_rfl) ?_; (repeat (go_big_quiet_step (fail))); refine wpQuiet_nil ?_)
 clear G1 G2 GL GL2
 intro w3 hx3
 have X3 := Lh (X2.out.trans hx3); have N3 := Lh (hx3.heap N2.out)
 have M3 := Lh (M2.out.ext hx3)
 clear hx3 X2 N2 M2
 have k1 := blk_cell N3.out 1
 simp at k1
 go_wp2_with (first | (refine wpList_get 27 _ rfl _ rfl _ 0 38 _ [.string ⟨tt.toArray⟩, .bool tw] N3.out rfl (by kernel_rfl) Try.underlying27 rfl size27 ?_) | (go_at_call 37; refine (tell_any M3.out.blk M3.out.had (by omega) tw (by omega) (by have := HZ.out.tt; simp only at this; omega) (.inl HI.out.ob) (M3.out.lt HI.out.lt)).mono ?_; rintro e w4 ⟨rfl, tr4⟩; refine stop_of ?_))
 unfold Stop
 obtain ⟨mh4, H4, K4, hm4, hf4⟩ := M3.out.tell HI.out.lt tr4
 have M4 := Lh hm4
 have N4 := Lh (tr4.ext.heap N3.out (by
  intro hh
  have h1 := kind_cells N3.out
  rcases tellX M3.out hh with e | e
  ·rw [e] at h1; cases h1
  ·rw [e] at h1; cases h1))
 have HTIE4 := Lh fun o' t' => (hf4 o' t').trans (HTIE.out o' t')
 clear tr4 hm4 hf4 M3 N3 X3 k1
 have k0 := blk_cell M4.out.blk 0
 simp at k0
 cases mo with
 | some mm =>
  have k0' := blk_cell M4.out.blk 0
  simp at k0'
  cases hn : nowI vs o with
  | none =>
   have hl := M4.out.obs.look Try.underlying82 (zero88 w4) (k := o) (by omega)
   have hF : nowF vs gs o = none := by simp [nowF, hn]
   rw [hF] at hl
   have HM9 : Hid (Mid w own w4 b B (N + 1) (offVs vs o) gs ss sa (some mm) mh4 H4 K4 (nowF vs gs)) := Lh (by unfold offVs; rw [hn]; exact M4.out)
   have hl' : (Instr.lookup 82 (.map (some mm)) (.string ⟨o.toArray⟩) false).run Try.prog w4 = .ok (.pointer none) w4 := hl
   clear hl hF hn M4
   have k8 := blk_cell N4.out 8
   simp at k8
   have hsz6 : w.heap.size ≤ w4.heap.size := HM9.out.size
   have hmb6 : w.heap.size < w4.heap.size := blk_lt N4.out
   go_wp2_with (at_builtin; refine wpList_copyS rfl _ _ rfl _ keys (TextsAt.far HK.out HM9.out.xp HFK.out) rfl rfl (by have := HZ.out.keys; simp only at this; omega) ?_; intro kv' W7 t7 x7; refine stop_of ?_)
   unfold Stop
   obtain ⟨A7, c7, rfl, _, _, _⟩ := t7.texts
   have M7 := Lh (HM9.out.ext x7); have N7 := Lh (x7.heap N4.out); have T7 := Lh t7
   have hs7 := x7.size
   clear x7 t7 k8
   go_wp2_with (refine wpList_put 36 rfl _ _ rfl _ 8 38 _ ([.string ⟨tt.toArray⟩, .bool tw, .int .i64 mod, .int .i64 bs.length, .int .i64 bs.length, .int .i64 fr, .int .i64 wh, .int .i64 er, .slice A7 keys.length c7, .string ⟨ten.toArray⟩, .bool keep]).toArray [.slice A7 keys.length c7] _ N7.out rfl rfl rfl (by simp) rfl size36 (by kernel_rfl) ?_; intro W8 x8 n8 s8; refine stop_of ?_)
   unfold Stop
   have hX8 : ∀ g ∈ [w.heap.size], kindOf W7 g = 38 := fun g hg => by rw [show g = w.heap.size by simpa using hg]; exact kind_cells N7.out
   have M8 := Lh (M7.out.extK x8 (fun g hg => by rw [hX8 g hg]; decide) (fun g hg => by rw [show g = w.heap.size by simpa using hg]; exact .inr ⟨Nat.le_refl _, blk_lt N7.out⟩))
   have T8 := Lh (show SRow W8 w4.heap.size (.slice A7 keys.length c7) keys from own_extB T7.out x8 (by
    intro g hg
    have : g = w.heap.size := by simpa using hg
    exact own_low T7.out (by omega)))
   have N8 := Lh n8
   have hsz8 : w4.heap.size ≤ W8.heap.size := Nat.le_trans hs7 x8.size
   clear hX8 x8 n8 s8 M7 N7 T7
   have G0 : ∀ x : Grow [] W8.drew, x.v.cell? ⟨b, 0, none⟩ = some (.map (some mm)) := fun x => x.ext.cell (a := W8.drew) (blk_cell M8.out.blk 0) (by simp)
   go_wp2_with fail
   refine wp_region_segs [] [.inl [0, 1, 2, 3, 4, 5, 6], .inr (.inl 7), .inl [8], .inr (.inl 9), .inr (.inr 10)] (by kernel_rfl) (by kernel_rfl) (fun c a d v w h => by cases d <;> exact h) ?_
   (rw [wpSegs_inl]; simp only [pickOps, mCc, mNn, gSs, gZz]; (repeat (go_big_quiet_step (fail))); (refine wpQuiet_get 38 _ rfl _ rfl w.heap.size 0 38 _ ([.string ⟨tt.toArray⟩, .bool tw, .int .i64 mod, .int .i64 bs.length, .int .i64 bs.length, .int .i64 fr, .int .i64 wh, .int .i64 er, .slice A7 keys.length c7, .string ⟨ten.toArray⟩, .bool keep]) rfl (fun W hW => by obtain ⟨y, rfl⟩ := hW; exact y.ext.heap (a := W8.drew) N8.out (by simp)) (by kernel_rfl) Try.underlying38 rfl size38 ?_; simp only [Act.put, sAa, sSs, sZz]); (repeat (go_big_quiet_step (fail))); refine wpQuiet_nil ?_)
   clear G0
   have M9 := Lh (M8.out.ext (Ext.refl W8).drew)
   (rw [wpSegs_grow]; simp only [pickOps, mCc, mNn, gSs, gZz]; go_wp2_with ((at_builtin; refine wpList_copyB rfl _ _ rfl _ bs (RowAt.far HU.out M9.out.xp HFU.out) rfl rfl (by omega) ?_)))
   intro v9 W9 r9 x9
   obtain ⟨A9, c9, rfl⟩ := own_slice r9
   have M10 := Lh (M9.out.ext x9); have R9 := Lh r9; have T9 := Lh (ownsRow_below T8.out ((Ext.refl W8).drew.trans x9)); have hs9 := x9.size
   go_wp2_with fail
   refine ⟨.of x9 _, ?_⟩
   clear x9 r9 M8 N8 T8 M9
   (rw [wpSegs_inl]; simp only [pickOps, mCc, mNn, gSs, gZz]; (repeat (go_big_quiet_step (fail))); refine wpQuiet_nil ?_)
   (rw [wpSegs_grow]; simp only [pickOps, mCc, mNn, gSs, gZz]; go_wp2_with ((refine wpList_boxA 90 rfl _ rfl (verC (⟨tt, tw, mod, bs.length, bs.length, fr, wh, er, keys, ten, keep⟩ : MetaP) (.slice A7 keys.length c7) (.slice A9 bs.length c9) false) rfl ?_; intro W10 x10 n10 s10; refine stop_of ?_)))
   unfold Stop
   go_wp2_with fail
   refine ⟨.of x10 _, ?_⟩
   have M11 := Lh (M10.out.ext x10); have R10 := Lh (ownsRow_below R9.out x10); have T10 := Lh (ownsRow_below T9.out x10)
   have N10 := Lh n10
   have hs8 : W8.heap.size ≤ W9.heap.size := hs9
   clear x10 n10 s10 M10 R9 T9 hs9
   obtain ⟨W11, hput, h11, t11⟩ : ∃ W11, (Instr.mapUpdate 82 (.map (some mm)) (.string ⟨o.toArray⟩) (.pointer (some ⟨W9.heap.size, 0, none⟩))).run Try.prog W10 = .ok () W11 ∧ GMap ptE W11 mm (N + 2) (upd (nowF vs gs) o (some W9.heap.size)) ∧ W10.mapTurned W11 mm := by
    rcases M11.out.obs with ⟨e, _⟩ | ⟨m', e, hM'⟩
    ·cases e
    ·obtain rfl := Option.some.inj e
     exact hM'.put (by omega) Try.underlying82 (by omega) W9.heap.size
   have H11 := Lh h11; have T11 := Lh t11
   clear h11 t11
   (rw [wpSegs_last]; simp only [pickOps, mCc, mNn, gSs, gZz]; go_wp2_with (fail))
   rw [wpSegs_nil]
   go_wp2
   go_ret
   exact fin_set (mp := (⟨tt, tw, mod, bs.length, bs.length, fr, wh, er, keys, ten, keep⟩ : MetaP)) (g := ⟨W9.heap.size, .slice A7 keys.length c7, .slice A9 bs.length c9, bs.length⟩) HI.out (Nat.le_trans HI.out.lowB hsz6) hsz6 M11.out ho N10.out T10.out (ownsRow_base R10.out (by show _ ≤ W8.heap.size; exact hsz8)) (by show _ ≤ W9.heap.size; omega) ⟨HZ.out.tt, HZ.out.keys, HZ.out.key, HZ.out.ten⟩ hbs (frs_of HI.out hsz6) H11.out T11.out (fun _ _ => HTIE4.out _ _) HR2.out
  | some i =>
   obtain ⟨v, hv, hvo, hvw⟩ := nowI_some hn
   obtain ⟨g, hg, _⟩ := HI.out.vers.get hv
   have hok := M4.out.vers.at_ i v g hv hg
   have hF : nowF vs gs o = some g.b := by simp [nowF, hn, hg]
   have hl := M4.out.obs.look Try.underlying82 (zero88 w4) (k := o) (by omega)
   rw [hF] at hl
   obtain ⟨q, hq⟩ : ∃ q, q = g.b := ⟨_, rfl⟩
   have hbk := hok.blk
   rw [← hq, hvw] at hbk
   have hl' : (Instr.lookup 82 (.map (some mm)) (.string ⟨o.toArray⟩) false).run Try.prog w4 = .ok (.pointer (some ⟨q, 0, none⟩)) w4 := by rw [hq]; exact hl
   have HV := Lh hv; have HG := Lh hg; have HQ := Lh hq; have HBK := Lh hbk; have HN := Lh hn
   clear hl hF hn hv hg hq hok hbk hvo hvw
   go_wp2_with (refine wpList_put 4 rfl _ _ rfl _ 12 90 _ (verC { v.m with hav := g.h } g.kv g.bv true) [.bool true] (.bool true) HBK.out rfl rfl rfl (by simp [verC]) rfl size4 (by simp [putA, verC]) ?_; intro W6 x6 n6 s6; refine stop_of ?_)
   unfold Stop
   have N6 := Lh (x6.heap N4.out (by
    intro hh
    have e : w.heap.size = q := by simpa using hh
    have h1 := kind_cells HBK.out; rw [← e, kind_cells N4.out] at h1; cases h1))
   rw [HQ.out] at x6 n6
   have HM9 : Hid (Mid w own W6 b B (N + 1) (offVs vs o) gs ss sa (some mm) mh4 H4 K4 (nowF vs gs)) := Lh (by unfold offVs; rw [HN.out]; simp only [HV.out]; exact M4.out.went HV.out HG.out n6 x6)
   have k0 := blk_cell HM9.out.blk 0
   simp at k0
   clear x6 n6 s6 M4 HV HG HQ HBK HN k0' hl'
   have k8 := blk_cell N6.out 8
   simp at k8
   have hsz6 : w.heap.size ≤ W6.heap.size := HM9.out.size
   have hmb6 : w.heap.size < W6.heap.size := blk_lt N6.out
   go_wp2_with (at_builtin; refine wpList_copyS rfl _ _ rfl _ keys (TextsAt.far HK.out HM9.out.xp HFK.out) rfl rfl (by have := HZ.out.keys; simp only at this; omega) ?_; intro kv' W7 t7 x7; refine stop_of ?_)
   unfold Stop
   obtain ⟨A7, c7, rfl, _, _, _⟩ := t7.texts
   have M7 := Lh (HM9.out.ext x7); have N7 := Lh (x7.heap N6.out); have T7 := Lh t7
   have hs7 := x7.size
   clear x7 t7 k8
   go_wp2_with (refine wpList_put 36 rfl _ _ rfl _ 8 38 _ ([.string ⟨tt.toArray⟩, .bool tw, .int .i64 mod, .int .i64 bs.length, .int .i64 bs.length, .int .i64 fr, .int .i64 wh, .int .i64 er, .slice A7 keys.length c7, .string ⟨ten.toArray⟩, .bool keep]).toArray [.slice A7 keys.length c7] _ N7.out rfl rfl rfl (by simp) rfl size36 (by kernel_rfl) ?_; intro W8 x8 n8 s8; refine stop_of ?_)
   unfold Stop
   have hX8 : ∀ g ∈ [w.heap.size], kindOf W7 g = 38 := fun g hg => by rw [show g = w.heap.size by simpa using hg]; exact kind_cells N7.out
   have M8 := Lh (M7.out.extK x8 (fun g hg => by rw [hX8 g hg]; decide) (fun g hg => by rw [show g = w.heap.size by simpa using hg]; exact .inr ⟨Nat.le_refl _, blk_lt N7.out⟩))
   have T8 := Lh (show SRow W8 W6.heap.size (.slice A7 keys.length c7) keys from own_extB T7.out x8 (by
    intro g hg
    have : g = w.heap.size := by simpa using hg
    exact own_low T7.out (by omega)))
   have N8 := Lh n8
   have hsz8 : W6.heap.size ≤ W8.heap.size := Nat.le_trans hs7 x8.size
   clear hX8 x8 n8 s8 M7 N7 T7
   have G0 : ∀ x : Grow [] W8.drew, x.v.cell? ⟨b, 0, none⟩ = some (.map (some mm)) := fun x => x.ext.cell (a := W8.drew) (blk_cell M8.out.blk 0) (by simp)
   go_wp2_with fail
   refine wp_region_segs [] [.inl [0, 1, 2, 3, 4, 5, 6], .inr (.inl 7), .inl [8], .inr (.inl 9), .inr (.inr 10)] (by kernel_rfl) (by kernel_rfl) (fun c a d v w h => by cases d <;> exact h) ?_
   (rw [wpSegs_inl]; simp only [pickOps, mCc, mNn, gSs, gZz]; (repeat (go_big_quiet_step (fail))); (refine wpQuiet_get 38 _ rfl _ rfl w.heap.size 0 38 _ ([.string ⟨tt.toArray⟩, .bool tw, .int .i64 mod, .int .i64 bs.length, .int .i64 bs.length, .int .i64 fr, .int .i64 wh, .int .i64 er, .slice A7 keys.length c7, .string ⟨ten.toArray⟩, .bool keep]) rfl (fun W hW => by obtain ⟨y, rfl⟩ := hW; exact y.ext.heap (a := W8.drew) N8.out (by simp)) (by kernel_rfl) Try.underlying38 rfl size38 ?_; simp only [Act.put, sAa, sSs, sZz]); (repeat (go_big_quiet_step (fail))); refine wpQuiet_nil ?_)
   clear G0
   have M9 := Lh (M8.out.ext (Ext.refl W8).drew)
   (rw [wpSegs_grow]; simp only [pickOps, mCc, mNn, gSs, gZz]; go_wp2_with ((at_builtin; refine wpList_copyB rfl _ _ rfl _ bs (RowAt.far HU.out M9.out.xp HFU.out) rfl rfl (by omega) ?_)))
   intro v9 W9 r9 x9
   obtain ⟨A9, c9, rfl⟩ := own_slice r9
   have M10 := Lh (M9.out.ext x9); have R9 := Lh r9; have T9 := Lh (ownsRow_below T8.out ((Ext.refl W8).drew.trans x9)); have hs9 := x9.size
   go_wp2_with fail
   refine ⟨.of x9 _, ?_⟩
   clear x9 r9 M8 N8 T8 M9
   (rw [wpSegs_inl]; simp only [pickOps, mCc, mNn, gSs, gZz]; (repeat (go_big_quiet_step (fail))); refine wpQuiet_nil ?_)
   (rw [wpSegs_grow]; simp only [pickOps, mCc, mNn, gSs, gZz]; go_wp2_with ((refine wpList_boxA 90 rfl _ rfl (verC (⟨tt, tw, mod, bs.length, bs.length, fr, wh, er, keys, ten, keep⟩ : MetaP) (.slice A7 keys.length c7) (.slice A9 bs.length c9) false) rfl ?_; intro W10 x10 n10 s10; refine stop_of ?_)))
   unfold Stop
   go_wp2_with fail
   refine ⟨.of x10 _, ?_⟩
   have M11 := Lh (M10.out.ext x10); have R10 := Lh (ownsRow_below R9.out x10); have T10 := Lh (ownsRow_below T9.out x10)
   have N10 := Lh n10
   have hs8 : W8.heap.size ≤ W9.heap.size := hs9
   clear x10 n10 s10 M10 R9 T9 hs9
   obtain ⟨W11, hput, h11, t11⟩ : ∃ W11, (Instr.mapUpdate 82 (.map (some mm)) (.string ⟨o.toArray⟩) (.pointer (some ⟨W9.heap.size, 0, none⟩))).run Try.prog W10 = .ok () W11 ∧ GMap ptE W11 mm (N + 2) (upd (nowF vs gs) o (some W9.heap.size)) ∧ W10.mapTurned W11 mm := by
    rcases M11.out.obs with ⟨e, _⟩ | ⟨m', e, hM'⟩
    ·cases e
    ·obtain rfl := Option.some.inj e
     exact hM'.put (by omega) Try.underlying82 (by omega) W9.heap.size
   have H11 := Lh h11; have T11 := Lh t11
   clear h11 t11
   (rw [wpSegs_last]; simp only [pickOps, mCc, mNn, gSs, gZz]; go_wp2_with (fail))
   rw [wpSegs_nil]
   go_wp2
   go_ret
   exact fin_set (mp := (⟨tt, tw, mod, bs.length, bs.length, fr, wh, er, keys, ten, keep⟩ : MetaP)) (g := ⟨W9.heap.size, .slice A7 keys.length c7, .slice A9 bs.length c9, bs.length⟩) HI.out (Nat.le_trans HI.out.lowB hsz6) hsz6 M11.out ho N10.out T10.out (ownsRow_base R10.out (by show _ ≤ W8.heap.size; exact hsz8)) (by show _ ≤ W9.heap.size; omega) ⟨HZ.out.tt, HZ.out.keys, HZ.out.key, HZ.out.ten⟩ hbs (frs_of HI.out hsz6) H11.out T11.out (fun _ _ => HTIE4.out _ _) HR2.out
 | none =>
  have hbl : b < w4.heap.size := blk_lt M4.out.blk
  go_wp2_with (refine wpList_put 82 rfl _ _ rfl _ 0 84 _ #[.map (some w4.heap.size), .map mh4] [.map (some w4.heap.size)] (.map (some w4.heap.size)) ((ext_alloc1 w4 (.map #[] 0)).heap M4.out.blk) rfl rfl rfl (by simp) rfl size82 (by kernel_rfl) ?_; intro W5 x5 n5 s5; refine stop_of ?_)
  unfold Stop
  have HM5 := Lh (M4.out.made HI.out.lt x5 n5)
  have N5 := Lh (x5.heap ((ext_alloc1 w4 (.map #[] 0)).heap N4.out) (by
   intro hh
   have e : w.heap.size = b := by simpa using hh
   have h1 := kind_cells M4.out.blk; rw [← e, kind_cells N4.out] at h1; cases h1))
  obtain ⟨mm, hmm'⟩ : ∃ mm, mm = w4.heap.size := ⟨_, rfl⟩
  rw [← hmm'] at HM5
  clear x5 n5 s5 M4 hbl k0 hmm'
  have k0' := blk_cell HM5.out.blk 0
  simp at k0'
  cases hn : nowI vs o with
  | none =>
   have hl := HM5.out.obs.look Try.underlying82 (zero88 W5) (k := o) (by omega)
   have hF : nowF vs gs o = none := by simp [nowF, hn]
   rw [hF] at hl
   have HM9 : Hid (Mid w own W5 b B (N + 1) (offVs vs o) gs ss sa (some mm) mh4 H4 K4 (nowF vs gs)) := Lh (by unfold offVs; rw [hn]; exact HM5.out)
   have hl' : (Instr.lookup 82 (.map (some mm)) (.string ⟨o.toArray⟩) false).run Try.prog W5 = .ok (.pointer none) W5 := hl
   clear hl hF hn HM5
   have k8 := blk_cell N5.out 8
   simp at k8
   have hsz6 : w.heap.size ≤ W5.heap.size := HM9.out.size
   have hmb6 : w.heap.size < W5.heap.size := blk_lt N5.out
   go_wp2_with (at_builtin; refine wpList_copyS rfl _ _ rfl _ keys (TextsAt.far HK.out HM9.out.xp HFK.out) rfl rfl (by have := HZ.out.keys; simp only at this; omega) ?_; intro kv' W7 t7 x7; refine stop_of ?_)
   unfold Stop
   obtain ⟨A7, c7, rfl, _, _, _⟩ := t7.texts
   have M7 := Lh (HM9.out.ext x7); have N7 := Lh (x7.heap N5.out); have T7 := Lh t7
   have hs7 := x7.size
   clear x7 t7 k8
   go_wp2_with (refine wpList_put 36 rfl _ _ rfl _ 8 38 _ ([.string ⟨tt.toArray⟩, .bool tw, .int .i64 mod, .int .i64 bs.length, .int .i64 bs.length, .int .i64 fr, .int .i64 wh, .int .i64 er, .slice A7 keys.length c7, .string ⟨ten.toArray⟩, .bool keep]).toArray [.slice A7 keys.length c7] _ N7.out rfl rfl rfl (by simp) rfl size36 (by kernel_rfl) ?_; intro W8 x8 n8 s8; refine stop_of ?_)
   unfold Stop
   have hX8 : ∀ g ∈ [w.heap.size], kindOf W7 g = 38 := fun g hg => by rw [show g = w.heap.size by simpa using hg]; exact kind_cells N7.out
   have M8 := Lh (M7.out.extK x8 (fun g hg => by rw [hX8 g hg]; decide) (fun g hg => by rw [show g = w.heap.size by simpa using hg]; exact .inr ⟨Nat.le_refl _, blk_lt N7.out⟩))
   have T8 := Lh (show SRow W8 W5.heap.size (.slice A7 keys.length c7) keys from own_extB T7.out x8 (by
    intro g hg
    have : g = w.heap.size := by simpa using hg
    exact own_low T7.out (by omega)))
   have N8 := Lh n8
   have hsz8 : W5.heap.size ≤ W8.heap.size := Nat.le_trans hs7 x8.size
   clear hX8 x8 n8 s8 M7 N7 T7
   have G0 : ∀ x : Grow [] W8.drew, x.v.cell? ⟨b, 0, none⟩ = some (.map (some mm)) := fun x => x.ext.cell (a := W8.drew) (blk_cell M8.out.blk 0) (by simp)
   go_wp2_with fail
   refine wp_region_segs [] [.inl [0, 1, 2, 3, 4, 5, 6], .inr (.inl 7), .inl [8], .inr (.inl 9), .inr (.inr 10)] (by kernel_rfl) (by kernel_rfl) (fun c a d v w h => by cases d <;> exact h) ?_
   (rw [wpSegs_inl]; simp only [pickOps, mCc, mNn, gSs, gZz]; (repeat (go_big_quiet_step (fail))); (refine wpQuiet_get 38 _ rfl _ rfl w.heap.size 0 38 _ ([.string ⟨tt.toArray⟩, .bool tw, .int .i64 mod, .int .i64 bs.length, .int .i64 bs.length, .int .i64 fr, .int .i64 wh, .int .i64 er, .slice A7 keys.length c7, .string ⟨ten.toArray⟩, .bool keep]) rfl (fun W hW => by obtain ⟨y, rfl⟩ := hW; exact y.ext.heap (a := W8.drew) N8.out (by simp)) (by kernel_rfl) Try.underlying38 rfl size38 ?_; simp only [Act.put, sAa, sSs, sZz]); (repeat (go_big_quiet_step (fail))); refine wpQuiet_nil ?_)
   clear G0
   have M9 := Lh (M8.out.ext (Ext.refl W8).drew)
   (rw [wpSegs_grow]; simp only [pickOps, mCc, mNn, gSs, gZz]; go_wp2_with ((at_builtin; refine wpList_copyB rfl _ _ rfl _ bs (RowAt.far HU.out M9.out.xp HFU.out) rfl rfl (by omega) ?_)))
   intro v9 W9 r9 x9
   obtain ⟨A9, c9, rfl⟩ := own_slice r9
   have M10 := Lh (M9.out.ext x9); have R9 := Lh r9; have T9 := Lh (ownsRow_below T8.out ((Ext.refl W8).drew.trans x9)); have hs9 := x9.size
   go_wp2_with fail
   refine ⟨.of x9 _, ?_⟩
   clear x9 r9 M8 N8 T8 M9
   (rw [wpSegs_inl]; simp only [pickOps, mCc, mNn, gSs, gZz]; (repeat (go_big_quiet_step (fail))); refine wpQuiet_nil ?_)
   (rw [wpSegs_grow]; simp only [pickOps, mCc, mNn, gSs, gZz]; go_wp2_with ((refine wpList_boxA 90 rfl _ rfl (verC (⟨tt, tw, mod, bs.length, bs.length, fr, wh, er, keys, ten, keep⟩ : MetaP) (.slice A7 keys.length c7) (.slice A9 bs.length c9) false) rfl ?_; intro W10 x10 n10 s10; refine stop_of ?_)))
   unfold Stop
   go_wp2_with fail
   refine ⟨.of x10 _, ?_⟩
   have M11 := Lh (M10.out.ext x10); have R10 := Lh (ownsRow_below R9.out x10); have T10 := Lh (ownsRow_below T9.out x10)
   have N10 := Lh n10
   have hs8 : W8.heap.size ≤ W9.heap.size := hs9
   clear x10 n10 s10 M10 R9 T9 hs9
   obtain ⟨W11, hput, h11, t11⟩ : ∃ W11, (Instr.mapUpdate 82 (.map (some mm)) (.string ⟨o.toArray⟩) (.pointer (some ⟨W9.heap.size, 0, none⟩))).run Try.prog W10 = .ok () W11 ∧ GMap ptE W11 mm (N + 2) (upd (nowF vs gs) o (some W9.heap.size)) ∧ W10.mapTurned W11 mm := by
    rcases M11.out.obs with ⟨e, _⟩ | ⟨m', e, hM'⟩
    ·cases e
    ·obtain rfl := Option.some.inj e
     exact hM'.put (by omega) Try.underlying82 (by omega) W9.heap.size
   have H11 := Lh h11; have T11 := Lh t11
   clear h11 t11
   (rw [wpSegs_last]; simp only [pickOps, mCc, mNn, gSs, gZz]; go_wp2_with (fail))
   rw [wpSegs_nil]
   go_wp2
   go_ret
   exact fin_set (mp := (⟨tt, tw, mod, bs.length, bs.length, fr, wh, er, keys, ten, keep⟩ : MetaP)) (g := ⟨W9.heap.size, .slice A7 keys.length c7, .slice A9 bs.length c9, bs.length⟩) HI.out (Nat.le_trans HI.out.lowB hsz6) hsz6 M11.out ho N10.out T10.out (ownsRow_base R10.out (by show _ ≤ W8.heap.size; exact hsz8)) (by show _ ≤ W9.heap.size; omega) ⟨HZ.out.tt, HZ.out.keys, HZ.out.key, HZ.out.ten⟩ hbs (frs_of HI.out hsz6) H11.out T11.out (fun _ _ => HTIE4.out _ _) HR2.out
  | some i =>
   obtain ⟨v, hv, hvo, hvw⟩ := nowI_some hn
   obtain ⟨g, hg, _⟩ := HI.out.vers.get hv
   have hok := HM5.out.vers.at_ i v g hv hg
   have hF : nowF vs gs o = some g.b := by simp [nowF, hn, hg]
   have hl := HM5.out.obs.look Try.underlying82 (zero88 W5) (k := o) (by omega)
   rw [hF] at hl
   obtain ⟨q, hq⟩ : ∃ q, q = g.b := ⟨_, rfl⟩
   have hbk := hok.blk
   rw [← hq, hvw] at hbk
   have hl' : (Instr.lookup 82 (.map (some mm)) (.string ⟨o.toArray⟩) false).run Try.prog W5 = .ok (.pointer (some ⟨q, 0, none⟩)) W5 := by rw [hq]; exact hl
   have HV := Lh hv; have HG := Lh hg; have HQ := Lh hq; have HBK := Lh hbk; have HN := Lh hn
   clear hl hF hn hv hg hq hok hbk hvo hvw
   go_wp2_with (refine wpList_put 4 rfl _ _ rfl _ 12 90 _ (verC { v.m with hav := g.h } g.kv g.bv true) [.bool true] (.bool true) HBK.out rfl rfl rfl (by simp [verC]) rfl size4 (by simp [putA, verC]) ?_; intro W6 x6 n6 s6; refine stop_of ?_)
   unfold Stop
   have N6 := Lh (x6.heap N5.out (by
    intro hh
    have e : w.heap.size = q := by simpa using hh
    have h1 := kind_cells HBK.out; rw [← e, kind_cells N5.out] at h1; cases h1))
   rw [HQ.out] at x6 n6
   have HM9 : Hid (Mid w own W6 b B (N + 1) (offVs vs o) gs ss sa (some mm) mh4 H4 K4 (nowF vs gs)) := Lh (by unfold offVs; rw [HN.out]; simp only [HV.out]; exact HM5.out.went HV.out HG.out n6 x6)
   have k0 := blk_cell HM9.out.blk 0
   simp at k0
   clear x6 n6 s6 HM5 HV HG HQ HBK HN k0' hl'
   have k8 := blk_cell N6.out 8
   simp at k8
   have hsz6 : w.heap.size ≤ W6.heap.size := HM9.out.size
   have hmb6 : w.heap.size < W6.heap.size := blk_lt N6.out
   go_wp2_with (at_builtin; refine wpList_copyS rfl _ _ rfl _ keys (TextsAt.far HK.out HM9.out.xp HFK.out) rfl rfl (by have := HZ.out.keys; simp only at this; omega) ?_; intro kv' W7 t7 x7; refine stop_of ?_)
   unfold Stop
   obtain ⟨A7, c7, rfl, _, _, _⟩ := t7.texts
   have M7 := Lh (HM9.out.ext x7); have N7 := Lh (x7.heap N6.out); have T7 := Lh t7
   have hs7 := x7.size
   clear x7 t7 k8
   go_wp2_with (refine wpList_put 36 rfl _ _ rfl _ 8 38 _ ([.string ⟨tt.toArray⟩, .bool tw, .int .i64 mod, .int .i64 bs.length, .int .i64 bs.length, .int .i64 fr, .int .i64 wh, .int .i64 er, .slice A7 keys.length c7, .string ⟨ten.toArray⟩, .bool keep]).toArray [.slice A7 keys.length c7] _ N7.out rfl rfl rfl (by simp) rfl size36 (by kernel_rfl) ?_; intro W8 x8 n8 s8; refine stop_of ?_)
   unfold Stop
   have hX8 : ∀ g ∈ [w.heap.size], kindOf W7 g = 38 := fun g hg => by rw [show g = w.heap.size by simpa using hg]; exact kind_cells N7.out
   have M8 := Lh (M7.out.extK x8 (fun g hg => by rw [hX8 g hg]; decide) (fun g hg => by rw [show g = w.heap.size by simpa using hg]; exact .inr ⟨Nat.le_refl _, blk_lt N7.out⟩))
   have T8 := Lh (show SRow W8 W6.heap.size (.slice A7 keys.length c7) keys from own_extB T7.out x8 (by
    intro g hg
    have : g = w.heap.size := by simpa using hg
    exact own_low T7.out (by omega)))
   have N8 := Lh n8
   have hsz8 : W6.heap.size ≤ W8.heap.size := Nat.le_trans hs7 x8.size
   clear hX8 x8 n8 s8 M7 N7 T7
   have G0 : ∀ x : Grow [] W8.drew, x.v.cell? ⟨b, 0, none⟩ = some (.map (some mm)) := fun x => x.ext.cell (a := W8.drew) (blk_cell M8.out.blk 0) (by simp)
   go_wp2_with fail
   refine wp_region_segs [] [.inl [0, 1, 2, 3, 4, 5, 6], .inr (.inl 7), .inl [8], .inr (.inl 9), .inr (.inr 10)] (by kernel_rfl) (by kernel_rfl) (fun c a d v w h => by cases d <;> exact h) ?_
   (rw [wpSegs_inl]; simp only [pickOps, mCc, mNn, gSs, gZz]; (repeat (go_big_quiet_step (fail))); (refine wpQuiet_get 38 _ rfl _ rfl w.heap.size 0 38 _ ([.string ⟨tt.toArray⟩, .bool tw, .int .i64 mod, .int .i64 bs.length, .int .i64 bs.length, .int .i64 fr, .int .i64 wh, .int .i64 er, .slice A7 keys.length c7, .string ⟨ten.toArray⟩, .bool keep]) rfl (fun W hW => by obtain ⟨y, rfl⟩ := hW; exact y.ext.heap (a := W8.drew) N8.out (by simp)) (by kernel_rfl) Try.underlying38 rfl size38 ?_; simp only [Act.put, sAa, sSs, sZz]); (repeat (go_big_quiet_step (fail))); refine wpQuiet_nil ?_)
   clear G0
   have M9 := Lh (M8.out.ext (Ext.refl W8).drew)
   (rw [wpSegs_grow]; simp only [pickOps, mCc, mNn, gSs, gZz]; go_wp2_with ((at_builtin; refine wpList_copyB rfl _ _ rfl _ bs (RowAt.far HU.out M9.out.xp HFU.out) rfl rfl (by omega) ?_)))
   intro v9 W9 r9 x9
   obtain ⟨A9, c9, rfl⟩ := own_slice r9
   have M10 := Lh (M9.out.ext x9); have R9 := Lh r9; have T9 := Lh (ownsRow_below T8.out ((Ext.refl W8).drew.trans x9)); have hs9 := x9.size
   go_wp2_with fail
   refine ⟨.of x9 _, ?_⟩
   clear x9 r9 M8 N8 T8 M9
   (rw [wpSegs_inl]; simp only [pickOps, mCc, mNn, gSs, gZz]; (repeat (go_big_quiet_step (fail))); refine wpQuiet_nil ?_)
   (rw [wpSegs_grow]; simp only [pickOps, mCc, mNn, gSs, gZz]; go_wp2_with ((refine wpList_boxA 90 rfl _ rfl (verC (⟨tt, tw, mod, bs.length, bs.length, fr, wh, er, keys, ten, keep⟩ : MetaP) (.slice A7 keys.length c7) (.slice A9 bs.length c9) false) rfl ?_; intro W10 x10 n10 s10; refine stop_of ?_)))
   unfold Stop
   go_wp2_with fail
   refine ⟨.of x10 _, ?_⟩
   have M11 := Lh (M10.out.ext x10); have R10 := Lh (ownsRow_below R9.out x10); have T10 := Lh (ownsRow_below T9.out x10)
   have N10 := Lh n10
   have hs8 : W8.heap.size ≤ W9.heap.size := hs9
   clear x10 n10 s10 M10 R9 T9 hs9
   obtain ⟨W11, hput, h11, t11⟩ : ∃ W11, (Instr.mapUpdate 82 (.map (some mm)) (.string ⟨o.toArray⟩) (.pointer (some ⟨W9.heap.size, 0, none⟩))).run Try.prog W10 = .ok () W11 ∧ GMap ptE W11 mm (N + 2) (upd (nowF vs gs) o (some W9.heap.size)) ∧ W10.mapTurned W11 mm := by
    rcases M11.out.obs with ⟨e, _⟩ | ⟨m', e, hM'⟩
    ·cases e
    ·obtain rfl := Option.some.inj e
     exact hM'.put (by omega) Try.underlying82 (by omega) W9.heap.size
   have H11 := Lh h11; have T11 := Lh t11
   clear h11 t11
   (rw [wpSegs_last]; simp only [pickOps, mCc, mNn, gSs, gZz]; go_wp2_with (fail))
   rw [wpSegs_nil]
   go_wp2
   go_ret
   exact fin_set (mp := (⟨tt, tw, mod, bs.length, bs.length, fr, wh, er, keys, ten, keep⟩ : MetaP)) (g := ⟨W9.heap.size, .slice A7 keys.length c7, .slice A9 bs.length c9, bs.length⟩) HI.out (Nat.le_trans HI.out.lowB hsz6) hsz6 M11.out ho N10.out T10.out (ownsRow_base R10.out (by show _ ≤ W8.heap.size; exact hsz8)) (by show _ ≤ W9.heap.size; omega) ⟨HZ.out.tt, HZ.out.keys, HZ.out.key, HZ.out.ten⟩ hbs (frs_of HI.out hsz6) H11.out T11.out (fun _ _ => HTIE4.out _ _) HR2.out
end
end Go.Proofs.Ytpangoddbfiagaa
