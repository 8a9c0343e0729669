/- Proved: OriginTags, for every input: no two versions that an object ever had have tags of one text, unless both are weak, by whatever calls (printed by gen_tagp.py). -/
import Derived.Test.YtpangoddbfiagaaTG29
namespace Go.Proofs.Ytpangoddbfiagaa
open Go.ChangeShapes Go.WideShapes Go.ChangeAt Go.RowKit Go.Deep Go.Joins
open Go.Maps Go.ChangeMaps
set_option linter.unusedVariables false
set_option linter.unusedSimpArgs false

section
variable {w w' : World} {N m : Nat} {own : Nat → Prop} {H : Bs → Option Nat} {K : Bs → Bs → Option Bool} {vs : List Vn}
theorem HadAt.kept {mh : Option Nat} (h : HadAt w N own mh H K) (k : KeepP own w w') : HadAt w' N own mh H K :=
  ⟨h.had.same fun m e => k m (h.omh m e), fun o g e => (h.inn o g e).same (k g (h.oin o g e)), h.hinj, h.omh, h.oin, h.d2⟩
theorem HadAt.more {mh : Option Nat} {M : Nat} (h : HadAt w N own mh H K) (hM : N ≤ M) : HadAt w M own mh H K := ⟨h.had.more hM, fun o g e => (h.inn o g e).more hM, h.hinj, h.omh, h.oin, h.d2⟩
/-- A weakness told of a text. -/
theorem seen_put (hN : N ≤ 900000) (h : HadAt w N own (some m) H K) {o t : Bs} {g : Nat} (hg : H o = some g) (ht : t.length ≤ 1000000) (x : Bool) :
    ∃ w2 K2, (Instr.mapUpdate 79 (.map (some g)) (.string ⟨t.toArray⟩) (.bool x)).run Try.prog w = .ok () w2 ∧ HadAt w2 (N + 1) own (some m) H K2 ∧ (∀ o' t', hadF H K2 o' t' = if o' = o ∧ t' = t then some x else hadF H K o' t') ∧ ExtB [g] w w2 := by
  obtain ⟨w2, hrun, h2, ht2⟩ := (h.inn o g hg).put (by omega) Try.underlying79 ht x
  have x2 := turned_ext ht2
  have keep : ∀ (m' : Nat) (es : Array MapEntry) (cl : Nat), w.heap[m']? = some (.map es cl) → m' ≠ g → w2.heap[m']? = w.heap[m']? := fun m' es cl e hne => x2.block m' (blk_lt e) (by simpa using hne)
  refine ⟨w2, fun o' => if o' = o then upd (K o) t (some x) else K o', hrun, ⟨?_, fun o' g' e => ?_, h.hinj, h.omh, h.oin, h.d2⟩, fun o' t' => ?_, x2⟩
  · refine (h.had.same fun m' e => ?_).more (Nat.le_succ _)
    obtain rfl : m = m' := Option.some.inj e
    obtain ⟨es, cl, e⟩ := h.had.lt
    exact keep m es cl e (fun e => h.d2 o g hg (by rw [e]))
  · by_cases ho : o' = o
    · subst ho
      rw [hg] at e
      obtain rfl : g = g' := Option.some.inj e
      rw [if_pos rfl]; exact h2
    · rw [if_neg ho]
      obtain ⟨es, cl, e1⟩ := (h.inn o' g' e).at_
      exact ((h.inn o' g' e).same (keep g' es cl e1 (fun e2 => ho (h.hinj o' o g (by rw [← e2]; exact e) hg)))).more (Nat.le_succ _)
  · unfold hadF
    by_cases ho : o' = o
    · subst ho
      rw [hg]
      simp only [true_and, if_true]
      by_cases hteq : t' = t
      · subst hteq; simp [upd]
      · rw [upd_other _ hteq, if_neg hteq]
    · simp only [ho, false_and, if_false]
theorem set_view_grow (o bs : Bs) : (growA vs o bs).2.map viewT = vs.map viewT := by
  unfold growA
  split
  · rfl
  · split
    · rfl
    · split
      · rename_i hv _; exact map_set_same (f := viewT) hv rfl
      · rfl
theorem set_view_seal (o : Bs) : (sealA vs o).2.map viewT = vs.map viewT := by
  unfold sealA
  split
  · rfl
  · split
    · rfl
    · split
      · rename_i hv _; exact map_set_same (f := viewT) hv rfl
      · rfl
theorem set_view_gone (o : Bs) : (goneA vs o).2.map viewT = vs.map viewT := by
  unfold goneA
  split
  · rfl
  · split
    · rfl
    · rename_i hv; exact map_set_same (f := viewT) hv rfl
theorem doV_had {a : ActP} (h1 : a.kind ≠ 1) (o t : Bs) : hadA (doV vs a) o t = hadA vs o t := by
  refine hadA_view ?_ o t
  unfold doV
  rw [if_neg h1]
  repeat' split
  · exact set_view_grow _ _
  · exact set_view_seal _
  · exact set_view_gone _
  · rfl
theorem set_had {o bs : Bs} {mt : MetaP} (h : (setA vs o mt bs).1 = 0) : (∀ o' t, t ≠ [] → hadA (setA vs o mt bs).2 o' t = if o' = o ∧ t = mt.tt then some (!mt.tw) else hadA vs o' t) ∧ (mt.tt ≠ [] → ∀ x, hadA vs o mt.tt = some x → x = false ∧ mt.tw = true) := by
  unfold setA at *
  by_cases c1 : setOk o mt bs = false
  · rw [if_pos c1] at h; simp at h
  · rw [if_neg c1] at h ⊢
    by_cases c2 : refused vs o mt = true
    · rw [if_pos c2] at h; simp at h
    · rw [if_neg c2] at h ⊢
      have c2 : refused vs o mt = false := by simpa using c2
      refine ⟨fun o' t ht => ?_, fun htt x hx => ?_⟩
      · cases hn : noTag mt with
        | true =>
          have e : mt.tt = [] := by unfold noTag at hn; simp at hn; exact hn.1
          rw [show (offVs vs o ++ [newV o mt bs]) = offVs vs o ++ [newV o mt bs] from rfl, tie_none o mt bs hn, if_neg (fun hh => ht (by rw [hh.2, e]))]
        | false => exact tie_some o mt bs hn c2 o' t
      · unfold refused at c2
        have hn : noTag mt = false := by unfold noTag; simp [htt]
        rw [hn, hx] at c2
        simp at c2
        exact c2
end
theorem q9e (w : World) (t : Bs) : (binOp .eql 9 (.string ⟨t.toArray⟩) (.string ⟨#[]⟩)).run Try.prog w = .ok (.bool (t == [])) w := by
  have h := str_eql w t []
  rw [show (t == []) = decide (t = []) from by rw [Bool.eq_iff_iff]; simp]
  exact h
/-- What stands behind j acts: the play, and what was seen, in maps of the law's own. -/
def SeenR (w0 w : World) (pb b x j m : Nat) : Prop := ∃ (vs : List Vn) (ss : List Sn) (H : Bs → Option Nat) (K : Bs → Bs → Option Bool) (Lx : Nat → Prop), PlayT w0 w pb b x j vs ss [] Lx ∧ HadAt w (2 * j) Lx (some m) H K ∧ ∀ o t, t ≠ [] → hadF H K o t = (hadA vs o t).map (!·)
theorem PlayT.lt' {w0 w : World} {pb b x k : Nat} {vs : List Vn} {ss : List Sn} {hl : List (Value × Bs)} {Lx : Nat → Prop} (h : PlayT w0 w pb b x k vs ss hl Lx) : ∀ g, Lx g → g < w.heap.size := by
  obtain ⟨N, ts, sa, ra, SA, sc, RA, rc, h⟩ := h
  exact h.lt
set_option maxRecDepth 100000 in
set_option maxHeartbeats 8000000 in
theorem tags_walk (lv : Value) (xs : List ActP) (w : World) (hL : RowsG w 23 (RAct w) lv xs) :
    Calls Try.prog 8 #[lv] w fun e w' => e = .returned (.bool true) ∧ Below w.heap.size w w' := by
  obtain ⟨LA, LC, rfl⟩ := RowsG.slice hL
  obtain ⟨n, hn⟩ : ∃ n, n = xs.length := ⟨_, rfl⟩
  have HL := Lib.hid hL
  rw [← hn] at HL ⊢
  have HN := Lib.hid hn
  clear hL hn
  go_enter Try.func8, Try.ntmps8
  go_wp2_with (go_at_call 22; refine (begin_any _).mono ?_; rintro e w1 ⟨pb, b, x, rfl, h1⟩; refine stop_of ?_)
  unfold Stop
  have H1 := Lib.hid h1
  clear h1
  go_wp2_with (go_at_call 11; refine (awake_any _).mono ?_; rintro e w2 ⟨rfl, x2⟩; refine stop_of ?_)
  unfold Stop
  have H2 := Lib.hid (H1.out.ext x2)
  clear x2 H1
  have HGR := Lib.hid (great_any w2 LA xs LC (by have := acts_ext HL.out H2.out.base; rw [HN.out] at this; exact this))
  rw [← HN.out] at HGR
  go_wp2_with (go_at_call 12; refine HGR.out.mono ?_; rintro e w3 ⟨r, rfl, hr, x3⟩; refine stop_of ?_)
  unfold Stop
  have H3 := Lib.hid (H2.out.ext x3); have HRR := Lib.hid hr
  clear x3 H2 HGR hr
  cases r with
  | true =>
    go_wp2_with (go_at_call 11; refine (awake_any _).mono ?_; rintro e w4 ⟨rfl, x4⟩; refine stop_of ?_)
    unfold Stop
    have X4 := Lib.hid (H3.out.base.trans x4)
    clear x4
    go_wp2
    go_ret
    exact ⟨rfl, X4.out⟩
  | false =>
    have HZ := Lib.hid (HRR.out rfl)
    have hn40 : n ≤ 40 := by have := HZ.out.1; have := HN.out; omega
    clear HRR
    have hmm := @run_makeMap Try.prog
    go_wp2_with fail
    obtain ⟨mm, hm⟩ : ∃ m, m = w3.heap.size := ⟨_, rfl⟩
    rw [← hm]
    have HM := Lib.hid (show SeenR w (w3.alloc (.map #[] 0)) pb b x 0 mm from by
      refine ⟨[], [], fun _ => none, fun _ _ => none, fun g => g = mm, (H3.out.toT.other (.of (ext_alloc1 _ _)) fun g hg => .inr (by rw [hg, hm]; simp)), ⟨.inr ⟨mm, rfl, by rw [hm]; exact GMap.made mpE w3⟩, fun o g e => (by cases e), fun o o' g e => (by cases e), fun m e => by injection e with e; exact e.symm, fun o g e => (by cases e), fun o g e => (by cases e)⟩, fun o t _ => rfl⟩)
    clear H3 hm
    go_loopw [25, 6, 7, 8, 9] (fun i _ _ _ _ wr => ∃ j : Nat, j ≤ n ∧ i = .int .i64 j ∧ Hid (SeenR w wr pb b x j mm)) (fun i _ _ _ _ _ => n - (intOf i).toNat)
    case atStart => exact ⟨0, by omega, rfl, HM⟩
    case round =>
      clear HM
      obtain ⟨j, hj, rfl, R⟩ := hrel
      by_cases hlt : j < n
      · have hjs : j < xs.length := by rw [← HN.out]; exact hlt
        obtain ⟨a, ha⟩ : ∃ a, xs[j]? = some a := ⟨xs[j], by simp [hjs]⟩
        obtain ⟨vs, ss, H, K, Lx, hp, hs, ht⟩ := R.out
        have HT := Lib.hid ht
        obtain ⟨eb, eo, rfl, hrg, hra⟩ := acts_at HL.out hp.base ha
        have HRG := Lib.hid hrg
        have HA := Lib.hid (hra.at_ (HZ.out.2 a (List.mem_of_getElem? ha)))
        have HJK := Lib.hid (show j ≤ 1000 from by have := HZ.out.1; have := HN.out; omega)
        have HON := Lib.hid (act_one hra)
        have HP := Lib.hid hp; have HS := Lib.hid hs
        clear hrg hra ha hjs hp hs ht R
        go_wp2_with (first | (refine wpList_load_mid rfl 40 _ rfl eb (eo + j * 23) rfl (actC a) _ HRG.out Try.underlying40 rfl size40 ?_) | (refine wpList_new 40 _ zero40 rfl rfl ?_; intro W1 x1 n1 s1; refine stop_of ?_))
        unfold Stop
        obtain ⟨ab, hab⟩ : ∃ p, p = wr.heap.size := ⟨_, rfl⟩
        rw [← hab] at n1 ⊢
        have N1 := Lib.hid n1
        have HP1 := Lib.hid (HP.out.other (Lx' := fun g => g = ab ∨ Lx g) (.of x1) (fun g hg => by
          rcases hg with e | e
          · rw [e]; exact .inr ⟨by omega, blk_lt n1⟩
          · exact .inl e))
        have HLA := Lib.hid (show ∀ g, Lx g → g ≠ ab from fun g hg => by have := HP.out.lt' g hg; omega)
        have HS1 := Lib.hid (HS.out.kept (KeepP.ext x1 fun g hg => HP.out.lt' g hg))
        clear x1 n1 s1 hab HP HS
        go_wp2_with (refine wpList_put 40 rfl _ _ rfl ab 0 40 _ (actC a).toArray (actC a) _ N1.out rfl rfl rfl (by simp [actC]) HON.out size40 (by kernel_rfl) ?_; intro W2 x2 n2 s2; refine stop_of ?_)
        unfold Stop
        have N2 := Lib.hid n2
        have HP2 := Lib.hid (HP1.out.other (Lx' := fun g => g = ab ∨ Lx g) (.ofB x2 (fun k hk => .inl (.inl (by simpa using hk)))) (fun g hg => .inl hg))
        have HS2 := Lib.hid (HS1.out.kept fun g hg => x2.block g (HP1.out.lt' g (.inr hg)) (by simpa using HLA.out g hg))
        clear x2 n2 s2 N1 HP1 HS1 HRG HON
        have k0 := blk_cell N2.out 0
        simp [actC] at k0
        by_cases e1 : a.kind = 1
        · obtain ⟨kd, obj, ⟨tt, tw, mod, len, hav, fr, wh, er, keys, ten, keep⟩, kv, bs, bv, ⟨fo, ff, fto, mt, mw, nt, nw⟩, st, tn⟩ := a
          simp only at e1
          subst e1
          obtain ⟨nu, hnu⟩ : ∃ n, n = bs.length := ⟨_, rfl⟩
          obtain ⟨UA, uc, rfl⟩ : ∃ UA uc, bv = .slice UA nu uc := by obtain ⟨A, c, e, _⟩ := HA.out.bt; exact ⟨A, c, by rw [show bv = _ from e, hnu]; simp⟩
          obtain ⟨nk, hnk⟩ : ∃ nk, nk = keys.length := ⟨_, rfl⟩
          obtain ⟨KA, KC, rfl⟩ : ∃ KA KC, kv = .slice KA nk KC := by obtain ⟨A, c, e, _⟩ := HA.out.kt; exact ⟨A, c, by rw [show kv = _ from e, hnk]⟩
          have HBL := Lib.hid (show bs.length ≤ 60 from HA.out.z.bytes)
          have HOL3 := Lib.hid (show obj.length ≤ 300 from HA.out.z.obj)
          have HOL := Lib.hid (show obj.length ≤ 1000000 from by have := HOL3.out; omega)
          have HMZ := Lib.hid (show MetaZ ⟨tt, tw, mod, len, hav, fr, wh, er, keys, ten, keep⟩ from HA.out.z.m)
          have HTL := Lib.hid (show tt.length ≤ 1000000 from by have h := HMZ.out.tt; simp only at h; omega)
          have HKT := Lib.hid (show TextsAt w (.slice KA nk KC) keys from HA.out.kt); have HKL := Lib.hid (show LowV w (.slice KA nk KC) from HA.out.kl); have HBT := Lib.hid (show BytesAt w (.slice UA nu uc) bs from HA.out.bt)
          clear hnu hnk HA
          simp only [actC] at N2
          obtain ⟨N', ts, sa, ra, SA, sc, RA, rc, hX⟩ := HP2.out
          have HX := Lib.hid hX
          clear hX HP2
          go_wp2_with fail
          have P0 : W2.drew.heap[pb]? = some (.cells #[ptrV b, ptrV x, .slice SA ss.length sc, .slice RA ss.length rc] 68) := HX.out.blk
          have A0 : W2.drew.heap[ab]? = some (.cells #[.int .i64 1, .string ⟨obj.toArray⟩, .string ⟨tt.toArray⟩, .bool tw, .int .i64 mod, .int .i64 len, .int .i64 hav, .int .i64 fr, .int .i64 wh, .int .i64 er, .slice KA nk KC, .string ⟨ten.toArray⟩, .bool keep, .slice UA nu uc, .string ⟨fo.toArray⟩, .int .i64 ff, .int .i64 fto, .string ⟨mt.toArray⟩, .bool mw, .string ⟨nt.toArray⟩, .bool nw, .int .u8 st, .int .i64 tn] 40) := N2.out
          have HD := Lib.hid (HX.out.ext (Ext.drew (Ext.refl W2)))
          have G0 : ∀ y : GrowR (keepB2 pb ab (.cells #[ptrV b, ptrV x, .slice SA ss.length sc, .slice RA ss.length rc] 68) (.cells #[.int .i64 1, .string ⟨obj.toArray⟩, .string ⟨tt.toArray⟩, .bool tw, .int .i64 mod, .int .i64 len, .int .i64 hav, .int .i64 fr, .int .i64 wh, .int .i64 er, .slice KA nk KC, .string ⟨ten.toArray⟩, .bool keep, .slice UA nu uc, .string ⟨fo.toArray⟩, .int .i64 ff, .int .i64 fto, .string ⟨mt.toArray⟩, .bool mw, .string ⟨nt.toArray⟩, .bool nw, .int .u8 st, .int .i64 tn] 40)) W2.drew, y.v.cell? ⟨pb, 0, none⟩ = some (.pointer (some ⟨b, 0, none⟩)) := fun y => blk_cell (y.ext.1 P0) 0
          have G2 : ∀ y : GrowR (keepB2 pb ab (.cells #[ptrV b, ptrV x, .slice SA ss.length sc, .slice RA ss.length rc] 68) (.cells #[.int .i64 1, .string ⟨obj.toArray⟩, .string ⟨tt.toArray⟩, .bool tw, .int .i64 mod, .int .i64 len, .int .i64 hav, .int .i64 fr, .int .i64 wh, .int .i64 er, .slice KA nk KC, .string ⟨ten.toArray⟩, .bool keep, .slice UA nu uc, .string ⟨fo.toArray⟩, .int .i64 ff, .int .i64 fto, .string ⟨mt.toArray⟩, .bool mw, .string ⟨nt.toArray⟩, .bool nw, .int .u8 st, .int .i64 tn] 40)) W2.drew, y.v.cell? ⟨ab, 1, none⟩ = some (.string ⟨obj.toArray⟩) := fun y => blk_cell (y.ext.2 A0) 1
          have G3 : ∀ y : GrowR (keepB2 pb ab (.cells #[ptrV b, ptrV x, .slice SA ss.length sc, .slice RA ss.length rc] 68) (.cells #[.int .i64 1, .string ⟨obj.toArray⟩, .string ⟨tt.toArray⟩, .bool tw, .int .i64 mod, .int .i64 len, .int .i64 hav, .int .i64 fr, .int .i64 wh, .int .i64 er, .slice KA nk KC, .string ⟨ten.toArray⟩, .bool keep, .slice UA nu uc, .string ⟨fo.toArray⟩, .int .i64 ff, .int .i64 fto, .string ⟨mt.toArray⟩, .bool mw, .string ⟨nt.toArray⟩, .bool nw, .int .u8 st, .int .i64 tn] 40)) W2.drew, y.v.cell? ⟨ab, 13, none⟩ = some (.slice UA nu uc) := fun y => blk_cell (y.ext.2 A0) 13
          refine wp_region_segsR (keepB2 pb ab (.cells #[ptrV b, ptrV x, .slice SA ss.length sc, .slice RA ss.length rc] 68) (.cells #[.int .i64 1, .string ⟨obj.toArray⟩, .string ⟨tt.toArray⟩, .bool tw, .int .i64 mod, .int .i64 len, .int .i64 hav, .int .i64 fr, .int .i64 wh, .int .i64 er, .slice KA nk KC, .string ⟨ten.toArray⟩, .bool keep, .slice UA nu uc, .string ⟨fo.toArray⟩, .int .i64 ff, .int .i64 fto, .string ⟨mt.toArray⟩, .bool mw, .string ⟨nt.toArray⟩, .bool nw, .int .u8 st, .int .i64 tn] 40)) [.inl [0, 1, 2, 3, 4, 5, 6, 7, 9, 10], .inr (.inl 8), .inr (.inl 11), .inr (.inl 12), .inl [13]] (by kernel_rfl) (by kernel_rfl) (fun c a d v w h => by cases d <;> exact h) ?_
          (rw [wpSegsR_inl]; simp only [pickOps, List.map_cons, List.map_nil, List.getD_cons_succ, List.getD_cons_zero]; (repeat (go_big_quiet_step (fail))); (refine wpQuiet_get 38 _ rfl _ rfl ab 2 40 _ [.string ⟨tt.toArray⟩, .bool tw, .int .i64 mod, .int .i64 len, .int .i64 hav, .int .i64 fr, .int .i64 wh, .int .i64 er, .slice KA nk KC, .string ⟨ten.toArray⟩, .bool keep] rfl (fun W hW => by obtain ⟨y, rfl⟩ := hW; exact y.ext.2 A0) (by kernel_rfl) Try.underlying38 rfl size38 ?_; simp only [Act.put, List.setIfInBounds_toArray, List.set_cons_succ, List.set_cons_zero]); (repeat (go_big_quiet_step (fail))); refine wpQuiet_nil ?_)
          clear G0 G2 G3 A0 P0
          (rw [wpSegsR_grow]; simp only [pickOps, List.map_cons, List.map_nil, List.getD_cons_succ, List.getD_cons_zero]; go_wp2_with (fail))
          refine ⟨keepB2_of ((ext_alloc1 _ _).heap HD.out.blk) ((ext_alloc1 _ _).heap N2.out), ?_⟩
          have HBD := Lib.hid (BytesAt.ext HBT.out HD.out.st.base)
          (rw [wpSegsR_grow]; simp only [pickOps, List.map_cons, List.map_nil, List.getD_cons_succ, List.getD_cons_zero]; go_wp2_with ((at_builtin; refine wpList_copyE rfl _ _ rfl _ bs HBD.out rfl rfl (by have := HBL.out; omega) ?_; intro v6 W6 r6 x6; refine stop_of ?_)))
          unfold Stop
          have H6 := Lib.hid (HD.out.st.hold x6 r6 (Nat.le_refl _))
          have K6 := Lib.hid (KeepP.ext x6 (fun g hg => HD.out.st.plt hg))
          have N6 := Lib.hid (x6.heap N2.out)
          go_wp2_with fail
          refine ⟨keepB2_of (x6.heap HD.out.blk) (x6.heap N2.out), ?_⟩
          clear x6 r6
          have HKT6 := Lib.hid (TextsAt.ext HKT.out H6.out.base)
          (rw [wpSegsR_grow]; simp only [pickOps, List.map_cons, List.map_nil, List.getD_cons_succ, List.getD_cons_zero]; go_wp2_with ((go_at_call 13; refine (p_set (m := ⟨tt, tw, mod, len, hav, fr, wh, er, keys, ten, keep⟩) H6.out (by have := HX.out.hN; have := HJK.out; omega) (by have := HOL3.out; omega) HMZ.out HKT6.out HKL.out List.mem_cons_self (by have := HBL.out; omega)).mono ?_; rintro e w7 ⟨rfl, h7, q7⟩; refine stop_of ?_)))
          unfold Stop
          have K7 := Lib.hid (K6.out.trans q7); have H7 := Lib.hid h7
          have N7 := Lib.hid ((K7.out ab (.inr (.inr (.inr (.inl rfl))))).trans N2.out)
          go_wp2_with fail
          refine ⟨keepB2_of ((K7.out pb (.inl rfl)).trans HD.out.blk) N7.out, ?_⟩
          clear q7 h7 HBD HKT6 K6 H6 N6
          (rw [wpSegsR_inl]; simp only [pickOps, List.map_cons, List.map_nil, List.getD_cons_succ, List.getD_cons_zero]; (repeat (go_big_quiet_step (fail))); refine wpQuiet_nil ?_)
          rw [wpSegsR_nil]
          have hg7 := good_set (o := obj) (m := ⟨tt, tw, mod, len, hav, fr, wh, er, keys, ten, keep⟩) HX.out.good HBL.out
          have HP7 := Lib.hid (show PlayT w w7 pb b x (j + 1) (setA vs obj ⟨tt, tw, mod, len, hav, fr, wh, er, keys, ten, keep⟩ bs).2 ss [] (fun g => g = ab ∨ Lx g) from ⟨_, ts, sa, ra, SA, sc, RA, rc, HD.out.fin H7.out K7.out (fun p hp => by simp at hp) (by have := HX.out.hN; omega) rfl hg7 HX.out.tl HX.out.tz⟩)
          have HS7 := Lib.hid (show HadAt w7 (2 * j) Lx (some mm) H K from (HS2.out.kept (w' := W2.drew) fun g hg => rfl).kept (K7.out.sub fun g hg => .inr (.inr (.inr (.inr hg)))))
          clear hg7 H7 K7 HD HX N2 HS2 k0
          by_cases hc : (setA vs obj ⟨tt, tw, mod, len, hav, fr, wh, er, keys, ten, keep⟩ bs).1 = 0
          · have HSH := Lib.hid (set_had hc)
            simp only at HSH
            rw [hc]
            obtain ⟨us, hus⟩ : ∃ us, us = (setA vs obj ⟨tt, tw, mod, len, hav, fr, wh, er, keys, ten, keep⟩ bs).2 := ⟨_, rfl⟩
            rw [← hus] at HP7 HSH
            clear hc hus
            have o7 := blk_cell N7.out 1
            simp at o7
            have q79 := q79; have hmm := @run_makeMap Try.prog
            have hl7 := HS7.out.look HOL.out
            cases hH : H obj with
            | some g0 =>
              have HG8 := Lib.hid hH
              rw [hH] at hl7
              have HP8 := HP7
              obtain ⟨K8, hK8⟩ : ∃ K', K' = K := ⟨_, rfl⟩
              have HS8 := Lib.hid (show HadAt w7 (2 * j + 1) Lx (some mm) H K8 from by rw [hK8]; exact HS7.out.more (by omega)); have N8 := N7
              have HF8 := Lib.hid (show ∀ o t, hadF H K8 o t = hadF H K o t from fun _ _ => by rw [hK8])
              clear HP7 HS7 N7 hH hK8
              go_wp2_with (first | (refine wpList_get 27 _ rfl _ rfl ab 2 40 _ [.string ⟨tt.toArray⟩, .bool tw] N8.out rfl (by kernel_rfl) Try.underlying27 rfl size27 ?_) | (refine wpList_new 27 _ zero27 rfl rfl ?_; intro W9 x9 n9 s9; refine stop_of ?_))
              unfold Stop
              obtain ⟨tb, htb⟩ : ∃ p, p = w7.heap.size := ⟨_, rfl⟩
              rw [← htb] at n9 ⊢
              have N9 := Lib.hid n9; have X9 := Lib.hid x9; have HTB := Lib.hid htb
              clear x9 n9 s9 htb
              go_wp2_with (refine wpList_put 27 rfl _ _ rfl tb 0 27 _ #[.string ⟨tt.toArray⟩, .bool tw] [.string ⟨tt.toArray⟩, .bool tw] _ N9.out rfl rfl rfl (by simp) rfl size27 (by kernel_rfl) ?_; intro WA xa na sa9; refine stop_of ?_)
              unfold Stop
              have XA := Lib.hid (X9.out.thenB xa (by have := HTB.out; simp; omega))
              have NT := Lib.hid na; have NB := Lib.hid (XA.out.heap N8.out)
              have HPA := Lib.hid (HP8.out.ext XA.out)
              have HSA := Lib.hid (HS8.out.kept (KeepP.ext XA.out fun g hg => HP8.out.lt' g (.inr hg)))
              clear xa na sa9 N9 X9 HTB
              have t0 := blk_cell NT.out 0; have t1 := blk_cell NT.out 1
              have o1 := blk_cell NB.out 1
              simp at t0 t1 o1
              have q9 := q9e
              by_cases htt : tt = []
              · have e2 : (tt == []) = true := by simp [htt]
                have RE := Lib.hid (show SeenR w WA pb b x (j + 1) mm from ⟨us, ss, _, _, _, HPA.out.other (ExtP.refl _ _) (fun g hg => .inl (.inr hg)), HSA.out.more (by omega), fun o t h0 => by rw [HF8.out o t, HSH.out.1 o t h0, if_neg (fun hh => h0 (by rw [hh.2, htt])), HT.out o t h0]⟩)
                clear HPA HSA NT NB htt
                go_wp2
                go_roundw
                case rel => exact ⟨j + 1, by omega, by go_num, RE⟩
                case measure => first | (simp [intOf]; done) | (simp [intOf]; omega)
              · have e2 : (tt == []) = false := by simp [htt]
                have lt9 : tt.length ≤ 1000000 := HTL.out
                have lo9 : obj.length ≤ 1000000 := HOL.out
                obtain ⟨g8, hg8⟩ : ∃ g, H obj = some g := ⟨_, HG8.out⟩
                obtain ⟨W10, K10, hrun, hS10, hF10, x10⟩ := seen_put (by have := HJK.out; omega) HSA.out hg8 lt9 tw
                have hl1 := HSA.out.look lo9
                have hl2 := HSA.out.look2 (o := obj) lt9
                rw [hg8] at hl1 hl2
                have hv : hadF H K8 obj tt = none ∨ (hadF H K8 obj tt = some true ∧ tw = true) := by
                  rw [HF8.out obj tt, HT.out obj tt htt]
                  cases hx : hadA vs obj tt with
                  | none => exact .inl rfl
                  | some y =>
                    obtain ⟨h1, h2⟩ := HSH.out.2 htt y hx
                    right; exact ⟨by rw [h1]; rfl, h2⟩
                have ho10 := HSA.out.oin obj g8 hg8
                have RE := Lib.hid (show SeenR w W10 pb b x (j + 1) mm from ⟨us, ss, _, K10, _, HPA.out.other (.ofB x10 (fun k hk => .inl (.inr (by rw [show k = g8 by simpa using hk]; exact ho10)))) (fun g hg => .inl (.inr hg)), hS10.more (by omega), fun o t h0 => by
                  rw [hF10 o t, HF8.out o t, HT.out o t h0, HSH.out.1 o t h0]
                  by_cases hc : o = obj ∧ t = tt
                  · rw [if_pos hc, if_pos hc]; simp
                  · rw [if_neg hc, if_neg hc]⟩)
                have HRUN := Lib.hid hrun
                clear hS10 hF10 x10 HPA htt ho10 hrun
                rcases hv with hv | ⟨hv, hw⟩
                · rw [hv] at hl2
                  simp only [Option.getD_none, Option.isSome_none] at hl2
                  clear hv HSA NT NB
                  have hrun := HRUN.out
                  go_wp2
                  go_roundw
                  case rel => exact ⟨j + 1, by omega, by go_num, RE⟩
                  case measure => first | (simp [intOf]; done) | (simp [intOf]; omega)
                · rw [hv] at hl2
                  simp only [Option.getD_some, Option.isSome_some] at hl2
                  subst hw
                  clear hv HSA NT NB
                  have hrun := HRUN.out
                  go_wp2
                  go_roundw
                  case rel => exact ⟨j + 1, by omega, by go_num, RE⟩
                  case measure => first | (simp [intOf]; done) | (simp [intOf]; omega)
            | none =>
              rw [hH] at hl7
              obtain ⟨W8, hput, hS8, x8, hI8⟩ := tell_inner (w := w7) (w1 := w7) (by have := HJK.out; omega) HOL.out (fun g hg => HP7.out.lt' g (.inr hg)) (HS7.out.ownTo fun i hi => .inl hi) hH (Nat.le_refl _)
              have hom := HS7.out.omh mm rfl
              have HG8 : Hid (upd H obj (some w7.heap.size) obj = some w7.heap.size) := Lib.hid (upd_same _ _ _)
              have HF8 := Lib.hid (hadF_made (K := K) (g := w7.heap.size) hH)
              have HS8 := Lib.hid hS8
              have HP8 := Lib.hid (show PlayT w W8 pb b x (j + 1) us ss [] (fun g => g = ab ∨ grownOwn Lx w7 W8 g) from HP7.out.other (.ofB x8 (fun k hk => .inl (.inr (by rw [show k = mm by simpa using hk]; exact hom)))) (fun g hg => by
                rcases hg with e | e | e
                · exact .inl (.inl e)
                · exact .inl (.inr e)
                · exact .inr e))
              have N8 := Lib.hid (x8.heap N7.out (fun hh => HLA.out mm hom (by rw [show ab = mm by simpa using hh])))
              clear HP7 HS7 N7 hH hS8 x8 hI8 hom
              go_wp2_with (first | (refine wpList_get 27 _ rfl _ rfl ab 2 40 _ [.string ⟨tt.toArray⟩, .bool tw] N8.out rfl (by kernel_rfl) Try.underlying27 rfl size27 ?_) | (refine wpList_new 27 _ zero27 rfl rfl ?_; intro W9 x9 n9 s9; refine stop_of ?_))
              unfold Stop
              obtain ⟨tb, htb⟩ : ∃ p, p = W8.heap.size := ⟨_, rfl⟩
              rw [← htb] at n9 ⊢
              have N9 := Lib.hid n9; have X9 := Lib.hid x9; have HTB := Lib.hid htb
              clear x9 n9 s9 htb
              go_wp2_with (refine wpList_put 27 rfl _ _ rfl tb 0 27 _ #[.string ⟨tt.toArray⟩, .bool tw] [.string ⟨tt.toArray⟩, .bool tw] _ N9.out rfl rfl rfl (by simp) rfl size27 (by kernel_rfl) ?_; intro WA xa na sa9; refine stop_of ?_)
              unfold Stop
              have XA := Lib.hid (X9.out.thenB xa (by have := HTB.out; simp; omega))
              have NT := Lib.hid na; have NB := Lib.hid (XA.out.heap N8.out)
              have HPA := Lib.hid (HP8.out.ext XA.out)
              have HSA := Lib.hid (HS8.out.kept (KeepP.ext XA.out fun g hg => HP8.out.lt' g (.inr hg)))
              clear xa na sa9 N9 X9 HTB
              have t0 := blk_cell NT.out 0; have t1 := blk_cell NT.out 1
              have o1 := blk_cell NB.out 1
              simp at t0 t1 o1
              have q9 := q9e
              by_cases htt : tt = []
              · have e2 : (tt == []) = true := by simp [htt]
                have RE := Lib.hid (show SeenR w WA pb b x (j + 1) mm from ⟨us, ss, _, _, _, HPA.out.other (ExtP.refl _ _) (fun g hg => .inl (.inr hg)), HSA.out.more (by omega), fun o t h0 => by rw [HF8.out o t, HSH.out.1 o t h0, if_neg (fun hh => h0 (by rw [hh.2, htt])), HT.out o t h0]⟩)
                clear HPA HSA NT NB htt
                go_wp2
                go_roundw
                case rel => exact ⟨j + 1, by omega, by go_num, RE⟩
                case measure => first | (simp [intOf]; done) | (simp [intOf]; omega)
              · have e2 : (tt == []) = false := by simp [htt]
                have lt9 : tt.length ≤ 1000000 := HTL.out
                have lo9 : obj.length ≤ 1000000 := HOL.out
                obtain ⟨g8, hg8⟩ : ∃ g, upd H obj (some w7.heap.size) obj = some g := ⟨_, HG8.out⟩
                obtain ⟨W10, K10, hrun, hS10, hF10, x10⟩ := seen_put (by have := HJK.out; omega) HSA.out hg8 lt9 tw
                have hl1 := HSA.out.look lo9
                have hl2 := HSA.out.look2 (o := obj) lt9
                rw [hg8] at hl1 hl2
                have hv : hadF (upd H obj (some w7.heap.size)) (fun o' => if o' = obj then fun _ => none else K o') obj tt = none ∨ (hadF (upd H obj (some w7.heap.size)) (fun o' => if o' = obj then fun _ => none else K o') obj tt = some true ∧ tw = true) := by
                  rw [HF8.out obj tt, HT.out obj tt htt]
                  cases hx : hadA vs obj tt with
                  | none => exact .inl rfl
                  | some y =>
                    obtain ⟨h1, h2⟩ := HSH.out.2 htt y hx
                    right; exact ⟨by rw [h1]; rfl, h2⟩
                have ho10 := HSA.out.oin obj g8 hg8
                have RE := Lib.hid (show SeenR w W10 pb b x (j + 1) mm from ⟨us, ss, _, K10, _, HPA.out.other (.ofB x10 (fun k hk => .inl (.inr (by rw [show k = g8 by simpa using hk]; exact ho10)))) (fun g hg => .inl (.inr hg)), hS10.more (by omega), fun o t h0 => by
                  rw [hF10 o t, HF8.out o t, HT.out o t h0, HSH.out.1 o t h0]
                  by_cases hc : o = obj ∧ t = tt
                  · rw [if_pos hc, if_pos hc]; simp
                  · rw [if_neg hc, if_neg hc]⟩)
                have HRUN := Lib.hid hrun
                clear hS10 hF10 x10 HPA htt ho10 hrun
                rcases hv with hv | ⟨hv, hw⟩
                · rw [hv] at hl2
                  simp only [Option.getD_none, Option.isSome_none] at hl2
                  clear hv HSA NT NB
                  have hrun := HRUN.out
                  go_wp2
                  go_roundw
                  case rel => exact ⟨j + 1, by omega, by go_num, RE⟩
                  case measure => first | (simp [intOf]; done) | (simp [intOf]; omega)
                · rw [hv] at hl2
                  simp only [Option.getD_some, Option.isSome_some] at hl2
                  subst hw
                  clear hv HSA NT NB
                  have hrun := HRUN.out
                  go_wp2
                  go_roundw
                  case rel => exact ⟨j + 1, by omega, by go_num, RE⟩
                  case measure => first | (simp [intOf]; done) | (simp [intOf]; omega)
          · have HSV := setA_no (vs := vs) (o := obj) (m := ⟨tt, tw, mod, len, hav, fr, wh, er, keys, ten, keep⟩) (bs := bs) hc
            rw [HSV] at HP7
            have RE := Lib.hid (show SeenR w w7 pb b x (j + 1) mm from ⟨vs, ss, H, K, Lx, HP7.out.other (ExtP.refl _ _) (fun g hg => .inl (.inr hg)), HS7.out.more (by omega), HT.out⟩)
            clear HSV HP7 HS7
            obtain ⟨ec, hec⟩ : ∃ e, e = (setA vs obj ⟨tt, tw, mod, len, hav, fr, wh, er, keys, ten, keep⟩ bs).1 := ⟨_, rfl⟩
            rw [← hec] at hc ⊢
            clear hec
            have e3 : (ec == 0) = false := by simpa using hc
            go_wp2
            go_roundw
            case rel => exact ⟨j + 1, by omega, by go_num, RE⟩
            case measure => first | (simp [intOf]; done) | (simp [intOf]; omega)
        · go_wp2_with (first | (refine wpList_get 40 _ rfl _ rfl ab 0 40 _ (actC a) N2.out rfl (by kernel_rfl) Try.underlying40 rfl size40 ?_) | (go_at_call 23; refine (doT_any HP2.out HJK.out HA.out e1).mono ?_; rintro e w3 ⟨⟨r, rfl⟩, h3, k3⟩; refine stop_of ?_))
          unfold Stop
          have RE := Lib.hid (show SeenR w w3 pb b x (j + 1) mm from ⟨_, _, H, K, Lx, h3.other (ExtP.refl _ _) (fun g hg => .inl (.inr hg)), (HS2.out.kept (k3.sub fun g hg => .inr hg)).more (by omega), fun o t h0 => by rw [doV_had e1]; exact HT.out o t h0⟩)
          clear h3 k3 HP2 HS2 N2 HA
          go_wp2
          go_roundw
          case rel => exact ⟨j + 1, by omega, by go_num, RE⟩
          case measure => first | (simp [intOf]; done) | (simp [intOf]; omega)
      · have XE := Lib.hid (show Ext w wr from by obtain ⟨vs, ss, H, K, Lx, hp, hs, ht⟩ := R.out; exact hp.base)
        go_wp2
        go_ret
        exact ⟨rfl, XE.out⟩
set_option maxRecDepth 100000 in
theorem originTags_lifted (os : Os) (started : os.Started) (H : Type) (enc : TypeId × Value → H) :
    ReturnsInHanded {} Try.checked os 8 .any (Rows.originTagsSpec.pre6 enc Try.prog Try.f8 Rows.originTagsRow.domain false) (Rows.originTagsSpec.post enc Try.prog Try.f8 false true false false) := by
  refine returnsInHanded_of_change (C := Try.checked) own started (by kernel_rfl) Try.func8
    (ChangeSpec.witness6 (enc := enc) (C := Try.checked) false ⟨#[], #[.slice none 0 0], []⟩ 8 (by kernel_rfl) (by kernel_rfl) (by kernel_rfl) (by kernel_rfl)) ?_
  intro W base args ds gs before hval0 hW hcnd _
  have hval : ∀ (j : Nat) t v, Try.f8.params[j]? = some t → args[j]? = some v → Value.okWide Try.prog W .any base t v := hval0
  have hW' := hW
  obtain ⟨p, q, hA0, hV, rfl, hfz, hnd⟩ := hW
  have hA : DataW.TrodAll enc Try.prog W 0 (fun _ => true) true Try.f8.params.toList args.toList ds p := hA0
  rw [Try.params8] at hA hval
  obtain ⟨v0, vs0, d0, ds0, p0, q0, hargs, rfl, rfl, h0, r0⟩ := trodAll_cons hA
  obtain ⟨rfl, rfl, rfl⟩ := trodAll_nil r0
  obtain rfl : args = #[v0] := by cases args; simp_all
  obtain ⟨rfl, rfl⟩ := trodVars_none hV
  have lt0 : ∀ x ∈ p0, x.block < W.heap.size := by obtain ⟨m, hm⟩ := h0; exact DataW.trod_lt m _ _ _ hm
  have t0 := fun W' (bel : Below W.heap.size W W') => Below.trod laidOut (by kernel_rfl) (of_decide_eq_true (by kernel_rfl)) h0 bel lt0
  obtain ⟨xs0, ha0, hl0⟩ := acts_open (hval 0 41 v0 rfl rfl) h0
  clear hA0 hval0
  refine (tags_walk v0 xs0 W ha0 ).mono fun e W' ⟨he, bel⟩ => ?_
  subst he
  exact ⟨_, rfl, _, _, _, [], _, [], hW', trodAll_mk1 (shut_bool Try.underlying4 _), (trodAll_cons_mk (t0 W' bel) trodAll_mk0), rfl, bel.frame _, fun h => by cases h⟩

/-- The statement. -/
theorem OriginTags_proved : Rows.OriginTagsSaid :=
  OpenClaim.holds_of_wide 8 Try.f8 rfl rfl rfl rfl rfl rfl rfl ⟨rfl, rfl, rfl, rfl, rfl⟩ rfl rfl rfl rfl rfl (by kernel_rfl) Try.func8 (by kernel_rfl)
    (of_decide_eq_true (by kernel_rfl)) (by unfold Func.isWrapper; first | (rw [if_pos (by decide +kernel)]; kernel_rfl) | (rw [if_neg (by decide +kernel)]; exact ⟨rfl, rfl⟩))
    (fun os started H enc _ => originTags_lifted os started H enc)
#print axioms OriginTags_proved
end Go.Proofs.Ytpangoddbfiagaa
