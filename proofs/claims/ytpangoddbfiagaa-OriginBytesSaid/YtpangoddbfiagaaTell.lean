/- tell, walked: what an object had. -/
import Derived.Test.YtpangoddbfiagaaGone
namespace Go.Proofs.Ytpangoddbfiagaa
open Go.RowKit Go.Maps Go.ChangeMaps
set_option linter.unusedVariables false
set_option linter.unusedSimpArgs false

structure HadAt (w : World) (N : Nat) (own : Nat → Prop) (mh : Option Nat) (H : Bs → Option Nat) (K : Bs → Bs → Option Bool) : Prop where
  had : OMap mpE w mh N H
  inn : ∀ o g, H o = some g → GMap boE w g N (K o)
  hinj : ∀ o o' g, H o = some g → H o' = some g → o = o'
  omh : ∀ m, mh = some m → own m
  oin : ∀ o g, H o = some g → own g
  d2 : ∀ o g, H o = some g → mh ≠ some g
def hadF (H : Bs → Option Nat) (K : Bs → Bs → Option Bool) (o t : Bs) : Option Bool := match H o with
  | none => none
  | some _ => K o t
theorem MpAt.hadAt {w : World} {N : Nat} {own : Nat → Prop} {vs : List Vn} {va : List Nat} {mo mh : Option Nat} {H : Bs → Option Nat} {K : Bs → Bs → Option Bool} (h : MpAt w N own vs va mo mh H K) : HadAt w N own mh H K :=
  ⟨h.had, h.inn, h.hinj, h.omh, h.oin, fun o g e => (h.d2 o g e).2⟩
theorem HadAt.look {w : World} {N : Nat} {own : Nat → Prop} {mh : Option Nat} {H : Bs → Option Nat} {K : Bs → Bs → Option Bool} (h : HadAt w N own mh H K) {o : Bs} (ho : o.length ≤ 1000000) : (Instr.lookup 78 (.map mh) (.string ⟨o.toArray⟩) false).run Try.prog w = .ok (.map (H o)) w := by
  rw [h.had.look Try.underlying78 (zero79 w) ho]
  cases H o <;> rfl
theorem HadAt.look2 {w : World} {N : Nat} {own : Nat → Prop} {mh : Option Nat} {H : Bs → Option Nat} {K : Bs → Bs → Option Bool} (h : HadAt w N own mh H K) {o t : Bs} (ht : t.length ≤ 1000000) : (Instr.lookup 79 (.map (H o)) (.string ⟨t.toArray⟩) true).run Try.prog w = .ok (.tuple #[.bool ((hadF H K o t).getD false), .bool (hadF H K o t).isSome]) w := by
  unfold hadF
  cases e : H o with
  | none => exact Maps.look_nil (w := w) true law9 Try.underlying79 (zero4 w) (key9 ht)
  | some g =>
    rw [(h.inn o g e).look_ok Try.underlying79 (zero4 w) ht]
    cases K o t <;> rfl
/-- What 'tell' leaves. -/
structure TellR (w : World) (b N : Nat) (own : Nat → Prop) (mo mh : Option Nat) (H : Bs → Option Nat) (K : Bs → Bs → Option Bool) (o t : Bs) (x : Bool) (w' : World) : Prop where
  ex : ∃ mh' H' K', HadAt w' (N + 1) (grownOwn own w w') mh' H' K' ∧ (∀ o' t', hadF H' K' o' t' = if o' = o ∧ t' = t then some x else hadF H K o' t') ∧ w'.heap[b]? = some (.cells #[.map mo, .map mh'] 84 (0, 0)) ∧ (∀ m, mh' = some m → mh = some m ∨ w.heap.size ≤ m) ∧ (∀ o' g, H' o' = some g → H o' = some g ∨ w.heap.size ≤ g)
  ext : ExtB (b :: (mh.toList ++ (H o).toList)) w w'
/-- The last step: both maps are there. -/
theorem tell_end {w w1 : World} {b N : Nat} {own : Nat → Prop} {mo mh : Option Nat} {H : Bs → Option Nat} {K : Bs → Bs → Option Bool} {o t : Bs} {x : Bool} (hN : N ≤ 900000) (ht : t.length ≤ 1000000) (hob : own b) (hlt : ∀ i, own i → i < w.heap.size) {m g : Nat} {H1 : Bs → Option Nat} {K1 : Bs → Bs → Option Bool}
    (h1 : HadAt w1 (N + 1) (grownOwn own w w1) (some m) H1 K1) (hg : H1 o = some g) (hF : ∀ o' t', hadF H1 K1 o' t' = hadF H K o' t') (hb : w1.heap[b]? = some (.cells #[.map mo, .map (some m)] 84 (0, 0))) (hm : mh = some m ∨ w.heap.size ≤ m) (hH : ∀ o' g, H1 o' = some g → H o' = some g ∨ w.heap.size ≤ g) (hx : ExtB (b :: (mh.toList ++ (H o).toList)) w w1) (hgN : GMap boE w1 g N (K1 o)) :
    ∃ w2, (Instr.mapUpdate 79 (.map (some g)) (.string ⟨t.toArray⟩) (.bool x)).run Try.prog w1 = .ok () w2 ∧ TellR w b N own mo mh H K o t x w2 ∧ ExtB [g] w1 w2 := by
  obtain ⟨w2, hrun, h2, ht2⟩ := hgN.put (by omega) Try.underlying79 ht x
  have x2 := turned_ext ht2
  obtain ⟨es, cl, hes⟩ := hgN.at_
  have hsz := x2.size
  have hown : ∀ i, grownOwn own w w1 i → grownOwn own w w2 i := fun i hi => hi.imp id fun h => ⟨h.1, Nat.lt_of_lt_of_le h.2 hsz⟩
  have hmg : m ≠ g := fun e => h1.d2 o g hg (by rw [e])
  have keep : ∀ (m' : Nat) (es : Array MapEntry) (cl : Nat), w1.heap[m']? = some (.map es cl) → m' ≠ g → w2.heap[m']? = w1.heap[m']? := fun m' es cl e hne => x2.block m' (blk_lt e) (by simpa using hne)
  refine ⟨w2, hrun, ⟨⟨some m, H1, fun o' => if o' = o then upd (K1 o) t (some x) else K1 o', ⟨?_, fun o' g' e => ?_, h1.hinj, fun m' e => hown _ (h1.omh m' e), fun o' g' e => hown _ (h1.oin o' g' e), h1.d2⟩, fun o' t' => ?_, x2.heap hb ?_, fun m' e => ?_, hH⟩, ?_⟩, x2⟩
  · refine h1.had.same fun m' e => ?_
    obtain rfl : m = m' := Option.some.inj e
    obtain ⟨es, cl, e⟩ := h1.had.lt
    exact keep m es cl e hmg
  · by_cases ho : o' = o
    · subst ho
      rw [hg] at e
      obtain rfl : g = g' := Option.some.inj e
      rw [if_pos rfl]; exact h2
    · rw [if_neg ho]
      obtain ⟨es, cl, e1⟩ := (h1.inn o' g' e).at_
      exact (h1.inn o' g' e).same (keep g' es cl e1 (fun e2 => ho (h1.hinj o' o g (by rw [← e2]; exact e) hg)))
  · have hF' := hF o' t'
    unfold hadF at hF' ⊢
    by_cases ho : o' = o
    · subst ho
      rw [hg] at hF' ⊢
      simp only [true_and, if_true]
      by_cases hteq : t' = t
      · subst hteq; simp [upd]
      · rw [upd_other _ hteq, if_neg hteq]; exact hF'
    · simp only [ho, false_and, if_false]
      exact hF'
  · intro hh
    have e : b = g := by simpa using hh
    rw [← e, hb] at hes; cases hes
  · obtain rfl : m = m' := Option.some.inj e
    exact hm
  · refine ⟨x2.os.trans hx.os, x2.tape.trans hx.tape, x2.output.trans hx.output, Nat.le_trans hx.size x2.size, fun k hk hn => ?_⟩
    refine (x2.block k (Nat.lt_of_lt_of_le hk hx.size) ?_).trans (hx.block k hk hn)
    intro hh
    have e : k = g := by simpa using hh
    subst e
    rcases hH o k hg with e | e
    · exact hn (by simp [e])
    · omega
section
variable {w : World} {b N : Nat} {own : Nat → Prop} {mo mh : Option Nat} {H : Bs → Option Nat} {K : Bs → Bs → Option Bool}
/-- The inner map is made. -/
theorem tell_inner {w1 : World} {o : Bs} (hN : N ≤ 900000) (ho : o.length ≤ 1000000) (hlt : ∀ i, own i → i < w.heap.size) {m : Nat} (h1 : HadAt w1 N (grownOwn own w w1) (some m) H K) (hH : H o = none) (hw : w.heap.size ≤ w1.heap.size) :
    ∃ w2, (Instr.mapUpdate 78 (.map (some m)) (.string ⟨o.toArray⟩) (.map (some w1.heap.size))).run Try.prog (w1.alloc (.map #[] 0)) = .ok () w2 ∧ HadAt w2 (N + 1) (grownOwn own w w2) (some m) (upd H o (some w1.heap.size)) (fun o' => if o' = o then fun _ => none else K o') ∧ ExtB [m] w1 w2 ∧ GMap boE w2 w1.heap.size N (fun _ => none) := by
  have x0 : Ext w1 (w1.alloc (.map #[] 0)) := ext_alloc1 _ _
  have hM : GMap mpE (w1.alloc (.map #[] 0)) m N H := by
    rcases h1.had with ⟨e, _⟩ | ⟨m', e, hM⟩
    · cases e
    · obtain rfl := Option.some.inj e
      obtain ⟨es, cl, he⟩ := hM.at_
      exact hM.same (x0.block m (blk_lt he))
  obtain ⟨w2, hrun, h2, ht2⟩ := hM.put (by omega) Try.underlying78 ho w1.heap.size
  have x2 := turned_ext ht2
  obtain ⟨es, cl, hes⟩ := hM.at_
  have hm1 : m < w1.heap.size := by
    rcases h1.omh m rfl with h | h
    · have := hlt m h; omega
    · exact h.2
  have hsz : w1.heap.size + 1 ≤ w2.heap.size := by have := x2.size; simpa using this
  have hown : ∀ i, grownOwn own w w1 i → grownOwn own w w2 i := fun i hi => hi.imp id fun h => ⟨h.1, by omega⟩
  have gb : ∀ o' g, H o' = some g → g < w1.heap.size := fun o' g e => by obtain ⟨es, cl, e1⟩ := (h1.inn o' g e).at_; exact blk_lt e1
  have hnew : GMap boE w2 w1.heap.size N (fun _ => none) := ((GMap.made boE w1).same (w' := w2) (x2.block w1.heap.size (by simp) (by simp; omega))).more (Nat.zero_le _)
  have hget : ∀ o' g, upd H o (some w1.heap.size) o' = some g → (o' = o ∧ g = w1.heap.size) ∨ (o' ≠ o ∧ H o' = some g) := fun o' g e => by
    unfold upd at e
    by_cases hoo : o' = o
    · rw [if_pos hoo] at e; exact .inl ⟨hoo, (Option.some.inj e).symm⟩
    · rw [if_neg hoo] at e; exact .inr ⟨hoo, e⟩
  refine ⟨w2, hrun, ⟨.inr ⟨m, rfl, h2⟩, fun o' g e => ?_, fun o1 o2 g e1 e2 => ?_, fun m' e => hown m' (h1.omh m' e), fun o' g e => ?_, fun o' g e e2 => ?_⟩, ?_, hnew⟩
  · rcases hget o' g e with ⟨rfl, rfl⟩ | ⟨hne, e⟩
    · rw [if_pos rfl]; exact hnew.more (by omega)
    · rw [if_neg hne]
      obtain ⟨es, cl, e1⟩ := (h1.inn o' g e).at_
      refine ((h1.inn o' g e).same (w' := w2) ?_).more (by omega)
      refine (x2.block g (by have := blk_lt e1; simp; omega) ?_).trans (x0.block g (blk_lt e1))
      intro hh; exact h1.d2 o' g e (by rw [show g = m by simpa using hh])
  · rcases hget o1 g e1 with ⟨a1, a2⟩ | ⟨a1, a2⟩ <;> rcases hget o2 g e2 with ⟨a3, a4⟩ | ⟨a3, a4⟩
    · rw [a1, a3]
    · have := gb _ _ a4; omega
    · have := gb _ _ a2; omega
    · exact h1.hinj o1 o2 g a2 a4
  · rcases hget o' g e with ⟨rfl, rfl⟩ | ⟨hne, e⟩
    · exact .inr ⟨hw, by omega⟩
    · exact hown g (h1.oin o' g e)
  · have e2 := Option.some.inj e2
    rcases hget o' g e with ⟨rfl, rfl⟩ | ⟨hne, e⟩
    · omega
    · exact h1.d2 o' g e (by rw [e2])
  · exact (ExtB.of x0 [m]).trans x2
end
section
variable {w : World} {b N : Nat} {own : Nat → Prop} {mo mh : Option Nat} {H : Bs → Option Nat} {K : Bs → Bs → Option Bool}
theorem HadAt.grown {w1 : World} (h : HadAt w N own mh H K) (x : Ext w w1) (hlt : ∀ i, own i → i < w.heap.size) : HadAt w1 N (grownOwn own w w1) mh H K := by
  refine ⟨h.had.same fun m e => ?_, fun o g e => (h.inn o g e).same (x.block g (hlt g (h.oin o g e))), h.hinj, fun m e => .inl (h.omh m e), fun o g e => .inl (h.oin o g e), h.d2⟩
  exact x.block m (hlt m (h.omh m e))
theorem HadAt.moreN (h : HadAt w N own mh H K) : HadAt w (N + 1) own mh H K := ⟨h.had.more (Nat.le_succ _), fun o g e => (h.inn o g e).more (Nat.le_succ _), h.hinj, h.omh, h.oin, h.d2⟩
theorem HadAt.drewA (h : HadAt w N own mh H K) : HadAt w.drew N own mh H K := ⟨h.had.same fun _ _ => rfl, fun o g e => (h.inn o g e).same rfl, h.hinj, h.omh, h.oin, h.d2⟩
theorem HadAt.look_grow (h : HadAt w N own mh H K) (x : Grow [] w) {o : Bs} (ho : o.length ≤ 1000000) : (Instr.lookup 78 (.map mh) (.string ⟨o.toArray⟩) false).run Try.prog x.v = .ok (.map (H o)) x.v := by
  have h2 : OMap mpE x.v mh N H := h.had.same fun m e => by
    subst e
    obtain ⟨es, cl, e⟩ := h.had.lt
    exact x.ext.block m (blk_lt e) (by simp)
  rw [h2.look Try.underlying78 (zero79 x.v) ho]
  cases H o <;> rfl
theorem HadAt.mapAt {m : Nat} (h : HadAt w N own (some m) H K) : ∃ es cl, w.heap[m]? = some (.map es cl) := h.had.lt
theorem hadF_made {o : Bs} {g : Nat} (h : H o = none) (o' t' : Bs) : hadF (upd H o (some g)) (fun o' => if o' = o then fun _ => none else K o') o' t' = hadF H K o' t' := by
  unfold hadF
  by_cases e : o' = o
  · subst e; rw [upd_same, h]; simp
  · simp only [upd_other _ e, if_neg e]
theorem extB_step {w1 w2 : World} {L X : List Nat} (h : ExtB L w w1) (k : ExtB X w1 w2) (hX : ∀ x ∈ X, x ∈ L ∨ w.heap.size ≤ x) : ExtB L w w2 :=
  ⟨k.os.trans h.os, k.tape.trans h.tape, k.output.trans h.output, Nat.le_trans h.size k.size, fun i hi hn => (k.block i (Nat.lt_of_lt_of_le hi h.size) (fun hh => by
    rcases hX i hh with h1 | h1
    · exact hn h1
    · omega)).trans (h.block i hi hn)⟩
theorem upd_cases {o : Bs} {n g0 : Nat} (hn : n ≤ g0) (o' : Bs) (g : Nat) (e : upd H o (some g0) o' = some g) : H o' = some g ∨ n ≤ g := by
  unfold upd at e
  by_cases he : o' = o
  · rw [if_pos he] at e; obtain rfl := Option.some.inj e; exact .inr hn
  · rw [if_neg he] at e; exact .inl e
theorem size78 : (Try.prog.info? 78).map (·.size) = some 1 := by kernel_rfl
theorem q78 (w : World) (r : Option Nat) : (binOp .eql 78 (.map r) (.map none)).run Try.prog w = .ok (.bool r.isNone) w := run_eql_map_nil w _ _ _ r Try.underlying78
theorem q79 (w : World) (r : Option Nat) : (binOp .eql 79 (.map r) (.map none)).run Try.prog w = .ok (.bool r.isNone) w := run_eql_map_nil w _ _ _ r Try.underlying79
set_option maxRecDepth 100000 in
set_option maxHeartbeats 4000000 in
theorem tell_any (hblk : w.heap[b]? = some (.cells #[.map mo, .map mh] 84 (0, 0))) (hh : HadAt w N own mh H K) (hN : N ≤ 900000) {o t : Bs} (tw : Bool) (ho : o.length ≤ 1000000) (ht : t.length ≤ 1000000) (hob : own b) (hlt : ∀ i, own i → i < w.heap.size) :
    Calls Try.prog 37 #[.pointer (some ⟨b, 0, none⟩), .string ⟨o.toArray⟩, .agg #[.string ⟨t.toArray⟩, .bool tw]] w fun e w' => e = .returned (.tuple #[]) ∧ TellR w b N own mo mh H K o t (!tw) w' := by
  have HA := Lib.hid hh; have HBK := Lib.hid hblk
  clear hh hblk
  have q78 := q78; have q79 := q79; have hmm := @run_makeMap Try.prog
  go_enter Try.func37, Try.ntmps37
  go_wp2_with (refine wpList_boxA 27 rfl _ rfl #[.string ⟨t.toArray⟩, .bool tw] rfl ?_; intro W0 x0 n0 s0; refine stop_of ?_)
  unfold Stop
  have X0 := Lib.hid x0; have N0 := Lib.hid n0
  have HB0 := Lib.hid (x0.heap HBK.out)
  have HX0 : Hid (ExtB (b :: (mh.toList ++ (H o).toList)) w W0) := Lib.hid (.of x0 _)
  have H0 := Lib.hid (HA.out.grown x0 hlt)
  clear x0 n0 s0
  cases mh with
  | some m =>
    have HM1 : Hid ((some m : Option Nat) = some m ∨ w.heap.size ≤ m) := Lib.hid (.inl rfl)
    cases hHo : H o with
    | some g =>
      have HG1 := Lib.hid hHo
      have HI1 := Lib.hid (H0.out.inn o g hHo)
      have HA1 := Lib.hid H0.out.moreN
      have HB1 := HB0; have HX1 := HX0; have N1 := N0
      have HF1 : Hid (∀ o' t', hadF H K o' t' = hadF H K o' t') := Lib.hid fun _ _ => rfl
      have HH1 : Hid (∀ o' g, H o' = some g → H o' = some g ∨ w.heap.size ≤ g) := Lib.hid fun _ _ e => .inl e
      clear H0 HB0 HX0 N0 hHo
      have k1 := blk_cell HB1.out 1
      simp at k1
      have hl1 := HA1.out.look ho
      rw [HG1.out] at hl1
      have j0 := blk_cell N1.out 0; have j1 := blk_cell N1.out 1
      simp at j0 j1
      have hA9 : HadAt W0.drew (N + 1) (grownOwn own w W0.drew) (some m) _ _ := HA1.out.drewA
      obtain ⟨W9, hput, hT, hx9⟩ := tell_end (x := !tw) (w1 := W0.drew) hN ht hob hlt hA9 HG1.out HF1.out HB1.out HM1.out HH1.out (HX1.out.trans (.of (Ext.refl _).drew _)) (HI1.out.same rfl)
      have HT := Lib.hid hT
      have G1 : ∀ x : Grow [] W0.drew, x.v.cell? ⟨b, 1, none⟩ = some (.map (some m)) := fun x => x.ext.cell (a := W0.drew) (blk_cell HB1.out 1) (by simp)
      have G2 : ∀ x : Grow [] W0.drew, x.v.cell? ⟨w.heap.size, 0, none⟩ = some (.string ⟨t.toArray⟩) := fun x => x.ext.cell (a := W0.drew) (blk_cell N1.out 0) (by simp)
      have G3 : ∀ x : Grow [] W0.drew, x.v.cell? ⟨w.heap.size, 1, none⟩ = some (.bool tw) := fun x => x.ext.cell (a := W0.drew) (blk_cell N1.out 1) (by simp)
      have GL : ∀ x : Grow [] W0.drew, (Instr.lookup 78 (.map (some m)) (.string ⟨o.toArray⟩) false).run Try.prog x.v = .ok (.map (some g)) x.v := fun x => by
        have h9 := hA9.look_grow x ho
        rw [HG1.out] at h9
        exact h9
      clear hT hx9 HA1 HF1 HM1 HH1 HX1 HI1 HG1 hA9
      go_wp2_with fail
      refine wp_region_segs [] [.inl [0, 1, 2, 3, 4, 5, 6, 7, 8, 9, 10], .inr (.inr 11)] (by kernel_rfl) (by kernel_rfl) (fun c a d v w h => by cases d <;> exact h) ?_
      (rw [wpSegs_inl]; simp only [pickOps, List.map_cons, List.map_nil, List.getD_cons_succ, List.getD_cons_zero]; (repeat (go_big_quiet_step (fail))); refine wpQuiet_nil ?_)
      clear G1 G2 G3 GL k1 hl1 j0 j1
      (rw [wpSegs_last]; simp only [pickOps, List.map_cons, List.map_nil, List.getD_cons_succ, List.getD_cons_zero]; go_wp2_with (fail))
      rw [wpSegs_nil]
      go_wp2
      exact bodyPost_end (results_none rfl _ _ _) rfl ⟨rfl, HT.out⟩
    | none =>
      have k1 := blk_cell HB0.out 1
      have k2 := blk_cell ((ext_alloc1 W0 (.map #[] 0)).heap HB0.out) 1
      simp at k1 k2
      have hl1 := H0.out.look ho
      rw [hHo] at hl1
      obtain ⟨W2, hput1, HA2, hx2, hI2⟩ := tell_inner (w := w) hN ho hlt H0.out hHo HX0.out.size
      obtain ⟨es, cl, hes⟩ := H0.out.mapAt
      have hbm : b ≠ m := fun e => by rw [← e, HB0.out] at hes; cases hes
      have HB1 := Lib.hid (hx2.heap HB0.out (by simpa using hbm))
      have N1 := Lib.hid (hx2.heap N0.out (by
        intro hh
        rw [← show w.heap.size = m by simpa using hh, N0.out] at hes; cases hes))
      have HA1 := Lib.hid HA2
      have HG1 : Hid (upd H o (some W0.heap.size) o = some W0.heap.size) := Lib.hid (upd_same _ _ _)
      have HI1 : Hid (GMap boE W2 W0.heap.size N ((fun o' => if o' = o then fun _ => none else K o') o)) := Lib.hid (by simpa using hI2)
      have HF1 : Hid (∀ o' t', hadF (upd H o (some W0.heap.size)) (fun o' => if o' = o then fun _ => none else K o') o' t' = hadF H K o' t') := Lib.hid (hadF_made hHo)
      have HX1 : Hid (ExtB (b :: ((some m : Option Nat).toList ++ (H o).toList)) w W2) := Lib.hid (extB_step HX0.out hx2 (fun x hx => .inl (by rw [show x = m by simpa using hx]; simp)))
      have HH1 : Hid (∀ o' g, upd H o (some W0.heap.size) o' = some g → H o' = some g ∨ w.heap.size ≤ g) := Lib.hid (upd_cases HX0.out.size)
      clear H0 HB0 N0 HA2 hx2 hI2 hHo HX0 hes hbm
      have k1 := blk_cell HB1.out 1
      simp at k1
      have hl1 := HA1.out.look ho
      rw [HG1.out] at hl1
      have j0 := blk_cell N1.out 0; have j1 := blk_cell N1.out 1
      simp at j0 j1
      have hA9 : HadAt W2.drew (N + 1) (grownOwn own w W2.drew) (some m) _ _ := HA1.out.drewA
      obtain ⟨W9, hput, hT, hx9⟩ := tell_end (x := !tw) (w1 := W2.drew) hN ht hob hlt hA9 HG1.out HF1.out HB1.out HM1.out HH1.out (HX1.out.trans (.of (Ext.refl _).drew _)) (HI1.out.same rfl)
      have HT := Lib.hid hT
      have G1 : ∀ x : Grow [] W2.drew, x.v.cell? ⟨b, 1, none⟩ = some (.map (some m)) := fun x => x.ext.cell (a := W2.drew) (blk_cell HB1.out 1) (by simp)
      have G2 : ∀ x : Grow [] W2.drew, x.v.cell? ⟨w.heap.size, 0, none⟩ = some (.string ⟨t.toArray⟩) := fun x => x.ext.cell (a := W2.drew) (blk_cell N1.out 0) (by simp)
      have G3 : ∀ x : Grow [] W2.drew, x.v.cell? ⟨w.heap.size, 1, none⟩ = some (.bool tw) := fun x => x.ext.cell (a := W2.drew) (blk_cell N1.out 1) (by simp)
      have GL : ∀ x : Grow [] W2.drew, (Instr.lookup 78 (.map (some m)) (.string ⟨o.toArray⟩) false).run Try.prog x.v = .ok (.map (some W0.heap.size)) x.v := fun x => by
        have h9 := hA9.look_grow x ho
        rw [HG1.out] at h9
        exact h9
      clear hT hx9 HA1 HF1 HM1 HH1 HX1 HI1 HG1 hA9
      go_wp2_with fail
      refine wp_region_segs [] [.inl [0, 1, 2, 3, 4, 5, 6, 7, 8, 9, 10], .inr (.inr 11)] (by kernel_rfl) (by kernel_rfl) (fun c a d v w h => by cases d <;> exact h) ?_
      (rw [wpSegs_inl]; simp only [pickOps, List.map_cons, List.map_nil, List.getD_cons_succ, List.getD_cons_zero]; (repeat (go_big_quiet_step (fail))); refine wpQuiet_nil ?_)
      clear G1 G2 G3 GL k1 hl1 j0 j1
      (rw [wpSegs_last]; simp only [pickOps, List.map_cons, List.map_nil, List.getD_cons_succ, List.getD_cons_zero]; go_wp2_with (fail))
      rw [wpSegs_nil]
      go_wp2
      exact bodyPost_end (results_none rfl _ _ _) rfl ⟨rfl, HT.out⟩
  | none =>
    have k1 := blk_cell HB0.out 1
    simp at k1
    go_wp2_with (refine wpList_put 78 rfl _ _ rfl _ 1 84 _ #[.map mo, .map (some W0.heap.size)] [.map (some W0.heap.size)] (.map (some W0.heap.size)) ((ext_alloc1 W0 (.map #[] 0)).heap HB0.out) rfl rfl rfl (by simp) rfl size78 (by kernel_rfl) ?_; intro W1 x1 n1 s1; refine stop_of ?_)
    unfold Stop
    have hH0 : ∀ k, H k = none := by
      rcases HA.out.had with ⟨_, h⟩ | ⟨m, e, _⟩
      · exact h
      · cases e
    have hbl : b < W0.heap.size := blk_lt HB0.out
    have hwl : w.heap.size ≤ W0.heap.size := HX0.out.size
    obtain ⟨m, hm⟩ : ∃ m, m = W0.heap.size := ⟨_, rfl⟩
    have hH1 : HadAt W1 N (grownOwn own w W1) (some m) H K := by
      refine ⟨.inr ⟨m, rfl, ?_⟩, fun o g e => ?_, fun o o' g e => ?_, fun m' e => ?_, fun o g e => ?_, fun o g e => ?_⟩
      · have e0 : H = fun _ => none := funext hH0
        rw [e0, hm]
        exact ((GMap.made mpE W0).same (x1.block _ (by simp) (by simp; omega))).more (Nat.zero_le _)
      · rw [hH0] at e; cases e
      · rw [hH0] at e; cases e
      · obtain rfl := Option.some.inj e
        refine .inr ⟨by omega, ?_⟩
        have := x1.size
        simp at this; omega
      · rw [hH0] at e; cases e
      · rw [hH0] at e; cases e
    rw [← hm] at n1
    have H0 := Lib.hid hH1
    have N9 := Lib.hid (x1.heap ((ext_alloc1 W0 (.map #[] 0)).heap N0.out) (by
      have : b < w.heap.size := hlt b hob
      simp; omega))
    have HX9 : Hid (ExtB (b :: ((none : Option Nat).toList ++ (H o).toList)) w W1) := Lib.hid ((HX0.out.trans (.of (ext_alloc1 W0 (.map #[] 0)) _)).trans (x1.mono (by simp)))
    have hHo := hH0 o
    have HB9 := Lib.hid n1
    have HM1 : Hid ((none : Option Nat) = some m ∨ w.heap.size ≤ m) := Lib.hid (.inr (by omega))
    have HWL : Hid (w.heap.size ≤ m) := Lib.hid (by omega)
    clear k1 HB0 N0 HX0 HA HBK X0 hH1 n1 x1 hm hbl hH0 hwl s1
    have HB0 := HB9; have N0 := N9; have HX0 := HX9
    clear HB9 N9 HX9
    have k1 := blk_cell HB0.out 1
    have k2 := blk_cell ((ext_alloc1 W1 (.map #[] 0)).heap HB0.out) 1
    simp at k1 k2
    have hl1 := H0.out.look ho
    rw [hHo] at hl1
    obtain ⟨W2, hput1, HA2, hx2, hI2⟩ := tell_inner (w := w) hN ho hlt H0.out hHo HX0.out.size
    obtain ⟨es, cl, hes⟩ := H0.out.mapAt
    have hbm : b ≠ m := fun e => by rw [← e, HB0.out] at hes; cases hes
    have HB1 := Lib.hid (hx2.heap HB0.out (by simpa using hbm))
    have N1 := Lib.hid (hx2.heap N0.out (by
      intro hh
      rw [← show w.heap.size = m by simpa using hh, N0.out] at hes; cases hes))
    have HA1 := Lib.hid HA2
    have HG1 : Hid (upd H o (some W1.heap.size) o = some W1.heap.size) := Lib.hid (upd_same _ _ _)
    have HI1 : Hid (GMap boE W2 W1.heap.size N ((fun o' => if o' = o then fun _ => none else K o') o)) := Lib.hid (by simpa using hI2)
    have HF1 : Hid (∀ o' t', hadF (upd H o (some W1.heap.size)) (fun o' => if o' = o then fun _ => none else K o') o' t' = hadF H K o' t') := Lib.hid (hadF_made hHo)
    have HX1 : Hid (ExtB (b :: ((none : Option Nat).toList ++ (H o).toList)) w W2) := Lib.hid (extB_step HX0.out hx2 (fun x hx => .inr (by rw [show x = m by simpa using hx]; exact HWL.out)))
    have HH1 : Hid (∀ o' g, upd H o (some W1.heap.size) o' = some g → H o' = some g ∨ w.heap.size ≤ g) := Lib.hid (upd_cases HX0.out.size)
    clear H0 HB0 N0 HA2 hx2 hI2 hHo HX0 hes hbm
    have k1 := blk_cell HB1.out 1
    simp at k1
    have hl1 := HA1.out.look ho
    rw [HG1.out] at hl1
    have j0 := blk_cell N1.out 0; have j1 := blk_cell N1.out 1
    simp at j0 j1
    have hA9 : HadAt W2.drew (N + 1) (grownOwn own w W2.drew) (some m) _ _ := HA1.out.drewA
    obtain ⟨W9, hput, hT, hx9⟩ := tell_end (x := !tw) (w1 := W2.drew) hN ht hob hlt hA9 HG1.out HF1.out HB1.out HM1.out HH1.out (HX1.out.trans (.of (Ext.refl _).drew _)) (HI1.out.same rfl)
    have HT := Lib.hid hT
    have G1 : ∀ x : Grow [] W2.drew, x.v.cell? ⟨b, 1, none⟩ = some (.map (some m)) := fun x => x.ext.cell (a := W2.drew) (blk_cell HB1.out 1) (by simp)
    have G2 : ∀ x : Grow [] W2.drew, x.v.cell? ⟨w.heap.size, 0, none⟩ = some (.string ⟨t.toArray⟩) := fun x => x.ext.cell (a := W2.drew) (blk_cell N1.out 0) (by simp)
    have G3 : ∀ x : Grow [] W2.drew, x.v.cell? ⟨w.heap.size, 1, none⟩ = some (.bool tw) := fun x => x.ext.cell (a := W2.drew) (blk_cell N1.out 1) (by simp)
    have GL : ∀ x : Grow [] W2.drew, (Instr.lookup 78 (.map (some m)) (.string ⟨o.toArray⟩) false).run Try.prog x.v = .ok (.map (some W1.heap.size)) x.v := fun x => by
      have h9 := hA9.look_grow x ho
      rw [HG1.out] at h9
      exact h9
    clear hT hx9 HA1 HF1 HM1 HH1 HX1 HI1 HG1 hA9
    go_wp2_with fail
    refine wp_region_segs [] [.inl [0, 1, 2, 3, 4, 5, 6, 7, 8, 9, 10], .inr (.inr 11)] (by kernel_rfl) (by kernel_rfl) (fun c a d v w h => by cases d <;> exact h) ?_
    (rw [wpSegs_inl]; simp only [pickOps, List.map_cons, List.map_nil, List.getD_cons_succ, List.getD_cons_zero]; (repeat (go_big_quiet_step (fail))); refine wpQuiet_nil ?_)
    clear G1 G2 G3 GL k1 hl1 j0 j1
    (rw [wpSegs_last]; simp only [pickOps, List.map_cons, List.map_nil, List.getD_cons_succ, List.getD_cons_zero]; go_wp2_with (fail))
    rw [wpSegs_nil]
    go_wp2
    exact bodyPost_end (results_none rfl _ _ _) rfl ⟨rfl, HT.out⟩
end
end Go.Proofs.Ytpangoddbfiagaa
