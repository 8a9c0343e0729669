import Derived.Test.YtpangoddbfiagaaRG04
namespace Go.Proofs.Ytpangoddbfiagaa
open Go.RowKit Go.Maps Go.ChangeMaps
set_option linter.unusedVariables false
set_option linter.unusedSimpArgs false
structure HadAt (w : World) (N : Nat) (own : Nat → Prop) (mh : Option Nat) (H : Bs → Option Nat) (K : Bs → Bs → Option Bool) : Prop where
 had : OMap mpE w mh N H
 inn : ∀ o g, H o = some g → GMap boE w g N (K o)
 hinj : ∀ o o' g, H o = some g → H o' = some g → o = o'
 omh : ∀ m, mh = some m → own m
 oin : ∀ o g, H o = some g → own g
 d2 : ∀ o g, H o = some g → mh ≠ some g
def hadF (H : Bs → Option Nat) (K : Bs → Bs → Option Bool) (o t : Bs) : Option Bool := match H o with
 | none => none
 | some _ => K o t
theorem MpAt.hadAt {w : World} {N : Nat} {own : Nat → Prop} {vs : List Vn} {va : List Nat} {mo mh : Option Nat} {H : Bs → Option Nat} {K : Bs → Bs → Option Bool} (h : MpAt w N own vs va mo mh H K) : HadAt w N own mh H K :=
 ⟨h.had, h.inn, h.hinj, h.omh, h.oin, fun o g e => (h.d2 o g e).2⟩
theorem HadAt.look {w : World} {N : Nat} {own : Nat → Prop} {mh : Option Nat} {H : Bs → Option Nat} {K : Bs → Bs → Option Bool} (h : HadAt w N own mh H K) {o : Bs} (ho : o.length ≤ 1000000) : (Instr.lookup 78 (.map mh) (.string ⟨o.toArray⟩) false).run Try.prog w = .ok (.map (H o)) w := by
 rw [h.had.look Try.underlying78 (zero79 w) ho]
 cases H o <;> rfl
theorem HadAt.look2 {w : World} {N : Nat} {own : Nat → Prop} {mh : Option Nat} {H : Bs → Option Nat} {K : Bs → Bs → Option Bool} (h : HadAt w N own mh H K) {o t : Bs} (ht : t.length ≤ 1000000) : (Instr.lookup 79 (.map (H o)) (.string ⟨t.toArray⟩) true).run Try.prog w = .ok (.tuple #[.bool ((hadF H K o t).getD false), .bool (hadF H K o t).isSome]) w := by
 unfold hadF
 cases e : H o with
 | none => exact Maps.look_nil (w := w) true law9 Try.underlying79 (zero4 w) (key9 ht)
 | some g =>
  rw [(h.inn o g e).look_ok Try.underlying79 (zero4 w) ht]
  cases K o t <;> rfl
structure TellR (w : World) (b N : Nat) (own : Nat → Prop) (mo mh : Option Nat) (H : Bs → Option Nat) (K : Bs → Bs → Option Bool) (o t : Bs) (x : Bool) (w' : World) : Prop where
 ex : ∃ mh' H' K', HadAt w' (N + 1) (grownOwn own w w') mh' H' K' ∧ (∀ o' t', hadF H' K' o' t' = if o' = o ∧ t' = t then some x else hadF H K o' t') ∧ w'.heap[b]? = some (.cells #[.map mo, .map mh'] 84 (0, 0)) ∧ (∀ m, mh' = some m → mh = some m ∨ w.heap.size ≤ m) ∧ (∀ o' g, H' o' = some g → H o' = some g ∨ w.heap.size ≤ g)
 ext : ExtB (b :: (mh.toList ++ (H o).toList)) w w'
theorem tell_end {w w1 : World} {b N : Nat} {own : Nat → Prop} {mo mh : Option Nat} {H : Bs → Option Nat} {K : Bs → Bs → Option Bool} {o t : Bs} {x : Bool} (hN : N ≤ 900000) (ht : t.length ≤ 1000000) (hob : own b) (hlt : ∀ i, own i → i < w.heap.size) {m g : Nat} {H1 : Bs → Option Nat} {K1 : Bs → Bs → Option Bool}
  (h1 : HadAt w1 (N + 1) (grownOwn own w w1) (some m) H1 K1) (hg : H1 o = some g) (hF : ∀ o' t', hadF H1 K1 o' t' = hadF H K o' t') (hb : w1.heap[b]? = some (.cells #[.map mo, .map (some m)] 84 (0, 0))) (hm : mh = some m ∨ w.heap.size ≤ m) (hH : ∀ o' g, H1 o' = some g → H o' = some g ∨ w.heap.size ≤ g) (hx : ExtB (b :: (mh.toList ++ (H o).toList)) w w1) (hgN : GMap boE w1 g N (K1 o)) :
  ∃ w2, (Instr.mapUpdate 79 (.map (some g)) (.string ⟨t.toArray⟩) (.bool x)).run Try.prog w1 = .ok () w2 ∧ TellR w b N own mo mh H K o t x w2 ∧ ExtB [g] w1 w2 := by
 obtain ⟨w2, hrun, h2, ht2⟩ := hgN.put (by omega) Try.underlying79 ht x
 have x2 := turned_ext ht2
 obtain ⟨es, cl, hes⟩ := hgN.at_
 have hsz := x2.size
 have hown : ∀ i, grownOwn own w w1 i → grownOwn own w w2 i := fun i hi => hi.imp id fun h => ⟨h.1, Nat.lt_of_lt_of_le h.2 hsz⟩
 have hmg : m ≠ g := fun e => h1.d2 o g hg (by rw [e])
 have keep : ∀ (m' : Nat) (es : Array MapEntry) (cl : Nat), w1.heap[m']? = some (.map es cl) → m' ≠ g → w2.heap[m']? = w1.heap[m']? := fun m' es cl e hne => x2.block m' (blk_lt e) (by simpa using hne)
 refine ⟨w2, hrun, ⟨⟨some m, H1, fun o' => if o' = o then upd (K1 o) t (some x) else K1 o', ⟨?_, fun o' g' e => ?_, h1.hinj, fun m' e => hown _ (h1.omh m' e), fun o' g' e => hown _ (h1.oin o' g' e), h1.d2⟩, fun o' t' => ?_, x2.heap hb ?_, fun m' e => ?_, hH⟩, ?_⟩, x2⟩
 ·refine h1.had.same fun m' e => ?_
  obtain rfl : m = m' := Option.some.inj e
  obtain ⟨es, cl, e⟩ := h1.had.lt
  exact keep m es cl e hmg
 ·by_cases ho : o' = o
  ·subst ho
   rw [hg] at e
   obtain rfl : g = g' := Option.some.inj e
   rw [if_pos rfl]; exact h2
  ·rw [if_neg ho]
   obtain ⟨es, cl, e1⟩ := (h1.inn o' g' e).at_
   exact (h1.inn o' g' e).same (keep g' es cl e1 (fun e2 => ho (h1.hinj o' o g (by rw [← e2]; exact e) hg)))
 ·have hF' := hF o' t'
  unfold hadF at hF' ⊢
  by_cases ho : o' = o
  ·subst ho
   rw [hg] at hF' ⊢
   simp only [true_and, if_true]
   by_cases hteq : t' = t
   ·subst hteq; simp [upd]
   ·rw [upd_other _ hteq, if_neg hteq]; exact hF'
  ·simp only [ho, false_and, if_false]
   exact hF'
 ·intro hh
  have e : b = g := by simpa using hh
  rw [← e, hb] at hes; cases hes
 ·obtain rfl : m = m' := Option.some.inj e
  exact hm
 ·refine ⟨x2.os.trans hx.os, x2.tape.trans hx.tape, x2.output.trans hx.output, Nat.le_trans hx.size x2.size, fun k hk hn => ?_⟩
  refine (x2.block k (Nat.lt_of_lt_of_le hk hx.size) ?_).trans (hx.block k hk hn)
  intro hh
  have e : k = g := by simpa using hh
  subst e
  rcases hH o k hg with e | e
  ·exact hn (by simp [e])
  ·omega
section
variable {w : World} {b N : Nat} {own : Nat → Prop} {mo mh : Option Nat} {H : Bs → Option Nat} {K : Bs → Bs → Option Bool}
theorem tell_inner {w1 : World} {o : Bs} (hN : N ≤ 900000) (ho : o.length ≤ 1000000) (hlt : ∀ i, own i → i < w.heap.size) {m : Nat} (h1 : HadAt w1 N (grownOwn own w w1) (some m) H K) (hH : H o = none) (hw : w.heap.size ≤ w1.heap.size) :
  ∃ w2, (Instr.mapUpdate 78 (.map (some m)) (.string ⟨o.toArray⟩) (.map (some w1.heap.size))).run Try.prog (w1.alloc (.map #[] 0)) = .ok () w2 ∧ HadAt w2 (N + 1) (grownOwn own w w2) (some m) (upd H o (some w1.heap.size)) (fun o' => if o' = o then fun _ => none else K o') ∧ ExtB [m] w1 w2 ∧ GMap boE w2 w1.heap.size N (fun _ => none) := by
 have x0 : Ext w1 (w1.alloc (.map #[] 0)) := ext_alloc1 _ _
 have hM : GMap mpE (w1.alloc (.map #[] 0)) m N H := by
  rcases h1.had with ⟨e, _⟩ | ⟨m', e, hM⟩
  ·cases e
  ·obtain rfl := Option.some.inj e
   obtain ⟨es, cl, he⟩ := hM.at_
   exact hM.same (x0.block m (blk_lt he))
 obtain ⟨w2, hrun, h2, ht2⟩ := hM.put (by omega) Try.underlying78 ho w1.heap.size
 have x2 := turned_ext ht2
 obtain ⟨es, cl, hes⟩ := hM.at_
 have hm1 : m < w1.heap.size := by
  rcases h1.omh m rfl with h | h
  ·have := hlt m h; omega
  ·exact h.2
 have hsz : w1.heap.size + 1 ≤ w2.heap.size := by have := x2.size; simpa using this
 have hown : ∀ i, grownOwn own w w1 i → grownOwn own w w2 i := fun i hi => hi.imp id fun h => ⟨h.1, by omega⟩
 have gb : ∀ o' g, H o' = some g → g < w1.heap.size := fun o' g e => by obtain ⟨es, cl, e1⟩ := (h1.inn o' g e).at_; exact blk_lt e1
 have hnew : GMap boE w2 w1.heap.size N (fun _ => none) := ((GMap.made boE w1).same (w' := w2) (x2.block w1.heap.size (by simp) (by simp; omega))).more (Nat.zero_le _)
 have hget : ∀ o' g, upd H o (some w1.heap.size) o' = some g → (o' = o ∧ g = w1.heap.size) ∨ (o' ≠ o ∧ H o' = some g) := fun o' g e => by
  unfold upd at e
  by_cases hoo : o' = o
  ·rw [if_pos hoo] at e; exact .inl ⟨hoo, (Option.some.inj e).symm⟩
  ·rw [if_neg hoo] at e; exact .inr ⟨hoo, e⟩
 refine ⟨w2, hrun, ⟨.inr ⟨m, rfl, h2⟩, fun o' g e => ?_, fun o1 o2 g e1 e2 => ?_, fun m' e => hown m' (h1.omh m' e), fun o' g e => ?_, fun o' g e e2 => ?_⟩, ?_, hnew⟩
 ·rcases hget o' g e with ⟨rfl, rfl⟩ | ⟨hne, e⟩
  ·rw [if_pos rfl]; exact hnew.more (by omega)
  ·rw [if_neg hne]
   obtain ⟨es, cl, e1⟩ := (h1.inn o' g e).at_
   refine ((h1.inn o' g e).same (w' := w2) ?_).more (by omega)
   refine (x2.block g (by have := blk_lt e1; simp; omega) ?_).trans (x0.block g (blk_lt e1))
   intro hh; exact h1.d2 o' g e (by rw [show g = m by simpa using hh])
 ·rcases hget o1 g e1 with ⟨a1, a2⟩ | ⟨a1, a2⟩ <;> rcases hget o2 g e2 with ⟨a3, a4⟩ | ⟨a3, a4⟩
  ·rw [a1, a3]
  ·have := gb _ _ a4; omega
  ·have := gb _ _ a2; omega
  ·exact h1.hinj o1 o2 g a2 a4
 ·rcases hget o' g e with ⟨rfl, rfl⟩ | ⟨hne, e⟩
  ·exact .inr ⟨hw, by omega⟩
  ·exact hown g (h1.oin o' g e)
 ·have e2 := Option.some.inj e2
  rcases hget o' g e with ⟨rfl, rfl⟩ | ⟨hne, e⟩
  ·omega
  ·exact h1.d2 o' g e (by rw [e2])
 ·exact (ExtB.of x0 [m]).trans x2
end
section
variable {w : World} {b N : Nat} {own : Nat → Prop} {mo mh : Option Nat} {H : Bs → Option Nat} {K : Bs → Bs → Option Bool}
theorem HadAt.grown {w1 : World} (h : HadAt w N own mh H K) (x : Ext w w1) (hlt : ∀ i, own i → i < w.heap.size) : HadAt w1 N (grownOwn own w w1) mh H K := by
 refine ⟨h.had.same fun m e => ?_, fun o g e => (h.inn o g e).same (x.block g (hlt g (h.oin o g e))), h.hinj, fun m e => .inl (h.omh m e), fun o g e => .inl (h.oin o g e), h.d2⟩
 exact x.block m (hlt m (h.omh m e))
theorem HadAt.moreN (h : HadAt w N own mh H K) : HadAt w (N + 1) own mh H K := ⟨h.had.more (Nat.le_succ _), fun o g e => (h.inn o g e).more (Nat.le_succ _), h.hinj, h.omh, h.oin, h.d2⟩
theorem HadAt.drewA (h : HadAt w N own mh H K) : HadAt w.drew N own mh H K := ⟨h.had.same fun _ _ => rfl, fun o g e => (h.inn o g e).same rfl, h.hinj, h.omh, h.oin, h.d2⟩
theorem HadAt.look_grow (h : HadAt w N own mh H K) (x : Grow [] w) {o : Bs} (ho : o.length ≤ 1000000) : (Instr.lookup 78 (.map mh) (.string ⟨o.toArray⟩) false).run Try.prog x.v = .ok (.map (H o)) x.v := by
 have h2 : OMap mpE x.v mh N H := h.had.same fun m e => by
  subst e
  obtain ⟨es, cl, e⟩ := h.had.lt
  exact x.ext.block m (blk_lt e) (by simp)
 rw [h2.look Try.underlying78 (zero79 x.v) ho]
 cases H o <;> rfl
theorem HadAt.mapAt {m : Nat} (h : HadAt w N own (some m) H K) : ∃ es cl, w.heap[m]? = some (.map es cl) := h.had.lt
theorem hadF_made {o : Bs} {g : Nat} (h : H o = none) (o' t' : Bs) : hadF (upd H o (some g)) (fun o' => if o' = o then fun _ => none else K o') o' t' = hadF H K o' t' := by
 unfold hadF
 by_cases e : o' = o
 ·subst e; rw [upd_same, h]; simp
 ·simp only [upd_other _ e, if_neg e]
theorem extB_step {w1 w2 : World} {L X : List Nat} (h : ExtB L w w1) (k : ExtB X w1 w2) (hX : ∀ x ∈ X, x ∈ L ∨ w.heap.size ≤ x) : ExtB L w w2 :=
 ⟨k.os.trans h.os, k.tape.trans h.tape, k.output.trans h.output, Nat.le_trans h.size k.size, fun i hi hn => (k.block i (Nat.lt_of_lt_of_le hi h.size) (fun hh => by
  rcases hX i hh with h1 | h1
  ·exact hn h1
  ·omega)).trans (h.block i hi hn)⟩
theorem upd_cases {o : Bs} {n g0 : Nat} (hn : n ≤ g0) (o' : Bs) (g : Nat) (e : upd H o (some g0) o' = some g) : H o' = some g ∨ n ≤ g := by
 unfold upd at e
 by_cases he : o' = o
 ·rw [if_pos he] at e; obtain rfl := Option.some.inj e; exact .inr hn
 ·rw [if_neg he] at e; exact .inl e
theorem size78 : (Try.prog.info? 78).map (·.size) = some 1 := by kernel_rfl
theorem q78 (w : World) (r : Option Nat) : (binOp .eql 78 (.map r) (.map none)).run Try.prog w = .ok (.bool r.isNone) w := run_eql_map_nil w _ _ _ r Try.underlying78
theorem q79 (w : World) (r : Option Nat) : (binOp .eql 79 (.map r) (.map none)).run Try.prog w = .ok (.bool r.isNone) w := run_eql_map_nil w _ _ _ r Try.underlying79
set_option maxRecDepth 100000 in
set_option maxHeartbeats 4000000 in
theorem tell_any (hblk : w.heap[b]? = some (.cells #[.map mo, .map mh] 84 (0, 0))) (hh : HadAt w N own mh H K) (hN : N ≤ 900000) {o t : Bs} (tw : Bool) (ho : o.length ≤ 1000000) (ht : t.length ≤ 1000000) (hob : own b) (hlt : ∀ i, own i → i < w.heap.size) :
  Calls Try.prog 37 #[.pointer (some ⟨b, 0, none⟩), .string ⟨o.toArray⟩, .agg #[.string ⟨t.toArray⟩, .bool tw]] w fun e w' => e = .returned (.tuple #[]) ∧ TellR w b N own mo mh H K o t (!tw) w' := by
 have HA := Lh hh; have HBK := Lh hblk
 clear hh hblk
 have q78 := q78; have q79 := q79; have hmm := @run_makeMap Try.prog
 go_enter Try.func37, Try.ntmps37
 go_wp2_with (refine wpList_boxA 27 rfl _ rfl #[.string ⟨t.toArray⟩, .bool tw] rfl ?_; intro W0 x0 n0 s0; refine stop_of ?_)
 unfold Stop
 have X0 := Lh x0; have N0 := Lh n0
 have HB0 := Lh (x0.heap HBK.out)
 have HX0 : Hid (ExtB (b :: (mh.toList ++ (H o).toList)) w W0) := Lh (.of x0 _)
 have H0 := Lh (HA.out.grown x0 hlt)
 clear x0 n0 s0
 cases mh with
 | some m =>
  have HM1 : Hid ((some m : Option Nat) = some m ∨ w.heap.size ≤ m) := Lh (.inl rfl)
  cases hHo : H o with
  | some g =>
   have HG1 := Lh hHo
   have HI1 := Lh (H0.out.inn o g hHo)
   have HA1 := Lh H0.out.moreN
   have HB1 := HB0; have HX1 := HX0; have N1 := N0
   have HF1 : Hid (∀ o' t', hadF H K o' t' = hadF H K o' t') := Lh fun _ _ => rfl
   have HH1 : Hid (∀ o' g, H o' = some g → H o' = some g ∨ w.heap.size ≤ g) := Lh fun _ _ e => .inl e
   clear H0 HB0 HX0 N0 hHo
   have k1 := blk_cell HB1.out 1
   simp at k1
   have hl1 := HA1.out.look ho
   rw [HG1.out] at hl1
   have j0 := blk_cell N1.out 0; have j1 := blk_cell N1.out 1
   simp at j0 j1
   have hA9 : HadAt W0.drew (N + 1) (grownOwn own w W0.drew) (some m) _ _ := HA1.out.drewA
   obtain ⟨W9, hput, hT, hx9⟩ := tell_end (x := !tw) (w1 := W0.drew) hN ht hob hlt hA9 HG1.out HF1.out HB1.out HM1.out HH1.out (HX1.out.trans (.of (Ext.refl _).drew _)) (HI1.out.same rfl)
   have HT := Lh hT
   have G1 : ∀ x : Grow [] W0.drew, x.v.cell? ⟨b, 1, none⟩ = some (.map (some m)) := fun x => x.ext.cell (a := W0.drew) (blk_cell HB1.out 1) (by simp)
   have G2 : ∀ x : Grow [] W0.drew, x.v.cell? ⟨w.heap.size, 0, none⟩ = some (.string ⟨t.toArray⟩) := fun x => x.ext.cell (a := W0.drew) (blk_cell N1.out 0) (by simp)
   have G3 : ∀ x : Grow [] W0.drew, x.v.cell? ⟨w.heap.size, 1, none⟩ = some (.bool tw) := fun x => x.ext.cell (a := W0.drew) (blk_cell N1.out 1) (by simp)
   have GL : ∀ x : Grow [] W0.drew, (Instr.lookup 78 (.map (some m)) (.string ⟨o.toArray⟩) false).run Try.prog x.v = .ok (.map (some g)) x.v := fun x => by
    have h9 := hA9.look_grow x ho
    rw [HG1.out] at h9
    exact h9
   clear hT hx9 HA1 HF1 HM1 HH1 HX1 HI1 HG1 hA9
   go_wp2_with fail
   refine wp_region_segs [] [.inl [0, 1, 2, 3, 4, 5, 6, 7, 8, 9, 10], .inr (.inr 11)] (by kernel_rfl) (by kernel_rfl) (fun c a d v w h => by cases d <;> exact h) ?_
   (rw [wpSegs_inl]; simp only [pickOps, mCc, mNn, gSs, gZz]; (repeat (go_big_quiet_step (fail))); refine wpQuiet_nil ?_)
   clear G1 G2 G3 GL k1 hl1 j0 j1
   (rw [wpSegs_last]; simp only [pickOps, mCc, mNn, gSs, gZz]; go_wp2_with (fail))
   rw [wpSegs_nil]
   go_wp2
   exact bodyPost_end (results_none rfl _ _ _) rfl ⟨rfl, HT.out⟩
  | none =>
   have k1 := blk_cell HB0.out 1
   have k2 := blk_cell ((ext_alloc1 W0 (.map #[] 0)).heap HB0.out) 1
   simp at k1 k2
   have hl1 := H0.out.look ho
   rw [hHo] at hl1
   obtain ⟨W2, hput1, HA2, hx2, hI2⟩ := tell_inner (w := w) hN ho hlt H0.out hHo HX0.out.size
   obtain ⟨es, cl, hes⟩ := H0.out.mapAt
   have hbm : b ≠ m := fun e => by rw [← e, HB0.out] at hes; cases hes
   have HB1 := Lh (hx2.heap HB0.out (by simpa using hbm))
   have N1 := Lh (hx2.heap N0.out (by
    intro hh
    rw [← show w.heap.size = m by simpa using hh, N0.out] at hes; cases hes))
   have HA1 := Lh HA2
   have HG1 : Hid (upd H o (some W0.heap.size) o = some W0.heap.size) := Lh (upd_same _ _ _)
   have HI1 : Hid (GMap boE W2 W0.heap.size N ((fun o' => if o' = o then fun _ => none else K o') o)) := Lh (by simpa using hI2)
   have HF1 : Hid (∀ o' t', hadF (upd H o (some W0.heap.size)) (fun o' => if o' = o then fun _ => none else K o') o' t' = hadF H K o' t') := Lh (hadF_made hHo)
   have HX1 : Hid (ExtB (b :: ((some m : Option Nat).toList ++ (H o).toList)) w W2) := Lh (extB_step HX0.out hx2 (fun x hx => .inl (by rw [show x = m by simpa using hx]; simp)))
   have HH1 : Hid (∀ o' g, upd H o (some W0.heap.size) o' = some g → H o' = some g ∨ w.heap.size ≤ g) := Lh (upd_cases HX0.out.size)
   clear H0 HB0 N0 HA2 hx2 hI2 hHo HX0 hes hbm
   have k1 := blk_cell HB1.out 1
   simp at k1
   have hl1 := HA1.out.look ho
   rw [HG1.out] at hl1
   have j0 := blk_cell N1.out 0; have j1 := blk_cell N1.out 1
   simp at j0 j1
   have hA9 : HadAt W2.drew (N + 1) (grownOwn own w W2.drew) (some m) _ _ := HA1.out.drewA
   obtain ⟨W9, hput, hT, hx9⟩ := tell_end (x := !tw) (w1 := W2.drew) hN ht hob hlt hA9 HG1.out HF1.out HB1.out HM1.out HH1.out (HX1.out.trans (.of (Ext.refl _).drew _)) (HI1.out.same rfl)
   have HT := Lh hT
   have G1 : ∀ x : Grow [] W2.drew, x.v.cell? ⟨b, 1, none⟩ = some (.map (some m)) := fun x => x.ext.cell (a := W2.drew) (blk_cell HB1.out 1) (by simp)
   have G2 : ∀ x : Grow [] W2.drew, x.v.cell? ⟨w.heap.size, 0, none⟩ = some (.string ⟨t.toArray⟩) := fun x => x.ext.cell (a := W2.drew) (blk_cell N1.out 0) (by simp)
   have G3 : ∀ x : Grow [] W2.drew, x.v.cell? ⟨w.heap.size, 1, none⟩ = some (.bool tw) := fun x => x.ext.cell (a := W2.drew) (blk_cell N1.out 1) (by simp)
   have GL : ∀ x : Grow [] W2.drew, (Instr.lookup 78 (.map (some m)) (.string ⟨o.toArray⟩) false).run Try.prog x.v = .ok (.map (some W0.heap.size)) x.v := fun x => by
    have h9 := hA9.look_grow x ho
    rw [HG1.out] at h9
    exact h9
   clear hT hx9 HA1 HF1 HM1 HH1 HX1 HI1 HG1 hA9
   go_wp2_with fail
   refine wp_region_segs [] [.inl [0, 1, 2, 3, 4, 5, 6, 7, 8, 9, 10], .inr (.inr 11)] (by kernel_rfl) (by kernel_rfl) (fun c a d v w h => by cases d <;> exact h) ?_
   (rw [wpSegs_inl]; simp only [pickOps, mCc, mNn, gSs, gZz]; (repeat (go_big_quiet_step (fail))); refine wpQuiet_nil ?_)
   clear G1 G2 G3 GL k1 hl1 j0 j1
   (rw [wpSegs_last]; simp only [pickOps, mCc, mNn, gSs, gZz]; go_wp2_with (fail))
   rw [wpSegs_nil]
   go_wp2
   exact bodyPost_end (results_none rfl _ _ _) rfl ⟨rfl, HT.out⟩
 | none =>
  have k1 := blk_cell HB0.out 1
  simp at k1
  go_wp2_with (refine wpList_put 78 rfl _ _ rfl _ 1 84 _ #[.map mo, .map (some W0.heap.size)] [.map (some W0.heap.size)] (.map (some W0.heap.size)) ((ext_alloc1 W0 (.map #[] 0)).heap HB0.out) rfl rfl rfl (by simp) rfl size78 (by kernel_rfl) ?_; intro W1 x1 n1 s1; refine stop_of ?_)
  unfold Stop
  have hH0 : ∀ k, H k = none := by
   rcases HA.out.had with ⟨_, h⟩ | ⟨m, e, _⟩
   ·exact h
   ·cases e
  have hbl : b < W0.heap.size := blk_lt HB0.out
  have hwl : w.heap.size ≤ W0.heap.size := HX0.out.size
  obtain ⟨m, hm⟩ : ∃ m, m = W0.heap.size := ⟨_, rfl⟩
  have hH1 : HadAt W1 N (grownOwn own w W1) (some m) H K := by
   refine ⟨.inr ⟨m, rfl, ?_⟩, fun o g e => ?_, fun o o' g e => ?_, fun m' e => ?_, fun o g e => ?_, fun o g e => ?_⟩
   ·have e0 : H = fun _ => none := funext hH0
    rw [e0, hm]
    exact ((GMap.made mpE W0).same (x1.block _ (by simp) (by simp; omega))).more (Nat.zero_le _)
   ·rw [hH0] at e; cases e
   ·rw [hH0] at e; cases e
   ·obtain rfl := Option.some.inj e
    refine .inr ⟨by omega, ?_⟩
    have := x1.size
    simp at this; omega
   ·rw [hH0] at e; cases e
   ·rw [hH0] at e; cases e
  rw [← hm] at n1
  have H0 := Lh hH1
  have N9 := Lh (x1.heap ((ext_alloc1 W0 (.map #[] 0)).heap N0.out) (by
   have : b < w.heap.size := hlt b hob
   simp; omega))
  have HX9 : Hid (ExtB (b :: ((none : Option Nat).toList ++ (H o).toList)) w W1) := Lh ((HX0.out.trans (.of (ext_alloc1 W0 (.map #[] 0)) _)).trans (x1.mono (by simp)))
  have hHo := hH0 o
  have HB9 := Lh n1
  have HM1 : Hid ((none : Option Nat) = some m ∨ w.heap.size ≤ m) := Lh (.inr (by omega))
  have HWL : Hid (w.heap.size ≤ m) := Lh (by omega)
  clear k1 HB0 N0 HX0 HA HBK X0 hH1 n1 x1 hm hbl hH0 hwl s1
  have HB0 := HB9; have N0 := N9; have HX0 := HX9
  clear HB9 N9 HX9
  have k1 := blk_cell HB0.out 1
  have k2 := blk_cell ((ext_alloc1 W1 (.map #[] 0)).heap HB0.out) 1
  simp at k1 k2
  have hl1 := H0.out.look ho
  rw [hHo] at hl1
  obtain ⟨W2, hput1, HA2, hx2, hI2⟩ := tell_inner (w := w) hN ho hlt H0.out hHo HX0.out.size
  obtain ⟨es, cl, hes⟩ := H0.out.mapAt
  have hbm : b ≠ m := fun e => by rw [← e, HB0.out] at hes; cases hes
  have HB1 := Lh (hx2.heap HB0.out (by simpa using hbm))
  have N1 := Lh (hx2.heap N0.out (by
   intro hh
   rw [← show w.heap.size = m by simpa using hh, N0.out] at hes; cases hes))
  have HA1 := Lh HA2
  have HG1 : Hid (upd H o (some W1.heap.size) o = some W1.heap.size) := Lh (upd_same _ _ _)
  have HI1 : Hid (GMap boE W2 W1.heap.size N ((fun o' => if o' = o then fun _ => none else K o') o)) := Lh (by simpa using hI2)
  have HF1 : Hid (∀ o' t', hadF (upd H o (some W1.heap.size)) (fun o' => if o' = o then fun _ => none else K o') o' t' = hadF H K o' t') := Lh (hadF_made hHo)
  have HX1 : Hid (ExtB (b :: ((none : Option Nat).toList ++ (H o).toList)) w W2) := Lh (extB_step HX0.out hx2 (fun x hx => .inr (by rw [show x = m by simpa using hx]; exact HWL.out)))
  have HH1 : Hid (∀ o' g, upd H o (some W1.heap.size) o' = some g → H o' = some g ∨ w.heap.size ≤ g) := Lh (upd_cases HX0.out.size)
  clear H0 HB0 N0 HA2 hx2 hI2 hHo HX0 hes hbm
  have k1 := blk_cell HB1.out 1
  simp at k1
  have hl1 := HA1.out.look ho
  rw [HG1.out] at hl1
  have j0 := blk_cell N1.out 0; have j1 := blk_cell N1.out 1
  simp at j0 j1
  have hA9 : HadAt W2.drew (N + 1) (grownOwn own w W2.drew) (some m) _ _ := HA1.out.drewA
  obtain ⟨W9, hput, hT, hx9⟩ := tell_end (x := !tw) (w1 := W2.drew) hN ht hob hlt hA9 HG1.out HF1.out HB1.out HM1.out HH1.out (HX1.out.trans (.of (Ext.refl _).drew _)) (HI1.out.same rfl)
  have HT := Lh hT
  have G1 : ∀ x : Grow [] W2.drew, x.v.cell? ⟨b, 1, none⟩ = some (.map (some m)) := fun x => x.ext.cell (a := W2.drew) (blk_cell HB1.out 1) (by simp)
  have G2 : ∀ x : Grow [] W2.drew, x.v.cell? ⟨w.heap.size, 0, none⟩ = some (.string ⟨t.toArray⟩) := fun x => x.ext.cell (a := W2.drew) (blk_cell N1.out 0) (by simp)
  have G3 : ∀ x : Grow [] W2.drew, x.v.cell? ⟨w.heap.size, 1, none⟩ = some (.bool tw) := fun x => x.ext.cell (a := W2.drew) (blk_cell N1.out 1) (by simp)
  have GL : ∀ x : Grow [] W2.drew, (Instr.lookup 78 (.map (some m)) (.string ⟨o.toArray⟩) false).run Try.prog x.v = .ok (.map (some W1.heap.size)) x.v := fun x => by
   have h9 := hA9.look_grow x ho
   rw [HG1.out] at h9
   exact h9
  clear hT hx9 HA1 HF1 HM1 HH1 HX1 HI1 HG1 hA9
  go_wp2_with fail
  refine wp_region_segs [] [.inl [0, 1, 2, 3, 4, 5, 6, 7, 8, 9, 10], .inr (.inr 11)] (by kernel_rfl) (by kernel_rfl) (fun c a d v w h => by cases d <;> exact h) ?_
  (rw [wpSegs_inl]; simp only [pickOps, mCc, mNn, gSs, gZz]; (repeat (go_big_quiet_step (fail))); refine wpQuiet_nil ?_)
  clear G1 G2 G3 GL k1 hl1 j0 j1
  (rw [wpSegs_last]; simp only [pickOps, mCc, mNn, gSs, gZz]; go_wp2_with (fail))
  rw [wpSegs_nil]
  go_wp2
  exact bodyPost_end (results_none rfl _ _ _) rfl ⟨rfl, HT.out⟩
end
end Go.Proofs.Ytpangoddbfiagaa
namespace Go.Proofs.Ytpangoddbfiagaa
open Go.RowKit Go.Maps Go.ChangeMaps
set_option linter.unusedVariables false
set_option linter.unusedSimpArgs false
def nowF (vs : List Vn) (gs : List Vg) : Bs → Option Nat := fun o => (nowI vs o).bind ((gs.map (·.b))[·]?)
structure Mid (w0 : World) (own0 : Nat → Prop) (W : World) (b B N : Nat) (vs : List Vn) (gs : List Vg) (ss : List Sn) (sa : List Nat) (mo mh : Option Nat) (H : Bs → Option Nat) (K : Bs → Bs → Option Bool) (F : Bs → Option Nat) : Prop where
 blk : W.heap[b]? = some (.cells #[.map mo, .map mh] 84 (0, 0))
 vers : VsAt W B (grownOwn own0 w0 W) vs gs
 strs : SsAt W B (grownOwn own0 w0 W) (gs.map (·.b)) ss sa
 obs : OMap ptE W mo N F
 had : HadAt W N (grownOwn own0 w0 W) mh H K
 omo : ∀ m, mo = some m → grownOwn own0 w0 W m
 d1 : ∀ m, mo = some m → mh ≠ some m
 d2 : ∀ o g, H o = some g → mo ≠ some g
 size : w0.heap.size ≤ W.heap.size
 xp : ExtP own0 w0 W
 ob : own0 b
theorem HadAt.ownTo {w : World} {N : Nat} {own own' : Nat → Prop} {mh : Option Nat} {H : Bs → Option Nat} {K : Bs → Bs → Option Bool} (h : HadAt w N own mh H K) (ho : ∀ i, own i → own' i) : HadAt w N own' mh H K :=
 ⟨h.had, h.inn, h.hinj, fun m e => ho m (h.omh m e), fun o g e => ho g (h.oin o g e), h.d2⟩
theorem HadAt.extK {w w' : World} {N : Nat} {own own' : Nat → Prop} {mh : Option Nat} {H : Bs → Option Nat} {K : Bs → Bs → Option Bool} {X : List Nat} (h : HadAt w N own mh H K) (hx : ExtB X w w') (hX : ∀ g ∈ X, kindOf w g ≠ 1000) (ho : ∀ i, own i → own' i) : HadAt w' N own' mh H K := by
 have key : ∀ (m : Nat) (es : Array MapEntry) (cl : Nat), w.heap[m]? = some (.map es cl) → w'.heap[m]? = w.heap[m]? := fun m es cl e => hx.block m (blk_lt e) (fun hh => hX _ hh (kind_map e))
 refine ⟨h.had.same fun m e => ?_, fun o g e => ?_, h.hinj, fun m e => ho m (h.omh m e), fun o g e => ho g (h.oin o g e), h.d2⟩
 ·subst e
  obtain ⟨es, cl, e⟩ := h.had.lt
  exact key m es cl e
 ·obtain ⟨es, cl, e1⟩ := (h.inn o g e).at_
  exact (h.inn o g e).same (key g es cl e1)
theorem OMap.extK {β : Type} {E : ElemK β} {w w' : World} {mo : Option Nat} {N : Nat} {F : Bs → Option β} {X : List Nat} (h : OMap E w mo N F) (hx : ExtB X w w') (hX : ∀ m, mo = some m → m ∉ X) : OMap E w' mo N F := by
 refine h.same fun m e => ?_
 subst e
 obtain ⟨es, cl, e⟩ := h.lt
 exact hx.block m (blk_lt e) (hX m rfl)
theorem ExtP.step {own0 : Nat → Prop} {w0 W W1 : World} {X : List Nat} (h : ExtP own0 w0 W) (hx : ExtB X W W1) (hX : ∀ g ∈ X, grownOwn own0 w0 W g) : ExtP own0 w0 W1 :=
 h.trans (own1 := fun i => own0 i ∨ w0.heap.size ≤ i) (.ofB hx fun k hk => .inl ((hX k hk).imp id (·.1))) fun i hi => hi
section
variable {w w0 W W1 W' : World} {own own0 : Nat → Prop} {b B N : Nat} {vs : List Vn} {ss : List Sn} {sa : List Nat} {gs : List Vg} {mo mh : Option Nat} {H F : Bs → Option Nat} {K : Bs → Bs → Option Bool} {X : List Nat}
theorem grown_mono (h : W.heap.size ≤ W1.heap.size) (i : Nat) (hi : grownOwn own0 w0 W i) : grownOwn own0 w0 W1 i := hi.imp id fun h2 => ⟨h2.1, by omega⟩
theorem OIx.mid (h : OIx w b B N own vs ss sa gs mo mh H K) : Mid w own w b B N vs gs ss sa mo mh H K (nowF vs gs) := by
 have ho : ∀ i, own i → grownOwn own w w i := fun i hi => .inl hi
 exact ⟨h.blk, h.vers.keep (fun _ _ => rfl) ho, h.strs.keep (fun _ _ => rfl) ho, h.maps.obs, h.maps.hadAt.ownTo ho, fun m e => ho m (h.maps.omo m e), h.maps.d1, fun o g e => (h.maps.d2 o g e).1, Nat.le_refl _, .of (Ext.refl _), h.ob⟩
theorem Mid.extK (h : Mid w0 own0 W b B N vs gs ss sa mo mh H K F) (hx : ExtB X W W1) (hX : ∀ g ∈ X, kindOf W g ≠ 84 ∧ kindOf W g ≠ 90 ∧ kindOf W g ≠ 9 ∧ kindOf W g ≠ 5 ∧ kindOf W g ≠ 94 ∧ kindOf W g ≠ 1000) (hX2 : ∀ g ∈ X, grownOwn own0 w0 W g) : Mid w0 own0 W1 b B N vs gs ss sa mo mh H K F := by
 have ho := grown_mono (own0 := own0) (w0 := w0) hx.size
 refine ⟨hx.heap h.blk (fun hh => (hX _ hh).1 (kind_cells h.blk)), h.vers.extK hx (fun x hh => ⟨(hX x hh).2.1, (hX x hh).2.2.1, (hX x hh).2.2.2.1⟩) ho, h.strs.extK hx (fun x hh => ⟨(hX x hh).2.2.2.2.1, (hX x hh).2.2.1⟩) ho, h.obs.extK hx ?_, h.had.extK hx (fun x hh => (hX x hh).2.2.2.2.2) ho, fun m e => ho m (h.omo m e), h.d1, h.d2, Nat.le_trans h.size hx.size, h.xp.step hx hX2, h.ob⟩
 intro m e hh
 subst e
 obtain ⟨es, cl, e⟩ := h.obs.lt
 exact (hX _ hh).2.2.2.2.2 (kind_map e)
theorem Mid.ext (h : Mid w0 own0 W b B N vs gs ss sa mo mh H K F) (hx : Ext W W1) : Mid w0 own0 W1 b B N vs gs ss sa mo mh H K F := h.extK (.of hx []) (by simp) (by simp)
theorem Mid.lt (h : Mid w0 own0 W b B N vs gs ss sa mo mh H K F) (hlt : ∀ i, own0 i → i < w0.heap.size) : ∀ i, grownOwn own0 w0 W i → i < W.heap.size := fun i hi => by
 rcases hi with hi | hi
 ·exact Nat.lt_of_lt_of_le (hlt i hi) h.size
 ·exact hi.2
theorem Mid.moreN {M : Nat} (h : Mid w0 own0 W b B N vs gs ss sa mo mh H K F) (hM : N ≤ M) : Mid w0 own0 W b B M vs gs ss sa mo mh H K F :=
 ⟨h.blk, h.vers, h.strs, h.obs.more hM, ⟨h.had.had.more hM, fun o g e => (h.had.inn o g e).more hM, h.had.hinj, h.had.omh, h.had.oin, h.had.d2⟩, h.omo, h.d1, h.d2, h.size, h.xp, h.ob⟩
theorem Mid.tell (h : Mid w0 own0 W b B N vs gs ss sa mo mh H K F) (hlt : ∀ i, own0 i → i < w0.heap.size) {o t : Bs} {x : Bool} (hT : TellR W b N (grownOwn own0 w0 W) mo mh H K o t x W1) :
  ∃ mh' H' K', Mid w0 own0 W1 b B (N + 1) vs gs ss sa mo mh' H' K' F ∧ ∀ o' t', hadF H' K' o' t' = if o' = o ∧ t' = t then some x else hadF H K o' t' := by
 obtain ⟨⟨mh', H', K', hH, hF, hb, hm1, hm2⟩, hx⟩ := hT
 have ho := grown_mono (own0 := own0) (w0 := w0) hx.size
 have hX : ∀ g ∈ b :: (mh.toList ++ (H o).toList), g = b ∨ mh = some g ∨ H o = some g := fun g hg => by simpa [eq_comm] using hg
 have hk : ∀ g ∈ b :: (mh.toList ++ (H o).toList), kindOf W g = 84 ∨ kindOf W g = 1000 := fun g hg => by
  rcases hX g hg with e | e | e
  ·rw [e]; exact .inl (kind_cells h.blk)
  ·subst e
   obtain ⟨es, cl, e⟩ := h.had.had.lt
   exact .inr (kind_map e)
  ·obtain ⟨es, cl, e⟩ := (h.had.inn o g e).at_
   exact .inr (kind_map e)
 have ltm : ∀ m, mo = some m → m < W.heap.size := fun m e => h.lt hlt m (h.omo m e)
 refine ⟨mh', H', K', ⟨hb, h.vers.extK hx (fun g hg => ?_) ho, h.strs.extK hx (fun g hg => ?_) ho, (h.obs.extK hx ?_).more (Nat.le_succ _), hH.ownTo ?_, fun m e => ho m (h.omo m e), fun m e e2 => ?_, fun o' g e e2 => ?_, Nat.le_trans h.size hx.size, h.xp.step hx ?_, h.ob⟩, hF⟩
 ·rcases hk g hg with e | e <;> rw [e] <;> decide
 ·rcases hk g hg with e | e <;> rw [e] <;> decide
 ·intro m e hh
  rcases hX m hh with e2 | e2 | e2
  ·subst e
   obtain ⟨es, cl, e⟩ := h.obs.lt
   rw [e2, h.blk] at e; cases e
  ·exact h.d1 m e e2
  ·exact h.d2 o m e2 e
 ·intro i hi
  rcases hi with hi | hi
  ·exact ho i hi
  ·exact .inr ⟨Nat.le_trans h.size hi.1, hi.2⟩
 ·rcases hm1 m e2 with e3 | e3
  ·exact h.d1 m e e3
  ·have := ltm m e; omega
 ·rcases hm2 o' g e with e3 | e3
  ·exact h.d2 o' g e3 e2
  ·have := ltm g e2; omega
 ·intro g hg
  rcases hX g hg with e | e | e
  ·rw [e]; exact .inl h.ob
  ·exact h.had.omh g e
  ·exact h.had.oin o g e
theorem Mid.made (h : Mid w0 own0 W b B N vs gs ss sa none mh H K F) (hlt : ∀ i, own0 i → i < w0.heap.size) (hx : ExtB [b] (W.alloc (.map #[] 0)) W1) (hb : W1.heap[b]? = some (.cells #[.map (some W.heap.size), .map mh] 84 (0, 0))) : Mid w0 own0 W1 b B N vs gs ss sa (some W.heap.size) mh H K F := by
 have hx2 : ExtB [b] W W1 := (ExtB.of (ext_alloc1 W _) _).trans hx
 have ho := grown_mono (own0 := own0) (w0 := w0) hx2.size
 have hk : ∀ g ∈ [b], kindOf W g = 84 := fun g hg => by rw [show g = b by simpa using hg]; exact kind_cells h.blk
 have hF : F = fun _ => none := by
  rcases h.obs with ⟨_, h0⟩ | ⟨m, e, _⟩
  ·exact funext h0
  ·cases e
 have hbl := blk_lt h.blk
 have hlts := h.lt hlt
 have hs1 : W.heap.size + 1 ≤ W1.heap.size := by have := hx.size; simpa using this
 refine ⟨hb, h.vers.extK hx2 (fun g hg => by rw [hk g hg]; decide) ho, h.strs.extK hx2 (fun g hg => by rw [hk g hg]; decide) ho, .inr ⟨_, rfl, ?_⟩, h.had.extK hx2 (fun g hg => by rw [hk g hg]; decide) ho, fun m e => ?_, fun m e e2 => ?_, fun o g e e2 => ?_, Nat.le_trans h.size hx2.size, h.xp.step hx2 (fun g hg => by rw [show g = b by simpa using hg]; exact .inl h.ob), h.ob⟩
 ·rw [hF]
  exact ((GMap.made ptE W).same (hx.block _ (by simp) (by simp; omega))).more (Nat.zero_le _)
 ·obtain rfl := Option.some.inj e
  exact .inr ⟨h.size, hs1⟩
 ·obtain rfl := Option.some.inj e
  have := hlts _ (h.had.omh _ e2); omega
 ·obtain rfl := Option.some.inj e2
  have := hlts _ (h.had.oin _ _ e); omega
theorem Mid.went (h : Mid w0 own0 W b B N vs gs ss sa mo mh H K F) {i : Nat} {v : Vn} {g : Vg} (hv : vs[i]? = some v) (hg : gs[i]? = some g) (hblk : VerAt W1 g.b { v.m with hav := g.h } g.kv g.bv true) (hx : ExtB [g.b] W W1) : Mid w0 own0 W1 b B N (vs.set i (goneV v)) gs ss sa mo mh H K F := by
 have q := h.vers.at_ i v g hv hg
 have ho := grown_mono (own0 := own0) (w0 := w0) hx.size
 have hX : ∀ x ∈ [g.b], x = g.b ∨ g.bv.ownBlock = some x := fun x hx => .inl (by simpa using hx)
 have hk90 : ∀ x ∈ [g.b], kindOf W x = 90 := fun x hx => by rw [show x = g.b by simpa using hx]; exact q.kb
 have egs : gs.set i g = gs := by
  apply List.ext_getElem?; intro j
  by_cases hj : j = i
  ·subst hj; rw [List.getElem?_set_self (List.getElem?_eq_some_iff.1 hg).1, hg]
  ·rw [List.getElem?_set_ne (Ne.symm hj)]
 have hok : VerOk W1 B (grownOwn own0 w0 W1) (goneV v) g := ⟨hblk, own_extB q.keys hx (fun x hh e => by have := q.kk e; rw [show x = g.b by simpa using hh, q.kb] at this; cases this), own_extB q.row hx (fun x hh e => by have := q.kbv e; rw [show x = g.b by simpa using hh, q.kb] at this; cases this), ho _ q.ob, fun x e => ho _ (q.ok x e), fun x e => ho _ (q.obv x e), q.z, q.len⟩
 have v1 := h.vers.set hv hg rfl hok hx hX (fun x e => .inl e) ho
 rw [egs] at v1
 refine ⟨hx.heap h.blk (fun hh => by have := hk90 _ hh; rw [kind_cells h.blk] at this; cases this), v1, h.strs.extK hx (fun x hh => by rw [hk90 x hh]; decide) ho, h.obs.extK hx ?_, h.had.extK hx (fun x hh => by rw [hk90 x hh]; decide) ho, fun m e => ho m (h.omo m e), h.d1, h.d2, Nat.le_trans h.size hx.size, h.xp.step hx (fun x hh => by rw [show x = g.b by simpa using hh]; exact q.ob), h.ob⟩
 intro m e hh
 subst e
 obtain ⟨es, cl, e⟩ := h.obs.lt
 have := hk90 _ hh; rw [kind_map e] at this; cases this
theorem app_get {α : Type} {l : List α} {y x : α} {j : Nat} (h : (l ++ [y])[j]? = some x) : l[j]? = some x ∨ (j = l.length ∧ x = y) := by
 by_cases hj : j < l.length
 ·rw [List.getElem?_append_left hj] at h; exact .inl h
 ·have := (List.getElem?_eq_some_iff.1 h).1
  simp at this
  have e : j = l.length := by omega
  subst e
  simp at h
  exact .inr ⟨rfl, h.symm⟩
theorem VsAt.add (h : VsAt W B own vs gs) {n : Vn} {g : Vg} (hn : VerOk W B own n g) (hb : ∀ (j : Nat) (y : Vg), gs[j]? = some y → y.b ≠ g.b) (hbv : ∀ (j : Nat) (y : Vg) (x : Nat), gs[j]? = some y → y.bv.ownBlock = some x → g.bv.ownBlock ≠ some x) : VsAt W B own (vs ++ [n]) (gs ++ [g]) := by
 refine ⟨by simp [h.len], fun i v y hv hy => ?_, fun i j y y' hy hy' e => ?_, fun i j y y' x hy hy' e e' => ?_⟩
 ·rcases app_get hv with h1 | ⟨h1, h2⟩ <;> rcases app_get hy with h3 | ⟨h3, h4⟩
  ·exact h.at_ i v y h1 h3
  ·have := (List.getElem?_eq_some_iff.1 h1).1; rw [h3, h.len] at this; omega
  ·have := (List.getElem?_eq_some_iff.1 h3).1; rw [h1, h.len] at this; omega
  ·rw [h2, h4]; exact hn
 ·rcases app_get hy with h1 | ⟨h1, h2⟩ <;> rcases app_get hy' with h3 | ⟨h3, h4⟩
  ·exact h.nd i j y y' h1 h3 e
  ·rw [h4] at e; exact absurd e (hb i y h1)
  ·rw [h2] at e; exact absurd e.symm (hb j y' h3)
  ·rw [h1, h3]
 ·rcases app_get hy with h1 | ⟨h1, h2⟩ <;> rcases app_get hy' with h3 | ⟨h3, h4⟩
  ·exact h.bnd i j y y' x h1 h3 e e'
  ·rw [h4] at e'; exact absurd e' (hbv i y x h1 e)
  ·rw [h2] at e; exact absurd e (hbv j y' x h3 e')
  ·rw [h1, h3]
theorem SsAt.more {va : List Nat} (h : SsAt W B own va ss sa) (q : Nat) : SsAt W B own (va ++ [q]) ss sa := by
 refine ⟨h.len, fun j s b hs hb => ?_, h.nd⟩
 obtain ⟨kv, h1, h2, h3, h4, h5, h6, h7⟩ := h.at_ j s b hs hb
 refine ⟨kv, ?_, h2, h3, h4, h5, fun i e => by have := h6 i e; simp; omega, h7⟩
 have e : verP (va ++ [q]) s.v = verP va s.v := by
  unfold verP
  cases e : s.v with
  | none => rfl
  | some i => simp only [Option.bind_some]; rw [List.getElem?_append_left (h6 i e)]
 rw [e]; exact h1
def offVs (vs : List Vn) (o : Bs) : List Vn := match nowI vs o with
 | none => vs
 | some i => match vs[i]? with
  | none => vs
  | some v => vs.set i (goneV v)
theorem offVs_now (h1 : One vs) (o o' : Bs) : nowI (offVs vs o) o' = if o' = o then none else nowI vs o' := by
 unfold offVs
 cases hn : nowI vs o with
 | none =>
  simp only
  by_cases ho : o' = o
  ·rw [if_pos ho, ho, hn]
  ·rw [if_neg ho]
 | some i =>
  obtain ⟨v, hv, _⟩ := nowI_some hn
  simp only [hv]
  exact nowI_goneV h1 hn hv o'
theorem offVs_one (h1 : One vs) (o : Bs) : One (offVs vs o) := by
 unfold offVs
 cases hn : nowI vs o with
 | none => exact h1
 | some i =>
  obtain ⟨v, hv, _⟩ := nowI_some hn
  simp only [hv]
  exact h1.gone hv
theorem offVs_view (vs : List Vn) (o : Bs) : (offVs vs o).map viewT = vs.map viewT := by
 unfold offVs
 cases hn : nowI vs o with
 | none => rfl
 | some i =>
  obtain ⟨v, hv, _⟩ := nowI_some hn
  simp only [hv]
  exact map_set_same (f := viewT) (y := goneV v) hv rfl
theorem offVs_len (vs : List Vn) (o : Bs) : (offVs vs o).length = vs.length := by
 have := congrArg List.length (offVs_view vs o)
 simpa using this
theorem hadA_off (vs : List Vn) (o o' t : Bs) : hadA (offVs vs o) o' t = hadA vs o' t := hadA_view (offVs_view vs o) o' t
theorem nowI_add {vs1 : List Vn} {n : Vn} (hw : n.went = false) (h0 : nowI vs1 n.obj = none) (o : Bs) : nowI (vs1 ++ [n]) o = if o = n.obj then some vs1.length else nowI vs1 o := by
 unfold nowI at h0 ⊢
 rw [List.findIdx?_append]
 by_cases ho : o = n.obj
 ·subst ho
  rw [h0]
  simp [hw]
 ·rw [if_neg ho]
  have : (n.obj == o) = false := by simp [Ne.symm ho]
  simp [this]
theorem One.add {vs1 : List Vn} {n : Vn} (h : One vs1) (hw : n.went = false) (h0 : nowI vs1 n.obj = none) : One (vs1 ++ [n]) := by
 intro i j v v' hv hv' hw1 hw2 ho
 rcases app_get hv with h1 | ⟨h1, h2⟩ <;> rcases app_get hv' with h3 | ⟨h3, h4⟩
 ·exact h i j v v' h1 h3 hw1 hw2 ho
 ·have := nowI_none h0 v (List.mem_of_getElem? h1) (by rw [ho, h4]); rw [this] at hw1; cases hw1
 ·have := nowI_none h0 v' (List.mem_of_getElem? h3) (by rw [← ho, h2]); rw [this] at hw2; cases hw2
 ·rw [h1, h3]
theorem hadA_add (vs : List Vn) (n : Vn) (o t : Bs) : hadA (vs ++ [n]) o t = if tagsB n o t = true then some ((vs.any fun v => tagsB v o t && !v.m.tw) || !n.m.tw) else hadA vs o t := by
 unfold hadA
 simp only [List.any_append, List.any_cons, List.any_nil, Bool.or_false]
 by_cases h : tagsB n o t = true
 ·simp [h]
 ·simp [h]
theorem Mid.add {m : Nat} {n : Vn} {g : Vg} (h : Mid w0 own0 W b B N vs gs ss sa (some m) mh H K F) (hlt : ∀ i, own0 i → i < w0.heap.size) (hlow : ∀ i, own0 i → B ≤ i) (hB : B ≤ w0.heap.size) (hok : VerOk W B (grownOwn own0 w0 W) n g)
  (hf : ∀ (j : Nat) (y : Vg), gs[j]? = some y → y.b ≠ g.b) (hfb : ∀ (j : Nat) (y : Vg) (x : Nat), gs[j]? = some y → y.bv.ownBlock = some x → g.bv.ownBlock ≠ some x) (hm : GMap ptE W' m (N + 1) (upd F n.obj (some g.b))) (ht : W.mapTurned W' m)
  (hF : ∀ o, upd F n.obj (some g.b) o = nowF (vs ++ [n]) (gs ++ [g]) o) (htie : ∀ o t, hadF H K o t = hadA (vs ++ [n]) o t) (hone : One (vs ++ [n])) (hobj : ∀ v ∈ vs ++ [n], v.obj.length ≤ 1000) :
  OIx W' b B (N + 1) (grownOwn own0 w0 W') (vs ++ [n]) ss sa (gs ++ [g]) (some m) mh H K ∧ ExtP own0 w0 W' := by
 have x2 := turned_ext ht
 have ho := grown_mono (own0 := own0) (w0 := w0) x2.size
 obtain ⟨es, cl, hes⟩ : ∃ es cl, W.heap[m]? = some (.map es cl) := h.obs.lt
 have hk : ∀ x ∈ [m], kindOf W x = 1000 := fun x hx => by rw [show x = m by simpa using hx]; exact kind_map hes
 have v1 := (h.vers.add hok hf hfb).extK x2 (fun x hh => by rw [hk x hh]; decide) ho
 have s1 : SsAt W B (grownOwn own0 w0 W) ((gs ++ [g]).map (·.b)) ss sa := by rw [List.map_append]; exact h.strs.more g.b
 have keep : ∀ (m' : Nat) (es : Array MapEntry) (cl : Nat), W.heap[m']? = some (.map es cl) → m' ≠ m → W'.heap[m']? = W.heap[m']? := fun m' es cl e hne => x2.block m' (blk_lt e) (by simpa using hne)
 refine ⟨⟨x2.heap h.blk (fun hh => by have := hk _ hh; rw [kind_cells h.blk] at this; cases this), .inl h.ob, v1, s1.extK x2 (fun x hh => by rw [hk x hh]; decide) ho, ⟨.inr ⟨m, rfl, ?_⟩, ?_, fun o g' e => ?_, htie, h.had.hinj, fun m' e => ho m' (h.omo m' e), fun m' e => ho m' (h.had.omh m' e), fun o g' e => ho g' (h.had.oin o g' e), h.d1, fun o g' e => ⟨h.d2 o g' e, h.had.d2 o g' e⟩⟩, hone, fun i hi => ?_, fun i hi => ?_, Nat.le_trans hB (Nat.le_trans h.size x2.size), hobj⟩, h.xp.step x2 (fun x hx => by rw [show x = m by simpa using hx]; exact h.omo m rfl)⟩
 ·have e : (fun o => (nowI (vs ++ [n]) o).bind (((gs ++ [g]).map (·.b))[·]?)) = upd F n.obj (some g.b) := by funext o; exact (hF o).symm
  rw [e]; exact hm
 ·refine (h.had.had.same fun m' e => ?_).more (Nat.le_succ _)
  subst e
  obtain ⟨es, cl, e⟩ := h.had.had.lt
  exact keep m' es cl e (fun e2 => h.d1 m rfl (by rw [e2]))
 ·obtain ⟨es, cl, e1⟩ := (h.had.inn o g' e).at_
  exact ((h.had.inn o g' e).same (keep g' es cl e1 (fun e2 => h.d2 o g' e (by rw [e2])))).more (Nat.le_succ _)
 ·rcases hi with hi | hi
  ·exact Nat.lt_of_lt_of_le (hlt i hi) (Nat.le_trans h.size x2.size)
  ·exact hi.2
 ·rcases hi with hi | hi
  ·exact hlow i hi
  ·exact Nat.le_trans hB hi.1
def newV (o : Bs) (m : MetaP) (bs : Bs) : Vn := ⟨o, { m with hav := bs.length }, bs, false⟩
def setOk (o : Bs) (m : MetaP) (bs : Bs) : Bool := objB o && (m.len == -1 || m.len == (bs.length : Int)) && metaB { m with hav := bs.length }
def refused (vs : List Vn) (o : Bs) (m : MetaP) : Bool := !noTag m && (match hadA vs o m.tt with | none => false | some x => x || !m.tw)
def setA (vs : List Vn) (o : Bs) (m : MetaP) (bs : Bs) : Int × List Vn :=
 if setOk o m bs = false then (1, vs) else if refused vs o m = true then (12, vs) else (0, offVs vs o ++ [newV o m bs])
theorem nowF_add (h1 : One vs) {n : Vn} {g : Vg} (hw : n.went = false) (hlen : gs.length = vs.length) (o : Bs) : upd (nowF vs gs) n.obj (some g.b) o = nowF (offVs vs n.obj ++ [n]) (gs ++ [g]) o := by
 have hoff := offVs_now h1 n.obj
 unfold nowF
 rw [nowI_add hw (by rw [hoff]; simp)]
 unfold upd
 by_cases ho : o = n.obj
 ·rw [if_pos ho, if_pos ho, offVs_len]
  simp [hlen]
 ·rw [if_neg ho, if_neg ho, hoff, if_neg ho]
  show (nowI vs o).bind _ = _
  cases hn : nowI vs o with
  | none => rfl
  | some i =>
   obtain ⟨v, hv, _⟩ := nowI_some hn
   have hi := (List.getElem?_eq_some_iff.1 hv).1
   simp only [Option.bind_some, List.map_append]
   rw [List.getElem?_append_left (by simp [hlen]; exact hi)]
theorem tie_none (o : Bs) (m : MetaP) (bs : Bs) (h : noTag m = true) (o' t : Bs) : hadA (offVs vs o ++ [newV o m bs]) o' t = hadA vs o' t := by
 rw [hadA_add, hadA_off]
 have : tagsB (newV o m bs) o' t = false := by
  have e : noTag (newV o m bs).m = true := h
  simp [tagsB, e]
 rw [this]; simp
theorem tie_some (o : Bs) (m : MetaP) (bs : Bs) (h : noTag m = false) (hr : refused vs o m = false) (o' t : Bs) : hadA (offVs vs o ++ [newV o m bs]) o' t = if o' = o ∧ t = m.tt then some (!m.tw) else hadA vs o' t := by
 rw [hadA_add, hadA_off]
 have e : noTag (newV o m bs).m = false := h
 have e2 : tagsB (newV o m bs) o' t = decide (o' = o ∧ t = m.tt) := by
  unfold tagsB
  rw [e]
  show (o == o' && !false && m.tt == t) = _
  rw [Bool.eq_iff_iff]
  simp only [Bool.not_false, Bool.and_true, Bool.and_eq_true, beq_iff_eq, decide_eq_true_eq]
  exact ⟨fun hh => ⟨hh.1.symm, hh.2.symm⟩, fun hh => ⟨hh.1.symm, hh.2.symm⟩⟩
 rw [e2]
 by_cases hc : o' = o ∧ t = m.tt
 ·obtain ⟨rfl, rfl⟩ := hc
  simp only [and_self, decide_true, if_true]
  have e3 : (newV o' m bs).m.tw = m.tw := rfl
  rw [e3]
  unfold refused at hr
  rw [h] at hr
  have e4 : ((offVs vs o').any fun v => tagsB v o' m.tt && !v.m.tw) = (vs.any fun v => tagsB v o' m.tt && !v.m.tw) := by
   have key : ∀ l : List Vn, (l.any fun v => tagsB v o' m.tt && !v.m.tw) = (l.map viewT).any fun p => p.1 == o' && !(p.2.1 == [] && !p.2.2) && p.2.1 == m.tt && !p.2.2 := fun l => by
    rw [List.any_map]; rfl
   rw [key, key, offVs_view]
  rw [e4]
  unfold hadA at hr
  by_cases ha : (vs.any fun v => tagsB v o' m.tt) = true
  ·rw [if_pos ha] at hr
   simp at hr
   have hb : (vs.any fun v => tagsB v o' m.tt && !v.m.tw) = false := by simpa using hr.1
   rw [hb]; simp
  ·have hb : (vs.any fun v => tagsB v o' m.tt && !v.m.tw) = false := by
    rw [List.any_eq_false]
    intro x hx hh
    refine ha (List.any_eq_true.2 ⟨x, hx, ?_⟩)
    simp at hh; exact hh.1
   rw [hb]; simp
 ·simp [hc]
end
end Go.Proofs.Ytpangoddbfiagaa
namespace Go.Proofs.Ytpangoddbfiagaa
open Go.RowKit Go.Maps Go.ChangeMaps
set_option linter.unusedVariables false
set_option linter.unusedSimpArgs false
theorem q27 (W : World) (t : Bs) (b : Bool) : (binOp .neq 27 (.agg #[.string ⟨t.toArray⟩, .bool b]) (.agg #[.string ⟨#[]⟩, .bool false])).run Try.prog W = .ok (.bool (!(t == [] && !b))) W := by
 cases t with
 | nil => cases b <;> kernel_rfl
 | cons c t => kernel_rfl
theorem q82 (w : World) (r : Option Nat) : (binOp .eql 82 (.map r) (.map none)).run Try.prog w = .ok (.bool r.isNone) w := run_eql_map_nil w _ _ _ r Try.underlying82
theorem size82 : (Try.prog.info? 82).map (·.size) = some 1 := by kernel_rfl
theorem wpQuiet_get {ops : Array Oper} {C : World → Prop} {Q : Act → Prop} {a : Act} {o : Oper} {rest : List Oper} (ty : TypeId) (d : TypeDesc) (hw : Region.wanted o (yielded ops a.tmps) = true) (x : Operand) (ho : o.op = .load ty x)
  (g off : Nat) (e : TypeId) (cur : Array Value) (cs : List Value) (hx : a.eval x = .pointer (some ⟨g, off, none⟩)) (hg : ∀ W, C W → W.heap[g]? = some (.cells cur e (0, 0))) (hc : (cur.toList.drop off).take cs.length = cs) (hu : Try.prog.underlying ty = some d) (hd : d.isRow = true) (hi : (Try.prog.info? ty).map (·.size) = some cs.length)
  (h : wpQuiet Try.prog ops C Q rest (a.put o.dst (.agg cs.toArray))) : wpQuiet Try.prog ops C Q (o :: rest) a :=
 BigFrame.wpQuiet_want hw fun K hK => ⟨.agg cs.toArray, fun W hW => by
  unfold Oper.quietAt execOp
  simp only [ho, hx, Instr.loadAt, Instr.sureAddr, Sem.run_bind, Sem.run_pure, Result.andThen_ok, run_loadVar_mid W g off ty cs d (range_of (hg W hW) hc) hu hd hi]
  exact ⟨rfl, rfl⟩, hK _ h⟩
def FarV (own : Nat → Prop) (v : Value) : Prop := ∀ A n c, v = .slice (some A) n c → 0 < n → ¬ own A.block
theorem RowAt.far {w w' : World} {own : Nat → Prop} {v : Value} {xs : List Value} (h : RowAt w v xs) (x : ExtP own w w') (hf : FarV own v) : RowAt w' v xs := by
 obtain ⟨A, c, h1, h2, h3, h4⟩ := h
 refine ⟨A, c, h1, h2, h3, fun j hj => ?_⟩
 obtain ⟨b, off, e1, e2⟩ := h4 j hj
 refine ⟨b, off, e1, ?_⟩
 have hb : w'.heap[b]? = w.heap[b]? := by
  refine x.block b ?_ ?_
  ·unfold World.cell? at e2
   split at e2
   ·exact blk_lt (by assumption)
   ·cases e2
  ·exact hf ⟨b, off, none⟩ _ _ (by rw [h1, e1]) (by omega)
 unfold World.cell? at e2 ⊢
 simp only [hb]
 exact e2
theorem OI.moreN {w : World} {b B N M : Nat} {own : Nat → Prop} {vs : List Vn} {ss : List Sn} {sa : List Nat} (h : OI w b B N own vs ss sa) (hM : N ≤ M) : OI w b B M own vs ss sa := by
 obtain ⟨gs, mo, mh, H, K, h⟩ := h
 exact ⟨gs, mo, mh, H, K, h.blk, h.ob, h.vers, h.strs, ⟨h.maps.obs.more hM, h.maps.had.more hM, fun o g e => (h.maps.inn o g e).more hM, h.maps.tie, h.maps.hinj, h.maps.omo, h.maps.omh, h.maps.oin, h.maps.d1, h.maps.d2⟩, h.one, h.lt, h.low, h.lowB, h.objs⟩
theorem OI.grown {w w' : World} {b B N : Nat} {own : Nat → Prop} {vs : List Vn} {ss : List Sn} {sa : List Nat} (h : OI w b B N own vs ss sa) (x : Ext w w') : OI w' b B N (grownOwn own w w') vs ss sa := by
 obtain ⟨gs, mo, mh, H, K, h⟩ := h
 refine ⟨gs, mo, mh, H, K, h.keep (fun i hi => x.block i (h.lt i hi)) x.size (fun i hi => .inl hi) (fun i hi => ?_) (fun i hi => ?_)⟩
 ·rcases hi with hi | hi
  ·exact Nat.lt_of_lt_of_le (h.lt i hi) x.size
  ·exact hi.2
 ·rcases hi with hi | hi
  ·exact h.low i hi
  ·exact Nat.le_trans h.lowB hi.1
section
variable {w w' : World} {b B N : Nat} {own : Nat → Prop} {vs : List Vn} {ss : List Sn} {sa : List Nat} {gs : List Vg} {mo mh : Option Nat} {H : Bs → Option Nat} {K : Bs → Bs → Option Bool}
theorem fin_same (hI : OIx w b B N own vs ss sa gs mo mh H K) (x : Ext w w') {r : Int × List Vn} {k : Int} (hr : r = (k, vs)) : Ending.returned (.int .i64 k) = .returned (.int .i64 r.1) ∧ OI w' b B (N + 2) (grownOwn own w w') r.2 ss sa ∧ ExtP own w w' := by
 subst hr
 exact ⟨rfl, ((show OI w b B N own vs ss sa from ⟨gs, mo, mh, H, K, hI⟩).grown x).moreN (by omega), .of x⟩
theorem TextsAt.far {W : World} {v : Value} {ks : List Bs} (h : TextsAt w v ks) (x : ExtP own w W) (hf : FarV own v) : TextsAt W v ks := (h.row.far x hf).texts
theorem fin_set (hI : OIx w b B N own vs ss sa gs mo mh H K) {W W' : World} {m : Nat} {mh' : Option Nat} {H' : Bs → Option Nat} {K' : Bs → Bs → Option Bool} {o bs : Bs} {mp : MetaP} {g : Vg} {base : Nat} (hbase : B ≤ base) (hbase2 : w.heap.size ≤ base) (hM : Mid w own W b B (N + 1) (offVs vs o) gs ss sa (some m) mh' H' K' (nowF vs gs)) (ho : o.length ≤ 1000)
  (hblk : VerAt W g.b { mp with hav := g.h } g.kv g.bv false) (hkeys : SRow W base g.kv mp.keys) (hrow : BRow W base g.bv bs) (hgb : base ≤ g.b) (hz : MetaZ mp) (hbs : bs.length ≤ 1000)
  (hfr : ∀ (j : Nat) (y : Vg), gs[j]? = some y → y.b < base ∧ ∀ x, y.bv.ownBlock = some x → x < base)
  (hm : GMap ptE W' m (N + 2) (upd (nowF vs gs) o (some g.b))) (ht : W.mapTurned W' m) (htie : ∀ o' t, hadF H' K' o' t = hadA (offVs vs o ++ [⟨o, mp, bs, false⟩]) o' t) {r : Int × List Vn} (hr : r = (0, offVs vs o ++ [⟨o, mp, bs, false⟩])) :
  Ending.returned (.int .i64 0) = .returned (.int .i64 r.1) ∧ OI W' b B (N + 2) (grownOwn own w W') r.2 ss sa ∧ ExtP own w W' := by
 subst hr
 have hg1 : ∀ x, base ≤ x → x < W.heap.size → grownOwn own w W x := fun x h1 h2 => .inr ⟨by omega, h2⟩
 have hok : VerOk W B (grownOwn own w W) ⟨o, mp, bs, false⟩ g := ⟨hblk, ownsRow_base hkeys hbase, ownsRow_base hrow hbase, hg1 _ hgb (blk_lt hblk), fun x e => hg1 x (hkeys.lt x e).1 (hkeys.lt x e).2, fun x e => hg1 x (hrow.lt x e).1 (hrow.lt x e).2, hz, by simp only; omega⟩
 have R := hM.add hI.lt hI.low hI.lowB hok (fun j y e => by have := (hfr j y e).1; omega) (fun j y x e e2 e3 => by have h1 := (hfr j y e).2 x e2; have h2 := (hrow.lt x e3).1; omega) hm ht (nowF_add hI.one rfl hI.vers.len) htie ((offVs_one hI.one o).add rfl (by rw [offVs_now hI.one]; simp)) (fun v hv => ?_)
 ·exact ⟨rfl, ⟨_, _, _, _, _, R.1⟩, R.2⟩
 ·rcases List.mem_append.1 hv with h1 | h1
  ·have hvw : viewT v ∈ (offVs vs o).map viewT := List.mem_map_of_mem h1
   rw [offVs_view] at hvw
   obtain ⟨u, hu, e⟩ := List.mem_map.1 hvw
   have := hI.objs u hu
   rw [show u.obj = v.obj from congrArg Prod.fst e] at this
   exact this
  ·rw [List.mem_singleton.1 h1]; exact ho
theorem tellX {w0 W : World} {own0 : Nat → Prop} {F : Bs → Option Nat} {o : Bs} (h : Mid w0 own0 W b B N vs gs ss sa mo mh H K F) {x : Nat} (hx : x ∈ b :: (mh.toList ++ (H o).toList)) : kindOf W x = 84 ∨ kindOf W x = 1000 := by
 have hX : x = b ∨ mh = some x ∨ H o = some x := by simpa [eq_comm] using hx
 rcases hX with e | e | e
 ·rw [e]; exact .inl (kind_cells h.blk)
 ·subst e
  obtain ⟨es, cl, e⟩ := h.had.had.lt
  exact .inr (kind_map e)
 ·obtain ⟨es, cl, e⟩ := (h.had.inn o x e).at_
  exact .inr (kind_map e)
theorem frs_of (hI : OIx w b B N own vs ss sa gs mo mh H K) {base : Nat} (hb : w.heap.size ≤ base) (j : Nat) (y : Vg) (e : gs[j]? = some y) : y.b < base ∧ ∀ x, y.bv.ownBlock = some x → x < base := by
 have hj : j < vs.length := by rw [← hI.vers.len]; exact (List.getElem?_eq_some_iff.1 e).1
 have q := hI.vers.at_ j vs[j] y (by simp [hj]) e
 exact ⟨by have := blk_lt q.blk; omega, fun x hx => by have := (q.row.lt x hx).2; omega⟩
end
end Go.Proofs.Ytpangoddbfiagaa
