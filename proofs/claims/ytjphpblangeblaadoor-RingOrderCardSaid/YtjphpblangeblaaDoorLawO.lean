/- Two rings of the program's, side by side; names added in another order. -/
import Derived.Test.YtjphpblangeblaaDoorLawM
namespace Go.Proofs.YtjphpblangeblaaDoor
open Go.RowKit Go.Maps Go.ChangeMaps
set_option linter.unusedVariables false
set_option linter.unusedSimpArgs false
/-- One ring has L, the other K; Q: further blocks, that stay. -/
def PP2 (w0 w : World) (a b N M each : Nat) (L K : NL) (Q : Nat → Prop) : Prop := ∃ own rown : Nat → Prop, RgI w w0.heap.size a N own each L ∧ RgI w w0.heap.size b M rown each K ∧ (∀ g, own g → ¬ rown g) ∧ (∀ g, Q g → g < w.heap.size ∧ ¬ own g ∧ ¬ rown g) ∧ Ext w0 w ∧ Tab w ∧ 1 ≤ w0.heap.size
section
variable {w0 w w' : World} {a b N M each : Nat} {L K : NL} {Q Q' : Nat → Prop} {n : Nm} {ob : Bs}
theorem PP2.base (h : PP2 w0 w a b N M each L K Q) : Ext w0 w := by obtain ⟨_, _, _, _, _, _, h, _⟩ := h; exact h
theorem PP2.tab (h : PP2 w0 w a b N M each L K Q) : Tab w := by obtain ⟨_, _, _, _, _, _, _, h, _⟩ := h; exact h
theorem PP2.ok (h : PP2 w0 w a b N M each L K Q) : LOk L := by obtain ⟨_, _, ⟨_, _, _, h⟩, _⟩ := h; exact h.ok
theorem PP2.qlt (h : PP2 w0 w a b N M each L K Q) {g : Nat} (hg : Q g) : g < w.heap.size := by obtain ⟨_, _, _, _, _, hq, _⟩ := h; exact (hq g hg).1
theorem PP2.swap (h : PP2 w0 w a b N M each L K Q) : PP2 w0 w b a M N each K L Q := by
  obtain ⟨own, rown, h1, h2, h3, h4, h5⟩ := h
  exact ⟨rown, own, h2, h1, fun g hg e => h3 g e hg, fun g hg => ⟨(h4 g hg).1, (h4 g hg).2.2, (h4 g hg).2.1⟩, h5⟩
theorem PP2.ext (h : PP2 w0 w a b N M each L K Q) (hx : Ext w w') : PP2 w0 w' a b N M each L K Q := by
  obtain ⟨own, rown, h1, h2, h3, h4, h5, h6, h7⟩ := h
  exact ⟨own, rown, h1.ext hx, h2.ext hx, h3, fun g hg => ⟨Nat.lt_of_lt_of_le (h4 g hg).1 hx.size, (h4 g hg).2⟩, h5.trans hx, h6.ext hx, h7⟩
theorem PP2.weak (h : PP2 w0 w a b N M each L K Q) (hq : ∀ g, Q' g → Q g) : PP2 w0 w a b N M each L K Q' := by
  obtain ⟨own, rown, h1, h2, h3, h4, h5⟩ := h
  exact ⟨own, rown, h1, h2, h3, fun g hg => h4 g (hq g hg), h5⟩
theorem PP2.hold (h : PP2 w0 w a b N M each L K Q) (hx : Ext w w') : PP2 w0 w' a b N M each L K (fun g => Q g ∨ (w.heap.size ≤ g ∧ g < w'.heap.size)) := by
  obtain ⟨own, rown, h1, h2, h3, h4, h5, h6, h7⟩ := h
  refine ⟨own, rown, h1.ext hx, h2.ext hx, h3, fun g hg => ?_, h5.trans hx, h6.ext hx, h7⟩
  rcases hg with hg | ⟨hg1, hg2⟩
  · exact ⟨Nat.lt_of_lt_of_le (h4 g hg).1 hx.size, (h4 g hg).2⟩
  · exact ⟨hg2, fun e => by have := (h1.lt e).1; omega, fun e => by have := (h2.lt e).1; omega⟩
/-- A held block turns: the rings stay; what is new is held. -/
theorem PP2.grown {row row' : Option Nat} (h : PP2 w0 w a b N M each L K Q) (hg : w.grownBy w' row) (hr : ∀ g, row = some g → Q g ∧ w0.heap.size ≤ g) (hr' : ∀ g, row' = some g → g < w'.heap.size ∧ (row = some g ∨ w.heap.size ≤ g)) : PP2 w0 w' a b N M each L K (fun g => row' = some g) := by
  obtain ⟨own, rown, h1, h2, h3, h4, h5, h6, h7⟩ := h
  have hx : ExtP (fun g => row = some g) w w' := ⟨hg.os, hg.tape, hg.output, hg.size, fun k hk hn => hg.block k hk (fun e => hn e.symm)⟩
  have no : ∀ g, (own g ∨ rown g) → ¬ row = some g := fun g ho e => by
    rcases ho with ho | ho
    · exact (h4 g (hr g e).1).2.1 ho
    · exact (h4 g (hr g e).1).2.2 ho
  refine ⟨own, rown, h1.extP hx fun g ho => no g (.inl ho), h2.extP hx fun g ho => no g (.inr ho), h3, fun g e => ?_, RowKit.Below.trans h5 (hx.below h5.size fun k hk => (hr k hk).2), h6.extP hx (fun k hk => (hr k hk).2) h7, h7⟩
  obtain ⟨e1, e2⟩ := hr' g e
  rcases e2 with e2 | e2
  · exact ⟨e1, (h4 g (hr g e2).1).2.1, (h4 g (hr g e2).1).2.2⟩
  · exact ⟨e1, fun ho => by have := (h1.lt ho).1; omega, fun ho => by have := (h2.lt ho).1; omega⟩
theorem q_add (h : PP2 w0 w a b N M each L K Q) (hN : N + 1 ≤ 100) (hn : n.length ≤ 1000000) (k : Int) : Calls Tryd.prog 16 #[.pointer (some ⟨a, 0, none⟩), .string ⟨n.toArray⟩, .int .i64 k] w fun e w' => e = .returned (.int .i64 (addC L n k)) ∧ PP2 w0 w' a b (N + 1) M each (addL L n k) K Q ∧ KeepQ Q w w' := by
  obtain ⟨own, rown, h1, h2, h3, h4, h5, h6, h7⟩ := h
  refine (add_any itoa_any sortP_any h1 h6 h7 h5.size hN hn k).mono ?_
  rintro e w' ⟨he, hr, hx⟩
  refine ⟨he, ⟨grownOwn own w w', rown, hr, h2.extP hx fun g hg e => h3 g e hg, fun g hg e => ?_, fun g hg => ⟨Nat.lt_of_lt_of_le (h4 g hg).1 hx.size, fun e => ?_, (h4 g hg).2.2⟩, RowKit.Below.trans h5 (hx.below h5.size fun k hk => (h1.lt hk).2), h6.extP hx (fun k hk => (h1.lt hk).2) h7, h7⟩, fun g hg => hx.block g (h4 g hg).1 (h4 g hg).2.1⟩
  · rcases hg with hg | ⟨hg, _⟩
    · exact h3 g hg e
    · have := (h2.lt e).1; omega
  · rcases e with e | ⟨e, _⟩
    · exact (h4 g hg).2.1 e
    · have := (h4 g hg).1; omega
theorem q_owners (h : PP2 w0 w a b N M each L K Q) (ho : ob.length ≤ 1000000) (k : Int) : Calls Tryd.prog 12 #[.pointer (some ⟨a, 0, none⟩), .string ⟨ob.toArray⟩, .int .i64 k] w fun e w' => ∃ v, e = .returned v ∧ SRow w' w.heap.size v ((ordL pd each (hashL ob) L).take (min k L.length).toNat) ∧ Ext w w' := by
  obtain ⟨own, rown, h1, _⟩ := h; exact owners_any h1 ho k
theorem q_names (h : PP2 w0 w a b N M each L K Q) : Calls Tryd.prog 19 #[.pointer (some ⟨a, 0, none⟩)] w fun e w' => ∃ v, e = .returned v ∧ SRow w' w.heap.size v (namL L) ∧ Ext w w' := by
  obtain ⟨own, rown, h1, _⟩ := h; exact names_any h1
theorem KRow.keepQ {α : Type} {enc : α → List Value} {k : Nat} {e : TypeId} {B : Nat} {v : Value} {xs : List α} (h : KRow enc k e w B v xs) (hk : ∀ g, v.ownBlock = some g → w'.heap[g]? = w.heap[g]?) : KRow enc k e w' B v xs := by
  refine ⟨h.1, ?_⟩
  rcases h.2 with h2 | ⟨g, cap, cur, rfl, hb, hgg, r⟩
  · exact .inl h2
  · exact .inr ⟨g, cap, cur, rfl, hb, (hk g rfl).trans hgg, r⟩
end
/-! ### which are told, and in which order -/
def keyO (o : OpP) : Nm × Nat := (o.nm, o.wgt.toNat)
def stepO (os : List OpP) (o : OpP) : List OpP := if addC (os.map keyO) o.nm o.wgt = 0 then os ++ [o] else os
def onceL (xs : List OpP) : List OpP := xs.foldl stepO []
theorem onceL_snoc (xs : List OpP) (o : OpP) : onceL (xs ++ [o]) = stepO (onceL xs) o := by simp [onceL]
theorem stepO_add (os : List OpP) (o : OpP) : (stepO os o).map keyO = addL (os.map keyO) o.nm o.wgt := by
  unfold stepO addL
  split <;> simp [keyO]
def okO (os : List OpP) : Prop := ∀ o ∈ os, rightN o.nm = true ∧ 1 ≤ o.wgt ∧ o.wgt ≤ 20
theorem okO_step {os : List OpP} {o : OpP} (h : okO os) : okO (stepO os o) := by
  unfold stepO
  split
  · rename_i hc
    intro y hy
    rcases List.mem_append.1 hy with hy | hy
    · exact h y hy
    · rw [List.mem_singleton.1 hy]; obtain ⟨h1, h2, h3, _⟩ := addC_ok hc; exact ⟨h1, h2, h3⟩
  · exact h
theorem okO_fold : ∀ (xs os : List OpP), okO os → okO (xs.foldl stepO os)
  | [], _, h => h
  | x :: xs, os, h => okO_fold xs _ (okO_step h)
theorem okO_once (xs : List OpP) : okO (onceL xs) := okO_fold xs [] (fun o ho => by cases ho)
/-- The i-th place of the turned order. -/
def ixO (ln z t : Nat) : Nat := (ln - 1 - t + z) % ln
theorem ixO_lt {ln z t : Nat} (h : 0 < ln) : ixO ln z t < ln := Nat.mod_lt _ h
theorem ixO_inj {ln z t t' : Nat} (h : t < t') (h' : t' < ln) : ixO ln z t ≠ ixO ln z t' := by
  unfold ixO
  intro e
  have hd : ln - 1 - t + z = (ln - 1 - t' + z) + (t' - t) := by omega
  rw [hd] at e
  have h1 := Nat.div_add_mod (ln - 1 - t' + z) ln
  have h2 := Nat.div_add_mod (ln - 1 - t' + z + (t' - t)) ln
  rw [e] at h2
  have h3 : ln * ((ln - 1 - t' + z + (t' - t)) / ln) = ln * ((ln - 1 - t' + z) / ln) + (t' - t) := by omega
  have h4 : ln ∣ t' - t := by
    have := Nat.dvd_sub (Nat.dvd_mul_right ln ((ln - 1 - t' + z + (t' - t)) / ln)) (Nat.dvd_mul_right ln ((ln - 1 - t' + z) / ln))
    rwa [h3, Nat.add_sub_cancel_left] at this
  have := Nat.le_of_dvd (by omega) h4
  omega
/-- The first j told in the turned order. -/
def toK (os : List OpP) (z j : Nat) : NL := (List.range j).map fun t => keyO (os.getD (ixO os.length z t) ⟨0, [], 0⟩)
theorem toK_succ (os : List OpP) (z j : Nat) : toK os z (j + 1) = toK os z j ++ [keyO (os.getD (ixO os.length z j) ⟨0, [], 0⟩)] := by simp [toK, List.range_succ]
theorem toK_len (os : List OpP) (z j : Nat) : (toK os z j).length = j := by simp [toK]
theorem toK_add {os : List OpP} (ho : okO os) (hk : LOk (os.map keyO)) {z j : Nat} (hj : j < os.length) : addC (toK os z j) (os.getD (ixO os.length z j) ⟨0, [], 0⟩).nm (os.getD (ixO os.length z j) ⟨0, [], 0⟩).wgt = 0 ∧ addL (toK os z j) (os.getD (ixO os.length z j) ⟨0, [], 0⟩).nm (os.getD (ixO os.length z j) ⟨0, [], 0⟩).wgt = toK os z (j + 1) := by
  have hi : ixO os.length z j < os.length := ixO_lt (by omega)
  obtain ⟨o, hoo⟩ : ∃ o, o = os.getD (ixO os.length z j) ⟨0, [], 0⟩ := ⟨_, rfl⟩
  have hg : o = os[ixO os.length z j] := by rw [hoo]; simp [List.getD, hi]
  obtain ⟨h1, h2, h3⟩ := ho o (by rw [hg]; exact List.getElem_mem hi)
  have h64 : os.length ≤ 64 := by have := hk.len; simpa using this
  have hno : o.nm ∉ (toK os z j).map Prod.fst := by
    intro hm
    obtain ⟨y, hy, e⟩ := List.mem_map.1 hm
    obtain ⟨t, ht, e2⟩ := List.mem_map.1 hy
    have ht := List.mem_range.1 ht
    have hit : ixO os.length z t < os.length := ixO_lt (by omega)
    have hne := ixO_inj (z := z) ht hj
    have e3 : os[ixO os.length z t].nm = o.nm := by
      rw [← e, ← e2]; simp [keyO, List.getD, hit]
    rw [hg] at e3
    have hnd := hk.nd
    rw [List.map_map] at hnd
    have := List.pairwise_iff_getElem.1 hnd
    rcases Nat.lt_or_gt_of_ne hne with hl | hl
    · have h5 := this _ _ (by simpa using hit) (by simpa using hi) hl
      simp [keyO] at h5
      exact h5 e3
    · have h5 := this _ _ (by simpa using hi) (by simpa using hit) hl
      simp [keyO] at h5
      exact h5 e3.symm
  have hc : addC (toK os z j) o.nm o.wgt = 0 := by
    unfold addC
    rw [if_neg (by rintro (h | h | h) <;> first | (rw [h1] at h; cases h) | omega), if_neg (by rw [wt_no hno]; simp), if_neg (by rw [toK_len]; omega)]
  rw [← hoo]
  refine ⟨hc, ?_⟩
  unfold addL
  rw [if_pos hc, toK_succ, ← hoo]
  rfl
/-- When all are told, both rings answer alike. -/
theorem toK_all {os : List OpP} {z : Nat} (hk : LOk (os.map keyO)) (hk2 : LOk (toK os z os.length)) (each : Nat) (H : Int) : ordL pd each H (os.map keyO) = ordL pd each H (toK os z os.length) ∧ namL (os.map keyO) = namL (toK os z os.length) := by
  have hsub : ∀ x ∈ toK os z os.length, x ∈ os.map keyO := fun x hx => by
    obtain ⟨t, ht, rfl⟩ := List.mem_map.1 hx
    have ht := List.mem_range.1 ht
    have hit : ixO os.length z t < os.length := ixO_lt (by omega)
    refine List.mem_map.2 ⟨os[ixO os.length z t], List.getElem_mem hit, by simp [List.getD, hit]⟩
  have hnd : (toK os z os.length).Nodup := by
    have := hk2.nd
    unfold List.Nodup at this ⊢
    rw [List.pairwise_map] at this
    exact this.imp fun h e => h (by rw [e])
  have hfull := nodup_full hnd hsub (by rw [toK_len]; simp)
  have hmem : ∀ x, x ∈ os.map keyO ↔ x ∈ toK os z os.length := fun x => ⟨hfull x, hsub x⟩
  refine ⟨ordL_perm each H hk.nd hmem hk2.nd, ?_⟩
  have hp : ((os.map keyO).map Prod.fst).Perm ((toK os z os.length).map Prod.fst) := by
    refine (List.perm_ext_iff_of_nodup hk.nd hk2.nd).2 fun y => ?_
    constructor
    · intro hy; obtain ⟨q, hq, rfl⟩ := List.mem_map.1 hy; exact List.mem_map_of_mem ((hmem q).1 hq)
    · intro hy; obtain ⟨q, hq, rfl⟩ := List.mem_map.1 hy; exact List.mem_map_of_mem ((hmem q).2 hq)
  rw [← namL_of hk2 hp, ← namL_of hk (List.Perm.refl _)]
end Go.Proofs.YtjphpblangeblaaDoor
