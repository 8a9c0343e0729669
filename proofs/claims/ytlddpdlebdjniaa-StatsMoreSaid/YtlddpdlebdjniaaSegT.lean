/- A region that draws its order, in which several operations that make memory may come up in either order: a tree of the orders. -/
import Derived.Test.YtlddpdlebdjniaaSeg
namespace Go.Proofs.Ytlddpdlebdjniaa
open Go.RowKit
theorem Ext.fromDrew {a b : World} (h : Ext a b) : ExtB [] a.drew b := ⟨h.os, h.tape, h.output, h.size, fun k hk _ => h.block k hk⟩
/-- What follows once all that only reads has been taken: one operation by itself, or either of two that may come up. -/
inductive Tr where
  | done
  | one (k : Nat) (t : Tr)
  | fork (k1 : Nat) (t1 : Tr) (k2 : Nat) (t2 : Tr)
def wpTr (P : Program) (ops : Array Oper) (Q : Exit → Act → World → Prop) (X : List Nat) (W0 : World) : Tr → Act → World → Prop
  | .done, a, w => Q .normal a w
  | .one k t, a, w => wpList P ops (Exit.then (fun a' w' => ExtB X W0 w' ∧ wpTr P ops Q X W0 t a' w') Q) (pickOps ops [k]) a w
  | .fork k1 t1 k2 t2, a, w => wpList P ops (Exit.then (fun a' w' => ExtB X W0 w' ∧ wpTr P ops Q X W0 t1 a' w') Q) (pickOps ops [k1]) a w ∧
      wpList P ops (Exit.then (fun a' w' => ExtB X W0 w' ∧ wpTr P ops Q X W0 t2 a' w') Q) (pickOps ops [k2]) a w
def trLen : Tr → Nat
  | .done => 0
  | .one _ t => trLen t + 1
  | .fork _ t1 _ _ => trLen t1 + 1
def trB (ops : Array Oper) : Tr → Array Bool → Bool
  | .done, l => (Region.ready .any ops l).isEmpty
  | .one k t, l => decide (Region.ready .any ops l = [k]) && trB ops t (l.setIfInBounds k true)
  | .fork k1 t1 k2 t2, l => decide (Region.ready .any ops l = [k1, k2]) && decide (trLen t2 = trLen t1) && trB ops t1 (l.setIfInBounds k1 true) && trB ops t2 (l.setIfInBounds k2 true)
section
variable {P : Program} {ops : Array Oper} {Q : Exit → Act → World → Prop} {X : List Nat} {W0 : World} {a : Act} {w : World} {k k1 k2 : Nat} {t t1 t2 : Tr}
theorem wpTr_done : wpTr P ops Q X W0 .done a w = Q .normal a w := rfl
theorem wpTr_one : wpTr P ops Q X W0 (.one k t) a w = wpList P ops (Exit.then (fun a' w' => ExtB X W0 w' ∧ wpTr P ops Q X W0 t a' w') Q) (pickOps ops [k]) a w := rfl
theorem wpTr_fork : wpTr P ops Q X W0 (.fork k1 t1 k2 t2) a w = (wpList P ops (Exit.then (fun a' w' => ExtB X W0 w' ∧ wpTr P ops Q X W0 t1 a' w') Q) (pickOps ops [k1]) a w ∧
      wpList P ops (Exit.then (fun a' w' => ExtB X W0 w' ∧ wpTr P ops Q X W0 t2 a' w') Q) (pickOps ops [k2]) a w) := rfl
theorem tr_sound : ∀ (t : Tr) (l : Array Bool) (a : Act) (w : World), trB ops t l = true → wpTr P ops Q X W0 t a w → wpAnyN P ops Q (ExtB X W0) [] (trLen t) l a w
  | .done, l, a, w, hB, h => wpAnyN_done (by simpa [trB] using hB) h _
  | .one k t, l, a, w, hB, h => by
    simp only [trB, Bool.and_eq_true, decide_eq_true_eq] at hB
    have hk : k ∈ Region.ready .any ops l := by rw [hB.1]; simp
    obtain ⟨_, o, ho, _⟩ := mem_ready.1 hk
    rw [wpTr_one, pick_of ho] at h
    refine ⟨fun h0 => (by rw [h0] at hk; cases hk), fun i hi => ?_⟩
    rw [hB.1] at hi
    obtain rfl : i = k := by simpa using hi
    exact wpOp_of_list ho h fun a' w' h' => .inr ⟨by simp, h'.1, tr_sound t _ a' w' hB.2 h'.2⟩
  | .fork k1 t1 k2 t2, l, a, w, hB, h => by
    simp only [trB, Bool.and_eq_true, decide_eq_true_eq] at hB
    obtain ⟨⟨⟨hr, hlen⟩, hB1⟩, hB2⟩ := hB
    have hk1 : k1 ∈ Region.ready .any ops l := by rw [hr]; simp
    have hk2 : k2 ∈ Region.ready .any ops l := by rw [hr]; simp
    obtain ⟨_, o1, ho1, _⟩ := mem_ready.1 hk1
    obtain ⟨_, o2, ho2, _⟩ := mem_ready.1 hk2
    rw [wpTr_fork, pick_of ho1, pick_of ho2] at h
    refine ⟨fun h0 => (by rw [h0] at hk1; cases hk1), fun i hi => ?_⟩
    rw [hr] at hi
    have hi' : i = k1 ∨ i = k2 := by simpa using hi
    rcases hi' with rfl | rfl
    · exact wpOp_of_list ho1 h.1 fun a' w' h' => .inr ⟨by simp, h'.1, tr_sound t1 _ a' w' hB1 h'.2⟩
    · exact wpOp_of_list ho2 h.2 fun a' w' h' => .inr ⟨by simp, h'.1, by rw [← hlen]; exact tr_sound t2 _ a' w' hB2 h'.2⟩
/-- A region that draws its order: what only reads first; then, one by one, what makes memory, in every order in which it may come up; nothing that lay in the region's first world turns, but the blocks X. -/
theorem wp_region_tr {id : Nat} {l : List Oper} (X : List Nat) (ks : List Nat) (t : Tr) (hm : P.follows .mixedOrders = true)
    (hB : (Region.noSelect l.toArray && decide (ks.length + trLen t = l.length) && ((pureB l.toArray [] ks (Array.replicate l.length false)).map fun l' => trB l.toArray t l').getD false) = true)
    (hQ : ∀ c a d v w, Q (.panic c) (a.put d v) w → Q (.panic c) a w)
    (h : wpQuiet P l.toArray (InGrow X w.drew) (fun a' => wpTr P l.toArray Q X w.drew t a' w.drew) (pickOps l.toArray ks) a) : (Code.region id l.toArray true).wp P Q a w := by
  simp only [Bool.and_eq_true, decide_eq_true_eq] at hB
  cases hp : pureB l.toArray [] ks (Array.replicate l.length false) with
  | none => rw [hp] at hB; simp at hB
  | some l' =>
    rw [hp] at hB
    have := pure_sound (zs := []) hB.1.1 hQ (trLen t) ks _ l' a (Closed.none _ _) hp h fun a' _ ha => tr_sound t l' a' w.drew (by simpa using hB.2) ha
    rw [hB.1.2] at this
    refine wp_region_any hm ?_
    have h2 := wpAny_of_N _ _ _ _ this
    simpa using h2
end
end Go.Proofs.Ytlddpdlebdjniaa
