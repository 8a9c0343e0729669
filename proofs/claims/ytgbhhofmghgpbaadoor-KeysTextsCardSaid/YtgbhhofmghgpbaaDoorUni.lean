/- Sorted lists of the same members are one; rows that a call owns, as texts and numbers. -/
import Derived.Test.YtgbhhofmghgpbaaDoorRefC
namespace Go.Proofs.YtgbhhofmghgpbaaDoor
open Go.RowKit Go.Sort Go.Shelf Go.Maps Go.ChangeMaps
set_option linter.unusedVariables false

theorem sortI_of {zs ys : List Int} (h1 : zs.Nodup) (h2 : ys.Nodup) (hm : ∀ x, x ∈ zs ↔ x ∈ ys) (hs : ys.Pairwise (fun a b => a ≤ b)) : sortI zs = ys := by
  have hp : (sortI zs).Perm ys := (List.mergeSort_perm zs _).trans ((List.perm_ext_iff_of_nodup h1 h2).2 hm)
  have hw : (sortI zs).Pairwise (fun a b => a ≤ b) := by
    have := List.pairwise_mergeSort (le := fun x y : Int => decide (x ≤ y)) (fun a b c h1 h2 => by simp at h1 h2 ⊢; omega) (fun a b => by simp; omega) zs
    exact this.imp (fun h => by simpa using h)
  exact hp.eq_of_pairwise (fun a b _ _ h1 h2 => by omega) hw hs
theorem sortS_of {zs ys : List Bs} (h1 : zs.Nodup) (h2 : ys.Nodup) (hm : ∀ x, x ∈ zs ↔ x ∈ ys) (hs : ys.Pairwise (fun a b => a ≤ b)) : sortS zs = ys := by
  have hp : (sortS zs).Perm ys := (List.mergeSort_perm zs _).trans ((List.perm_ext_iff_of_nodup h1 h2).2 hm)
  have hw : (sortS zs).Pairwise (fun a b => a ≤ b) := by
    have := List.pairwise_mergeSort (le := fun x y : Bs => decide (x ≤ y)) (fun a b c h1 h2 => by simp at h1 h2 ⊢; exact List.le_trans h1 h2) (fun a b => by simp; exact List.le_total a b) zs
    exact this.imp (fun h => by simpa using h)
  exact hp.eq_of_pairwise (fun a b _ _ h1 h2 => List.le_antisymm h1 h2) hw hs
theorem SRow.texts {w : World} {B : Nat} {v : Value} {ss : List Bs} (h : SRow w B v ss) : Texts w.heap.size w v ss := by
  have h' := h
  rcases h.2 with ⟨rfl, h0⟩ | ⟨g, cap, cur, rfl, hb, hg, _⟩
  · have : ss = [] := List.eq_nil_of_length_eq_zero h0
    subst this
    exact ⟨none, 0, rfl, fun j hj => absurd hj (by simp)⟩
  · refine ⟨_, cap, rfl, fun j hj => ⟨g, 0, rfl, blk_lt hg, ?_⟩⟩
    have := World.ownsRow.cellAt h' j (by omega)
    rw [Nat.zero_add, this]; simp [hj]
theorem IRow.nums {w : World} {B : Nat} {v : Value} {ss : List Int} (h : IRow w B v ss) : Nums w.heap.size w v ss := by
  have h' := h
  rcases h.2 with ⟨rfl, h0⟩ | ⟨g, cap, cur, rfl, hb, hg, _⟩
  · have : ss = [] := List.eq_nil_of_length_eq_zero h0
    subst this
    exact ⟨none, 0, rfl, fun j hj => absurd hj (by simp)⟩
  · refine ⟨_, cap, rfl, fun j hj => ⟨g, 0, rfl, blk_lt hg, ?_⟩⟩
    have := World.ownsRow.cellAt h' j (by omega)
    rw [Nat.zero_add, this]; simp [hj]
theorem nums_up {w w' : World} (hx : Ext w w') {sv : Value} {ss : List Int} (h : Nums w.heap.size w sv ss) : Nums w'.heap.size w' sv ss := by
  obtain ⟨a, c, e, hc⟩ := h
  refine ⟨a, c, e, fun j hj => ?_⟩
  obtain ⟨b, off, e1, e2, e3⟩ := hc j hj
  exact ⟨b, off, e1, hx.lt e2, Ext.cell hx e3⟩
end Go.Proofs.YtgbhhofmghgpbaaDoor
