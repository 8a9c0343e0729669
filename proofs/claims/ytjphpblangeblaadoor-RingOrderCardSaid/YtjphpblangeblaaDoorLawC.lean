/- What two laws on the ring share: what stays while the ring turns; the names. -/
import Derived.Test.YtjphpblangeblaaDoorTabC
namespace Go.Proofs.YtjphpblangeblaaDoor
open Go.RowKit Go.Maps Go.ChangeMaps
set_option linter.unusedVariables false
set_option maxRecDepth 100000 in
theorem u8_of {H : Type} {enc : TypeId × Value → H} {w : World} {base : Nat} {spare : Nat → Bool} {held : Bool} {r : Reach} {b0 : Nat} {v : Value} {d : DataW H} {p : List MemPlace} (hv : Value.okWide Tryd.prog w r b0 5 v) (h : DataW.Trod enc Tryd.prog w base spare held 5 v d p) : ∃ z : Nat, v = .int .u8 (z : Int) ∧ z ≤ 255 := by
  obtain ⟨z, rfl, _, _, wf⟩ := Go.ChangeShapes.open_int Tryd.underlying5 hv h
  have hz : 0 ≤ z ∧ z ≤ 255 := by simpa [Lit.wf, IntKind.min, IntKind.max, IntKind.signed, IntKind.bits] using wf
  exact ⟨z.toNat, by rw [Int.toNat_of_nonneg hz.1], by omega⟩
theorem SRow.keep {w w' : World} {B : Nat} {v : Value} {ss : List Bs} (h : SRow w B v ss) (hk : ∀ g, B ≤ g → g < w.heap.size → w'.heap[g]? = w.heap[g]?) : SRow w' B v ss := by
  refine ⟨h.1, ?_⟩
  rcases h.2 with h2 | ⟨g, cap, cur, rfl, hb, hgg, r⟩
  · exact .inl h2
  · exact .inr ⟨g, cap, cur, rfl, hb, (hk g hb (Array.getElem?_eq_some_iff.1 hgg).1).trans hgg, r⟩
theorem namL_mem {L : NL} (hk : LOk L) {n : Nm} : n ∈ namL L ↔ n ∈ L.map Prod.fst := by
  rw [← namL_of hk (List.Perm.refl _), sortS_mem]
theorem namL_len (L : NL) : (namL L).length = L.length := by unfold namL; rw [toldN_len]
theorem ordL_all {pn : Nat} {H : Int} {L : NL} (hk : LOk L) : (ordL pd pn H L).take (min 64 (L.length : Int)).toNat = ordL pd pn H L := by
  have hol := ordL_len (pd := pd) pn H hk.nd
  exact List.take_of_length_le (by rw [hol]; have := hk.len; omega)
theorem LOk.short {L : NL} (hk : LOk L) {n : Nm} (h : n ∈ L.map Prod.fst) : n.length ≤ 1000000 := by
  obtain ⟨y, hy, rfl⟩ := List.mem_map.1 h
  have := hk.right y hy
  unfold rightN at this; simp at this; omega
theorem filt_take {α : Type} (p : α → Bool) (l : List α) {j : Nat} (hj : j < l.length) : (l.take (j + 1)).filter p = (l.take j).filter p ++ (if p l[j] then [l[j]] else []) := by
  rw [List.take_succ_eq_append_getElem hj, List.filter_append]
  congr 1
  by_cases h : p l[j] <;> simp [h]
end Go.Proofs.YtjphpblangeblaaDoor
