/- strconv.Itoa and slices.SortFunc of points, out of the shelf. -/
import Derived.Test.YtjphpblangeblaaDoorAdd
import Derived.Test.YtjphpblangeblaaDoorLay
import Derived.Sort.OwnSorted
namespace Go.Proofs.YtjphpblangeblaaDoor
open Go.RowKit Go.Maps Go.ChangeMaps Go.Sort Go.Shelf
set_option linter.unusedVariables false
set_option linter.unusedSimpArgs false
theorem decL_eq : ∀ (k u : Nat), u ≤ k → Lib.decDigits u = decL u
  | k, u, hk => by
    by_cases h : u < 10
    · rw [decL_small h, Lib.decDigits, dif_pos h]
    · rw [decL_big h, Lib.decDigits, dif_neg h, decL_eq (k - 1) (u / 10) (by omega)]
termination_by k => k
decreasing_by omega
theorem ext_grow (w : World) (k : Nat) (os : Array Obj) : Ext w (grow (w.drewN k) os) := ⟨rfl, rfl, rfl, by simp [grow, World.drewN], fun i hi => by
  rw [heap_grow_old _ _ (by simpa [World.drewN] using hi)]; rfl⟩
theorem itoa_any : ItoaC := fun i w hi hT => by
  have h := Any.strconv_Itoa Tryd.itoa32 (i : Int) (by omega) (by omega) w (by
    show w.var? Tryd.prog _ = _
    exact hT)
  refine Calls.mono h ?_
  rintro e w' ⟨rfl, k, os, rfl⟩
  refine ⟨?_, ext_grow _ _ _⟩
  have e1 : Lib.itoa (i : Int) = decL i := by
    unfold Lib.itoa
    rw [if_neg (by omega)]
    exact decL_eq i i (Nat.le_refl _)
  rw [e1]
theorem cmpI_neg (a b : Int) : cmpI a b < 0 ↔ a < b := by
  unfold cmpI
  by_cases h1 : a < b
  · simp [h1]
  · by_cases h2 : b < a <;> simp [h1, h2]
theorem cmpP_neg (p q : Pt) : cmpP p q < 0 ↔ Lex ltN (p.at_, p.nm) (q.at_, q.nm) := by
  unfold cmpP Lex
  by_cases h1 : p.at_ < q.at_
  · have : cmpI p.at_ q.at_ = -1 := by simp [cmpI, h1]
    rw [this]; simp [h1]
  · by_cases h2 : q.at_ < p.at_
    · have : cmpI p.at_ q.at_ = 1 := by simp [cmpI, h1, h2]
      rw [this]; simp [h1]; omega
    · have e : p.at_ = q.at_ := by omega
      have : cmpI p.at_ q.at_ = 0 := by simp [cmpI, h1, h2]
      rw [this]; simp [e]
      unfold cmpS
      by_cases h3 : p.nm < q.nm
      · simp [h3]
      · by_cases h4 : q.nm < p.nm <;> simp [h3, h4]
theorem swoP : SWO (ltOf cmpP) where
  irrefl x := by unfold ltOf; rw [decide_eq_false_iff_not, cmpP_neg]; exact lex_irr ltN ltN_irr _
  trans x y z := by unfold ltOf; rw [decide_eq_true_iff, decide_eq_true_iff, decide_eq_true_iff, cmpP_neg, cmpP_neg, cmpP_neg]; exact lex_tr ltN ltN_tr
  ntrans x y z := by
    unfold ltOf
    rw [decide_eq_false_iff_not, decide_eq_false_iff_not, decide_eq_false_iff_not, cmpP_neg, cmpP_neg, cmpP_neg]
    intro h1 h2 h3
    rcases lex_tot ltN ltN_tot (x.at_, x.nm) (y.at_, y.nm) with h | h | h
    · exact h1 h
    · rw [h] at h3; exact h2 h3
    · exact h2 (lex_tr ltN ltN_tr h h3)
theorem cmpLaysP (w : World) (g size : Nat) : CmpLays Tryd.prog 34 #[] encPt 2 cmpP g 0 size w := by
  intro n os dk hs x y
  exact lit34 x y _
theorem flat_at {P : List Pt} {t : Nat} (h : t < P.length * 2) : (P.flatMap encPt)[t]? = some ((encPt P.toArray[t / 2]!)[t % 2]!) := by
  have hj : t / 2 < P.length := by omega
  have h1 := flat_get encPt 2 encPt_len P (t / 2) (t % 2) hj (by omega)
  rw [show t / 2 * 2 + t % 2 = t by omega] at h1
  rw [h1, getElem!_pos P.toArray (t / 2) (by simpa using hj)]
  simp only [List.getElem_toArray]
  rw [getElem!_pos (encPt P[t / 2]) (t % 2) (by rw [encPt_len]; omega)]
  simp
theorem sortP_any : SortC := fun w B v ss h hl h00 => by
  rcases h.2 with ⟨rfl, h0⟩ | ⟨g, cap, cur, rfl, hb, hgg, c1, c2, c3, c4⟩
  · have : ss = [] := List.length_eq_zero_iff.1 h0
    subst this; simp at h00
  · have hH : HoldsK encPt 2 w g 0 ss.toArray := fun t ht => by
      have ht' : t < ss.length * 2 := by simpa using ht
      refine ⟨?_, by simp [World.frozen?, hgg]⟩
      rw [get_flatK _ _ _ _ (by simpa using ht'), Nat.zero_add, blk_cell hgg]
      have h1 := flat_at ht'
      rw [← c4, List.getElem?_take, if_pos ht'] at h1
      simpa using h1
    refine Calls.mono (AnyQ.slices_SortFunc Tryd.sortp33 2 Tryd.isAgg59 Tryd.sizeOf59 encPt encPt_len encPt_one cmpP swoP 34 #[] g 0 cap ss.toArray w (enters_of Tryd.func34 (by kernel_rfl) rfl) (cmpLaysP w g _) hH (blk_lt hgg) (by simp; omega)) ?_
    rintro e w' ⟨rfl, d', n, os, hp, hso, rfl⟩
    obtain ⟨ts, rfl⟩ : ∃ ts : List Pt, d' = ts.toArray := ⟨d'.toList, by simp⟩
    obtain ⟨p1, p2, p3⟩ := hp
    have hlen : ts.length = ss.length := by simpa using p1
    have hperm : ts.Perm ss := by
      have h3 := p3
      simp at h3
      rw [List.take_of_length_le (by omega)] at h3
      exact h3
    have hgr : w.grownBy (sortWorldK encPt 2 w g 0 n ts.toArray os) (some g) := by
      refine ⟨rfl, rfl, rfl, by simp [sortWorldK, putRowK], fun k hk hne => ?_⟩
      unfold sortWorldK putRowK
      rw [heap_grow_old _ _ (by simpa using hk)]
      have : g ≠ k := fun e => hne (by rw [e])
      simp [putRow, mapBlock, Sort.ahead, Array.getElem?_modify, this]
    refine ⟨rfl, ⟨ts, hperm, ?_, ?_⟩, hgr⟩
    · unfold Rise
      rw [List.pairwise_iff_getElem]
      intro i j hi hj hij
      have := hso i j (Nat.zero_le _) hij (by simpa [hlen] using hj)
      rw [getElem!_pos ts.toArray j (by simpa using hj), getElem!_pos ts.toArray i (by simpa using hi)] at this
      simp only [List.getElem_toArray] at this
      unfold ltOf at this
      rw [decide_eq_false_iff_not, cmpP_neg] at this
      exact this
    · refine ⟨flat_len encPt 2 encPt_len ts, .inr ⟨g, cap, putCells id 0 (flatK encPt 2 ts.toArray) cur, by rw [hlen], hb, ?_, by rw [hlen]; exact c1, c2, by simp [putCells, c3], ?_⟩⟩
      · unfold sortWorldK putRowK putRow
        rw [heap_grow_old _ _ (by simpa [mapBlock, Sort.ahead] using blk_lt hgg)]
        simp [mapBlock, Sort.ahead, Array.getElem?_modify, hgg, onCells]
      · have hsz : ts.length * 2 ≤ cur.size := by rw [c3, hlen]; exact Nat.mul_le_mul_right 2 c1
        apply List.ext_getElem?
        intro t
        rw [List.getElem?_take]
        by_cases ht : t < ts.length * 2
        · rw [if_pos ht, flat_at ht]
          simp [putCells, Array.getElem?_mapIdx, ht, show t < cur.size by omega]
          have hf := get_flatK encPt 2 ts.toArray t (by simp; omega)
          rw [getElem!_pos _ t (by simp; omega)] at hf
          simpa using hf
        · rw [if_neg ht, List.getElem?_eq_none (by rw [flat_len encPt 2 encPt_len]; omega)]
end Go.Proofs.YtjphpblangeblaaDoor
