/- Of, walked. -/
import Derived.Test.YtgbhhofmghgpbaaDoorAsk
import Derived.Lib.SlMapMerge
namespace Go.Proofs.YtgbhhofmghgpbaaDoor
open Go.RowKit Go.Sort Go.Shelf Go.Maps Go.ChangeMaps
set_option linter.unusedVariables false

/-- 'append(v, u...)' of texts, u a row of the call's own or nil. -/
theorem wpList_append_texts {W : World} {ops : Array Oper} {rest : List Oper} {o : Oper} {a : Act} {Q : Exit → Act → World → Prop}
    (hgd : o.guard = none) (s x : Operand) (ho : o.op = .call { callee := .builtin .append, args := #[s, x], argTypes := #[23, 23] })
    (base B : Nat) (v u : Value) (ys xs : List Bs) (hown : SRow W base v ys) (hsrc : SRow W B u xs) (hs : a.eval s = v) (hx : a.eval x = u)
    (hlen : ys.length + xs.length ≤ 1000000) (hbase : base ≤ W.heap.size)
    (h : ∀ v' w', SRow w' base v' (ys ++ xs) → W.grownBy w' v.ownBlock → wpList Tryd.prog ops Q rest (a.put o.dst v') w') : wpList Tryd.prog ops Q (o :: rest) a W := by
  obtain ⟨i0, hi, hz0, hz1, hz2⟩ := info_parts info9
  rcases hsrc.2 with ⟨rfl, h0⟩ | ⟨g, cap, cur, rfl, hb, hgg, h1, h2, h3, h4⟩
  · have hx0 : xs = [] := List.length_eq_zero_iff.1 h0
    subst hx0
    refine wpList_append_own_none hgd s x 23 ho base 9 i0 1 Tryd.underlying23 hi v _ _ hs hown hx ?_
    exact h v W (by simpa using hown) ⟨rfl, rfl, rfl, Nat.le_refl _, fun _ _ _ => rfl⟩
  · refine wpList_append_own _ hgd s x 23 ho base 9 i0 _ 1 16 Tryd.underlying23 hi hz0 hz1 hz2 rfl (by decide) v _ _ hs hown ⟨g, 0, none⟩ xs.length cap (xs.map encStr) hx (by simp) ?_ (by intro q hq; obtain ⟨z, _, rfl⟩ := List.mem_map.1 hq; rfl) (by unfold maxLen; omega) (by omega) hbase ?_
    · intro j q hq
      have : (⟨g, 0, none⟩ : Addr).add j = ⟨g, j, none⟩ := by unfold Addr.add; split <;> simp_all
      rw [this, blk_cell hgg]
      rw [← h4, List.getElem?_take] at hq
      split at hq
      · simpa using hq
      · cases hq
    · intro v' w' q1 q2 _
      refine h v' w' ?_ q2
      unfold SRow
      rw [List.map_append, List.length_append]
      exact q1

end Go.Proofs.YtgbhhofmghgpbaaDoor
