/- All names in order: the document's way, plainly. -/
import Derived.Test.YtjphpblangeblaaDoorOwn
namespace Go.Proofs.YtjphpblangeblaaDoor
set_option linter.unusedVariables false
set_option linter.unusedSimpArgs false
/-- The least of the first i names beyond the last one told; none: the empty text. -/
def nextN (ns out : List Nm) : Nat → Nm
  | 0 => []
  | i + 1 => match ns[i]? with
    | none => nextN ns out i
    | some x => if (out = [] ∨ (out.getLastD []) < x) ∧ (nextN ns out i = [] ∨ x < nextN ns out i) then x else nextN ns out i
/-- k rounds. -/
def toldN (ns : List Nm) : Nat → List Nm
  | 0 => []
  | k + 1 => toldN ns k ++ [nextN ns (toldN ns k) ns.length]
theorem nextN_spec (ns out : List Nm) (h0 : ∀ x ∈ ns, x ≠ []) : ∀ n, n ≤ ns.length → (nextN ns out n = [] ∧ ∀ i x, i < n → ns[i]? = some x → ¬ (out = [] ∨ (out.getLastD []) < x)) ∨ ((nextN ns out n ∈ ns ∧ (out = [] ∨ (out.getLastD []) < nextN ns out n)) ∧ ∀ i x, i < n → ns[i]? = some x → (out = [] ∨ (out.getLastD []) < x) → ¬ x < nextN ns out n)
  | 0, _ => .inl ⟨rfl, fun i x h => by omega⟩
  | n + 1, hn => by
    have ih := nextN_spec ns out h0 n (by omega)
    obtain ⟨y, hy⟩ : ∃ y, ns[n]? = some y := ⟨ns[n], by simp [show n < ns.length by omega]⟩
    have hym := List.mem_of_getElem? hy
    have e : nextN ns out (n + 1) = if (out = [] ∨ (out.getLastD []) < y) ∧ (nextN ns out n = [] ∨ y < nextN ns out n) then y else nextN ns out n := by
      show (match ns[n]? with | none => _ | some x => _) = _
      rw [hy]
    rw [e]
    by_cases hc : (out = [] ∨ (out.getLastD []) < y) ∧ (nextN ns out n = [] ∨ y < nextN ns out n)
    · rw [if_pos hc]
      refine .inr ⟨⟨hym, hc.1⟩, fun i x hi hx ho => ?_⟩
      rcases Nat.lt_succ_iff_lt_or_eq.1 hi with h | h
      · rcases ih with ⟨_, h2⟩ | ⟨⟨h1, _⟩, h2⟩
        · exact absurd ho (h2 i x h hx)
        · rcases hc.2 with h3 | h3
          · exact absurd h3 (h0 _ h1)
          · exact fun h4 => h2 i x h hx ho (List.lt_trans h4 h3)
      · subst h
        rw [hy] at hx
        obtain rfl := Option.some.inj hx
        exact List.lt_irrefl _
    · rw [if_neg hc]
      rcases ih with ⟨h1, h2⟩ | ⟨h1, h2⟩
      · refine .inl ⟨h1, fun i x hi hx ho => ?_⟩
        rcases Nat.lt_succ_iff_lt_or_eq.1 hi with h | h
        · exact h2 i x h hx ho
        · subst h
          rw [hy] at hx
          obtain rfl := Option.some.inj hx
          exact hc ⟨ho, .inl h1⟩
      · refine .inr ⟨h1, fun i x hi hx ho => ?_⟩
        rcases Nat.lt_succ_iff_lt_or_eq.1 hi with h | h
        · exact h2 i x h hx ho
        · subst h
          rw [hy] at hx
          obtain rfl := Option.some.inj hx
          exact fun h4 => hc ⟨ho, .inr h4⟩
theorem toldN_len (ns : List Nm) : ∀ k, (toldN ns k).length = k
  | 0 => rfl
  | k + 1 => by simp [toldN, toldN_len ns k]
/-- The rounds tell a rising row's first k. -/
theorem toldN_take {ns S : List Nm} (h0 : ∀ x ∈ ns, x ≠ []) (hS : S.Pairwise (· < ·)) (hm : ∀ x, x ∈ S ↔ x ∈ ns) : ∀ k, k ≤ S.length → toldN ns k = S.take k
  | 0, _ => by simp [toldN]
  | k + 1, hk => by
    have ih := toldN_take h0 hS hm k (by omega)
    rw [toldN, ih, List.take_add_one]
    congr 1
    obtain ⟨y, hy⟩ : ∃ y, S[k]? = some y := ⟨S[k], by simp [show k < S.length by omega]⟩
    rw [hy]
    show [_] = [y]
    congr 1
    have hyS := List.mem_of_getElem? hy
    have pw := List.pairwise_iff_getElem.1 hS
    have hlast : ∀ j x, S[j]? = some x → ((S.take k = [] ∨ (S.take k).getLastD [] < x) ↔ k ≤ j) := fun j x hx => by
      have hj := (List.getElem?_eq_some_iff.1 hx).1
      have hxe := (List.getElem?_eq_some_iff.1 hx).2
      cases k with
      | zero => simp
      | succ k =>
        have e1 : S.take (k + 1) = S.take k ++ [S[k]] := by rw [List.take_add_one, List.getElem?_eq_getElem (by omega)]; rfl
        rw [e1]
        simp only [List.append_eq_nil_iff, List.cons_ne_self, and_false, false_or]
        have e2 : (S.take k ++ [S[k]]).getLastD [] = S[k] := by rw [List.getLastD_eq_getLast?, List.getLast?_concat]; rfl
        rw [e2]
        constructor
        · intro h
          rcases Nat.lt_trichotomy j k with h1 | h1 | h1
          · have := pw j k (by omega) (by omega) h1
            rw [hxe] at this
            exact absurd (List.lt_trans h this) (List.lt_irrefl _)
          · subst h1; rw [hxe] at h; exact absurd h (List.lt_irrefl _)
          · exact h1
        · intro h
          have := pw k j (by omega) (by omega) (by omega)
          rw [hxe] at this; exact this
    rcases nextN_spec ns (S.take k) h0 ns.length (Nat.le_refl _) with ⟨_, h2⟩ | ⟨⟨h1, h2⟩, h3⟩
    · exfalso
      obtain ⟨i, hi, e⟩ := List.mem_iff_getElem.1 ((hm y).1 hyS)
      exact h2 i y hi (by rw [List.getElem?_eq_getElem hi, e]) ((hlast k y hy).2 (Nat.le_refl _))
    · obtain ⟨j, hj, e⟩ := List.mem_iff_getElem.1 ((hm _).2 h1)
      have hj2 : S[j]? = some (nextN ns (S.take k) ns.length) := by rw [List.getElem?_eq_getElem hj, e]
      have hkj := (hlast j _ hj2).1 h2
      rcases Nat.lt_or_eq_of_le hkj with h4 | h4
      · exfalso
        obtain ⟨i, hi, e'⟩ := List.mem_iff_getElem.1 ((hm y).1 hyS)
        refine h3 i y hi (by rw [List.getElem?_eq_getElem hi, e']) ((hlast k y hy).2 (Nat.le_refl _)) ?_
        have := pw k j (by omega) hj h4
        rw [e] at this
        rw [(List.getElem?_eq_some_iff.1 hy).2] at this
        exact this
      · subst h4
        rw [hj2] at hy
        exact Option.some.inj hy
end Go.Proofs.YtjphpblangeblaaDoor
