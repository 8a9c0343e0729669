/- The statements' example, walked. -/
import Derived.Test.YtlddpdlebdjniaaDoorTop
import Derived.Lib.SlBytesConst
namespace Go.Proofs.YtlddpdlebdjniaaDoor
set_option linter.unusedSimpArgs false
open Go.RowKit Go.Maps Go.ChangeMaps Go.Sort Go.Shelf
set_option linter.unusedVariables false

/-- An event of the example: fifty-seven cells. -/
def evL (kd : Int) (ob : Bs) (bv : Value) (wl : Bool) : List Value := [.int .i64 kd, .int .i64 0, .int .i64 0, .int .i64 1, .string ⟨#[]⟩, .bool false, .string ⟨ob.toArray⟩, .slice none 0 0, .slice none 0 0, .slice none 0 0, .bool false, .bool false, .int .i64 0, .int .i64 0, .string ⟨#[]⟩, .bool false, .string ⟨#[]⟩, .bool false, .int .i64 0, .int .i64 0, .int .i64 0, .int .i64 0, .int .i64 0, .int .i64 0, .slice none 0 0, .string ⟨#[]⟩, .bool false, .int .i64 0, .slice none 0 0, .slice none 0 0, .int .i64 0, .string ⟨#[]⟩, .int .i64 0, .int .i64 0, .string ⟨#[]⟩, .bool false, .string ⟨#[]⟩, .bool false, .int .i64 0, .string ⟨#[]⟩, .bool false, .int .i64 0, .int .i64 0, .int .i64 0, .int .i64 0, .int .i64 0, .int .i64 0, .slice none 0 0, .string ⟨#[]⟩, .bool false, .int .i64 0, .int .i64 0, .int .i64 0, bv, .slice none 0 0, .bool false, .bool wl]
theorem evL_len (kd : Int) (ob : Bs) (bv : Value) (wl : Bool) : (evL kd ob bv wl).length = 57 := rfl
theorem evL_ok (kd : Int) (ob : Bs) (A : Option Addr) (n c : Nat) (wl : Bool) (hk : (Lit.int .i64 kd).wf = true) (hn : n ≤ 1000) (ho : ob.length ≤ 1000) : EvC (evL kd ob (.slice A n c) wl).toArray ⟨kd, 0, 1, wl, n, ob⟩ :=
  ⟨rfl, by simp [evL, Value.oneCell'], rfl, rfl, rfl, rfl, ⟨A, c, rfl⟩, rfl, hk, (by decide : (Lit.int .i64 (0 : Int)).wf = true), (by decide : (Lit.int .i64 (1 : Int)).wf = true), by simp; omega, by simp; omega⟩
theorem flat_at : ∀ (L : List (List Value)), (∀ l ∈ L, l.length = 57) → ∀ k (hk : k < L.length) j, j < 57 → L.flatten[k * 57 + j]? = (L[k])[j]?
  | [], _, k, hk, _, _ => by simp at hk
  | l :: L, hl, 0, _, j, hj => by
    have := hl l (by simp)
    simp only [List.flatten_cons, List.getElem_cons_zero, Nat.zero_mul, Nat.zero_add]
    rw [List.getElem?_append_left (by omega)]
  | l :: L, hl, k + 1, hk, j, hj => by
    have h1 := hl l (by simp)
    have h2 := flat_at L (fun x hx => hl x (by simp [hx])) k (by simpa using hk) j hj
    simp only [List.flatten_cons, List.getElem_cons_succ]
    rw [List.getElem?_append_right (by omega), h1]
    have e : (k + 1) * 57 + j - 57 = k * 57 + j := by omega
    rw [e]; exact h2
theorem events_lit {W : World} {g : Nat} {z : Nat × Nat} {L : List (List Value)} {xs : List Ev} (hg : W.heap[g]? = some (.cells L.flatten.toArray 53 z)) (hl : L.length = xs.length) (hL : ∀ k (hk : k < L.length), EvC (L[k]).toArray (xs[k]'(by omega))) : EventsAt W (some ⟨g, 0, none⟩) xs := fun k hk => by
  have h57 : ∀ l ∈ L, l.length = 57 := fun l hl' => by
    obtain ⟨i, hi, rfl⟩ := List.getElem_of_mem hl'
    simpa using (hL i hi).size
  refine ⟨g, 0, (L[k]'(by omega)).toArray, rfl, blk_lt hg, hL k (by omega), fun j u hj => ?_⟩
  have hj57 : j < 57 := by
    have h1 := h57 (L[k]'(by omega)) (by simp)
    rcases Nat.lt_or_ge j 57 with h | h
    · exact h
    · rw [List.getElem?_toArray, List.getElem?_eq_none (by omega)] at hj; cases hj
  rw [blk_cell hg, List.getElem?_toArray, Nat.zero_add, flat_at L h57 k (by omega) j hj57]
  simpa using hj
def exL (b1 b2 : Nat) : List (List Value) := [evL 6 [47, 97] (.slice none 0 0) false, evL 11 [] (.slice none 0 0) false, evL 12 [] (.slice none 0 0) false, evL 13 [] (.slice (some ⟨b1, 0, none⟩) 3 3) false, evL 8 [] (.slice none 0 0) false, evL 9 [] (.slice (some ⟨b2, 0, none⟩) 3 3) false, evL 10 [] (.slice none 0 0) true]
def exE : List Ev := [⟨6, 0, 1, false, 0, [47, 97]⟩, ⟨11, 0, 1, false, 0, []⟩, ⟨12, 0, 1, false, 0, []⟩, ⟨13, 0, 1, false, 3, []⟩, ⟨8, 0, 1, false, 0, []⟩, ⟨9, 0, 1, false, 3, []⟩, ⟨10, 0, 1, true, 0, []⟩]
theorem exE_ok (b1 b2 : Nat) : ∀ k (hk : k < (exL b1 b2).length), EvC ((exL b1 b2)[k]).toArray (exE[k]'hk)
  | 0, _ => evL_ok 6 _ none 0 0 _ (by decide) (by omega) (by simp)
  | 1, _ => evL_ok 11 _ none 0 0 _ (by decide) (by omega) (by simp)
  | 2, _ => evL_ok 12 _ none 0 0 _ (by decide) (by omega) (by simp)
  | 3, _ => evL_ok 13 _ _ 3 3 _ (by decide) (by omega) (by simp)
  | 4, _ => evL_ok 8 _ none 0 0 _ (by decide) (by omega) (by simp)
  | 5, _ => evL_ok 9 _ _ 3 3 _ (by decide) (by omega) (by simp)
  | 6, _ => evL_ok 10 _ none 0 0 _ (by decide) (by omega) (by simp)
  | k + 7, hk => by simp [exL] at hk; omega
theorem ex_of : ofS exE 0 = fun j => if j = 0 then 1 else if j = 1 then 1 else if j = 4 then 3 else if j = 5 then 3 else if j = 7 then 1 else 0 := by
  funext j
  simp [ofS, sumF, pairs, exE, wasteL, wasteB, wstep, stepS, cntS, cnt]
  unfold bump
  by_cases h0 : j = 0
  · subst h0; simp
  · by_cases h1 : j = 1
    · subst h1; simp
    · by_cases h4 : j = 4
      · subst h4; simp
      · by_cases h5 : j = 5
        · subst h5; simp
        · by_cases h7 : j = 7
          · subst h7; simp
          · simp [h0, h1, h4, h5, h7]
theorem ex_top (t : Bs) : (topF exE).M t = if t = [47, 97] then 3 else 0 := by
  simp [topF, exE, topStep, topO, topM, toldN]
end Go.Proofs.YtlddpdlebdjniaaDoor
