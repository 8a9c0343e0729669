/- A ring in plain words: names with weights, their points; what adding and removing does. -/
import Derived.Test.YtjphpblangeblaaDoorNms
namespace Go.Proofs.YtjphpblangeblaaDoor
abbrev NL := List (Nm × Nat)
def nameByte (c : UInt8) : Bool := decide (33 ≤ c.toNat) && decide (c.toNat ≤ 126)
def rightN (t : Nm) : Bool := decide (1 ≤ t.length) && decide (t.length ≤ 100) && t.all nameByte
/-- The weight of a name; 0: it is not there. -/
def wt : NL → Nm → Nat
  | [], _ => 0
  | x :: L, n => if x.1 = n then x.2 else wt L n
structure LOk (L : NL) : Prop where
  nd : (L.map Prod.fst).Nodup
  right : ∀ x ∈ L, rightN x.1 = true
  wts : ∀ x ∈ L, 1 ≤ x.2 ∧ x.2 ≤ 20
  len : L.length ≤ 64
theorem LOk.nil : LOk [] := ⟨by simp, by simp, by simp, by simp⟩
theorem wt_mem : ∀ {L : NL} {n : Nm}, wt L n ≠ 0 → n ∈ L.map Prod.fst
  | [], n, h => by simp [wt] at h
  | x :: L, n, h => by
    by_cases e : x.1 = n
    · simp [e]
    · rw [wt, if_neg e] at h
      exact List.mem_cons_of_mem _ (wt_mem h)
theorem wt_of : ∀ {L : NL}, (L.map Prod.fst).Nodup → ∀ x ∈ L, wt L x.1 = x.2
  | y :: L, h, x, hx => by
    rw [List.map_cons, List.nodup_cons] at h
    rcases List.mem_cons.1 hx with rfl | hx
    · rw [wt, if_pos rfl]
    · have e : y.1 ≠ x.1 := fun e => h.1 (e ▸ List.mem_map_of_mem hx)
      rw [wt, if_neg e]
      exact wt_of h.2 x hx
theorem wt_app : ∀ (L M : NL) (n : Nm), n ∉ L.map Prod.fst → wt (L ++ M) n = wt M n
  | [], M, n, _ => rfl
  | x :: L, M, n, h => by
    simp only [List.map_cons, List.mem_cons, not_or] at h
    rw [List.cons_append, wt, if_neg (Ne.symm h.1)]
    exact wt_app L M n h.2
theorem wt_app2 : ∀ (L M : NL) (n : Nm), n ∈ L.map Prod.fst → wt (L ++ M) n = wt L n
  | x :: L, M, n, h => by
    by_cases e : x.1 = n
    · rw [List.cons_append, wt, wt, if_pos e, if_pos e]
    · rw [List.cons_append, wt, wt, if_neg e, if_neg e]
      refine wt_app2 L M n ?_
      rcases List.mem_cons.1 h with h | h
      · exact absurd h.symm e
      · exact h
theorem wt_no {L : NL} {n : Nm} (h : n ∉ L.map Prod.fst) : wt L n = 0 := Classical.byContradiction fun hh => h (wt_mem hh)
theorem wt_filter : ∀ (L : NL) (n m : Nm), wt (L.filter fun x => x.1 != n) m = if m = n then 0 else wt L m
  | [], n, m => by simp [wt]
  | x :: L, n, m => by
    have ih := wt_filter L n m
    by_cases e : x.1 = n
    · rw [List.filter_cons_of_neg (by simp [e]), ih]
      by_cases em : m = n
      · rw [if_pos em, if_pos em]
      · rw [if_neg em, if_neg em, wt, if_neg (by rw [e]; exact Ne.symm em)]
    · rw [List.filter_cons_of_pos (by simp [e]), wt, wt, ih]
      by_cases ex : x.1 = m
      · rw [if_pos ex, if_neg (by rw [← ex]; exact e), if_pos ex]
      · rw [if_neg ex, if_neg ex]
theorem LOk.pos {L : NL} (h : LOk L) {n : Nm} : n ∈ L.map Prod.fst ↔ wt L n ≠ 0 := by
  constructor
  · intro hn
    obtain ⟨x, hx, rfl⟩ := List.mem_map.1 hn
    rw [wt_of h.nd x hx]; have := h.wts x hx; omega
  · exact wt_mem
theorem LOk.wt_le {L : NL} (h : LOk L) (n : Nm) : wt L n ≤ 20 := by
  by_cases hn : wt L n = 0
  · omega
  · obtain ⟨x, hx, rfl⟩ := List.mem_map.1 (wt_mem hn)
    rw [wt_of h.nd x hx]; exact (h.wts x hx).2
/-- 0 OK, 1 ErrArg, 3 ErrTwice, 4 ErrMany. -/
def addC (L : NL) (n : Nm) (k : Int) : Int := if rightN n = false ∨ k < 1 ∨ 20 < k then 1 else if wt L n ≠ 0 then 7 else if L.length = 64 then 4 else 0
def addL (L : NL) (n : Nm) (k : Int) : NL := if addC L n k = 0 then L ++ [(n, k.toNat)] else L
def remL (L : NL) (n : Nm) : NL := L.filter fun x => x.1 != n
theorem addC_ok {L : NL} {n : Nm} {k : Int} (h : addC L n k = 0) : rightN n = true ∧ 1 ≤ k ∧ k ≤ 20 ∧ wt L n = 0 ∧ L.length ≠ 64 := by
  unfold addC at h
  split at h
  · cases h
  · rename_i h1
    split at h
    · cases h
    · rename_i h2
      split at h
      · cases h
      · rename_i h3
        have : ¬ rightN n = false := fun e => h1 (.inl e)
        refine ⟨by simpa using this, ?_, ?_, Classical.byContradiction h2, h3⟩
        · have := fun e => h1 (.inr (.inl e)); omega
        · have := fun e => h1 (.inr (.inr e)); omega
theorem LOk.add {L : NL} (h : LOk L) (n : Nm) (k : Int) : LOk (addL L n k) := by
  unfold addL
  split
  · rename_i hc
    obtain ⟨h1, h2, h3, h4, h5⟩ := addC_ok hc
    have hn : n ∉ L.map Prod.fst := fun hh => h.pos.1 hh h4
    refine ⟨?_, ?_, ?_, ?_⟩
    · rw [List.map_append, List.nodup_append]
      refine ⟨h.nd, by simp, fun a ha b hb => ?_⟩
      rw [show b = n by simpa using hb]
      rintro rfl; exact hn ha
    · intro x hx
      rcases List.mem_append.1 hx with hx | hx
      · exact h.right x hx
      · rw [List.mem_singleton.1 hx]; exact h1
    · intro x hx
      rcases List.mem_append.1 hx with hx | hx
      · exact h.wts x hx
      · rw [List.mem_singleton.1 hx]; simp only; omega
    · have := h.len; simp; omega
  · exact h
theorem LOk.rem {L : NL} (h : LOk L) (n : Nm) : LOk (remL L n) := by
  have hs : (remL L n).Sublist L := List.filter_sublist
  exact ⟨h.nd.sublist (hs.map _), fun x hx => h.right x (hs.subset hx), fun x hx => h.wts x (hs.subset hx), Nat.le_trans hs.length_le h.len⟩
theorem wt_add {L : NL} (h : LOk L) {n : Nm} {k : Int} (hc : addC L n k = 0) (m : Nm) : wt (L ++ [(n, k.toNat)]) m = if m = n then k.toNat else wt L m := by
  obtain ⟨h1, h2, h3, h4, h5⟩ := addC_ok hc
  by_cases hm : m ∈ L.map Prod.fst
  · rw [wt_app2 _ _ _ hm, if_neg]
    rintro rfl
    exact h.pos.1 hm h4
  · rw [wt_app _ _ _ hm]
    show (if n = m then k.toNat else 0) = _
    by_cases e : m = n
    · rw [if_pos e, if_pos e.symm]
    · rw [if_neg e, if_neg (Ne.symm e), wt_no hm]
theorem remL_no {L : NL} {n : Nm} (h : wt L n = 0) (hk : LOk L) : remL L n = L := by
  unfold remL
  rw [List.filter_eq_self]
  intro x hx
  have : x.1 ≠ n := fun e => hk.pos.1 (List.mem_map_of_mem hx) (by rw [e]; exact h)
  simpa using this
theorem wt_remL (L : NL) (n m : Nm) : wt (remL L n) m = if m = n then 0 else wt L m := wt_filter L n m
section
variable {pd : Nat → Nm → Int}
/-- The points of a name. -/
def newP (pd : Nat → Nm → Int) (n : Nm) (k : Nat) : List Pt := (List.range k).map fun i => ⟨pd i n, n⟩
theorem newP_snoc (n : Nm) (k : Nat) : newP pd n (k + 1) = newP pd n k ++ [⟨pd k n, n⟩] := by simp [newP, List.range_succ]
theorem newP_len (n : Nm) (k : Nat) : (newP pd n k).length = k := by simp [newP]
theorem pts_nil (each : Nat) : PtsOf pd each [] [] := fun p => by simp
theorem pts_add {each : Nat} {L : NL} {P Q : List Pt} {n : Nm} {k : Nat} (h : PtsOf pd each L P) (hq : Q.Perm (P ++ newP pd n (each * k))) : PtsOf pd each (L ++ [(n, k)]) Q := fun p => by
  rw [hq.mem_iff, List.mem_append, h p]
  constructor
  · rintro (⟨x, hx, i, hi, e⟩ | hh)
    · exact ⟨x, List.mem_append_left _ hx, i, hi, e⟩
    · obtain ⟨i, hi, rfl⟩ := List.mem_map.1 hh
      exact ⟨(n, k), by simp, i, by simpa using hi, rfl⟩
  · rintro ⟨x, hx, i, hi, e⟩
    rcases List.mem_append.1 hx with hx | hx
    · exact .inl ⟨x, hx, i, hi, e⟩
    · rw [List.mem_singleton.1 hx] at hi e
      exact .inr (List.mem_map.2 ⟨i, by simpa using hi, e.symm⟩)
theorem pts_rem {each : Nat} {L : NL} {P : List Pt} {n : Nm} (h : PtsOf pd each L P) : PtsOf pd each (remL L n) (P.filter fun p => !(p.nm == n)) := fun p => by
  rw [List.mem_filter, h p]
  constructor
  · rintro ⟨⟨x, hx, i, hi, rfl⟩, h2⟩
    refine ⟨x, List.mem_filter.2 ⟨hx, by simpa using h2⟩, i, hi, rfl⟩
  · rintro ⟨x, hx, i, hi, rfl⟩
    obtain ⟨h1, h2⟩ := List.mem_filter.1 hx
    exact ⟨⟨x, h1, i, hi, rfl⟩, by simpa using h2⟩
/-- Rising. -/
def Rise (P : List Pt) : Prop := P.Pairwise fun p q => ¬ Lex ltN (q.at_, q.nm) (p.at_, p.nm)
theorem Rise.filter {P : List Pt} (h : Rise P) (f : Pt → Bool) : Rise (P.filter f) := List.Pairwise.sublist List.filter_sublist h
end
end Go.Proofs.YtjphpblangeblaaDoor
