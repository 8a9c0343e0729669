/- Who owns an object: the order of all names, plainly. -/
import Derived.Test.YtjphpblangeblaaDoorSel
namespace Go.Proofs.YtjphpblangeblaaDoor
set_option linter.unusedVariables false
set_option linter.unusedSimpArgs false
abbrev ltN (a b : Nm) : Prop := a < b
theorem ltN_irr (a : Nm) : ¬ ltN a a := List.lt_irrefl a
theorem ltN_tr (a b c : Nm) (h : ltN a b) (k : ltN b c) : ltN a c := List.lt_trans h k
theorem ltN_tot (a b : Nm) : ltN a b ∨ a = b ∨ ltN b a := by
  by_cases h : a < b
  · exact .inl h
  · by_cases h2 : b < a
    · exact .inr (.inr h2)
    · exact .inr (.inl (List.le_antisymm (List.not_lt.1 h2) (List.not_lt.1 h)))
section
variable (pd : Nat → Nm → Int)
/-- The shortest of the first k ways to a name's points. -/
def wayA (H : Int) (n : Nm) : Nat → Int
  | 0 => 0
  | i + 1 => if i = 0 ∨ (pd i n - H) % 18446744073709551616 < wayA H n i then (pd i n - H) % 18446744073709551616 else wayA H n i
theorem wayA_min (H : Int) (n : Nm) : ∀ k, 0 < k → (∃ i, i < k ∧ (pd i n - H) % 18446744073709551616 = wayA pd H n k) ∧ ∀ i, i < k → wayA pd H n k ≤ (pd i n - H) % 18446744073709551616
  | 1, _ => by
    have e : wayA pd H n 1 = (pd 0 n - H) % 18446744073709551616 := by simp [wayA]
    rw [e]
    exact ⟨⟨0, by omega, rfl⟩, fun i hi => by rw [show i = 0 by omega]; exact Int.le_refl _⟩
  | k + 2, _ => by
    obtain ⟨⟨i0, h1, h2⟩, h3⟩ := wayA_min H n (k + 1) (by omega)
    by_cases hc : (pd (k + 1) n - H) % 18446744073709551616 < wayA pd H n (k + 1)
    · have e : wayA pd H n (k + 2) = (pd (k + 1) n - H) % 18446744073709551616 := by rw [wayA, if_pos (.inr hc)]
      rw [e]
      exact ⟨⟨k + 1, by omega, rfl⟩, fun i hi => by
        rcases Nat.lt_succ_iff_lt_or_eq.1 hi with h | h
        · have := h3 i h; omega
        · rw [h]; exact Int.le_refl _⟩
    · have e : wayA pd H n (k + 2) = wayA pd H n (k + 1) := by rw [wayA, if_neg (by rintro (h | h); omega; exact hc h)]
      rw [e]
      exact ⟨⟨i0, by omega, h2⟩, fun i hi => by
        rcases Nat.lt_succ_iff_lt_or_eq.1 hi with h | h
        · exact h3 i h
        · rw [h]; omega⟩
/-- The ways of all names. -/
def waysL (each : Nat) (H : Int) (L : List (Nm × Nat)) : List Wn := L.map fun x => (wayA pd H x.1 (each * x.2), x.1)
/-- All names as they own an object. -/
def ordL (each : Nat) (H : Int) (L : List (Nm × Nat)) : List Nm := (selOf ltN (waysL pd each H L) L.length).2
/-- The way of a name. -/
def wayL (each : Nat) (H : Int) (L : List (Nm × Nat)) (a : Nm) : Int := match L.find? (fun x => x.1 == a) with
  | some x => wayA pd H x.1 (each * x.2)
  | none => 0
variable {pd}
theorem find_name {L : List (Nm × Nat)} (hd : (L.map Prod.fst).Nodup) {x : Nm × Nat} (hx : x ∈ L) : L.find? (fun y => y.1 == x.1) = some x := by
  induction L with
  | nil => simp at hx
  | cons y L ih =>
    rw [List.map_cons, List.nodup_cons] at hd
    rw [List.find?_cons]
    rcases List.mem_cons.1 hx with rfl | h
    · simp
    · have hne : (y.1 == x.1) = false := by
        rw [beq_eq_false_iff_ne]; intro e
        exact hd.1 (e ▸ List.mem_map_of_mem h)
      rw [hne]
      exact ih hd.2 h
theorem wayL_of {each : Nat} {H : Int} {L : List (Nm × Nat)} (hd : (L.map Prod.fst).Nodup) {x : Nm × Nat} (hx : x ∈ L) : wayL pd each H L x.1 = wayA pd H x.1 (each * x.2) := by
  unfold wayL; rw [find_name hd hx]
theorem waysL_len (each : Nat) (H : Int) (L : List (Nm × Nat)) : (waysL pd each H L).length = L.length := by simp [waysL]
theorem waysL_names (each : Nat) (H : Int) (L : List (Nm × Nat)) : (waysL pd each H L).map Prod.snd = L.map Prod.fst := by simp [waysL, Function.comp_def]
theorem waysL_mem {each : Nat} {H : Int} {L : List (Nm × Nat)} (hd : (L.map Prod.fst).Nodup) {y : Wn} (hy : y ∈ waysL pd each H L) : y = (wayL pd each H L y.2, y.2) ∧ y.2 ∈ L.map Prod.fst := by
  obtain ⟨x, hx, rfl⟩ := List.mem_map.1 hy
  exact ⟨by simp only; rw [wayL_of hd hx], List.mem_map_of_mem hx⟩
theorem sel_spec (each : Nat) (H : Int) {L : List (Nm × Nat)} (hd : (L.map Prod.fst).Nodup) {k : Nat} (hk : k ≤ L.length) : SelR ltN (waysL pd each H L) k (selOf ltN (waysL pd each H L) k).1 (selOf ltN (waysL pd each H L) k).2 :=
  selOf_spec ltN ltN_irr ltN_tr ltN_tot _ (by rw [waysL_names]; exact hd) k (by rw [waysL_len]; exact hk)
theorem ordL_rise (each : Nat) (H : Int) {L : List (Nm × Nat)} (hd : (L.map Prod.fst).Nodup) : (ordL pd each H L).Pairwise (Near ltN (wayL pd each H L)) := by
  refine (sel_spec each H hd (Nat.le_refl _)).rise.imp ?_
  rintro a b ⟨x, hx, y, hy, rfl, rfl, h⟩
  have e1 := (waysL_mem hd hx).1; have e2 := (waysL_mem hd hy).1
  unfold Near
  rw [← e1, ← e2]; exact h
theorem ordL_len (each : Nat) (H : Int) {L : List (Nm × Nat)} (hd : (L.map Prod.fst).Nodup) : (ordL pd each H L).length = L.length := (sel_spec each H hd (Nat.le_refl _)).len
theorem ordL_nodup (each : Nat) (H : Int) {L : List (Nm × Nat)} (hd : (L.map Prod.fst).Nodup) : (ordL pd each H L).Nodup :=
  (ordL_rise each H hd).imp (S := (· ≠ ·)) fun {a b} h (e : a = b) => near_irr ltN ltN_irr _ a (by rw [← e] at h; exact h)
theorem nodup_sub_len {α : Type} [BEq α] [LawfulBEq α] : ∀ {l m : List α}, l.Nodup → (∀ x ∈ l, x ∈ m) → l.length ≤ m.length
  | [], m, _, _ => by simp
  | x :: l, m, h, hs => by
    rw [List.nodup_cons] at h
    have h1 := nodup_sub_len (l := l) (m := m.erase x) h.2 fun y hy => (List.mem_erase_of_ne (fun (e : y = x) => h.1 (by rw [← e]; exact hy))).2 (hs y (List.mem_cons_of_mem _ hy))
    have h2 := List.length_erase_of_mem (hs x (by simp))
    have h3 : 0 < m.length := List.length_pos_of_mem (hs x (by simp))
    simp only [List.length_cons]; omega
theorem nodup_full {α : Type} [BEq α] [LawfulBEq α] {l m : List α} (h : l.Nodup) (hs : ∀ x ∈ l, x ∈ m) (hl : m.length ≤ l.length) (x : α) (hx : x ∈ m) : x ∈ l := Classical.byContradiction fun hn => by
  have h1 : (x :: l).Nodup := List.nodup_cons.2 ⟨hn, h⟩
  have := nodup_sub_len h1 (m := m) fun y hy => by
    rcases List.mem_cons.1 hy with rfl | h
    · exact hx
    · exact hs y h
  simp at this; omega
theorem ordL_mem (each : Nat) (H : Int) {L : List (Nm × Nat)} (hd : (L.map Prod.fst).Nodup) (a : Nm) : a ∈ ordL pd each H L ↔ a ∈ L.map Prod.fst := by
  have sub : ∀ a ∈ ordL pd each H L, a ∈ L.map Prod.fst := fun a h => by
    obtain ⟨x, hx, rfl⟩ := (sel_spec each H hd (Nat.le_refl _)).sub a h
    exact (waysL_mem hd hx).2
  refine ⟨sub a, nodup_full (ordL_nodup each H hd) sub (by rw [ordL_len each H hd]; simp) a⟩
/-- What rises and has all names is the order. -/
theorem ordL_unique (each : Nat) (H : Int) {L : List (Nm × Nat)} (hd : (L.map Prod.fst).Nodup) {l : List Nm} (h1 : l.Pairwise (Near ltN (wayL pd each H L))) (h2 : ∀ a, a ∈ l ↔ a ∈ L.map Prod.fst) : l = ordL pd each H L :=
  rise_unique _ (near_irr ltN ltN_irr _) (near_tr ltN ltN_tr _) _ _ h1 (ordL_rise each H hd) fun a => (h2 a).trans (ordL_mem each H hd a).symm
/-- The first k rounds. -/
theorem sel_take (xs : List Wn) : ∀ k, ∃ t, (selOf ltN xs (k + 1)).2 = (selOf ltN xs k).2 ++ t := fun k => by
  show ∃ t, (match bestOf ltN xs (selOf ltN xs k).1 xs.length with | none => selOf ltN xs k | some b => match xs[b]? with | none => selOf ltN xs k | some x => ((selOf ltN xs k).1.set b true, (selOf ltN xs k).2 ++ [x.2])).2 = _
  split
  · exact ⟨[], by simp⟩
  · split
    · exact ⟨[], by simp⟩
    · exact ⟨_, rfl⟩
theorem sel_pre (xs : List Wn) (k : Nat) : ∀ d, ∃ t, (selOf ltN xs (k + d)).2 = (selOf ltN xs k).2 ++ t
  | 0 => ⟨[], by simp⟩
  | d + 1 => by
    obtain ⟨t, h⟩ := sel_pre xs k d
    obtain ⟨s, h2⟩ := sel_take xs (k + d)
    exact ⟨t ++ s, by rw [← Nat.add_assoc, h2, h, List.append_assoc]⟩
theorem sel_ord (each : Nat) (H : Int) {L : List (Nm × Nat)} (hd : (L.map Prod.fst).Nodup) {k : Nat} (hk : k ≤ L.length) : (selOf ltN (waysL pd each H L) k).2 = (ordL pd each H L).take k := by
  obtain ⟨t, h⟩ := sel_pre (waysL pd each H L) k (L.length - k)
  have e : k + (L.length - k) = L.length := by omega
  rw [e] at h
  unfold ordL
  rw [h, List.take_left' (sel_spec each H hd hk).len]
/-- The points of names. -/
def PtsOf (pd : Nat → Nm → Int) (each : Nat) (L : List (Nm × Nat)) (P : List Pt) : Prop := ∀ p, p ∈ P ↔ ∃ x ∈ L, ∃ i, i < each * x.2 ∧ p = ⟨pd i x.1, x.1⟩
theorem pts_ways {each : Nat} {H : Int} {L : List (Nm × Nat)} {P : List Pt} (hd : (L.map Prod.fst).Nodup) (hp : PtsOf pd each L P) : WaysOf H P (wayL pd each H L) := by
  rintro a ⟨p, h1, rfl⟩
  obtain ⟨x, hx, i, hi, rfl⟩ := (hp p).1 h1
  simp only
  rw [wayL_of hd hx]
  obtain ⟨⟨j, hj, e⟩, h2⟩ := wayA_min pd H x.1 (each * x.2) (by omega)
  refine ⟨⟨⟨pd j x.1, x.1⟩, (hp _).2 ⟨x, hx, j, hj, rfl⟩, rfl, e⟩, fun q hq hn => ?_⟩
  obtain ⟨y, hy, i', hi', rfl⟩ := (hp q).1 hq
  have e2 := find_name hd hy
  simp only at hn
  rw [hn, find_name hd hx] at e2
  obtain rfl := Option.some.inj e2
  exact h2 i' hi'
/-- What the program tells: the names of the points as seen from the object. -/
theorem own_eq {each : Nat} {H : Int} {L : List (Nm × Nat)} {P : List Pt} {f : Nat} (hd : (L.map Prod.fst).Nodup) (he : ∀ x ∈ L, 0 < each * x.2) (hp : PtsOf pd each L P) (hpd : ∀ i n, 0 ≤ pd i n ∧ pd i n < 18446744073709551616) (hH : 0 ≤ H ∧ H < 18446744073709551616) (hs : P.Pairwise (fun p q => ¬ Lex ltN (q.at_, q.nm) (p.at_, p.nm))) (h1 : ∀ p ∈ P.take f, p.at_ < H) (h2 : ∀ p ∈ P.drop f, H ≤ p.at_) :
    firsts [] ((P.drop f ++ P.take f).map Pt.nm) = ordL pd each H L := by
  have hm : ∀ p, p ∈ P.drop f ++ P.take f ↔ p ∈ P := fun p => by
    rw [List.mem_append]
    constructor
    · rintro (h | h)
      · exact List.mem_of_mem_drop h
      · exact List.mem_of_mem_take h
    · intro h
      rw [← List.take_append_drop f P] at h
      exact (List.mem_append.1 h).symm
  have hr : ∀ p ∈ P, 0 ≤ p.at_ ∧ p.at_ < 18446744073709551616 := fun p h => by
    obtain ⟨x, _, i, _, rfl⟩ := (hp p).1 h
    exact hpd i x.1
  have hw : WaysOf H (P.drop f ++ P.take f) (wayL pd each H L) := pts_ways hd fun p => (hm p).trans (hp p)
  refine ordL_unique each H hd (firsts_near ltN ltN_tot hw (rot_rise ltN hH hr hs h1 h2)) fun a => ?_
  rw [firsts_mem]
  constructor
  · rintro (h | h)
    · simp at h
    · obtain ⟨p, h3, rfl⟩ := List.mem_map.1 h
      obtain ⟨x, hx, i, _, rfl⟩ := (hp p).1 ((hm p).1 h3)
      exact List.mem_map_of_mem hx
  · intro h
    obtain ⟨x, hx, rfl⟩ := List.mem_map.1 h
    exact .inr (List.mem_map.2 ⟨⟨pd 0 x.1, x.1⟩, (hm _).2 ((hp _).2 ⟨x, hx, 0, he x hx, rfl⟩), rfl⟩)
/-- A name more. -/
theorem ordL_more (each : Nat) (H : Int) {L : List (Nm × Nat)} {x : Nm × Nat} (hd : ((L ++ [x]).map Prod.fst).Nodup) : (ordL pd each H (L ++ [x])).filter (fun a => a != x.1) = ordL pd each H L := by
  have hd0 : (L.map Prod.fst).Nodup := by rw [List.map_append, List.nodup_append] at hd; exact hd.1
  have hx : ∀ y ∈ L, y.1 ≠ x.1 := fun y hy e => by
    rw [List.map_append, List.nodup_append] at hd
    exact hd.2.2 y.1 (List.mem_map_of_mem hy) x.1 (by simp) e
  refine ordL_unique each H hd0 ?_ fun a => ?_
  · have h1 := List.Pairwise.and_mem.1 ((ordL_rise (pd := pd) each H hd).sublist (List.filter_sublist (p := fun a => a != x.1)))
    refine h1.imp ?_
    rintro a b ⟨ha, hb, h⟩
    have key : ∀ a, a ∈ (ordL pd each H (L ++ [x])).filter (fun a => a != x.1) → wayL pd each H (L ++ [x]) a = wayL pd each H L a := fun a ha => by
      obtain ⟨h2, h3⟩ := List.mem_filter.1 ha
      obtain ⟨y, hy, rfl⟩ := List.mem_map.1 ((ordL_mem each H hd _).1 h2)
      rcases List.mem_append.1 hy with h4 | h4
      · rw [wayL_of hd hy, wayL_of hd0 h4]
      · rw [List.mem_singleton.1 h4] at h3; simp at h3
    unfold Near at *
    rw [← key a ha, ← key b hb]; exact h
  · rw [List.mem_filter, ordL_mem each H hd]
    constructor
    · rintro ⟨h2, h3⟩
      rw [List.map_append, List.mem_append] at h2
      rcases h2 with h2 | h2
      · exact h2
      · simp at h2; rw [h2] at h3; simp at h3
    · intro h
      obtain ⟨y, hy, rfl⟩ := List.mem_map.1 h
      exact ⟨by rw [List.map_append]; exact List.mem_append_left _ h, by simpa using hx y hy⟩
/-- A name less. -/
theorem ordL_less (each : Nat) (H : Int) {L : List (Nm × Nat)} (hd : (L.map Prod.fst).Nodup) (n : Nm) : ordL pd each H (L.filter fun y => y.1 != n) = (ordL pd each H L).filter (fun a => a != n) := by
  have hsub : (L.filter fun y => y.1 != n).Sublist L := List.filter_sublist
  have hd0 : ((L.filter fun y => y.1 != n).map Prod.fst).Nodup := hd.sublist (hsub.map _)
  refine (ordL_unique each H hd0 ?_ fun a => ?_).symm
  · have h1 := List.Pairwise.and_mem.1 ((ordL_rise (pd := pd) each H hd).sublist (List.filter_sublist (p := fun a => a != n)))
    refine h1.imp ?_
    rintro a b ⟨ha, hb, h⟩
    have key : ∀ a, a ∈ (ordL pd each H L).filter (fun a => a != n) → wayL pd each H L a = wayL pd each H (L.filter fun y => y.1 != n) a := fun a ha => by
      obtain ⟨h2, h3⟩ := List.mem_filter.1 ha
      obtain ⟨y, hy, rfl⟩ := List.mem_map.1 ((ordL_mem each H hd _).1 h2)
      rw [wayL_of hd hy, wayL_of hd0 (List.mem_filter.2 ⟨hy, h3⟩)]
    unfold Near at *
    rw [← key a ha, ← key b hb]; exact h
  · rw [List.mem_filter, ordL_mem each H hd]
    constructor
    · rintro ⟨h2, h3⟩
      obtain ⟨y, hy, rfl⟩ := List.mem_map.1 h2
      exact List.mem_map_of_mem (List.mem_filter.2 ⟨hy, h3⟩)
    · intro h
      obtain ⟨y, hy, rfl⟩ := List.mem_map.1 h
      obtain ⟨h1, h2⟩ := List.mem_filter.1 hy
      exact ⟨List.mem_map_of_mem h1, h2⟩
/-- In whatever order the names came. -/
theorem ordL_perm (each : Nat) (H : Int) {L M : List (Nm × Nat)} (hd : (L.map Prod.fst).Nodup) (hp : ∀ x, x ∈ L ↔ x ∈ M) (hm : (M.map Prod.fst).Nodup) : ordL pd each H L = ordL pd each H M := by
  refine ordL_unique each H hm ?_ fun a => ?_
  · refine (List.Pairwise.and_mem.1 (ordL_rise (pd := pd) each H hd)).imp ?_
    rintro a b ⟨ha, hb, h⟩
    have key : ∀ a, a ∈ ordL pd each H L → wayL pd each H L a = wayL pd each H M a := fun a ha => by
      obtain ⟨y, hy, rfl⟩ := List.mem_map.1 ((ordL_mem each H hd _).1 ha)
      rw [wayL_of hd hy, wayL_of hm ((hp y).1 hy)]
    unfold Near at *
    rw [← key a ha, ← key b hb]; exact h
  · rw [ordL_mem each H hd]
    constructor <;> intro h <;> obtain ⟨y, hy, rfl⟩ := List.mem_map.1 h
    · exact List.mem_map_of_mem ((hp y).1 hy)
    · exact List.mem_map_of_mem ((hp y).2 hy)
end
end Go.Proofs.YtjphpblangeblaaDoor
