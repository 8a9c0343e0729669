/- A ring, plainly: who owns what, in whatever order the names came. -/
namespace Go.Proofs.YtjphpblangeblaaDoor
set_option linter.unusedVariables false
set_option linter.unusedSimpArgs false
abbrev Nm := List UInt8
/-- What was not there is put behind. -/
def firsts (acc : List Nm) : List Nm → List Nm
  | [] => acc
  | x :: l => firsts (if acc.contains x then acc else acc ++ [x]) l
theorem firsts_app : ∀ (l1 l2 acc : List Nm), firsts acc (l1 ++ l2) = firsts (firsts acc l1) l2
  | [], l2, acc => rfl
  | x :: l1, l2, acc => firsts_app l1 l2 _
theorem firsts_mem : ∀ (l acc : List Nm) (x : Nm), x ∈ firsts acc l ↔ x ∈ acc ∨ x ∈ l
  | [], acc, x => by simp [firsts]
  | y :: l, acc, x => by
    rw [firsts, firsts_mem l]
    by_cases h : acc.contains y = true
    · rw [if_pos h]
      have h' : y ∈ acc := by simpa using h
      constructor
      · rintro (h1 | h1)
        · exact .inl h1
        · exact .inr (List.mem_cons_of_mem _ h1)
      · rintro (h1 | h1)
        · exact .inl h1
        · rcases List.mem_cons.1 h1 with rfl | h1
          · exact .inl h'
          · exact .inr h1
    · rw [if_neg h]; simp [or_assoc]
theorem firsts_nodup : ∀ (l acc : List Nm), acc.Nodup → (firsts acc l).Nodup
  | [], acc, h => h
  | y :: l, acc, h => by
    rw [firsts]
    refine firsts_nodup l _ ?_
    split
    · exact h
    · rename_i hc
      rw [List.nodup_append]
      refine ⟨h, by simp, fun a ha b hb => ?_⟩
      rw [List.mem_singleton.1 hb]
      rintro rfl
      exact hc (by simpa using ha)
theorem firsts_prefix : ∀ (l acc : List Nm), ∃ t, firsts acc l = acc ++ t
  | [], acc => ⟨[], by simp [firsts]⟩
  | y :: l, acc => by
    rw [firsts]
    obtain ⟨t, h⟩ := firsts_prefix l (if acc.contains y then acc else acc ++ [y])
    rw [h]
    split
    · exact ⟨t, rfl⟩
    · exact ⟨[y] ++ t, by simp⟩
theorem firsts_le : ∀ (l acc : List Nm), (firsts acc l).length ≤ acc.length + l.length
  | [], acc => by simp [firsts]
  | y :: l, acc => by
    rw [firsts]
    split
    · have := firsts_le l acc; simp; omega
    · have := firsts_le l (acc ++ [y]); simp at *; omega
theorem firsts_ge (l acc : List Nm) : acc.length ≤ (firsts acc l).length := by
  obtain ⟨t, h⟩ := firsts_prefix l acc
  rw [h]; simp
/-- A point: where it is, whose it is. -/
structure Pt where
  at_ : Int
  nm : Nm
deriving DecidableEq, Inhabited
section
variable (lt : Nm → Nm → Prop) (irr : ∀ a, ¬ lt a a) (tr : ∀ a b c, lt a b → lt b c → lt a c) (tot : ∀ a b, lt a b ∨ a = b ∨ lt b a)
/-- First by a number, then by name. -/
def Lex (x y : Int × Nm) : Prop := x.1 < y.1 ∨ (x.1 = y.1 ∧ lt x.2 y.2)
include irr in
theorem lex_irr (x : Int × Nm) : ¬ Lex lt x x := by
  rintro (h | ⟨_, h⟩)
  · omega
  · exact irr _ h
include tr in
theorem lex_tr {x y z : Int × Nm} (h : Lex lt x y) (k : Lex lt y z) : Lex lt x z := by
  rcases h with h | ⟨h1, h2⟩ <;> rcases k with k | ⟨k1, k2⟩
  · exact .inl (by omega)
  · exact .inl (by omega)
  · exact .inl (by omega)
  · exact .inr ⟨by omega, tr _ _ _ h2 k2⟩
include tot in
theorem lex_tot (x y : Int × Nm) : Lex lt x y ∨ x = y ∨ Lex lt y x := by
  rcases Int.lt_trichotomy x.1 y.1 with h | h | h
  · exact .inl (.inl h)
  · rcases tot x.2 y.2 with h2 | h2 | h2
    · exact .inl (.inr ⟨h, h2⟩)
    · exact .inr (.inl (Prod.ext h h2))
    · exact .inr (.inr (.inr ⟨h.symm, h2⟩))
  · exact .inr (.inr (.inl h))
/-- Two lists that rise and have the same members are one. -/
theorem rise_unique {α : Type} (R : α → α → Prop) (ri : ∀ a, ¬ R a a) (rt : ∀ a b c, R a b → R b c → R a c) : ∀ (l m : List α), l.Pairwise R → m.Pairwise R → (∀ x, x ∈ l ↔ x ∈ m) → l = m
  | [], [], _, _, _ => rfl
  | [], y :: m, _, _, h => absurd ((h y).2 (by simp)) (by simp)
  | x :: l, [], _, _, h => absurd ((h x).1 (by simp)) (by simp)
  | x :: l, y :: m, hl, hm, h => by
    rw [List.pairwise_cons] at hl hm
    have e : x = y := by
      rcases List.mem_cons.1 ((h x).1 (by simp)) with e | e
      · exact e
      · rcases List.mem_cons.1 ((h y).2 (by simp)) with e' | e'
        · exact e'.symm
        · exact absurd (rt _ _ _ (hl.1 y e') (hm.1 x e)) (ri x)
    subst e
    rw [rise_unique R ri rt l m hl.2 hm.2 fun z => ?_]
    constructor
    · intro hz
      rcases List.mem_cons.1 ((h z).1 (List.mem_cons_of_mem _ hz)) with e | e
      · subst e; exact absurd (hl.1 z hz) (ri z)
      · exact e
    · intro hz
      rcases List.mem_cons.1 ((h z).2 (List.mem_cons_of_mem _ hz)) with e | e
      · subst e; exact absurd (hm.1 z hz) (ri z)
      · exact e
/-- How far a point is. -/
def far (H : Int) (p : Pt) : Int := (p.at_ - H) % 18446744073709551616
def keyP (H : Int) (p : Pt) : Int × Nm := (far H p, p.nm)
/-- Points that rise as seen from H: the names in the order of their first points. -/
theorem firsts_rise (H : Int) (all : List Pt) : ∀ (l2 l1 : List Pt), all = l1 ++ l2 → all.Pairwise (fun p q => ¬ Lex lt (keyP H q) (keyP H p)) →
    (firsts [] (l1.map Pt.nm)).Pairwise (fun a b => ∃ p ∈ all, p.nm = a ∧ ∀ q ∈ all, q.nm = b → ¬ Lex lt (keyP H q) (keyP H p)) →
    (firsts (firsts [] (l1.map Pt.nm)) (l2.map Pt.nm)).Pairwise (fun a b => ∃ p ∈ all, p.nm = a ∧ ∀ q ∈ all, q.nm = b → ¬ Lex lt (keyP H q) (keyP H p))
  | [], l1, e, hs, h => h
  | x :: l2, l1, e, hs, h => by
    have ih := firsts_rise H all l2 (l1 ++ [x]) (by rw [e]; simp) hs
    rw [List.map_append, firsts_app] at ih
    refine ih ?_
    show (firsts (if (firsts [] (l1.map Pt.nm)).contains x.nm then firsts [] (l1.map Pt.nm) else firsts [] (l1.map Pt.nm) ++ [x.nm]) []).Pairwise _
    rw [firsts]
    split
    · exact h
    · rename_i hc
      have hx : x.nm ∉ l1.map Pt.nm := fun hh => hc (by
        have := (firsts_mem (l1.map Pt.nm) [] x.nm).2 (.inr hh)
        simpa using this)
      rw [List.pairwise_append]
      refine ⟨h, by simp, fun a ha b hb => ?_⟩
      rw [List.mem_singleton.1 hb]
      rcases (firsts_mem _ _ _).1 ha with h0 | h0
      · simp at h0
      · obtain ⟨p, hp, rfl⟩ := List.mem_map.1 h0
        refine ⟨p, by rw [e]; exact List.mem_append_left _ hp, rfl, fun q hq eq => ?_⟩
        have hq2 : q ∈ x :: l2 := by
          rw [e] at hq
          rcases List.mem_append.1 hq with h1 | h1
          · exact absurd (eq ▸ List.mem_map_of_mem h1) hx
          · exact h1
        rw [e, List.pairwise_append] at hs
        exact hs.2.2 p hp q hq2
/-- The shortest ways of names. -/
def WaysOf (H : Int) (all : List Pt) (way : Nm → Int) : Prop := ∀ a, (∃ p ∈ all, p.nm = a) → (∃ p ∈ all, p.nm = a ∧ far H p = way a) ∧ ∀ p ∈ all, p.nm = a → way a ≤ far H p
/-- One name is nearer than another. -/
def Near (way : Nm → Int) (a b : Nm) : Prop := Lex lt (way a, a) (way b, b)
include irr in
theorem near_irr (way : Nm → Int) (a : Nm) : ¬ Near lt way a a := lex_irr lt irr _
include tr in
theorem near_tr (way : Nm → Int) (a b c : Nm) (h : Near lt way a b) (k : Near lt way b c) : Near lt way a c := lex_tr lt tr h k
include tot in
theorem firsts_near {H : Int} {all : List Pt} {way : Nm → Int} (hw : WaysOf H all way) (hs : all.Pairwise (fun p q => ¬ Lex lt (keyP H q) (keyP H p))) : (firsts [] (all.map Pt.nm)).Pairwise (Near lt way) := by
  have h1 := firsts_rise lt H all all [] rfl hs (by simp [firsts])
  have h2 := firsts_nodup (all.map Pt.nm) [] (by simp)
  have hm : ∀ b ∈ firsts [] (all.map Pt.nm), ∃ p ∈ all, p.nm = b := fun b hb => by
    rcases (firsts_mem _ _ _).1 hb with h0 | h0
    · simp at h0
    · obtain ⟨p, hp, e⟩ := List.mem_map.1 h0
      exact ⟨p, hp, e⟩
  rw [show firsts (firsts [] (([] : List Pt).map Pt.nm)) (all.map Pt.nm) = firsts [] (all.map Pt.nm) from rfl] at h1
  have h3 := List.Pairwise.and_mem.1 (List.Pairwise.and h1 h2)
  refine h3.imp ?_
  rintro a b ⟨ha, hb, ⟨p, hp, rfl, hq⟩, hne⟩
  obtain ⟨q, hq1, rfl, hq2⟩ := (hw b (hm b hb)).1
  have hp2 := (hw p.nm ⟨p, hp, rfl⟩).2 p hp rfl
  have h4 := hq q hq1 rfl
  rcases lex_tot lt tot (keyP H p) (keyP H q) with h5 | h5 | h5
  · unfold Near
    rw [← hq2]
    rcases h5 with h5 | ⟨h5, h6⟩
    · exact .inl (by simp only [keyP] at h5; simp only; omega)
    · simp only [keyP] at h5 h6
      rcases Int.lt_or_eq_of_le hp2 with h7 | h7
      · exact .inl (by simp only; omega)
      · exact .inr ⟨by simp only; omega, h6⟩
  · exact absurd (congrArg Prod.snd h5) hne
  · exact absurd h5 h4
/-- Points in a row, as seen from H on. -/
theorem rot_rise {H : Int} {P : List Pt} {f : Nat} (hH : 0 ≤ H ∧ H < 18446744073709551616) (hr : ∀ p ∈ P, 0 ≤ p.at_ ∧ p.at_ < 18446744073709551616) (hs : P.Pairwise (fun p q => ¬ Lex lt (q.at_, q.nm) (p.at_, p.nm))) (h1 : ∀ p ∈ P.take f, p.at_ < H) (h2 : ∀ p ∈ P.drop f, H ≤ p.at_) :
    (P.drop f ++ P.take f).Pairwise (fun p q => ¬ Lex lt (keyP H q) (keyP H p)) := by
  have fl : ∀ p, 0 ≤ p.at_ ∧ p.at_ < 18446744073709551616 → p.at_ < H → far H p = p.at_ - H + 18446744073709551616 := fun p h h' => by unfold far; omega
  have fh : ∀ p, 0 ≤ p.at_ ∧ p.at_ < 18446744073709551616 → H ≤ p.at_ → far H p = p.at_ - H := fun p h h' => by unfold far; omega
  rw [List.pairwise_append]
  have hd : (P.drop f).Sublist P := List.drop_sublist f P
  have ht : (P.take f).Sublist P := List.take_sublist f P
  refine ⟨?_, ?_, fun p hp q hq => ?_⟩
  · refine (List.Pairwise.and_mem.1 (hs.sublist hd)).imp ?_
    rintro p q ⟨hp, hq, h⟩ hh
    have e1 := fh p (hr p (hd.subset hp)) (h2 p hp)
    have e2 := fh q (hr q (hd.subset hq)) (h2 q hq)
    rcases hh with hh | ⟨hh, hl⟩
    · simp only [keyP, e1, e2] at hh
      exact h (.inl (by simp only; omega))
    · simp only [keyP, e1, e2] at hh hl
      exact h (.inr ⟨by simp only; omega, hl⟩)
  · refine (List.Pairwise.and_mem.1 (hs.sublist ht)).imp ?_
    rintro p q ⟨hp, hq, h⟩ hh
    have e1 := fl p (hr p (ht.subset hp)) (h1 p hp)
    have e2 := fl q (hr q (ht.subset hq)) (h1 q hq)
    rcases hh with hh | ⟨hh, hl⟩
    · simp only [keyP, e1, e2] at hh
      exact h (.inl (by simp only; omega))
    · simp only [keyP, e1, e2] at hh hl
      exact h (.inr ⟨by simp only; omega, hl⟩)
  · intro hh
    have e1 := fh p (hr p (hd.subset hp)) (h2 p hp)
    have e2 := fl q (hr q (ht.subset hq)) (h1 q hq)
    have := hr p (hd.subset hp); have := hr q (ht.subset hq)
    unfold Lex keyP at hh
    simp only [e1, e2] at hh
    omega
theorem rot_get (P : List Pt) (f i : Nat) (hf : f ≤ P.length) (hi : i < P.length) : (P.drop f ++ P.take f)[i]? = P[(f + i) % P.length]? := by
  by_cases h : f + i < P.length
  · rw [List.getElem?_append_left (by simp; omega), List.getElem?_drop, Nat.mod_eq_of_lt h]
  · rw [List.getElem?_append_right (by simp; omega), List.getElem?_take, if_pos (by simp; omega)]
    congr 1
    have e : f + i = P.length + (f + i - P.length) := by omega
    rw [e, Nat.add_mod_left, Nat.mod_eq_of_lt (by omega)]
    simp; omega
end
end Go.Proofs.YtjphpblangeblaaDoor
