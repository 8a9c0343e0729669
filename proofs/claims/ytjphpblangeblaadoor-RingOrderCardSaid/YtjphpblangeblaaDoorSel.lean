/- The document's way to pick owners, plainly. -/
import Derived.Test.YtjphpblangeblaaDoorPlain
namespace Go.Proofs.YtjphpblangeblaaDoor
set_option linter.unusedVariables false
set_option linter.unusedSimpArgs false
section
variable (lt : Nm → Nm → Prop) [DecidableRel lt] (irr : ∀ a, ¬ lt a a) (tr : ∀ a b c, lt a b → lt b c → lt a c) (tot : ∀ a b, lt a b ∨ a = b ∨ lt b a)
/-- A name with its way. -/
abbrev Wn := Int × Nm
def betterB (a b : Wn) : Bool := decide (a.1 < b.1) || (decide (a.1 = b.1) && decide (lt a.2 b.2))
theorem betterB_iff (a b : Wn) : betterB lt a b = true ↔ Lex lt a b := by
  unfold betterB Lex; simp
/-- The best of the first i that are not taken. -/
def bestOf (xs : List Wn) (tk : List Bool) : Nat → Option Nat
  | 0 => none
  | i + 1 => match bestOf xs tk i, xs[i]?, tk[i]? with
    | none, some _, some false => some i
    | some b, some x, some false => match xs[b]? with
      | some y => if betterB lt x y = true then some i else some b
      | none => some b
    | r, _, _ => r
/-- k rounds of picking. -/
def selOf (xs : List Wn) : Nat → List Bool × List Nm
  | 0 => (List.replicate xs.length false, [])
  | k + 1 => match bestOf lt xs (selOf xs k).1 xs.length with
    | none => selOf xs k
    | some b => match xs[b]? with
      | none => selOf xs k
      | some x => ((selOf xs k).1.set b true, (selOf xs k).2 ++ [x.2])
include irr tr in
theorem bestOf_spec (xs : List Wn) (tk : List Bool) (hl : tk.length = xs.length) : ∀ n, n ≤ xs.length → match bestOf lt xs tk n with
    | none => ∀ i, i < n → tk[i]? = some true
    | some b => b < n ∧ tk[b]? = some false ∧ ∀ i x y, i < n → tk[i]? = some false → xs[i]? = some x → xs[b]? = some y → ¬ Lex lt x y
  | 0, _ => by simp [bestOf]
  | n + 1, hn => by
    have ih := bestOf_spec xs tk hl n (by omega)
    obtain ⟨x, hx⟩ : ∃ x, xs[n]? = some x := ⟨xs[n], by simp [show n < xs.length by omega]⟩
    obtain ⟨t, ht⟩ : ∃ t, tk[n]? = some t := ⟨tk[n], by simp [show n < tk.length by omega]⟩
    unfold bestOf
    rw [hx, ht]
    cases hb : bestOf lt xs tk n with
    | none =>
      rw [hb] at ih
      cases t with
      | true => exact fun i hi => (Nat.lt_succ_iff_lt_or_eq.1 hi).elim (ih i) fun e => by rw [e]; exact ht
      | false =>
        refine ⟨by omega, ht, fun i x' y hi h1 h2 h3 => ?_⟩
        rcases Nat.lt_succ_iff_lt_or_eq.1 hi with h | h
        · rw [ih i h] at h1; cases h1
        · subst h
          rw [h2] at h3
          obtain rfl := Option.some.inj h3
          exact lex_irr lt irr _
    | some b =>
      rw [hb] at ih
      obtain ⟨hb1, hb2, hb3⟩ := ih
      obtain ⟨y, hy⟩ : ∃ y, xs[b]? = some y := ⟨xs[b], by simp [show b < xs.length by omega]⟩
      cases t with
      | true =>
        refine ⟨by omega, hb2, fun i x' y' hi h1 h2 h3 => ?_⟩
        rcases Nat.lt_succ_iff_lt_or_eq.1 hi with h | h
        · exact hb3 i x' y' h h1 h2 h3
        · subst h; rw [ht] at h1; cases h1
      | false =>
        simp only [hy]
        by_cases hbt : betterB lt x y = true
        · rw [if_pos hbt]
          have hxy := (betterB_iff lt x y).1 hbt
          refine ⟨by omega, ht, fun i x' y' hi h1 h2 h3 h4 => ?_⟩
          rw [hx] at h3
          obtain rfl := Option.some.inj h3
          rcases Nat.lt_succ_iff_lt_or_eq.1 hi with h | h
          · exact hb3 i x' y h h1 h2 hy (lex_tr lt tr h4 hxy)
          · subst h
            rw [hx] at h2
            obtain rfl := Option.some.inj h2
            exact lex_irr lt irr _ h4
        · rw [if_neg hbt]
          refine ⟨by omega, hb2, fun i x' y' hi h1 h2 h3 => ?_⟩
          rcases Nat.lt_succ_iff_lt_or_eq.1 hi with h | h
          · exact hb3 i x' y' h h1 h2 h3
          · subst h
            rw [hx] at h2
            rw [hy] at h3
            obtain rfl := Option.some.inj h2
            obtain rfl := Option.some.inj h3
            exact fun hh => hbt ((betterB_iff lt _ _).2 hh)
/-- What stands behind k rounds. -/
structure SelR (xs : List Wn) (k : Nat) (tk : List Bool) (out : List Nm) : Prop where
  tl : tk.length = xs.length
  len : out.length = k
  mem : ∀ (i : Nat) (x : Wn), xs[i]? = some x → (tk[i]? = some true ↔ x.2 ∈ out)
  sub : ∀ a ∈ out, ∃ x ∈ xs, x.2 = a
  rise : (out.Pairwise fun a b => ∃ x ∈ xs, ∃ y ∈ xs, x.2 = a ∧ y.2 = b ∧ Lex lt x y)
  front : ∀ a ∈ out, ∀ (i : Nat) (y : Wn), xs[i]? = some y → tk[i]? = some false → ∃ x ∈ xs, x.2 = a ∧ Lex lt x y
  cnt : (tk.filter (· == true)).length = k
include irr tr tot in
theorem selOf_spec (xs : List Wn) (hd : (xs.map Prod.snd).Nodup) : ∀ k, k ≤ xs.length → SelR lt xs k (selOf lt xs k).1 (selOf lt xs k).2
  | 0, _ => by
    have h0 : ∀ (i : Nat) (t : Bool), (List.replicate xs.length false)[i]? = some t → t = false := fun i t h => by
      rw [List.getElem?_replicate] at h; split at h <;> simp_all
    refine ⟨by simp [selOf], rfl, fun i x hx => ?_, by simp [selOf], by simp [selOf], by simp [selOf], ?_⟩
    · constructor
      · intro h; have := h0 i true h; cases this
      · intro h; simp [selOf] at h
    · show ((List.replicate xs.length false).filter (· == true)).length = 0
      rw [List.length_eq_zero_iff, List.filter_eq_nil_iff]
      intro a ha; rw [List.eq_of_mem_replicate ha]; decide
  | k + 1, hk => by
    have ih := selOf_spec xs hd k (by omega)
    have hb := bestOf_spec lt irr tr xs (selOf lt xs k).1 ih.tl xs.length (Nat.le_refl _)
    cases hbo : bestOf lt xs (selOf lt xs k).1 xs.length with
    | none =>
      rw [hbo] at hb
      exfalso
      have : ((selOf lt xs k).1.filter (· == true)).length = xs.length := by
        rw [List.filter_eq_self.2, ih.tl]
        intro a ha
        obtain ⟨i, hi, e⟩ := List.mem_iff_getElem.1 ha
        have h1 := hb i (by rw [← ih.tl]; exact hi)
        rw [List.getElem?_eq_getElem hi, e] at h1
        simpa using h1
      have := ih.cnt; omega
    | some b =>
      rw [hbo] at hb
      obtain ⟨hb1, hb2, hb3⟩ := hb
      obtain ⟨x, hx⟩ : ∃ x, xs[b]? = some x := ⟨xs[b], by simp [hb1]⟩
      have e : selOf lt xs (k + 1) = ((selOf lt xs k).1.set b true, (selOf lt xs k).2 ++ [x.2]) := by
        show (match bestOf lt xs (selOf lt xs k).1 xs.length with | none => _ | some b => _) = _
        rw [hbo]; simp only [hx]
      rw [e]
      clear e hbo
      generalize selOf lt xs k = q at ih hb2 hb3 ⊢
      obtain ⟨tk, out⟩ := q
      simp only at ih hb2 hb3 ⊢
      have hbl : b < tk.length := by rw [ih.tl]; exact hb1
      have hxm : x ∈ xs := List.mem_of_getElem? hx
      have hnd : ∀ i y, xs[i]? = some y → y.2 = x.2 → i = b := fun i y hy he => by
        have h1 : (xs.map Prod.snd)[i]? = some x.2 := by rw [List.getElem?_map, hy]; simp [he]
        have h2 : (xs.map Prod.snd)[b]? = some x.2 := by rw [List.getElem?_map, hx]; simp
        have hi := (List.getElem?_eq_some_iff.1 h1).1
        exact (List.getElem?_inj hi hd).1 (h1.trans h2.symm)
      refine ⟨by simpa using ih.tl, by simp [ih.len], fun i y hy => ?_, fun a ha => ?_, ?_, fun a ha i y hy ht => ?_, ?_⟩
      · by_cases hi : i = b
        · subst hi
          rw [hx] at hy
          obtain rfl := Option.some.inj hy
          rw [List.getElem?_set_self hbl]; simp
        · rw [List.getElem?_set_ne (Ne.symm hi), ih.mem i y hy]
          simp only [List.mem_append, List.mem_singleton]
          constructor
          · exact .inl
          · rintro (h | h)
            · exact h
            · exact absurd (hnd i y hy h) hi
      · rcases List.mem_append.1 ha with h | h
        · exact ih.sub a h
        · rw [List.mem_singleton.1 h]; exact ⟨x, hxm, rfl⟩
      · rw [List.pairwise_append]
        refine ⟨ih.rise, by simp, fun a ha c hc => ?_⟩
        rw [List.mem_singleton.1 hc]
        obtain ⟨z, hz, e1, e2⟩ := ih.front a ha b x hx hb2
        exact ⟨z, hz, x, hxm, e1, rfl, e2⟩
      · have hi : i ≠ b := fun e => by
          subst e; rw [List.getElem?_set_self hbl] at ht; cases ht
        rw [List.getElem?_set_ne (Ne.symm hi)] at ht
        rcases List.mem_append.1 ha with h | h
        · exact ih.front a h i y hy ht
        · rw [List.mem_singleton.1 h]
          refine ⟨x, hxm, rfl, ?_⟩
          have hil : i < xs.length := (List.getElem?_eq_some_iff.1 hy).1
          rcases lex_tot lt tot x y with h1 | h1 | h1
          · exact h1
          · exact absurd (hnd i y hy (congrArg Prod.snd h1.symm)) hi
          · exact absurd h1 (hb3 i y x hil ht hy hx)
      · have hset : ∀ (l : List Bool) (j : Nat), l[j]? = some false → ((l.set j true).filter (· == true)).length = (l.filter (· == true)).length + 1 := by
          intro l
          induction l with
          | nil => intro j h; simp at h
          | cons c l ihl =>
            intro j h
            cases j with
            | zero =>
              simp at h; subst h
              simp
            | succ j =>
              simp at h
              have := ihl j h
              cases c <;> simp_all
        rw [hset tk b hb2, ih.cnt]
end
end Go.Proofs.YtjphpblangeblaaDoor
