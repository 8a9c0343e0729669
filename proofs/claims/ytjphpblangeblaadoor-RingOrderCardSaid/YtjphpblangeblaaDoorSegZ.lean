/- A region that draws its order: some operations that look at no memory first; then segments as in the text beside (Seg), with forks where either of two growing operations may come up. -/
import Derived.Test.YtjphpblangeblaaDoorSeg
namespace Go.Proofs.YtjphpblangeblaaDoor
open Go.RowKit
inductive Tz where
  | done
  | pure (ks : List Nat) (t : Tz)
  | one (k : Nat) (t : Tz)
  | last (k : Nat) (t : Tz)
  | fork (k1 : Nat) (t1 : Tz) (k2 : Nat) (t2 : Tz)
def wpTz (P : Program) (ops : Array Oper) (Q : Exit → Act → World → Prop) (X : List Nat) : Tz → Act → World → Prop
  | .done, a, w => Q .normal a w
  | .pure ks t, a, w => wpQuiet P ops (InGrow X w) (fun a' => wpTz P ops Q X t a' w) (pickOps ops ks) a
  | .one k t, a, w => wpList P ops (Exit.then (fun a' w' => ExtB X w w' ∧ wpTz P ops Q X t a' w') Q) (pickOps ops [k]) a w
  | .last k t, a, w => wpList P ops (Exit.then (fun a' w' => wpTz P ops Q X t a' w') Q) (pickOps ops [k]) a w
  | .fork k1 t1 k2 t2, a, w => wpList P ops (Exit.then (fun a' w' => ExtB X w w' ∧ wpTz P ops Q X t1 a' w') Q) (pickOps ops [k1]) a w ∧
      wpList P ops (Exit.then (fun a' w' => ExtB X w w' ∧ wpTz P ops Q X t2 a' w') Q) (pickOps ops [k2]) a w
def tzLen : Tz → Nat
  | .done => 0
  | .pure ks t => ks.length + tzLen t
  | .one _ t => tzLen t + 1
  | .last _ t => tzLen t + 1
  | .fork _ t1 _ _ => tzLen t1 + 1
def tzB (ops : Array Oper) (zs : List Nat) : Tz → Array Bool → Bool
  | .done, l => (Region.ready .any ops l).isEmpty
  | .pure ks t, l => match pureB ops zs ks l with
    | some l' => tzB ops zs t l'
    | none => false
  | .one k t, l => decide (Region.ready .any ops l = [k]) && !zs.contains k && tzB ops zs t (l.setIfInBounds k true)
  | .last k t, l => decide (Region.ready .any ops l = [k]) && zs.contains k && tzB ops zs t (l.setIfInBounds k true)
  | .fork k1 t1 k2 t2, l => decide (Region.ready .any ops l = [k1, k2]) && decide (tzLen t2 = tzLen t1) && !zs.contains k1 && !zs.contains k2 && tzB ops zs t1 (l.setIfInBounds k1 true) && tzB ops zs t2 (l.setIfInBounds k2 true)
section
variable {P : Program} {ops : Array Oper} {Q : Exit → Act → World → Prop} {X : List Nat} {zs ks : List Nat} {a : Act} {w : World} {k k1 k2 : Nat} {t t1 t2 : Tz}
theorem wpTz_done : wpTz P ops Q X .done a w = Q .normal a w := rfl
theorem wpTz_pure : wpTz P ops Q X (.pure ks t) a w = wpQuiet P ops (InGrow X w) (fun a' => wpTz P ops Q X t a' w) (pickOps ops ks) a := rfl
theorem wpTz_one : wpTz P ops Q X (.one k t) a w = wpList P ops (Exit.then (fun a' w' => ExtB X w w' ∧ wpTz P ops Q X t a' w') Q) (pickOps ops [k]) a w := rfl
theorem wpTz_last : wpTz P ops Q X (.last k t) a w = wpList P ops (Exit.then (fun a' w' => wpTz P ops Q X t a' w') Q) (pickOps ops [k]) a w := rfl
theorem wpTz_fork : wpTz P ops Q X (.fork k1 t1 k2 t2) a w = (wpList P ops (Exit.then (fun a' w' => ExtB X w w' ∧ wpTz P ops Q X t1 a' w') Q) (pickOps ops [k1]) a w ∧
      wpList P ops (Exit.then (fun a' w' => ExtB X w w' ∧ wpTz P ops Q X t2 a' w') Q) (pickOps ops [k2]) a w) := rfl
theorem tz_sound (hsel : Region.noSelect ops = true) (hQ : ∀ c a d v w, Q (.panic c) (a.put d v) w → Q (.panic c) a w) :
    ∀ (t : Tz) (l : Array Bool) (a : Act) (w : World), Closed ops l → tzB ops zs t l = true → wpTz P ops Q X t a w → wpAnyN P ops Q (ExtB X w) zs (tzLen t) l a w
  | .done, l, a, w, _, hB, h => wpAnyN_done (by simpa [tzB] using hB) h _
  | .pure ks t, l, a, w, hcl, hB, h => by
    simp only [tzB] at hB
    cases hp : pureB ops zs ks l with
    | none => rw [hp] at hB; cases hB
    | some l' =>
      rw [hp] at hB
      exact pure_sound hsel hQ (tzLen t) ks l l' a hcl hp h fun a' hc' ha => tz_sound hsel hQ t l' a' w hc' hB ha
  | .one k t, l, a, w, hcl, hB, h => by
    simp only [tzB, Bool.and_eq_true, decide_eq_true_eq] at hB
    have hk : k ∈ Region.ready .any ops l := by rw [hB.1.1]; simp
    obtain ⟨_, o, ho, _⟩ := mem_ready.1 hk
    rw [wpTz_one, pick_of ho] at h
    refine ⟨fun h0 => (by rw [h0] at hk; cases hk), fun i hi => ?_⟩
    rw [hB.1.1] at hi
    obtain rfl : i = k := by simpa using hi
    exact wpOp_of_list ho h fun a' w' h' => .inr ⟨by simpa using hB.1.2, h'.1, wpAnyN_weaken (fun x hx => h'.1.trans hx) _ _ _ _ (tz_sound hsel hQ t _ a' w' (hcl.set hk) hB.2 h'.2)⟩
  | .last k t, l, a, w, hcl, hB, h => by
    simp only [tzB, Bool.and_eq_true, decide_eq_true_eq] at hB
    obtain ⟨⟨hB1, hB3⟩, hB2⟩ := hB
    have hk : k ∈ Region.ready .any ops l := by rw [hB1]; simp
    obtain ⟨_, o, ho, _⟩ := mem_ready.1 hk
    rw [wpTz_last, pick_of ho] at h
    refine ⟨fun h0 => (by rw [h0] at hk; cases hk), fun i hi => ?_⟩
    rw [hB1] at hi
    obtain rfl : i = k := by simpa using hi
    exact wpOp_of_list ho h fun a' w' h' => .inl ⟨hB3, wpAny_of_N _ _ _ _ (tz_sound hsel hQ t _ a' w' (hcl.set hk) hB2 h')⟩
  | .fork k1 t1 k2 t2, l, a, w, hcl, hB, h => by
    simp only [tzB, Bool.and_eq_true, decide_eq_true_eq] at hB
    obtain ⟨⟨⟨⟨⟨hr, hlen⟩, hz1⟩, hz2⟩, hB1⟩, hB2⟩ := hB
    have hk1 : k1 ∈ Region.ready .any ops l := by rw [hr]; simp
    have hk2 : k2 ∈ Region.ready .any ops l := by rw [hr]; simp
    obtain ⟨_, o1, ho1, _⟩ := mem_ready.1 hk1
    obtain ⟨_, o2, ho2, _⟩ := mem_ready.1 hk2
    rw [wpTz_fork, pick_of ho1, pick_of ho2] at h
    refine ⟨fun h0 => (by rw [h0] at hk1; cases hk1), fun i hi => ?_⟩
    rw [hr] at hi
    have hi' : i = k1 ∨ i = k2 := by simpa using hi
    rcases hi' with rfl | rfl
    · exact wpOp_of_list ho1 h.1 fun a' w' h' => .inr ⟨by simpa using hz1, h'.1, wpAnyN_weaken (fun x hx => h'.1.trans hx) _ _ _ _ (tz_sound hsel hQ t1 _ a' w' (hcl.set hk1) hB1 h'.2)⟩
    · exact wpOp_of_list ho2 h.2 fun a' w' h' => .inr ⟨by simpa using hz2, h'.1, by rw [← hlen]; exact wpAnyN_weaken (fun x hx => h'.1.trans hx) _ _ _ _ (tz_sound hsel hQ t2 _ a' w' (hcl.set hk2) hB2 h'.2)⟩
theorem yields_of_quiet {o : Oper} {a : Act} {K : Act → Prop} (hp : pureOp o.op = true) (h : wpQuiet P ops (fun _ => True) K [o] a) : ∃ v, Yields P ops o v a ∧ K (a.put o.dst v) := by
  unfold wpQuiet at h
  split at h
  · rename_i hw
    obtain ⟨v, hv, hK⟩ := h
    refine ⟨v, .inl ⟨hw, fun w' => ?_⟩, hK⟩
    have h1 := hv w' trivial
    unfold Oper.quietAt at h1
    cases hr : (execOp a.eval o).run P w' with
    | ok n w1 =>
      obtain ⟨u, rfl⟩ := value_of_run hp hr
      rw [hr] at h1
      obtain ⟨rfl, rfl⟩ := h1
      rfl
    | halt x w1 => rw [hr] at h1; exact h1.elim
  · rename_i hw
    exact ⟨undef, .inr ⟨by simpa using hw, rfl⟩, h⟩
theorem still_sound {K : Act → Prop} (hsel : Region.noSelect ops = true) (hQ : ∀ c a d v w, Q (.panic c) (a.put d v) w → Q (.panic c) a w) (f : Nat) :
    ∀ (ks : List Nat) (listed listed' : Array Bool) (a : Act), Closed ops listed → pureB ops [] ks listed = some listed' → wpQuiet P ops (fun _ => True) K (pickOps ops ks) a →
      (∀ a', Closed ops listed' → K a' → wpAny P .any ops Q f listed' a' w) → wpAny P .any ops Q (ks.length + f) listed a w
  | [], listed, listed', a, hcl, hB, h, hK => by
    simp only [pureB, Option.some.injEq] at hB
    subst hB
    simpa using hK a hcl h
  | k :: ks, listed, listed', a, hcl, hB, h, hK => by
    simp only [pureB] at hB
    split at hB
    · rename_i hc
      simp only [Bool.and_eq_true] at hc
      obtain ⟨⟨⟨⟨h1, h2⟩, h3⟩, h4⟩, h5⟩ := hc
      cases ho : ops[k]? with
      | none => rw [ho] at h3; simp at h3
      | some o =>
        rw [ho] at h3
        have h3' : pureOp o.op = true := by simpa using h3
        rw [pick_of ho ks] at h
        obtain ⟨v, hy, hn⟩ := yields_of_quiet h3' (wpQuiet_cons h)
        have := still_sound hsel hQ f ks (listed.setIfInBounds k true) listed' (a.put o.dst v) (hcl.set (by simpa using h1)) hB hn hK
        rw [List.length_cons, show ks.length + 1 + f = (ks.length + f) + 1 by omega]
        exact wpAny_first ho (Region.noSelect_spec hsel) (fun c a w => hQ c a _ _ w) _ listed a w (Region.free_spec ho h2) (by simpa using h1) hy this
    · cases hB
/-- A region that draws its order: first the operations st, which look at no memory; then the tree. -/
theorem wp_region_trz {id : Nat} {l : List Oper} (X : List Nat) (st zs : List Nat) (t : Tz) (hm : P.follows .mixedOrders = true)
    (hB : (Region.noSelect l.toArray && decide (st.length + tzLen t = l.length) && ((pureB l.toArray [] st (Array.replicate l.length false)).map fun l' => tzB l.toArray zs t l').getD false) = true)
    (hQ : ∀ c a d v w, Q (.panic c) (a.put d v) w → Q (.panic c) a w)
    (h : wpQuiet P l.toArray (fun _ => True) (fun a' => wpTz P l.toArray Q X t a' w.drew) (pickOps l.toArray st) a) : (Code.region id l.toArray true).wp P Q a w := by
  simp only [Bool.and_eq_true, decide_eq_true_eq] at hB
  cases hp : pureB l.toArray [] st (Array.replicate l.length false) with
  | none => rw [hp] at hB; simp at hB
  | some l' =>
    rw [hp] at hB
    have := still_sound (w := w.drew) hB.1.1 hQ (tzLen t) st _ l' a (Closed.none _ _) hp h fun a' hc ha => wpAny_of_N _ _ _ _ (tz_sound hB.1.1 hQ t l' a' w.drew hc (by simpa using hB.2) ha)
    rw [hB.1.2] at this
    refine wp_region_any hm ?_
    simpa using this
end
end Go.Proofs.YtjphpblangeblaaDoor
