/- Forks and stores as in the text beside (SegZ), over any kept relation (SegR). -/
import Derived.Test.YtjphpblangeblaaDoorSegZ
import Derived.Test.YtjphpblangeblaaDoorSegR
namespace Go.Proofs.YtjphpblangeblaaDoor
open Go.RowKit
def wpTzR (P : Program) (ops : Array Oper) (Q : Exit → Act → World → Prop) (R : Keep) : Tz → Act → World → Prop
  | .done, a, w => Q .normal a w
  | .pure ks t, a, w => wpQuiet P ops (InGrowR R w) (fun a' => wpTzR P ops Q R t a' w) (pickOps ops ks) a
  | .one k t, a, w => wpList P ops (Exit.then (fun a' w' => R.r w w' ∧ wpTzR P ops Q R t a' w') Q) (pickOps ops [k]) a w
  | .last k t, a, w => wpList P ops (Exit.then (fun a' w' => wpTzR P ops Q R t a' w') Q) (pickOps ops [k]) a w
  | .fork k1 t1 k2 t2, a, w => wpList P ops (Exit.then (fun a' w' => R.r w w' ∧ wpTzR P ops Q R t1 a' w') Q) (pickOps ops [k1]) a w ∧
      wpList P ops (Exit.then (fun a' w' => R.r w w' ∧ wpTzR P ops Q R t2 a' w') Q) (pickOps ops [k2]) a w
section
variable {P : Program} {ops : Array Oper} {Q : Exit → Act → World → Prop} {R : Keep} {zs ks : List Nat} {a : Act} {w : World} {k k1 k2 : Nat} {t t1 t2 : Tz}
theorem wpTzR_done : wpTzR P ops Q R .done a w = Q .normal a w := rfl
theorem wpTzR_pure : wpTzR P ops Q R (.pure ks t) a w = wpQuiet P ops (InGrowR R w) (fun a' => wpTzR P ops Q R t a' w) (pickOps ops ks) a := rfl
theorem wpTzR_one : wpTzR P ops Q R (.one k t) a w = wpList P ops (Exit.then (fun a' w' => R.r w w' ∧ wpTzR P ops Q R t a' w') Q) (pickOps ops [k]) a w := rfl
theorem wpTzR_last : wpTzR P ops Q R (.last k t) a w = wpList P ops (Exit.then (fun a' w' => wpTzR P ops Q R t a' w') Q) (pickOps ops [k]) a w := rfl
theorem wpTzR_fork : wpTzR P ops Q R (.fork k1 t1 k2 t2) a w = (wpList P ops (Exit.then (fun a' w' => R.r w w' ∧ wpTzR P ops Q R t1 a' w') Q) (pickOps ops [k1]) a w ∧
      wpList P ops (Exit.then (fun a' w' => R.r w w' ∧ wpTzR P ops Q R t2 a' w') Q) (pickOps ops [k2]) a w) := rfl
theorem tz_soundR (hsel : Region.noSelect ops = true) (hQ : ∀ c a d v w, Q (.panic c) (a.put d v) w → Q (.panic c) a w) :
    ∀ (t : Tz) (l : Array Bool) (a : Act) (w : World), Closed ops l → tzB ops zs t l = true → wpTzR P ops Q R t a w → wpAnyN P ops Q (R.r w) zs (tzLen t) l a w
  | .done, l, a, w, _, hB, h => wpAnyN_done (by simpa [tzB] using hB) h _
  | .pure ks t, l, a, w, hcl, hB, h => by
    simp only [tzB] at hB
    cases hp : pureB ops zs ks l with
    | none => rw [hp] at hB; cases hB
    | some l' =>
      rw [hp] at hB
      exact pure_soundR hsel hQ (tzLen t) ks l l' a hcl hp h fun a' hc' ha => tz_soundR hsel hQ t l' a' w hc' hB ha
  | .one k t, l, a, w, hcl, hB, h => by
    simp only [tzB, Bool.and_eq_true, decide_eq_true_eq] at hB
    have hk : k ∈ Region.ready .any ops l := by rw [hB.1.1]; simp
    obtain ⟨_, o, ho, _⟩ := mem_ready.1 hk
    rw [wpTzR_one, pick_of ho] at h
    refine ⟨fun h0 => (by rw [h0] at hk; cases hk), fun i hi => ?_⟩
    rw [hB.1.1] at hi
    obtain rfl : i = k := by simpa using hi
    exact wpOp_of_list ho h fun a' w' h' => .inr ⟨by simpa using hB.1.2, h'.1, wpAnyN_weaken (fun x hx => R.trans _ _ _ h'.1 hx) _ _ _ _ (tz_soundR hsel hQ t _ a' w' (hcl.set hk) hB.2 h'.2)⟩
  | .last k t, l, a, w, hcl, hB, h => by
    simp only [tzB, Bool.and_eq_true, decide_eq_true_eq] at hB
    obtain ⟨⟨hB1, hB3⟩, hB2⟩ := hB
    have hk : k ∈ Region.ready .any ops l := by rw [hB1]; simp
    obtain ⟨_, o, ho, _⟩ := mem_ready.1 hk
    rw [wpTzR_last, pick_of ho] at h
    refine ⟨fun h0 => (by rw [h0] at hk; cases hk), fun i hi => ?_⟩
    rw [hB1] at hi
    obtain rfl : i = k := by simpa using hi
    exact wpOp_of_list ho h fun a' w' h' => .inl ⟨hB3, wpAny_of_N _ _ _ _ (tz_soundR hsel hQ t _ a' w' (hcl.set hk) hB2 h')⟩
  | .fork k1 t1 k2 t2, l, a, w, hcl, hB, h => by
    simp only [tzB, Bool.and_eq_true, decide_eq_true_eq] at hB
    obtain ⟨⟨⟨⟨⟨hr, hlen⟩, hz1⟩, hz2⟩, hB1⟩, hB2⟩ := hB
    have hk1 : k1 ∈ Region.ready .any ops l := by rw [hr]; simp
    have hk2 : k2 ∈ Region.ready .any ops l := by rw [hr]; simp
    obtain ⟨_, o1, ho1, _⟩ := mem_ready.1 hk1
    obtain ⟨_, o2, ho2, _⟩ := mem_ready.1 hk2
    rw [wpTzR_fork, pick_of ho1, pick_of ho2] at h
    refine ⟨fun h0 => (by rw [h0] at hk1; cases hk1), fun i hi => ?_⟩
    rw [hr] at hi
    have hi' : i = k1 ∨ i = k2 := by simpa using hi
    rcases hi' with rfl | rfl
    · exact wpOp_of_list ho1 h.1 fun a' w' h' => .inr ⟨by simpa using hz1, h'.1, wpAnyN_weaken (fun x hx => R.trans _ _ _ h'.1 hx) _ _ _ _ (tz_soundR hsel hQ t1 _ a' w' (hcl.set hk1) hB1 h'.2)⟩
    · exact wpOp_of_list ho2 h.2 fun a' w' h' => .inr ⟨by simpa using hz2, h'.1, by rw [← hlen]; exact wpAnyN_weaken (fun x hx => R.trans _ _ _ h'.1 hx) _ _ _ _ (tz_soundR hsel hQ t2 _ a' w' (hcl.set hk2) hB2 h'.2)⟩
/-- A region that draws its order: first the operations st, which look at no memory; then the tree. -/
theorem wp_region_trzR {id : Nat} {l : List Oper} (R : Keep) (st zs : List Nat) (t : Tz) (hm : P.follows .mixedOrders = true)
    (hB : (Region.noSelect l.toArray && decide (st.length + tzLen t = l.length) && ((pureB l.toArray [] st (Array.replicate l.length false)).map fun l' => tzB l.toArray zs t l').getD false) = true)
    (hQ : ∀ c a d v w, Q (.panic c) (a.put d v) w → Q (.panic c) a w)
    (h : wpQuiet P l.toArray (fun _ => True) (fun a' => wpTzR P l.toArray Q R t a' w.drew) (pickOps l.toArray st) a) : (Code.region id l.toArray true).wp P Q a w := by
  simp only [Bool.and_eq_true, decide_eq_true_eq] at hB
  cases hp : pureB l.toArray [] st (Array.replicate l.length false) with
  | none => rw [hp] at hB; simp at hB
  | some l' =>
    rw [hp] at hB
    have := still_sound (w := w.drew) hB.1.1 hQ (tzLen t) st _ l' a (Closed.none _ _) hp h fun a' hc ha => wpAny_of_N _ _ _ _ (tz_soundR hB.1.1 hQ t l' a' w.drew hc (by simpa using hB.2) ha)
    rw [hB.1.2] at this
    refine wp_region_any hm ?_
    simpa using this
end
end Go.Proofs.YtjphpblangeblaaDoor
