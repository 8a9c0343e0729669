/- A region that draws its order, walked by segments as in the text beside (Seg), over any relation of worlds that holds from a world to itself and passes on: what each single operation keeps. -/
import Derived.Test.YtlddpdlebdjniaaDoorSeg
namespace Go.Proofs.YtlddpdlebdjniaaDoor
open Go.RowKit

/-- What is kept from a world to a later one. -/
structure Keep where
  r : World → World → Prop
  refl : ∀ w, r w w
  trans : ∀ a b c, r a b → r b c → r a c
structure GrowR (R : Keep) (W : World) where
  v : World
  ext : R.r W v
instance instNonemptyGrowR (R : Keep) (W : World) : Nonempty (GrowR R W) := ⟨⟨W, R.refl W⟩⟩
def InGrowR (R : Keep) (W w' : World) : Prop := ∃ x : GrowR R W, w' = x.v
attribute [go_sem] InGrowR
theorem inGrowR_of {R : Keep} {W w' : World} (h : R.r W w') : InGrowR R W w' := ⟨⟨w', h⟩, rfl⟩

def wpSegsR (P : Program) (ops : Array Oper) (Q : Exit → Act → World → Prop) (R : Keep) : List (List Nat ⊕ (Nat ⊕ Nat)) → Act → World → Prop
  | [], a, w => Q .normal a w
  | .inl ks :: r, a, w => wpQuiet P ops (InGrowR R w) (fun a' => wpSegsR P ops Q R r a' w) (pickOps ops ks) a
  | .inr (.inl k) :: r, a, w => wpList P ops (Exit.then (fun a' w' => R.r w w' ∧ wpSegsR P ops Q R r a' w') Q) (pickOps ops [k]) a w
  | .inr (.inr k) :: r, a, w => wpList P ops (Exit.then (fun a' w' => wpSegsR P ops Q R r a' w') Q) (pickOps ops [k]) a w

section
variable {P : Program} {ops : Array Oper} {Q : Exit → Act → World → Prop} {R : Keep} {ks : List Nat} {k : Nat} {r : List (List Nat ⊕ (Nat ⊕ Nat))} {a : Act} {w : World}
theorem wpSegsR_inl : wpSegsR P ops Q R (.inl ks :: r) a w = wpQuiet P ops (InGrowR R w) (fun a' => wpSegsR P ops Q R r a' w) (pickOps ops ks) a := rfl
theorem wpSegsR_grow : wpSegsR P ops Q R (.inr (.inl k) :: r) a w = wpList P ops (Exit.then (fun a' w' => R.r w w' ∧ wpSegsR P ops Q R r a' w') Q) (pickOps ops [k]) a w := rfl
theorem wpSegsR_last : wpSegsR P ops Q R (.inr (.inr k) :: r) a w = wpList P ops (Exit.then (fun a' w' => wpSegsR P ops Q R r a' w') Q) (pickOps ops [k]) a w := rfl
theorem wpSegsR_nil : wpSegsR P ops Q R [] a w = Q .normal a w := rfl
end

section
variable {P : Program} {ops : Array Oper} {Q : Exit → Act → World → Prop} {R : Keep} {zs : List Nat}
theorem yieldsIf_of_quietR {w : World} {o : Oper} {a : Act} {K : Act → Prop} (hp : pureOp o.op = true) (h : wpQuiet P ops (InGrowR R w) K [o] a) : ∃ v, YieldsIf P ops (R.r w) o v a ∧ K (a.put o.dst v) := by
  unfold wpQuiet at h
  split at h
  · rename_i hw
    obtain ⟨v, hv, hK⟩ := h
    refine ⟨v, .inl ⟨hw, fun w' hE => ?_⟩, hK⟩
    have h1 := hv w' (inGrowR_of hE)
    unfold Oper.quietAt at h1
    cases hr : (execOp a.eval o).run P w' with
    | ok n w1 =>
      obtain ⟨u, rfl⟩ := value_of_run hp hr
      rw [hr] at h1
      obtain ⟨rfl, rfl⟩ := h1
      rfl
    | halt x w1 => rw [hr] at h1; exact h1.elim
  · rename_i hw
    exact ⟨undef, .inr ⟨by simpa using hw, rfl⟩, h⟩

theorem pure_soundR {w : World} {K : Act → Prop} (hsel : Region.noSelect ops = true) (hQ : ∀ c a d v w, Q (.panic c) (a.put d v) w → Q (.panic c) a w) (f : Nat) :
    ∀ (ks : List Nat) (listed listed' : Array Bool) (a : Act), Closed ops listed → pureB ops zs ks listed = some listed' → wpQuiet P ops (InGrowR R w) K (pickOps ops ks) a →
      (∀ a', Closed ops listed' → K a' → wpAnyN P ops Q (R.r w) zs f listed' a' w) → wpAnyN P ops Q (R.r w) zs (ks.length + f) listed a w
  | [], listed, listed', a, hcl, hB, h, hK => by
    simp only [pureB, Option.some.injEq] at hB
    subst hB
    simpa using hK a hcl h
  | k :: ks, listed, listed', a, hcl, hB, h, hK => by
    simp only [pureB] at hB
    split at hB
    · rename_i hc
      simp only [Bool.and_eq_true] at hc
      obtain ⟨⟨⟨⟨h1, h2⟩, h3⟩, h4⟩, h5⟩ := hc
      cases ho : ops[k]? with
      | none => rw [ho] at h3; simp at h3
      | some o =>
        rw [ho] at h3
        have h3' : pureOp o.op = true := by simpa using h3
        rw [pick_of ho ks] at h
        obtain ⟨v, hy, hn⟩ := yieldsIf_of_quietR h3' (wpQuiet_cons h)
        have := pure_soundR hsel hQ f ks (listed.setIfInBounds k true) listed' (a.put o.dst v) (hcl.set (by simpa using h1)) hB hn hK
        rw [List.length_cons, show ks.length + 1 + f = (ks.length + f) + 1 by omega]
        refine wpAnyN_first ho (Region.noSelect_spec hsel) (fun c a w => hQ c a _ _ w) (by simpa using h5) _ listed a w hcl (fun j hj hun => ?_) (Region.free_spec ho h2) (by simpa using h1) hy (R.refl w) this
        have := List.all_eq_true.1 h4 j hj
        rw [hun, Bool.false_or] at this
        exact this
    · cases hB

theorem segs_soundR (hsel : Region.noSelect ops = true) (hQ : ∀ c a d v w, Q (.panic c) (a.put d v) w → Q (.panic c) a w) :
    ∀ (segs : List (List Nat ⊕ (Nat ⊕ Nat))) (listed : Array Bool) (a : Act) (w : World), Closed ops listed → segsB ops zs segs listed = true → wpSegsR P ops Q R segs a w → wpAnyN P ops Q (R.r w) zs (segLen segs) listed a w
  | [], listed, a, w, _, hB, h => wpAnyN_done (by simpa [segsB] using hB) h _
  | .inl ks :: r, listed, a, w, hcl, hB, h => by
    simp only [segsB] at hB
    cases hp : pureB ops zs ks listed with
    | none => rw [hp] at hB; cases hB
    | some l' =>
      rw [hp] at hB
      exact pure_soundR hsel hQ (segLen r) ks listed l' a hcl hp h fun a' hc' ha => segs_soundR hsel hQ r l' a' w hc' hB ha
  | .inr (.inl k) :: r, listed, a, w, hcl, hB, h => by
    simp only [segsB, Bool.and_eq_true, decide_eq_true_eq] at hB
    have hk : k ∈ Region.ready .any ops listed := by rw [hB.1.1]; simp
    obtain ⟨_, o, ho, _⟩ := mem_ready.1 hk
    rw [wpSegsR_grow, pick_of ho] at h
    rw [segLen, Nat.add_comm]
    refine ⟨fun h0 => (by rw [h0] at hk; cases hk), fun i hi => ?_⟩
    rw [hB.1.1] at hi
    obtain rfl : i = k := by simpa using hi
    exact wpOp_of_list ho h fun a' w' h' => .inr ⟨by simpa using hB.1.2, h'.1, wpAnyN_weaken (fun x hx => R.trans _ _ _ h'.1 hx) _ _ _ _ (segs_soundR hsel hQ r _ a' w' (hcl.set hk) hB.2 h'.2)⟩
  | .inr (.inr k) :: r, listed, a, w, hcl, hB, h => by
    simp only [segsB, Bool.and_eq_true, decide_eq_true_eq] at hB
    obtain ⟨⟨hB1, hB3⟩, hB2⟩ := hB
    have hk : k ∈ Region.ready .any ops listed := by rw [hB1]; simp
    obtain ⟨_, o, ho, _⟩ := mem_ready.1 hk
    rw [wpSegsR_last, pick_of ho] at h
    rw [segLen, Nat.add_comm]
    refine ⟨fun h0 => (by rw [h0] at hk; cases hk), fun i hi => ?_⟩
    rw [hB1] at hi
    obtain rfl : i = k := by simpa using hi
    exact wpOp_of_list ho h fun a' w' h' => .inl ⟨hB3, wpAny_of_N _ _ _ _ (segs_soundR hsel hQ r _ a' w' (hcl.set hk) hB2 h')⟩

/-- A region that draws its order, by segments. -/
theorem wp_region_segsR {id : Nat} {a : Act} {w : World} {l : List Oper} (R : Keep) (segs : List (List Nat ⊕ (Nat ⊕ Nat))) (hm : P.follows .mixedOrders = true)
    (hB : (Region.noSelect l.toArray && decide (segLen segs = l.length) && segsB l.toArray (segZ segs) segs (Array.replicate l.length false)) = true)
    (hQ : ∀ c a d v w, Q (.panic c) (a.put d v) w → Q (.panic c) a w)
    (h : wpSegsR P l.toArray Q R segs a w.drew) : (Code.region id l.toArray true).wp P Q a w := by
  simp only [Bool.and_eq_true, decide_eq_true_eq] at hB
  have := segs_soundR hB.1.1 hQ segs (Array.replicate l.length false) a w.drew (Closed.none _ _) hB.2 h
  rw [hB.1.2] at this
  refine wp_region_any hm ?_
  have h2 := wpAny_of_N _ _ _ _ this
  simpa using h2
end
end Go.Proofs.YtlddpdlebdjniaaDoor
