/- The program's Map in memory: entries come and go. -/
import Derived.Test.YtgbhhofmghgpbaaDoorMem
namespace Go.Proofs.YtgbhhofmghgpbaaDoor
open Go.RowKit Go.Sort Go.Shelf Go.Maps Go.ChangeMaps
set_option linter.unusedVariables false
section
variable {w w' : World} {B b : Nat} {mo mw : Option Nat} {G : GOf} {Q : QW} {N : Nat}
theorem KAt.more {M : Nat} (h : KAt w B b mo mw G Q N) (hM : N ≤ M) : KAt w B b mo mw G Q M := by
  refine ⟨h.blk, ?_, ?_, h.rows, fun k g S e => ?_, h.inj, h.both, h.low, h.lowo, h.loww⟩
  · rcases h.of with h0 | ⟨m, D, rfl, hown, ht'⟩
    · exact .inl h0
    · exact .inr ⟨m, D, rfl, hown.mono hM, ht'⟩
  · rcases h.wi with h0 | ⟨m, D, rfl, hown, ht'⟩
    · exact .inl h0
    · exact .inr ⟨m, D, rfl, hown.mono hM, ht'⟩
  · obtain ⟨⟨D, h1, h2⟩, h3⟩ := h.sets k g S e
    exact ⟨⟨D, h1.mono hM, h2⟩, h3⟩
/-- The map with turns; sets and rows stay. -/
theorem KAt.turnW {m : Nat} {Q' : QW} {M : Nat} (h : KAt w B b mo (some m) G Q N) (hM : N ≤ M) (ht : w.mapTurned w' m) (hw : WiAt w' (some m) M Q')
    (hs : ∀ k g S, Q' k = some (g, S) → Q k = some (g, S) ∨ (ISet w g M S ∧ B ≤ g ∧ mo ≠ some g ∧ m ≠ g ∧ ∀ k' S', Q k' = some (g, S') → False))
    (hi : ∀ k k' g S S', Q' k = some (g, S) → Q' k' = some (g, S') → k = k') : KAt w' B b mo (some m) G Q' M := by
  obtain ⟨es, cl, he⟩ := h.wi.at_
  have h' := h.more hM
  refine ⟨turn_cells ht he h.blk, ?_, hw, fun id g1 c ss e => turn_row ht he (h.rows id g1 c ss e), fun k g S e => ?_, hi, h.both, Nat.le_trans h.low ht.grown.size, h.lowo, h.loww⟩
  · cases mo with
    | none =>
      rcases h'.of with h0 | ⟨m, D, e, _⟩
      · exact .inl h0
      · cases e
    | some m' =>
      obtain ⟨_, _, hm⟩ := h'.of.at_
      exact h'.of.same (turn_other ht (blk_lt hm) (fun e => h.both m' rfl (by rw [e])))
  · rcases hs k g S e with e' | ⟨s1, s2, s3, s4, _⟩
    · obtain ⟨s1, s2, s3, s4⟩ := h'.sets k g S e'
      obtain ⟨_, _, hg⟩ := s1.at_
      exact ⟨s1.same (turn_other ht (blk_lt hg) (fun x => s4 (by rw [x]))), s2, s3, s4⟩
    · obtain ⟨_, _, hg⟩ := s1.at_
      exact ⟨s1.same (turn_other ht (blk_lt hg) (fun x => s4 x.symm)), s2, s3, fun x => by injection x with x; exact s4 x⟩
/-- 'delete(m.with, k)'. -/
theorem KAt.dropW {m : Nat} (h : KAt w B b mo (some m) G Q N) {k : Bs} (hk : k.length ≤ 1000000) (ty : TypeId) :
    ∃ w', (Builtin.delete_ #[48, 9] ty #[.map (some m), .string ⟨k.toArray⟩]).run Tryd.prog w = .ok (.tuple #[]) w' ∧ KAt w' B b mo (some m) G (updQ Q k none) N ∧ Fk B b w w' := by
  rcases h.wi with ⟨e, _⟩ | ⟨m', D, e, hown, ht⟩
  · cases e
  · injection e with e; subst e
    obtain ⟨es, cl, he⟩ := h.wi.at_
    obtain ⟨w', hrun, hown', hturn⟩ := hown.drop law9 Tryd.underlying48 (key9 hk) ty
    have key : ∀ k1 g1 S1, updQ Q k none k1 = some (g1, S1) → Q k1 = some (g1, S1) := fun k1 g1 S1 e => by
      by_cases e' : k1 = k
      · subst e'; rw [updQ_same] at e; cases e
      · rw [updQ_other Q e'] at e; exact e
    refine ⟨w', hrun, h.turnW (Nat.le_refl _) hturn (.inr ⟨m, _, rfl, hown', fun x => ?_⟩) (fun k g S e => .inl (key _ _ _ e)) (fun k1 k2 g1 S1 S2 e1 e2 => h.inj _ _ _ _ _ (key _ _ _ e1) (key _ _ _ e2)), Fk.turned hturn he (h.loww m rfl) b⟩
    have hx := ht x
    by_cases e : x = k
    · subst e; rw [updQ_same]; exact has_del_same
    · rw [updQ_other Q e]
      have h1 := has_del_other (D := D) (ne_str e)
      have h2 := atKey_del_other (D := D) (ne_str e) (.lit (.int .i64 (-1)))
      split
      · rename_i hn; rw [hn] at hx; rw [h1]; exact hx
      · rename_i hn; rw [hn] at hx; rw [h1, h2]; exact hx
/-- 'm.with[k] = map[int64]bool{}', the set new. -/
theorem KAt.putW {m : Nat} (h : KAt w B b mo (some m) G Q N) (hN : N ≤ 1000000) {k : Bs} (hk : k.length ≤ 1000000) {g : Nat} (hg : ISet w g (N + 1) (fun _ => false)) (hB : B ≤ g) (hmo : mo ≠ some g) (hm : m ≠ g) (hnew : ∀ k' S', Q k' = some (g, S') → False) :
    ∃ w', (Instr.mapUpdate 48 (.map (some m)) (.string ⟨k.toArray⟩) (.map (some g))).run Tryd.prog w = .ok () w' ∧ KAt w' B b mo (some m) G (updQ Q k (some (g, fun _ => false))) (N + 1) ∧ Fk B b w w' := by
  rcases h.wi with ⟨e, _⟩ | ⟨m', D, e, hown, ht⟩
  · cases e
  · injection e with e; subst e
    obtain ⟨es, cl, he⟩ := h.wi.at_
    obtain ⟨w', hrun, hown', hturn⟩ := hown.store law9 Tryd.underlying48 (by unfold maxLen; omega) (key9 hk) (val := .map (some g)) (d := .lit (.int .i64 g)) (ps := []) rfl
    refine ⟨w', hrun, h.turnW (Nat.le_succ _) hturn (.inr ⟨m, _, rfl, hown', fun x => ?_⟩) (fun k1 g1 S1 e => ?_) (fun k1 k2 g1 S1 S2 e1 e2 => ?_), Fk.turned hturn he (h.loww m rfl) b⟩
    · have hx := ht x
      by_cases e : x = k
      · subst e; rw [updQ_same]
        exact ⟨has_put_same hown.isMap (isKeyS _) _, atKey_put_same hown.isMap (isKeyS _) _ _⟩
      · rw [updQ_other Q e]
        have h1 := has_put_other (D := D) (ne_str e) (.lit (.int .i64 g))
        have h2 := atKey_put_other (D := D) (ne_str e) (.lit (.int .i64 g)) (.lit (.int .i64 (-1)))
        split
        · rename_i hn; rw [hn] at hx; rw [h1]; exact hx
        · rename_i hn; rw [hn] at hx; rw [h1, h2]; exact hx
    · by_cases e' : k1 = k
      · subst e'; rw [updQ_same] at e; injection e with e; injection e with e1 e2; subst e1; subst e2
        exact .inr ⟨hg, hB, hmo, hm, hnew⟩
      · rw [updQ_other Q e'] at e; exact .inl e
    · by_cases a1 : k1 = k <;> by_cases a2 : k2 = k
      · rw [a1, a2]
      · rw [a1, updQ_same] at e1
        rw [updQ_other Q a2] at e2
        have e3 : g = g1 := congrArg Prod.fst (Option.some.inj e1)
        subst e3
        exact (hnew _ _ e2).elim
      · rw [a2, updQ_same] at e2
        rw [updQ_other Q a1] at e1
        have e3 : g = g1 := congrArg Prod.fst (Option.some.inj e2)
        subst e3
        exact (hnew _ _ e1).elim
      · rw [updQ_other Q a1] at e1; rw [updQ_other Q a2] at e2; exact h.inj _ _ _ _ _ e1 e2
/-- The map of turns. -/
theorem KAt.turnO {m : Nat} {G' : GOf} {M : Nat} (h : KAt w B b (some m) mw G Q N) (hM : N ≤ M) (ht : w.mapTurned w' m) (ho : OfAt w' (some m) M G')
    (hr : ∀ id g c ss, G' id = some (g, c, ss) → SRow w B (.slice (some ⟨g, 0, none⟩) ss.length c) ss) : KAt w' B b (some m) mw G' Q M := by
  obtain ⟨es, cl, he⟩ := h.of.at_
  have h' := h.more hM
  refine ⟨turn_cells ht he h.blk, ho, ?_, fun id g1 c ss e => turn_row ht he (hr id g1 c ss e), fun k g S e => ?_, h.inj, h.both, Nat.le_trans h.low ht.grown.size, h.lowo, h.loww⟩
  · cases mw with
    | none =>
      rcases h'.wi with h0 | ⟨m, D, e, _⟩
      · exact .inl h0
      · cases e
    | some m' =>
      obtain ⟨_, _, hm⟩ := h'.wi.at_
      exact h'.wi.same (turn_other ht (blk_lt hm) (fun e => h.both m rfl (by rw [e])))
  · obtain ⟨s1, s2, s3, s4⟩ := h'.sets k g S e
    obtain ⟨_, _, hg⟩ := s1.at_
    exact ⟨s1.same (turn_other ht (blk_lt hg) (fun x => s3 (by rw [x]))), s2, s3, s4⟩
/-- 'delete(m.of, id)'. -/
theorem KAt.dropO (h : KAt w B b mo mw G Q N) {id : Int} (hk : (Lit.int .i64 id).wf = true) (ty : TypeId) :
    ∃ w', (Builtin.delete_ #[47, 2] ty #[.map mo, .int .i64 id]).run Tryd.prog w = .ok (.tuple #[]) w' ∧ KAt w' B b mo mw (updG G id none) Q N ∧ Fk B b w w' := by
  rcases h.of with ⟨rfl, h0⟩ | ⟨m, D, rfl, hown, ht⟩
  · refine ⟨w, Maps.drop_nil law2 Tryd.underlying47 (key2 hk) ty, ?_, Fk.refl _ _ _⟩
    have : updG G id none = G := by
      funext x; unfold updG; split
      · rw [h0]
      · rfl
    rw [this]; exact h
  · obtain ⟨es, cl, he⟩ := h.of.at_
    obtain ⟨w', hrun, hown', hturn⟩ := hown.drop law2 Tryd.underlying47 (key2 hk) ty
    refine ⟨w', hrun, h.turnO (Nat.le_refl _) hturn (.inr ⟨m, _, rfl, hown', fun x => ?_⟩) (fun i g c ss e => ?_), Fk.turned hturn he (h.lowo m rfl) b⟩
    · have hx := ht x
      by_cases e : x = id
      · subst e; rw [updG_same]; exact has_del_same
      · rw [updG_other G e]
        have h1 := has_del_other (D := D) (ne_int e)
        have h2 := atKey_del_other (D := D) (ne_int e) .nil
        split
        · rename_i hn; rw [hn] at hx; rw [h1]; exact hx
        · rename_i hn; rw [hn] at hx; rw [h1, h2]; exact hx
    · by_cases e' : i = id
      · subst e'; rw [updG_same] at e; cases e
      · rw [updG_other G e'] at e; exact h.rows _ _ _ _ e
/-- 'm.of[id] = l'. -/
theorem KAt.putO {m : Nat} (h : KAt w B b (some m) mw G Q N) (hN : N ≤ 1000000) {id : Int} (hk : (Lit.int .i64 id).wf = true) {g c : Nat} {ss : List Bs} (hrow : SRow w B (.slice (some ⟨g, 0, none⟩) ss.length c) ss) :
    ∃ w', (Instr.mapUpdate 47 (.map (some m)) (.int .i64 id) (.slice (some ⟨g, 0, none⟩) ss.length c)).run Tryd.prog w = .ok () w' ∧ KAt w' B b (some m) mw (updG G id (some (g, c, ss))) Q (N + 1) ∧ Fk B b w w' := by
  rcases h.of with ⟨e, _⟩ | ⟨m', D, e, hown, ht⟩
  · cases e
  · injection e with e; subst e
    obtain ⟨es, cl, he⟩ := h.of.at_
    obtain ⟨w', hrun, hown', hturn⟩ := hown.store law2 Tryd.underlying47 (by unfold maxLen; omega) (key2 hk) (val := .slice (some ⟨g, 0, none⟩) ss.length c) (d := slData g ss.length c) (ps := []) rfl
    refine ⟨w', hrun, h.turnO (Nat.le_succ _) hturn (.inr ⟨m, _, rfl, hown', fun x => ?_⟩) (fun i g1 c1 s1 e => ?_), Fk.turned hturn he (h.lowo m rfl) b⟩
    · have hx := ht x
      by_cases e : x = id
      · subst e; rw [updG_same]
        exact ⟨has_put_same hown.isMap (isKeyI _) _, atKey_put_same hown.isMap (isKeyI _) _ _⟩
      · rw [updG_other G e]
        have h1 := has_put_other (D := D) (ne_int e) (slData g ss.length c)
        have h2 := atKey_put_other (D := D) (ne_int e) (slData g ss.length c) .nil
        split
        · rename_i hn; rw [hn] at hx; rw [h1]; exact hx
        · rename_i hn; rw [hn] at hx; rw [h1, h2]; exact hx
    · by_cases e' : i = id
      · subst e'; rw [updG_same] at e; injection e with e; injection e with e1 e2; injection e2 with e2 e3; subst e1; subst e2; subst e3; exact hrow
      · rw [updG_other G e'] at e; exact h.rows _ _ _ _ e
end
end Go.Proofs.YtgbhhofmghgpbaaDoor
