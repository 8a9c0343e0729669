/- Keys come and go. -/
import Derived.Test.YteeeabmfebofiaaFrame
namespace Go.Proofs.Yteeeabmfebofiaa
open Go.RowKit Go.ChangeMaps Go.Maps
set_option linter.unusedVariables false
section
variable {w : World} {B b : Nat} {mo : Option Nat} {F : St} {N : Nat} {s rc : Int}
theorem PinsAt.mapAt {mb : Nat} (h : PinsAt w B b (some mb) F N s rc) : ∃ D, w.ownsMap Try.prog 2 ptrElem mb N D ∧ Ties D F ∧ ∃ es clock, w.heap[mb]? = some (.map es clock) := by
  rcases h.map with ⟨e, _⟩ | ⟨mb', D, e, hown, ht⟩
  · cases e
  · injection e with e; subst e
    have hown' := hown
    obtain ⟨es, clock, he, _⟩ := hown'
    exact ⟨D, hown, ht, es, clock, he⟩
theorem isKey (k : Int) (hk : (Lit.int .i64 k).wf = true) : WideAt.IsKeyLit (Lit.int .i64 k) := by trivial
theorem lit_ne {k k' : Int} (h : k' ≠ k) : (Lit.int .i64 k' : Lit) ≠ .int .i64 k := fun e => by injection e with _ e; exact h e
/-- 'p.counts[k] = c', c new. -/
theorem PinsAt.put {mb : Nat} (h : PinsAt w B b (some mb) F N s rc) {k : Int} (hk : (Lit.int .i64 k).wf = true) (hF : F k = none) {g : Nat} {c : Int} (hg : w.heap[g]? = some (.cells #[.int .i64 c] 87 (0, 0))) (hB : B ≤ g) (hnew : ∀ k g' c', F k = some (g', c') → g' ≠ g) (hN : N ≤ 100000) :
    ∃ w', (Instr.mapUpdate 67 (.map (some mb)) (.int .i64 k) (.pointer (some ⟨g, 0, none⟩))).run Try.prog w = .ok () w' ∧ PinsAt w' B b (some mb) (upd F k (some (g, c))) (N + 1) s rc ∧ w.mapTurned w' mb := by
  obtain ⟨D, hown, ht, es, clock, he⟩ := h.mapAt
  obtain ⟨w', hrun, hown', hturn⟩ := hown.store law2 Try.underlying67 (by unfold maxLen; omega) (key2 hk) (val := .pointer (some ⟨g, 0, none⟩)) (d := .lit (.int .i64 g)) (ps := []) rfl
  have hgr := hturn.grown
  have hb : ∀ {i : Nat} {cs : Array Value} {t : TypeId} {z : Nat × Nat}, w.heap[i]? = some (.cells cs t z) → w'.heap[i]? = some (.cells cs t z) := fun {i cs t z} hi => (hgr.block i (blk_lt hi) (fun e => by
    injection e with e; subst e; rw [he] at hi; cases hi)).trans hi
  refine ⟨w', hrun, ⟨hb h.blk, .inr ⟨mb, _, rfl, hown', fun k1 => ?_⟩, fun k1 g1 c1 e => ?_, fun k1 k2 g1 c1 c2 e1 e2 => ?_, h.low, h.lowm⟩, hturn⟩
  · have hk1 := ht k1
    by_cases e : k1 = k
    · subst e; rw [upd_same]
      exact ⟨has_put_same hown.isMap (isKey _ hk) _, atKey_put_same hown.isMap (isKey _ hk) _ _⟩
    · rw [upd_other F e]
      have h1 := has_put_other (D := D) (lit_ne e) (.lit (.int .i64 g))
      have h2 := atKey_put_other (D := D) (lit_ne e) (.lit (.int .i64 g)) (.lit (.int .i64 (-1)))
      split
      · rename_i hn; rw [hn] at hk1; rw [h1]; exact hk1
      · rename_i hn; rw [hn] at hk1; rw [h1, h2]; exact hk1
  · by_cases e' : k1 = k
    · subst e'; rw [upd_same] at e; injection e with e; injection e with e1 e2; subst e1; subst e2
      exact ⟨hb hg, hB⟩
    · rw [upd_other F e'] at e
      exact ⟨hb (h.cnt k1 g1 c1 e).1, (h.cnt k1 g1 c1 e).2⟩
  · by_cases a1 : k1 = k <;> by_cases a2 : k2 = k
    · rw [a1, a2]
    · rw [a1, upd_same] at e1
      rw [upd_other F a2] at e2
      have e3 : g = g1 := congrArg Prod.fst (Option.some.inj e1)
      exact absurd e3.symm (hnew k2 g1 c2 e2)
    · rw [a2, upd_same] at e2
      rw [upd_other F a1] at e1
      have e3 : g = g1 := congrArg Prod.fst (Option.some.inj e2)
      exact absurd e3.symm (hnew k1 g1 c1 e1)
    · rw [upd_other F a1] at e1; rw [upd_other F a2] at e2; exact h.inj _ _ _ _ _ e1 e2
/-- 'delete(p.counts, k)'. -/
theorem PinsAt.del {mb : Nat} (h : PinsAt w B b (some mb) F N s rc) {k : Int} (hk : (Lit.int .i64 k).wf = true) (ty : TypeId) :
    ∃ w', (Builtin.delete_ #[67, 2] ty #[.map (some mb), .int .i64 k]).run Try.prog w = .ok (.tuple #[]) w' ∧ PinsAt w' B b (some mb) (upd F k none) N s rc ∧ w.mapTurned w' mb := by
  obtain ⟨D, hown, ht, es, clock, he⟩ := h.mapAt
  obtain ⟨w', hrun, hown', hturn⟩ := hown.drop law2 Try.underlying67 (key2 hk) ty
  have hgr := hturn.grown
  have hb : ∀ {i : Nat} {cs : Array Value} {t : TypeId} {z : Nat × Nat}, w.heap[i]? = some (.cells cs t z) → w'.heap[i]? = some (.cells cs t z) := fun {i cs t z} hi => (hgr.block i (blk_lt hi) (fun e => by
    injection e with e; subst e; rw [he] at hi; cases hi)).trans hi
  have key : ∀ k1 g1 c1, upd F k none k1 = some (g1, c1) → F k1 = some (g1, c1) := fun k1 g1 c1 e => by
    by_cases e' : k1 = k
    · subst e'; rw [upd_same] at e; cases e
    · rw [upd_other F e'] at e; exact e
  refine ⟨w', hrun, ⟨hb h.blk, .inr ⟨mb, _, rfl, hown', fun k1 => ?_⟩, fun k1 g1 c1 e => ⟨hb (h.cnt k1 g1 c1 (key _ _ _ e)).1, (h.cnt k1 g1 c1 (key _ _ _ e)).2⟩, fun k1 k2 g1 c1 c2 e1 e2 => h.inj _ _ _ _ _ (key _ _ _ e1) (key _ _ _ e2), h.low, h.lowm⟩, hturn⟩
  have hk1 := ht k1
  by_cases e : k1 = k
  · subst e; rw [upd_same]; exact has_del_same
  · rw [upd_other F e]
    have h1 := has_del_other (D := D) (lit_ne e)
    have h2 := atKey_del_other (D := D) (lit_ne e) (.lit (.int .i64 (-1)))
    split
    · rename_i hn; rw [hn] at hk1; rw [h1]; exact hk1
    · rename_i hn; rw [hn] at hk1; rw [h1, h2]; exact hk1
end
end Go.Proofs.Yteeeabmfebofiaa
