/- keys.Parse: what lies in memory between two words. -/
import Derived.Test.YtgbhhofmghgpbaaDoorSplitC
import Derived.Test.YtgbhhofmghgpbaaDoorAwake
import Derived.RangeFuncCalls
namespace Go.Proofs.YtgbhhofmghgpbaaDoor
open Go.RowKit Go.Sort Go.Shelf Go.Maps Go.ChangeMaps
set_option linter.unusedVariables false
set_option linter.unusedSimpArgs false
theorem SSet.same {w w' : World} {b n : Nat} {T : List Bs} (h : SSet w b n T) (hs : w'.heap[b]? = w.heap[b]?) : SSet w' b n T := by
  obtain ⟨D, h1, h2⟩ := h
  refine ⟨D, ?_, h2⟩
  obtain ⟨es, cl, he, h3⟩ := h1
  exact ⟨es, cl, hs.trans he, h3⟩
/-- Between two words: L has come. -/
structure ParI (w0 : World) (z b S : Nat) (L : List Bs) (W : World) : Prop where
  size : S ≤ W.heap.size
  r0 : W.heap[z]? = some (.cells #[.slice none 0 0] 23 (0, 0))
  r1 : W.heap[z + 1]? = some (.cells #[.int .i64 0] 24 (0, 0))
  box : ∃ v, W.heap[z + 2]? = some (.cells #[v] 23 (0, 0)) ∧ W.ownsRow S 9 1 v L.length (L.map encStr)
  set : SSet W (z + 3) L.length L
  seen : W.heap[z + 4]? = some (.cells #[.map (some (z + 3))] 40 (0, 0))
  below : Below z w0 W
theorem row_turn {A B : World} {S b : Nat} {row : Option Nat} (hb : b < S) (hg : A.grownBy B row) (ht : Turn b S A row) {e : TypeId} {size : Nat} {v : Value} {n : Nat} {xs : List Value} (h : A.ownsRow S e size v n xs) : B.ownsRow S e size v n xs := by
  refine h.kept hg ?_
  rcases h.2 with ⟨rfl, _⟩ | ⟨g, cap, cur, rfl, hlow, hgb, _⟩
  · exact .inl rfl
  · refine .inr fun e' => ?_
    rcases ht g e'.symm with e | ⟨_, o, ho, hc⟩
    · omega
    · rw [hgb] at ho; cases ho; cases hc
theorem ParI.bears {w0 : World} {z b S : Nat} {L : List Bs} (hz : z + 4 < b) (hb : b < S) : Bears b S (ParI w0 z b S L) := fun A B row h hg ht => by
  have keep : ∀ k, k ≠ b → k < S → B.heap[k]? = A.heap[k]? := fun k hk hlt => hg.block k (Nat.lt_of_lt_of_le hlt h.size) fun e => by
    rcases ht k e.symm with h | ⟨h, _⟩ <;> omega
  obtain ⟨v, hv, hr⟩ := h.box
  exact ⟨Nat.le_trans h.size hg.size, (keep z (by omega) (by omega)).trans h.r0, (keep (z + 1) (by omega) (by omega)).trans h.r1,
    ⟨v, (keep (z + 2) (by omega) (by omega)).trans hv, row_turn hb hg ht hr⟩,
    h.set.same (keep (z + 3) (by omega) (by omega)), (keep (z + 4) (by omega) (by omega)).trans h.seen,
    h.below.trans ⟨hg.os, hg.tape, hg.output, hg.size, fun k hk => keep k (by omega) (by omega)⟩⟩
/-- Left early: nothing, and the code. -/
structure ParX (w0 : World) (z S : Nat) (W : World) : Prop where
  size : S ≤ W.heap.size
  r0 : W.heap[z]? = some (.cells #[.slice none 0 0] 23 (0, 0))
  r1 : W.heap[z + 1]? = some (.cells #[.int .i64 2] 24 (0, 0))
  below : Below z w0 W
theorem ParX.bears {w0 : World} {z b S : Nat} (hz : z + 4 < b) (hb : b < S) : Bears b S (ParX w0 z S) := fun A B row h hg ht => by
  have keep : ∀ k, k ≠ b → k < S → B.heap[k]? = A.heap[k]? := fun k hk hlt => hg.block k (Nat.lt_of_lt_of_le hlt h.size) fun e => by
    rcases ht k e.symm with h | ⟨h, _⟩ <;> omega
  exact ⟨Nat.le_trans h.size hg.size, (keep z (by omega) (by omega)).trans h.r0, (keep (z + 1) (by omega) (by omega)).trans h.r1,
    h.below.trans ⟨hg.os, hg.tape, hg.output, hg.size, fun k hk => keep k (by omega) (by omega)⟩⟩
/-- A step of the body: below S just the box and the map turn. -/
structure Step (z S : Nat) (A B : World) : Prop where
  os : B.os = A.os
  tape : B.tape = A.tape
  output : B.output = A.output
  size : A.heap.size ≤ B.heap.size
  low : ∀ k, k < S → k ≠ z + 2 → k ≠ z + 3 → B.heap[k]? = A.heap[k]?
  high : ∀ (k : Nat) (o : Obj), S ≤ k → A.heap[k]? = some o → o.isCells = false → B.heap[k]? = some o
theorem Step.refl (z S : Nat) (A : World) : Step z S A A := ⟨rfl, rfl, rfl, Nat.le_refl _, fun _ _ _ _ => rfl, fun _ _ _ h _ => h⟩
theorem Step.trans {z S : Nat} {A B C : World} (h : Step z S A B) (k : Step z S B C) : Step z S A C :=
  ⟨k.os.trans h.os, k.tape.trans h.tape, k.output.trans h.output, Nat.le_trans h.size k.size, fun i h1 h2 h3 => (k.low i h1 h2 h3).trans (h.low i h1 h2 h3), fun i o h1 h2 h3 => k.high i o h1 (h.high i o h1 h2 h3) h3⟩
theorem Step.kb {z b S : Nat} {A B : World} (h : Step z S A B) (hz : z + 4 < b) (hb : b + 2 < S) : Kb b A B := ⟨h.low b (by omega) (by omega) (by omega), h.low (b + 1) (by omega) (by omega) (by omega), h.low (b + 2) (by omega) (by omega) (by omega)⟩
theorem Step.from {z S : Nat} {A B : World} (h : Step z S A B) : KeepsFrom S A B := ⟨h.size, fun k o h1 h2 h3 => h.high k o h1 h2 h3⟩
theorem Step.below {z S : Nat} {A B : World} (h : Step z S A B) (hS : z ≤ S) : Below z A B := ⟨h.os, h.tape, h.output, h.size, fun k hk => h.low k (by omega) (by omega) (by omega)⟩
theorem Step.alloc {z S : Nat} {A : World} (hS : S ≤ A.heap.size) (cs : Array Value) (t : TypeId) (fr : Nat × Nat) : Step z S A (A.alloc (.cells cs t fr)) :=
  ⟨rfl, rfl, rfl, by simp, fun k hk _ _ => Below.heap_alloc A _ k (by omega), fun k o _ hk _ => (Below.heap_alloc A _ k (blk_lt hk)).trans hk⟩
/-- A row of the loop's own turns. -/
theorem Step.grown {z S : Nat} {A B : World} (hS : S ≤ A.heap.size) {v : Value} {e : TypeId} {n : Nat} {xs : List Value} (hr : A.ownsRow S e 1 v n xs) (hg : A.grownBy B v.ownBlock) : Step z S A B := by
  refine ⟨hg.os, hg.tape, hg.output, hg.size, fun k hk _ _ => hg.block k (by omega) fun e' => ?_, fun k o h1 h2 h3 => (hg.block k (blk_lt h2) fun e' => ?_).trans h2⟩
  · rcases hr.2 with ⟨rfl, _⟩ | ⟨g, cap, cur, rfl, hlow, hgb, _⟩
    · cases e'
    · have : k = g := by simpa [Value.ownBlock] using e'
      omega
  · rcases hr.2 with ⟨rfl, _⟩ | ⟨g, cap, cur, rfl, hlow, hgb, _⟩
    · cases e'
    · have : k = g := by simpa [Value.ownBlock] using e'
      subst this
      rw [hgb] at h2; cases h2; cases h3
theorem Step.set {z S : Nat} {A : World} (u : Value) : Step z S A (A.setCell ⟨z + 2, 0, none⟩ u) :=
  ⟨rfl, rfl, rfl, (KeepsOthers.setCell A _ u).size, fun k _ hk _ => Below.heap_setCell A _ u k (by simpa using hk), fun k o _ h2 h3 => (KeepsOthers.setCell A _ u).same k o h2 h3⟩
theorem Step.turned {z S : Nat} {A B : World} (hSA : S ≤ A.heap.size) (hS : z + 3 < S) (ht : A.mapTurned B (z + 3)) : Step z S A B := by
  have hg := ht.grown
  exact ⟨hg.os, hg.tape, hg.output, hg.size, fun k hk h2 h3 => hg.block k (by omega) (fun e => h3 (by injection e with e)), fun k o h1 h2 h3 => (hg.block k (blk_lt h2) (fun e => by injection e with e; omega)).trans h2⟩
set_option maxRecDepth 100000 in
/-- A word is taken in: the row grows, then the set. -/
theorem par_add {w0 W w' : World} {z b S m c c' : Nat} {A A' : Option Addr} {L : List Bs} {x : Bs} (hz : z + 4 < b) (hb : b + 2 < S) (h : ParI w0 z b S L W) (hm : m = L.length) (hl : L.length ≤ 10000) (hx : x.length ≤ 10000)
    (hv : W.heap[z + 2]? = some (.cells #[.slice A m c] 23 (0, 0))) (hro : W.ownsRow S 9 1 (.slice A m c) m (L.map encStr))
    (hown : w'.ownsRow S 9 1 (.slice A' (m + 1) c') (m + 1) (L.map encStr ++ [encStr x])) (hg' : (W.alloc (.cells #[encStr x] 9)).grownBy w' (Value.slice A m c).ownBlock) :
    w'.cell? ⟨z + 2, 0, none⟩ = some (.slice A m c) ∧ w'.frozen? ⟨z + 2, 0, none⟩ = false ∧ ∃ w3, (w'.setCell ⟨z + 2, 0, none⟩ (.slice A' (m + 1) c')).cell? ⟨z + 4, 0, none⟩ = some (.map (some (z + 3))) ∧
      (Instr.mapUpdate 40 (.map (some (z + 3))) (.string ⟨x.toArray⟩) (.bool true)).run Tryd.prog (w'.setCell ⟨z + 2, 0, none⟩ (.slice A' (m + 1) c')) = .ok () w3 ∧ ParI w0 z b S (L ++ [x]) w3 ∧ KeepsFrom S W w3 ∧ Kb b W w3 := by
  have hg2 : W.grownBy w' (Value.slice A m c).ownBlock := grown_trans (World.grownBy_alloc W _ _) hg'
  have hbl : Below S W w' := own_below hro hg2 h.size
  have st1 : Step z S W w' := Step.grown h.size hro hg2
  have hv' := (hbl.block (z + 2) (by omega)).trans hv
  obtain ⟨W2, hW2⟩ : ∃ W2, W2 = w'.setCell ⟨z + 2, 0, none⟩ (.slice A' (m + 1) c') := ⟨_, rfl⟩
  have st2 : Step z S W W2 := st1.trans (by rw [hW2]; exact Step.set _)
  have hv2 : W2.heap[z + 2]? = some (.cells #[.slice A' (m + 1) c'] 23 (0, 0)) := by rw [hW2, blk_set hv']; rfl
  have hset2 : SSet W2 (z + 3) L.length L := h.set.same (by rw [hW2]; exact (Below.heap_setCell _ _ _ _ (by simp)).trans (hbl.block (z + 3) (by omega)))
  have hown2 : W2.ownsRow S 9 1 (.slice A' (m + 1) c') (m + 1) (L.map encStr ++ [encStr x]) := by
    rw [hW2]
    exact row_turn (b := z + 2) (by omega) (grownBy_setCell' w' (z + 2) _) (fun k e => .inl (by injection e with e; exact e.symm)) hown
  obtain ⟨w3, hput, hs, ht⟩ := hset2.put (by omega) (k := x) (by omega)
  have hS2 : S ≤ W2.heap.size := Nat.le_trans h.size st2.size
  have st3 : Step z S W w3 := st2.trans (Step.turned hS2 (by omega) ht)
  refine ⟨blk_cell hv' 0, blk_free hv' 0, w3, ?_, by rw [← hW2]; exact hput, ?_, st3.from, st3.kb hz hb⟩
  · rw [← hW2]
    exact blk_cell ((st2.low (z + 4) (by omega) (by omega) (by omega)).trans h.seen) 0
  · have e : (L ++ [x]).length = m + 1 := by rw [List.length_append, hm]; rfl
    refine ⟨Nat.le_trans h.size st3.size, (st3.low z (by omega) (by omega) (by omega)).trans h.r0, (st3.low (z + 1) (by omega) (by omega) (by omega)).trans h.r1, ⟨.slice A' (m + 1) c', ?_, ?_⟩, ?_, (st3.low (z + 4) (by omega) (by omega) (by omega)).trans h.seen, h.below.trans (st3.below (by omega))⟩
    · exact (ht.grown.block _ (blk_lt hv2) (fun e => by injection e with e; omega)).trans hv2
    · rw [e, List.map_append]
      exact row_turn (b := z + 3) (by omega) ht.grown (fun k e => .inl (by injection e with e; exact e.symm)) hown2
    · rw [List.length_append]; exact hs
end Go.Proofs.YtgbhhofmghgpbaaDoor
