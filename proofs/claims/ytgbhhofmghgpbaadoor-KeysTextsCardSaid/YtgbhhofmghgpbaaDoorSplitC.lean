/- The loop over the words of a text: the round, the loop's record, what the body owes. -/
import Derived.Test.YtgbhhofmghgpbaaDoorSplitB
namespace Go.Proofs.YtgbhhofmghgpbaaDoor
open Go.RowKit Go.Shelf
set_option linter.unusedVariables false
set_option linter.unusedSimpArgs false
/-- A turn of the loop's own blocks, or of the iterator's box. -/
def Turn (b B : Nat) (A : World) (row : Option Nat) : Prop := ∀ k, row = some k → k = b ∨ (B ≤ k ∧ ∃ o : Obj, A.heap[k]? = some o ∧ o.isCells = false)
/-- An invariant that does not mind them. -/
def Bears (b B : Nat) (I : World → Prop) : Prop := ∀ A A' row, I A → A.grownBy A' row → Turn b B A row → I A'
theorem Bears.put {b B : Nat} {I : World → Prop} (h : Bears b B I) {A : World} {k : Nat} {o : Obj} (o' : Obj) (hI : I A) (hk : B ≤ k) (ho : A.heap[k]? = some o) (hc : o.isCells = false) : I (A.putObj k o') :=
  h A _ _ hI (grownBy_putObj' A k o') fun j e => by injection e with e; subst e; exact .inr ⟨hk, o, ho, hc⟩
theorem Bears.new {b B : Nat} {I : World → Prop} (h : Bears b B I) {A : World} (o : Obj) (hI : I A) : I (A.alloc o) := h A _ none hI (World.grownBy_alloc A o none) fun _ e => by cases e
set_option maxHeartbeats 2000000 in
theorem wpIn_range_split {g : Operand} {ps : Array Tmp} {assign body : Code} {Q : Exit → Act → World → Prop} {a : Act} {w : World} {n : Nat} (hn : 3 ≤ n) (b : Nat) (s : Bs) (hlen : s.length ≤ 1000000) (hb : b + 2 < w.heap.size)
    (hg : a.eval g = .func (.func 42) #[] #[.pointer (some ⟨b + 1, 0, none⟩), .pointer (some ⟨b, 0, none⟩), .pointer (some ⟨b + 2, 0, none⟩)]) (hps : ps.size = 1)
    (I : List Bs → World → Prop) (Ix : Code → List Bs → World → Prop) (hI : ∀ pre, Bears b w.heap.size (I pre)) (hIx : ∀ c pre, Bears b w.heap.size (Ix c pre)) (hB : Boxes b s w) (h0 : I [] w) (a₁ : Bs → Act)
    (hassign : ∀ (l : Nat) (x : Bs) (W : World) (K : Act → World → Prop), K (a₁ x) W →
      assign.wpIn (Fence.wide.inRound l) (n - 1 - 1) Tryd.prog (Exit.then K (fun _ _ _ => False)) { tmps := (ps.zip #[Value.string ⟨x.toArray⟩]).foldl (fun t (p, v) => t.setIfInBounds p v) a.tmps, defers := [] } W)
    (hbody : ∀ (l : Nat) (pre : List Bs) (x : Bs) (W : World), I pre W → (pre ++ [x]) <+: splitW s → w.heap.size ≤ W.heap.size → body.wpIn (Fence.wide.inRound l) (n - 1 - 1) Tryd.prog (ownPostG w.heap.size (Kb b) I Ix (pre ++ [x]) W) (a₁ x) W)
    (hdone : ∀ (D : Nat) (W : World), w.heap.size ≤ D → I (splitW s) W → W.heap[D]? = some (.deferred (some [])) → Q .normal { a with defers := { target := .collected D, args := #[] } :: a.defers } W)
    (hstop : ∀ (D : Nat) (c : Code) (pre : List Bs) (W : World), w.heap.size ≤ D → pre <+: splitW s → Ix c pre W → W.heap[D]? = some (.deferred (some [])) → c.wpIn Fence.wide n Tryd.prog Q { a with defers := { target := .collected D, args := #[] } :: a.defers } W) :
    (Code.rangeFunc g ps assign body).wpIn Fence.wide n Tryd.prog Q a w := by
  refine wpIn_rangeFunc fun fn hfn => ?_
  obtain ⟨R, hR⟩ : ∃ R : LoopState → Option Code → Loop, R = fun st pe => { state := st, pending := pe, fn, tmps := a.tmps, params := ps, assign, body, defers := w.heap.size } := ⟨_, rfl⟩
  obtain ⟨V, hV⟩ : ∃ V, V = (w.alloc (.deferred (some []))).alloc (.loop (R .ready none)) := ⟨_, rfl⟩
  have hVb : w.heap.size + 2 = V.heap.size := by rw [hV]; simp
  have hV1 : V.heap[w.heap.size + 1]? = some (.loop (R .ready none)) := by rw [hV]; exact (heap_new2 w _ _).2
  have hV0 : V.heap[w.heap.size]? = some (.deferred (some [])) := by rw [hV]; exact (heap_new2 w _ _).1
  have hIV : I [] V := by rw [hV]; exact (hI []).new _ ((hI []).new _ h0)
  have hold : ∀ k, k < w.heap.size → V.heap[k]? = w.heap[k]? := fun k hk => by
    rw [hV]; exact (Below.heap_alloc _ _ k (by simp; omega)).trans (Below.heap_alloc w _ k hk)
  have hBV : Boxes b s V := ⟨(hold b (by omega)).trans hB.s, (hold (b + 1) (by omega)).trans hB.sep, (hold (b + 2) hb).trans hB.save⟩
  refine ⟨w.heap.size + 1, [{ target := .collected w.heap.size, args := #[] }], V, { target := .fn (.func 42) #[.pointer (some ⟨b + 1, 0, none⟩), .pointer (some ⟨b, 0, none⟩), .pointer (some ⟨b + 2, 0, none⟩)], args := #[.func (.yield (w.heap.size + 1)) #[] #[]] }, V, 42,
    #[.func (.yield (w.heap.size + 1)) #[] #[], .pointer (some ⟨b + 1, 0, none⟩), .pointer (some ⟨b, 0, none⟩), .pointer (some ⟨b + 2, 0, none⟩)], V, ?_, ?_, fun _ _ => trivial, ?_, fun _ => by omega, ?_⟩
  · rw [hV, hR]; exact run_enterLoop_outer _ _ _ _ _
  · simp only [resolve, hg]
    simp [go_sem]
  · have eg := enters_of Tryd.func42 (by kernel_rfl) rfl
    simp [invoke, go_sem, eg]
  · refine (split_in (n - 1) (by omega) (w.heap.size + 1) b s hlen
      (fun pre W => I pre W ∧ W.heap[w.heap.size + 1]? = some (.loop (R .ready none)) ∧ W.heap[w.heap.size]? = some (.deferred (some [])))
      (fun pre W => ∃ c, Ix c pre W ∧ W.heap[w.heap.size + 1]? = some (.loop (R .done (some c))) ∧ W.heap[w.heap.size]? = some (.deferred (some [])))
      (fun pre A B hs hg => ⟨hI pre A B _ hs.1 hg fun k e => by injection e with e; exact .inl e.symm,
        (hg.block _ (blk_lt hs.2.1) (fun e => by injection e with e; omega)).trans hs.2.1, (hg.block _ (blk_lt hs.2.2) (fun e => by injection e with e; omega)).trans hs.2.2⟩)
      ?_ V hBV ⟨hIV, hV1, hV0⟩).mono ?_
    · -- a round
      rintro pre x W ⟨hi, hl, hk⟩ hpre
      have hy := run_yield (P := Tryd.prog) (args := #[Value.string ⟨x.toArray⟩]) hl (by rw [hR]; simp [hps])
      rw [hR] at hy
      refine ⟨fn, _, assign, body, hy, roundIn_of_wpIn hfn (hassign _ x W _ ⟨_, run_beginRound hl (by rw [hR]), ?_⟩)⟩
      have hlt := blk_lt hl
      obtain ⟨W2, hW2⟩ : ∃ W2, W2 = W.putObj (w.heap.size + 1) (.loop { R .ready none with state := .busy }) := ⟨_, rfl⟩
      have hl2 : W2.heap[w.heap.size + 1]? = some (.loop { R .ready none with state := .busy }) := by rw [hW2]; exact World.putObj_heap_same hlt
      have hk2 : W2.heap[w.heap.size]? = some (.deferred (some [])) := by rw [hW2]; exact (World.putObj_heap_other (by omega)).trans hk
      have hi2 : I pre W2 := by rw [hW2]; exact (hI pre).put _ hi (by omega) hl rfl
      have hb2 : Kb b W W2 := by rw [hW2]; exact ⟨World.putObj_heap_other (by omega), World.putObj_heap_other (by omega), World.putObj_heap_other (by omega)⟩
      rw [← hW2]
      refine wpIn_mono (hbody _ pre x W2 hi2 hpre (by have := blk_lt hk2; omega)) ?_
      have fin : ∀ (jump : Option Code) (W3 : World), KeepsFrom w.heap.size W2 W3 →
          W3.heap[w.heap.size + 1]? = some (.loop { R .ready none with state := .busy }) ∧
          (Instr.endRound (w.heap.size + 1) jump).run Tryd.prog W3 = .ok (.bool jump.isNone) (W3.putObj (w.heap.size + 1) (.loop (R (if jump.isNone then .ready else .done) jump))) ∧
          (W3.putObj (w.heap.size + 1) (.loop (R (if jump.isNone then .ready else .done) jump))).heap[w.heap.size + 1]? = some (.loop (R (if jump.isNone then .ready else .done) jump)) ∧
          (W3.putObj (w.heap.size + 1) (.loop (R (if jump.isNone then .ready else .done) jump))).heap[w.heap.size]? = some (.deferred (some [])) := fun jump W3 k3 => by
        have hl3 := k3.same _ _ (by omega) hl2 rfl
        have hk3 := k3.same _ _ (by omega) hk2 rfl
        have h3 := run_endRound (P := Tryd.prog) jump hl3
        rw [hR] at h3 hl3 ⊢
        exact ⟨hl3, h3, World.putObj_heap_same (blk_lt hl3), (World.putObj_heap_other (by omega)).trans hk3⟩
      rintro e a3 W3 hp
      cases e with
      | normal =>
        obtain ⟨k3, kb3, hi3⟩ := hp
        obtain ⟨hl3, hr, hl4, hk4⟩ := fin none W3 k3
        refine ⟨_, _, hr, .inl ⟨rfl, ⟨(hI _).put _ hi3 (by omega) hl3 rfl, hl4, hk4⟩, hb2.trans (kb3.trans ?_)⟩⟩
        exact ⟨World.putObj_heap_other (by omega), World.putObj_heap_other (by omega), World.putObj_heap_other (by omega)⟩
      | ret =>
        obtain ⟨k3, hi3⟩ := hp
        obtain ⟨hl3, hr, hl4, hk4⟩ := fin (some .ret) W3 k3
        exact ⟨_, _, hr, .inr ⟨rfl, .ret, (hIx _ _).put _ hi3 (by omega) hl3 rfl, hl4, hk4⟩⟩
      | exit id =>
        obtain ⟨k3, hi3⟩ := hp
        obtain ⟨hl3, hr, hl4, hk4⟩ := fin (some (.exit id)) W3 k3
        exact ⟨_, _, hr, .inr ⟨rfl, .exit id, (hIx _ _).put _ hi3 (by omega) hl3 rfl, hl4, hk4⟩⟩
      | goto t =>
        obtain ⟨k3, hi3⟩ := hp
        obtain ⟨hl3, hr, hl4, hk4⟩ := fin (some (.goto t)) W3 k3
        exact ⟨_, _, hr, .inr ⟨rfl, .goto t, (hIx _ _).put _ hi3 (by omega) hl3 rfl, hl4, hk4⟩⟩
      | panic ch => exact hp.elim
      | outgrown => exact hp.elim
    · -- behind it
      rintro e W2 ⟨⟨v, rfl⟩, (⟨hi, hl, hk⟩ | ⟨pre, hp, c, hi, hl, hk⟩)⟩
      · exact ⟨none, _, by have := run_endLoop (P := Tryd.prog) hl (by rw [hR]; simp); rw [hR] at this; exact this, hdone _ _ (Nat.le_refl _) ((hI _).put _ hi (by omega) hl rfl) ((World.putObj_heap_other (by omega)).trans hk)⟩
      · exact ⟨some c, _, by have := run_endLoop (P := Tryd.prog) hl (by rw [hR]; simp); rw [hR] at this; exact this, hstop _ c pre _ (Nat.le_refl _) hp ((hIx _ _).put _ hi (by omega) hl rfl) ((World.putObj_heap_other (by omega)).trans hk)⟩
end Go.Proofs.YtgbhhofmghgpbaaDoor
