/- Tie, walked. -/
import Derived.Test.YtgbhhofmghgpbaaDoorCheck2
import Derived.WalkSpells
namespace Go.Proofs.YtgbhhofmghgpbaaDoor
open Go.RowKit Go.Sort Go.Shelf Go.Maps Go.ChangeMaps
set_option linter.unusedVariables false

theorem tie_low (w : World) (b : Nat) (id : Int) (sv : Value) (hid : id < 1) : Calls Tryd.prog 13 #[.pointer (some ⟨b, 0, none⟩), .int .i64 id, sv] w fun e w' => e = .returned (.int .i64 1) ∧ w = w' := by
  go_enter Tryd.func13, Tryd.ntmps13
  go_wp2
  go_ret
  exact ⟨rfl, rfl⟩
set_option maxRecDepth 100000 in
set_option maxHeartbeats 2000000 in
theorem tie_bad (w : World) (b : Nat) (id : Int) (sv : Value) (ss : List Bs) (hid : 1 ≤ id) (hT : Texts w.heap.size w sv ss) (hl : ss.length ≤ 100000) (hk : ∀ k ∈ ss, k.length ≤ 1000000) (hc : checkN ss ≠ 0) :
    Calls Tryd.prog 13 #[.pointer (some ⟨b, 0, none⟩), .int .i64 id, sv] w fun e w' => e = .returned (.int .i64 (checkN ss)) ∧ Ext w w' := by
  have hch := check_any w sv ss hT hl hk
  obtain ⟨cn, hcn⟩ : ∃ cn, cn = checkN ss := ⟨_, rfl⟩
  rw [← hcn] at hch hc ⊢
  have HCH := Lib.hid hch
  have hc1 : (cn != 0) = true := by simpa using hc
  have hc2 : decide (cn = 0) = false := by simpa using hc
  clear hch hT hk hcn
  go_enter Tryd.func13, Tryd.ntmps13
  go_wp2_with (go_at_call 21; refine HCH.out.mono ?_; rintro e w1 ⟨rfl, x1⟩)
  go_ret
  exact ⟨rfl, x1⟩
/-- Both maps made. -/
theorem KAt.init {w : World} {B b : Nat} {G : GOf} {Q : QW} {N : Nat} (h : KAt w B b none none G Q N) (hB : B ≤ w.heap.size) :
    KAt ((((w.setCell ⟨b, 0, none⟩ (.map (some w.heap.size))).setCell ⟨b, 1, none⟩ (.map (some (w.heap.size + 1)))).alloc (.map #[] 0)).alloc (.map #[] 0)) B b (some w.heap.size) (some (w.heap.size + 1)) G Q N := by
  have hG : ∀ id, G id = none := by
    rcases h.of with ⟨_, h0⟩ | ⟨m, D, e, _⟩
    · exact h0
    · cases e
  have hQ : ∀ k, Q k = none := by
    rcases h.wi with ⟨_, h0⟩ | ⟨m, D, e, _⟩
    · exact h0
    · cases e
  have lb := blk_lt h.blk
  obtain ⟨w1, hw1⟩ : ∃ w1, w1 = (w.setCell ⟨b, 0, none⟩ (.map (some w.heap.size))).setCell ⟨b, 1, none⟩ (.map (some (w.heap.size + 1))) := ⟨_, rfl⟩
  rw [← hw1]
  have s1 : w1.heap.size = w.heap.size := by rw [hw1]; simp
  have b1 : w1.heap[b]? = some (.cells #[.map (some w.heap.size), .map (some (w.heap.size + 1))] 50 (0, 0)) := by
    rw [hw1]
    have : (w.setCell ⟨b, 0, none⟩ (.map (some w.heap.size))).heap[b]? = some (.cells #[.map (some w.heap.size), .map none] 50 (0, 0)) := by rw [blk_set h.blk]; rfl
    rw [blk_set this]; rfl
  have x : Ext w1 ((w1.alloc (.map #[] 0)).alloc (.map #[] 0)) := Ext.alloc (Ext.alloc (Ext.refl _) _) _
  refine ⟨x.heap b1, .inr ⟨_, .map [], rfl, ?_, fun id => by rw [hG]; rfl⟩, .inr ⟨_, .map [], rfl, ?_, fun k => by rw [hQ]; rfl⟩, fun id g c ss e => (by rw [hG] at e; cases e), fun k g S e => (by rw [hQ] at e; cases e), fun k k' g S S' e => (by rw [hQ] at e; cases e), fun m e => ?_, (by have := h.low; simp [s1]; omega), fun m e => ?_, fun m e => ?_⟩
  · have := (World.ownsMap_made w1 Tryd.prog 2 slElem).alloc (.map #[] 0)
    rw [s1] at this
    exact this.mono (Nat.zero_le _)
  · have := World.ownsMap_made (w1.alloc (.map #[] 0)) Tryd.prog 9 mpElem
    rw [World.size_alloc, s1] at this
    exact this.mono (Nat.zero_le _)
  · injection e with e; subst e; intro e2; injection e2 with e2; omega
  · injection e with e; omega
  · injection e with e; omega
end Go.Proofs.YtgbhhofmghgpbaaDoor
