/- Pins in memory, and what the program's functions do with them. -/
import Derived.Test.YteeeabmfebofiaaSync
import Derived.Maps.OwnSet
import Derived.Lib.Hide
namespace Go.Proofs.Yteeeabmfebofiaa
open Go.RowKit Go.ChangeMaps Go.Maps
set_option linter.unusedVariables false

theorem setCell_self {w : World} {b i : Nat} {v : Value} (h : w.cell? ⟨b, i, none⟩ = some v) : w.setCell ⟨b, i, none⟩ v = w := by
  have hb : w.heap.modify b (fun
      | .cells c elem frozen => .cells (if (none : Option Nat).isSome then c else c.setIfInBounds i v) elem frozen
      | o => o) = w.heap := by
    apply Array.ext_getElem?
    intro j
    rw [Array.getElem?_modify]
    split
    · rename_i hj
      subst hj
      cases ho : w.heap[b]? with
      | none => rfl
      | some o =>
        cases o with
        | cells c e f =>
          have := cell_of_row w b i c e f ho
          rw [h] at this
          simp
          exact Array.ext_getElem? fun k => by
            rw [Array.getElem?_setIfInBounds]
            split
            · rename_i hk; subst hk
              split
              · exact this
              · rename_i hn; rw [Array.getElem?_eq_none (by omega)] at this; cases this
            · rfl
        | _ => rfl
    · rfl
  have e : w.setCell ⟨b, i, none⟩ v = { w with heap := w.heap } := by
    unfold World.setCell
    congr 1
  exact e
theorem setCell_twice (w : World) (b i : Nat) (v v' : Value) : (w.setCell ⟨b, i, none⟩ v).setCell ⟨b, i, none⟩ v' = w.setCell ⟨b, i, none⟩ v' := by
  unfold World.setCell
  congr 1
  apply Array.ext_getElem?
  intro j
  simp only [Array.getElem?_modify]
  split
  · cases w.heap[j]? with
    | none => rfl
    | some o => cases o <;> simp
  · rfl

abbrev St := Int → Option (Nat × Int)
def pb (s rc : Int) (mo : Option Nat) : Array Value := #[.int .i32 s, .int .u32 0, .int .u32 0, .int .u32 0, .int .i32 rc, .int .i32 0, .map mo]
def ptrElem (v : Value) : Option (DataW Unit × List MemPlace) :=
  match v with
  | .pointer (some ⟨g, 0, none⟩) => some (.lit (.int .i64 g), [])
  | .pointer none => some (.lit (.int .i64 (-1)), [])
  | _ => none
def Ties (D : DataW Unit) (F : St) : Prop := ∀ k, match F k with
  | none => Maps.has D (.int .i64 k) = false
  | some (g, _) => Maps.has D (.int .i64 k) = true ∧ D.atKey (.int .i64 k) (.lit (.int .i64 (-1))) = .lit (.int .i64 g)
structure PinsAt (w : World) (B b : Nat) (mo : Option Nat) (F : St) (N : Nat) (s rc : Int) : Prop where
  blk : w.heap[b]? = some (.cells (pb s rc mo) 69 (0, 0))
  map : (mo = none ∧ ∀ k, F k = none) ∨ ∃ mb D, mo = some mb ∧ w.ownsMap Try.prog 2 ptrElem mb N D ∧ Ties D F
  cnt : ∀ k g c, F k = some (g, c) → w.heap[g]? = some (.cells #[.int .i64 c] 87 (0, 0)) ∧ B ≤ g
  inj : ∀ k k' g c c', F k = some (g, c) → F k' = some (g, c') → k = k'
  low : B ≤ b
  lowm : ∀ m, mo = some m → B ≤ m
theorem law2 : Keyed Try.prog 2 := int_keyed Try.underlying2
theorem key2 {k : Int} (hk : (Lit.int .i64 k).wf = true) : keyOf Try.prog 2 (.int .i64 k) = some (.int .i64 k) := keyOf_int_mk Try.underlying2 hk
theorem zero71 (w : World) : (zeroValue 71).run Try.prog w = .ok (.pointer none) w := Try.zeroValue71 w
theorem ptrElem_int {v : Value} {g : Nat} {ps : List MemPlace} (h : ptrElem v = some (.lit (.int .i64 g), ps)) : v = .pointer (some ⟨g, 0, none⟩) := by
  unfold ptrElem at h
  split at h
  · injection h with h; injection h with h; injection h with h; injection h with h1 h2
    have : (_ : Nat) = g := Int.ofNat.inj h2
    rw [this]
  · injection h with h; injection h with h; injection h with h; injection h with h1 h2
    exact absurd h2 (by omega)
  · cases h

/-- 'v, ok := p.counts[k]'. -/
theorem PinsAt.look {w : World} {B b : Nat} {mo : Option Nat} {F : St} {N : Nat} {s rc : Int} (h : PinsAt w B b mo F N s rc) {k : Int} (hk : (Lit.int .i64 k).wf = true) :
    (F k = none → ∃ v, (Instr.lookup 67 (.map mo) (.int .i64 k) true).run Try.prog w = .ok (.tuple #[v, .bool false]) w) ∧
    ∀ g c, F k = some (g, c) → (Instr.lookup 67 (.map mo) (.int .i64 k) true).run Try.prog w = .ok (.tuple #[.pointer (some ⟨g, 0, none⟩), .bool true]) w := by
  rcases h.map with ⟨rfl, h0⟩ | ⟨mb, D, rfl, hown, ht⟩
  · refine ⟨fun _ => ⟨_, Maps.look_nil (w := w) true law2 Try.underlying67 (zero71 w) (key2 hk)⟩, fun g c e => ?_⟩
    rw [h0] at e; cases e
  · obtain ⟨v, ps, hrun, hv⟩ := hown.look_ok law2 Try.underlying67 (zero71 w) (zd := .lit (.int .i64 (-1))) (zp := []) rfl (key2 hk)
    have hk' := ht k
    refine ⟨fun e => ?_, fun g c e => ?_⟩
    · rw [e] at hk'
      rw [hk'] at hrun
      exact ⟨v, hrun⟩
    · rw [e] at hk'
      rw [hk'.1] at hrun
      rw [hk'.2] at hv
      rw [ptrElem_int hv] at hrun
      exact hrun

def heldOf (F : St) (k : Int) : Int := match F k with | none => 0 | some (_, c) => max c 0

theorem PinsAt.apart {w : World} {B b : Nat} {mo : Option Nat} {F : St} {N : Nat} {s rc : Int} (h : PinsAt w B b mo F N s rc) {g : Nat} {cs : Array Value} {t : TypeId} {z : Nat × Nat} (hg : w.heap[g]? = some (.cells cs t z)) : (∀ mb, mo = some mb → g ≠ mb) ∧ (t ≠ 69 → g ≠ b) := by
  constructor
  · rintro mb rfl rfl
    rcases h.map with ⟨e, _⟩ | ⟨mb, D, e, ⟨es, clock, he, _⟩, _⟩
    · cases e
    · injection e with e; subst e; rw [he] at hg; cases hg
  · rintro ht rfl
    rw [h.blk] at hg
    injection hg with hg
    injection hg with _ e
    exact ht e.symm
/-- One of the lock's cells is written. -/
theorem PinsAt.cell {w : World} {B b : Nat} {mo : Option Nat} {F : St} {N : Nat} {s rc s' rc' : Int} (h : PinsAt w B b mo F N s rc) {i : Nat} {u : Value} (hs : (pb s rc mo).setIfInBounds i u = pb s' rc' mo) : PinsAt (w.setCell ⟨b, i, none⟩ u) B b mo F N s' rc' := by
  have hap := h.apart h.blk
  refine ⟨by rw [blk_set h.blk, hs], ?_, fun k g c e => ?_, h.inj, h.low, h.lowm⟩
  · rcases h.map with h0 | ⟨mb, D, rfl, hown, ht⟩
    · exact .inl h0
    · exact .inr ⟨mb, D, rfl, hown.setCell (a := ⟨b, i, none⟩) (fun e => hap.1 mb rfl e.symm) u, ht⟩
  · obtain ⟨h1, h2⟩ := h.cnt k g c e
    exact ⟨blk_far h1 ((h.apart h1).2 (by decide)) u, h2⟩
theorem pb_rc (s rc r : Int) (mo : Option Nat) : (pb s rc mo).setIfInBounds 4 (.int .i32 r) = pb s r mo := rfl
theorem pb_st (s rc r : Int) (mo : Option Nat) : (pb s rc mo).setIfInBounds 0 (.int .i32 r) = pb r rc mo := rfl

theorem w01 : wrap32 (0 + 1) = 1 := by kernel_rfl
theorem w10 : wrap32 (1 + -1) = 0 := by kernel_rfl
/-- The lock's methods on Pins. -/
theorem rlock_pins (w : World) (B b : Nat) (mo : Option Nat) (F : St) (N : Nat) (h : PinsAt w B b mo F N 0 0) : Calls Try.prog 30 #[.pointer (some ⟨b, 0, none⟩)] w fun e w' => e = .returned (.tuple #[]) ∧ w' = w.setCell ⟨b, 4, none⟩ (.int .i32 1) := by
  have := RwLone.rlock_open Try.rwRLib b 0 0 (.int .i32 0) (.int .u32 0) w (blk_cell h.blk 0) (blk_cell h.blk 3) (blk_cell h.blk 4) (blk_free h.blk 4) (by rw [w01]; decide)
  rw [w01] at this
  exact this
theorem runlock_pins (w : World) (B b : Nat) (mo : Option Nat) (F : St) (N : Nat) (h : PinsAt w B b mo F N 0 1) : Calls Try.prog 31 #[.pointer (some ⟨b, 0, none⟩)] w fun e w' => e = .returned (.tuple #[]) ∧ w' = w.setCell ⟨b, 4, none⟩ (.int .i32 0) := by
  have := RwLone.runlock_held Try.rwRLib b 0 1 (.int .i32 0) (.int .u32 0) w (blk_cell h.blk 0) (blk_cell h.blk 2) (blk_cell h.blk 4) (blk_free h.blk 4) (by rw [w10]; decide)
  rw [w10] at this
  exact this
theorem runlock_pinsD (w : World) (B b : Nat) (mo : Option Nat) (F : St) (N : Nat) (u : FrameMode) (h : PinsAt w B b mo F N 0 1) : CallsD Try.prog 31 #[.pointer (some ⟨b, 0, none⟩)] u w fun e u' w' => u' = u ∧ (e = .returned (.tuple #[]) ∧ w' = w.setCell ⟨b, 4, none⟩ (.int .i32 0)) := by
  have := RwLone.runlock_deferred Try.rwRLib b 0 1 (.int .i32 0) (.int .u32 0) u w (blk_cell h.blk 0) (blk_cell h.blk 2) (blk_cell h.blk 4) (blk_free h.blk 4) (by rw [w10]; decide)
  rw [w10] at this
  exact this
theorem lock_pins (w : World) (B b : Nat) (mo : Option Nat) (F : St) (N : Nat) (h : PinsAt w B b mo F N 0 0) : Calls Try.prog 34 #[.pointer (some ⟨b, 0, none⟩)] w fun e w' => e = .returned (.tuple #[]) ∧ w' = (w.setCell ⟨b, 0, none⟩ (.int .i32 1)).setCell ⟨b, 4, none⟩ (.int .i32 (-1073741824)) := by
  have := RwLone.wlock_free Try.rwWLib b 0 (.int .u32 0) (.int .u32 0) w (blk_cell h.blk 0) (blk_cell h.blk 2) (blk_cell h.blk 3) (blk_cell h.blk 4) (blk_free h.blk 0) (blk_free h.blk 4)
  exact this
theorem unlock_pinsD (w : World) (B b : Nat) (mo : Option Nat) (F : St) (N : Nat) (u : FrameMode) (h : PinsAt w B b mo F N 1 (-1073741824)) : CallsD Try.prog 35 #[.pointer (some ⟨b, 0, none⟩)] u w fun e u' w' => u' = u ∧ (e = .returned (.tuple #[]) ∧ w' = (w.setCell ⟨b, 4, none⟩ (.int .i32 0)).setCell ⟨b, 0, none⟩ (.int .i32 0)) := by
  have := RwLone.wunlock_deferred Try.rwWLib b 0 (.int .u32 0) (.int .u32 0) u w (blk_cell h.blk 0) (blk_cell h.blk 2) (blk_cell h.blk 3) (blk_cell h.blk 4) (blk_free h.blk 0) (blk_free h.blk 4)
  exact this

set_option maxRecDepth 100000 in
set_option maxHeartbeats 2000000 in
theorem held_any (w : World) (B b : Nat) (mo : Option Nat) (F : St) (N : Nat) (k : Int) (h : PinsAt w B b mo F N 0 0) (hk : (Lit.int .i64 k).wf = true) (hgood : ∀ g c, F k = some (g, c) → c = -1 ∨ 1 ≤ c) :
    Calls Try.prog 13 #[.pointer (some ⟨b, 0, none⟩), .int .i64 k] w fun e w' => e = .returned (.int .i64 (heldOf F k)) ∧ w' = w := by
  obtain ⟨w1, hw1⟩ : ∃ w1, w1 = w.setCell ⟨b, 4, none⟩ (.int .i32 1) := ⟨_, rfl⟩
  have h1 : PinsAt w1 B b mo F N 0 1 := by rw [hw1]; exact h.cell (pb_rc _ _ _ _)
  have c6 : w1.cell? ⟨b, 6, none⟩ = some (.map mo) := blk_cell h1.blk 6
  have hend : w1.setCell ⟨b, 4, none⟩ (.int .i32 0) = w := by
    rw [hw1, setCell_twice]; exact setCell_self (blk_cell h.blk 4)
  obtain ⟨hl0, hl1⟩ := h1.look hk
  have HP := Lib.hid h; have HP1 := Lib.hid h1; have HW1 := Lib.hid hw1; have HEND := Lib.hid hend
  clear h h1 hw1 hend
  cases hF : F k with
  | none =>
    clear hgood
    obtain ⟨v, hl⟩ := hl0 hF
    have e0 : heldOf F k = 0 := by unfold heldOf; rw [hF]
    rw [e0]
    clear hl0 hl1
    go_enter_defers Try.func13, Try.ntmps13
    go_wp2_with (go_at_call 30; refine (rlock_pins _ B b mo F N HP.out).mono ?_; rintro e w' ⟨rfl, rfl⟩; rw [← HW1.out])
    refine leaves_cons (f := 31) (args := #[.pointer (some ⟨b, 0, none⟩)]) (by simp) (by simp [go_sem]) ?_
    refine (runlock_pinsD _ B b mo F N .returning HP1.out).mono ?_
    rintro e u' w'' ⟨rfl, rfl, rfl⟩
    exact ⟨_, results_tmp rfl _ _ _, rfl, HEND.out⟩
  | some gc =>
    obtain ⟨g, c⟩ := gc
    have hl := hl1 g c hF
    obtain ⟨hg, _⟩ := HP1.out.cnt k g c hF
    have hcc := hgood g c hF
    clear hgood
    have gc0 : w1.cell? ⟨g, 0, none⟩ = some (.int .i64 c) := blk_cell hg 0
    clear hl0 hl1
    rcases hcc with rfl | hc1
    · have e0 : heldOf F k = 0 := by unfold heldOf; rw [hF]; rfl
      rw [e0]
      go_enter_defers Try.func13, Try.ntmps13
      go_wp2_with (first | (go_at_call 30; refine (rlock_pins _ B b mo F N HP.out).mono ?_; rintro e w' ⟨rfl, rfl⟩; rw [← HW1.out]) | (go_at_call 25; refine (aload _ _ _ gc0).mono ?_; rintro e w' ⟨rfl, rfl⟩))
      refine leaves_cons (f := 31) (args := #[.pointer (some ⟨b, 0, none⟩)]) (by simp) (by simp [go_sem]) ?_
      refine (runlock_pinsD _ B b mo F N .returning HP1.out).mono ?_
      rintro e u' w'' ⟨rfl, rfl, rfl⟩
      exact ⟨_, results_tmp rfl _ _ _, rfl, HEND.out⟩
    · have e0 : heldOf F k = c := by unfold heldOf; rw [hF]; simp only []; omega
      rw [e0]
      have n1 : ¬ c < 0 := by omega
      have n2 : 0 ≤ c := by omega
      have n3 : 0 < c := by omega
      go_enter_defers Try.func13, Try.ntmps13
      go_wp2_with (first | (go_at_call 30; refine (rlock_pins _ B b mo F N HP.out).mono ?_; rintro e w' ⟨rfl, rfl⟩; rw [← HW1.out]) | (go_at_call 25; refine (aload _ _ _ gc0).mono ?_; rintro e w' ⟨rfl, rfl⟩))
      refine leaves_cons (f := 31) (args := #[.pointer (some ⟨b, 0, none⟩)]) (by simp) (by simp [go_sem]) ?_
      refine (runlock_pinsD _ B b mo F N .returning HP1.out).mono ?_
      rintro e u' w'' ⟨rfl, rfl, rfl⟩
      exact ⟨_, results_tmp rfl _ _ _, rfl, HEND.out⟩
end Go.Proofs.Yteeeabmfebofiaa
