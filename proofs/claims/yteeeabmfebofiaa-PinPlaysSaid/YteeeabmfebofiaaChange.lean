/- change, with the closures of Take and Shut. Printed by gen_change.py. -/
import Derived.Test.YteeeabmfebofiaaMaps
import Derived.WalkSpells
namespace Go.Proofs.Yteeeabmfebofiaa
open Go.RowKit Go.ChangeMaps Go.Maps
set_option linter.unusedVariables false

def ThenOpen (b : Nat) (R : World → Prop) (w' : World) : Prop := ∃ w2, R w2 ∧ w' = w2.setCell ⟨b, 4, none⟩ (.int .i32 0)
def ThenShut (b : Nat) (R : Nat → Nat → World → Prop) (w' : World) : Prop := ∃ mb g w2, R mb g w2 ∧ w' = (w2.setCell ⟨b, 4, none⟩ (.int .i32 0)).setCell ⟨b, 0, none⟩ (.int .i32 0)
theorem PinsAt.made {w : World} {B b : Nat} {F : St} {N : Nat} {s rc : Int} (h : PinsAt w B b none F N s rc) (hB : B ≤ w.heap.size) : PinsAt ((w.alloc (.map #[] 0)).setCell ⟨b, 6, none⟩ (.map (some w.heap.size))) B b (some w.heap.size) F N s rc := by
  have lb : b < w.heap.size := blk_lt h.blk
  have hb : (w.alloc (.map #[] 0)).heap[b]? = some (.cells (pb s rc none) 69 (0, 0)) := by rw [Below.heap_alloc _ _ _ lb]; exact h.blk
  have h0 : ∀ k, F k = none := by
    rcases h.map with ⟨_, h0⟩ | ⟨mb, D, e, _⟩
    · exact h0
    · cases e
  refine ⟨by rw [blk_set hb]; rfl, .inr ⟨_, .map [], rfl, ((World.ownsMap_made w Try.prog 2 ptrElem).mono (Nat.zero_le _)).setCell (a := ⟨b, 6, none⟩) (by simp; omega) _, fun k => ?_⟩, fun k g c e => ?_, h.inj, h.low, fun m e => ?_⟩
  · rw [h0]; rfl
  · rw [h0] at e; cases e
  · injection e with e; omega
theorem hmf : ∀ (fn : Fn) (first cap : Array Value) (w : World), (Instr.makeFunc fn first cap).run Try.prog w = .ok (.func fn first cap) w := fun _ _ _ _ => rfl


set_option maxRecDepth 100000 in
set_option maxHeartbeats 2000000 in
theorem change_take_there (w : World) (B b : Nat) (mo : Option Nat) (F F' : St) (N : Nat) (k : Int) (g : Nat) (c : Int) (p1 p2 p3 : Value) (R : World → Prop) (h : PinsAt w B b mo F N 0 0) (hk : (Lit.int .i64 k).wf = true) (hF : F k = some (g, c))
    (hcl : ∀ w1, PinsAt w1 B b mo F N 0 1 → w1 = w.setCell ⟨b, 4, none⟩ (.int .i32 1) → Calls Try.prog 24 #[.pointer (some ⟨g, 0, none⟩), p1, p2, p3] w1 fun e w2 => e = .returned (.tuple #[]) ∧ (R w2 ∧ PinsAt w2 B b mo F' N 0 1)) :
    Calls Try.prog 23 #[.pointer (some ⟨b, 0, none⟩), .int .i64 k, .func (.func 24) #[] #[p1, p2, p3]] w fun e w' => e = .returned (.tuple #[]) ∧ ThenOpen b R w' := by
  obtain ⟨w1, hw1⟩ : ∃ w1, w1 = w.setCell ⟨b, 4, none⟩ (.int .i32 1) := ⟨_, rfl⟩
  have h1 : PinsAt w1 B b mo F N 0 1 := by rw [hw1]; exact h.cell (pb_rc _ _ _ _)
  have c6 : w1.cell? ⟨b, 6, none⟩ = some (.map mo) := blk_cell h1.blk 6
  have hl := (h1.look hk).2 g c hF
  have HCL := Lib.hid (hcl w1 h1 hw1)
  have HP := Lib.hid h; have HP1 := Lib.hid h1; have HW1 := Lib.hid hw1
  clear h h1 hw1 hF hcl
  go_enter_defers Try.func23, Try.ntmps23
  go_wp2_with (go_at_call 30; refine (rlock_pins _ B b mo F N HP.out).mono ?_; rintro e w' ⟨rfl, rfl⟩; rw [← HW1.out])
  refine HCL.out.mono ?_
  rintro e w2 ⟨rfl, hR, hP2⟩
  have HR := Lib.hid hR; have HP2 := Lib.hid hP2
  clear hR hP2
  go_wp2_with (go_at_call 31; refine (runlock_pins _ B b mo F' N HP2.out).mono ?_; rintro e w' ⟨rfl, rfl⟩)
  exact ⟨_, results_none rfl _ _ _, rfl, w2, HR.out, rfl⟩

set_option maxRecDepth 100000 in
set_option maxHeartbeats 4000000 in
theorem change_take_new (w : World) (B b : Nat) (mo : Option Nat) (F : St) (N : Nat) (k c' : Int) (p1 p2 p3 : Value) (R : Nat → Nat → World → Prop) (h : PinsAt w B b mo F N 0 0) (hN : N ≤ 100000) (hk : (Lit.int .i64 k).wf = true) (hF : F k = none) (hc' : c' ≠ 0) (hB : B ≤ w.heap.size)
    (hcl : ∀ mb g w1, PinsAt w1 B b (some mb) (upd F k (some (g, 0))) (N + 1) 1 (-1073741824) → Fr B [] w w1 → w.heap.size ≤ g → Calls Try.prog 24 #[.pointer (some ⟨g, 0, none⟩), p1, p2, p3] w1 fun e w2 => e = .returned (.tuple #[]) ∧ (R mb g w2 ∧ PinsAt w2 B b (some mb) (upd F k (some (g, c'))) (N + 1) 1 (-1073741824))) :
    Calls Try.prog 23 #[.pointer (some ⟨b, 0, none⟩), .int .i64 k, .func (.func 24) #[] #[p1, p2, p3]] w fun e w' => e = .returned (.tuple #[]) ∧ ThenShut b R w' := by
  obtain ⟨w1, hw1⟩ : ∃ w1, w1 = w.setCell ⟨b, 4, none⟩ (.int .i32 1) := ⟨_, rfl⟩
  have h1 : PinsAt w1 B b mo F N 0 1 := by rw [hw1]; exact h.cell (pb_rc _ _ _ _)
  have hback : w1.setCell ⟨b, 4, none⟩ (.int .i32 0) = w := by rw [hw1, setCell_twice]; exact setCell_self (blk_cell h.blk 4)
  have c6 : w1.cell? ⟨b, 6, none⟩ = some (.map mo) := blk_cell h1.blk 6
  obtain ⟨v0, hl⟩ := (h1.look hk).1 hF
  obtain ⟨w2, hw2⟩ : ∃ w2, w2 = (w.setCell ⟨b, 0, none⟩ (.int .i32 1)).setCell ⟨b, 4, none⟩ (.int .i32 (-1073741824)) := ⟨_, rfl⟩
  have h2 : PinsAt w2 B b mo F N 1 (-1073741824) := by rw [hw2]; exact (h.cell (pb_st _ _ 1 _)).cell (pb_rc _ _ _ _)
  have fr2 : Fr B [] w w2 := by
    rw [hw2]
    exact ((Fr.refl B [] w).set _ (.inr ⟨h.low, _, 69, _, h.blk, .inl rfl⟩)).set _ (.inr ⟨h.low, _, 69, _, blk_set h.blk 0 _, .inl rfl⟩)
  have s2 : w2.heap.size = w.heap.size := by rw [hw2]; simp
  have d6 : w2.cell? ⟨b, 6, none⟩ = some (.map mo) := blk_cell h2.blk 6
  have z6 := blk_free h2.blk 6
  have lb : b < w2.heap.size := blk_lt h2.blk
  cases mo with
  | none =>
    have h3 : PinsAt ((w2.alloc (.map #[] 0)).setCell ⟨b, 6, none⟩ (.map (some w2.heap.size))) B b (some w2.heap.size) F N 1 (-1073741824) := h2.made (by omega)
    obtain ⟨wm, hwm⟩ : ∃ wm, wm = (w2.alloc (.map #[] 0)).setCell ⟨b, 6, none⟩ (.map (some w2.heap.size)) := ⟨_, rfl⟩
    rw [← hwm] at h3
    have fm : Fr B [] w wm := by rw [hwm]; exact (fr2.alloc _).set _ (.inr ⟨h.low, _, 69, _, (by rw [Below.heap_alloc _ _ _ lb]; exact h2.blk), .inl rfl⟩)
    have sm : wm.heap.size = w2.heap.size + 1 := by rw [hwm]; simp
    obtain ⟨v1, hl2⟩ := (h3.look hk).1 hF
    obtain ⟨w3, hw3⟩ : ∃ w3, w3 = wm.alloc (.cells #[.int .i64 0] 87) := ⟨_, rfl⟩
    have x3 : Ext wm w3 := by rw [hw3]; exact Ext.alloc (Ext.refl _) _
    have h3b := h3.ext x3
    have g3 : w3.heap[wm.heap.size]? = some (.cells #[.int .i64 0] 87 (0, 0)) := by rw [hw3]; exact heap_alloc_new _ _
    obtain ⟨w4, hup, h4, ht4⟩ := h3b.put hk hF g3 (by omega) (fun k' g' c1 e => by have := blk_lt (h3.cnt k' g' c1 e).1; omega) hN
    have fr4 : Fr B [] w w4 := by
      obtain ⟨_, _, _, es, cl, hm⟩ := h3b.mapAt
      exact (fm.trans (.of_ext x3 B [])).turned ht4 (by omega) hm
    have HCL := Lib.hid (hcl w2.heap.size wm.heap.size w4 h4 fr4 (by omega))
    rw [sm] at HCL
    rw [sm] at hup
    rw [hw3, hwm, World.setCell_alloc_past _ _ _ _ lb] at hup
    rw [hwm, World.setCell_alloc_past _ _ _ _ lb] at hl2
    have HP := Lib.hid h; have HP1 := Lib.hid h1; have HW1 := Lib.hid hw1; have HP2 := Lib.hid h2; have HW2 := Lib.hid hw2; have HB := Lib.hid hback; have HF := Lib.hid hF
    clear h h1 hw1 hF hcl h2 hw2 h3 h3b h4 hback hw3 s2 g3 fr4 fr2 x3 ht4 w3 fm sm hwm wm
    have hmm := @run_makeMap Try.prog
    have qT : ∀ (w : World) (r : Option Nat), (binOp .eql 67 (.map r) (.map none)).run Try.prog w = .ok (.bool r.isNone) w := fun w r => run_eql_map_nil w _ _ _ r Try.underlying67
    go_enter_defers Try.func23, Try.ntmps23
    go_wp2_with (first | (go_at_call 30; refine (rlock_pins _ B b none F N HP.out).mono ?_; rintro e w' ⟨rfl, rfl⟩; rw [← HW1.out]) | (go_at_call 31; refine (runlock_pins _ B b none F N HP1.out).mono ?_; rintro e w' ⟨rfl, rfl⟩; rw [HB.out]) | (go_at_call 34; refine (lock_pins _ B b none F N HP.out).mono ?_; rintro e w' ⟨rfl, rfl⟩; rw [← HW2.out]))
    refine HCL.out.mono ?_
    rintro e w5 ⟨rfl, hR, hP5⟩
    have g5 : w5.cell? ⟨w2.heap.size + 1, 0, none⟩ = some (.int .i64 c') := blk_cell (hP5.cnt k _ c' (upd_same _ _ _)).1 0
    have n5 : decide (c' = 0) = false := by simpa using hc'
    have HR := Lib.hid hR; have HP5 := Lib.hid hP5
    have n6 : (c' == 0) = false := by simpa using hc'
    clear hR hP5 hup hl
    go_wp2_with (go_at_call 25; refine (aload _ _ _ g5).mono ?_; rintro e w' ⟨rfl, rfl⟩)
    refine leaves_cons (f := 35) (args := #[.pointer (some ⟨b, 0, none⟩)]) (by simp) (by simp [go_sem]) ?_
    refine (unlock_pinsD _ B b _ _ _ .returning HP5.out).mono ?_
    rintro e u' w'' ⟨rfl, rfl, rfl⟩
    exact ⟨_, results_none rfl _ _ _, rfl, _, _, w5, HR.out, rfl⟩
  | some mb =>
    obtain ⟨v1, hl2⟩ := (h2.look hk).1 hF
    obtain ⟨w3, hw3⟩ : ∃ w3, w3 = w2.alloc (.cells #[.int .i64 0] 87) := ⟨_, rfl⟩
    have x3 : Ext w2 w3 := by rw [hw3]; exact Ext.alloc (Ext.refl _) _
    have h3 := h2.ext x3
    have g3 : w3.heap[w2.heap.size]? = some (.cells #[.int .i64 0] 87 (0, 0)) := by rw [hw3]; exact heap_alloc_new _ _
    have e6 : w3.cell? ⟨b, 6, none⟩ = some (.map (some mb)) := blk_cell h3.blk 6
    obtain ⟨w4, hup, h4, ht4⟩ := h3.put hk hF g3 (by omega) (fun k' g' c1 e => by have := blk_lt (h2.cnt k' g' c1 e).1; omega) hN
    have fr4 : Fr B [] w w4 := by
      obtain ⟨_, _, _, es, cl, hm⟩ := h3.mapAt
      exact (fr2.trans (.of_ext x3 B [])).turned ht4 (h.lowm mb rfl) hm
    have HCL := Lib.hid (hcl mb w2.heap.size w4 h4 fr4 (by omega))
    rw [hw3] at hup
    have HP := Lib.hid h; have HP1 := Lib.hid h1; have HW1 := Lib.hid hw1; have HP2 := Lib.hid h2; have HW2 := Lib.hid hw2; have HB := Lib.hid hback; have HF := Lib.hid hF
    clear h h1 hw1 hF hcl h2 hw2 h3 h4 hback hw3 s2 g3 fr4 fr2 x3 ht4 e6 w3
    have qT : ∀ (w : World) (r : Option Nat), (binOp .eql 67 (.map r) (.map none)).run Try.prog w = .ok (.bool r.isNone) w := fun w r => run_eql_map_nil w _ _ _ r Try.underlying67
    go_enter_defers Try.func23, Try.ntmps23
    go_wp2_with (first | (go_at_call 30; refine (rlock_pins _ B b (some mb) F N HP.out).mono ?_; rintro e w' ⟨rfl, rfl⟩; rw [← HW1.out]) | (go_at_call 31; refine (runlock_pins _ B b (some mb) F N HP1.out).mono ?_; rintro e w' ⟨rfl, rfl⟩; rw [HB.out]) | (go_at_call 34; refine (lock_pins _ B b (some mb) F N HP.out).mono ?_; rintro e w' ⟨rfl, rfl⟩; rw [← HW2.out]))
    refine HCL.out.mono ?_
    rintro e w5 ⟨rfl, hR, hP5⟩
    have g5 : w5.cell? ⟨w2.heap.size, 0, none⟩ = some (.int .i64 c') := blk_cell (hP5.cnt k _ c' (upd_same _ _ _)).1 0
    have n5 : decide (c' = 0) = false := by simpa using hc'
    have HR := Lib.hid hR; have HP5 := Lib.hid hP5
    have n6 : (c' == 0) = false := by simpa using hc'
    clear hR hP5 hup hl
    go_wp2_with (go_at_call 25; refine (aload _ _ _ g5).mono ?_; rintro e w' ⟨rfl, rfl⟩)
    refine leaves_cons (f := 35) (args := #[.pointer (some ⟨b, 0, none⟩)]) (by simp) (by simp [go_sem]) ?_
    refine (unlock_pinsD _ B b _ _ _ .returning HP5.out).mono ?_
    rintro e u' w'' ⟨rfl, rfl, rfl⟩
    exact ⟨_, results_none rfl _ _ _, rfl, _, _, w5, HR.out, rfl⟩



set_option maxRecDepth 100000 in
set_option maxHeartbeats 2000000 in
theorem change_shut_there (w : World) (B b : Nat) (mo : Option Nat) (F F' : St) (N : Nat) (k : Int) (g : Nat) (c : Int) (p1 : Value) (R : World → Prop) (h : PinsAt w B b mo F N 0 0) (hk : (Lit.int .i64 k).wf = true) (hF : F k = some (g, c))
    (hcl : ∀ w1, PinsAt w1 B b mo F N 0 1 → w1 = w.setCell ⟨b, 4, none⟩ (.int .i32 1) → Calls Try.prog 32 #[.pointer (some ⟨g, 0, none⟩), p1] w1 fun e w2 => e = .returned (.tuple #[]) ∧ (R w2 ∧ PinsAt w2 B b mo F' N 0 1)) :
    Calls Try.prog 23 #[.pointer (some ⟨b, 0, none⟩), .int .i64 k, .func (.func 32) #[] #[p1]] w fun e w' => e = .returned (.tuple #[]) ∧ ThenOpen b R w' := by
  obtain ⟨w1, hw1⟩ : ∃ w1, w1 = w.setCell ⟨b, 4, none⟩ (.int .i32 1) := ⟨_, rfl⟩
  have h1 : PinsAt w1 B b mo F N 0 1 := by rw [hw1]; exact h.cell (pb_rc _ _ _ _)
  have c6 : w1.cell? ⟨b, 6, none⟩ = some (.map mo) := blk_cell h1.blk 6
  have hl := (h1.look hk).2 g c hF
  have HCL := Lib.hid (hcl w1 h1 hw1)
  have HP := Lib.hid h; have HP1 := Lib.hid h1; have HW1 := Lib.hid hw1
  clear h h1 hw1 hF hcl
  go_enter_defers Try.func23, Try.ntmps23
  go_wp2_with (go_at_call 30; refine (rlock_pins _ B b mo F N HP.out).mono ?_; rintro e w' ⟨rfl, rfl⟩; rw [← HW1.out])
  refine HCL.out.mono ?_
  rintro e w2 ⟨rfl, hR, hP2⟩
  have HR := Lib.hid hR; have HP2 := Lib.hid hP2
  clear hR hP2
  go_wp2_with (go_at_call 31; refine (runlock_pins _ B b mo F' N HP2.out).mono ?_; rintro e w' ⟨rfl, rfl⟩)
  exact ⟨_, results_none rfl _ _ _, rfl, w2, HR.out, rfl⟩

set_option maxRecDepth 100000 in
set_option maxHeartbeats 4000000 in
theorem change_shut_new (w : World) (B b : Nat) (mo : Option Nat) (F : St) (N : Nat) (k c' : Int) (p1 : Value) (R : Nat → Nat → World → Prop) (h : PinsAt w B b mo F N 0 0) (hN : N ≤ 100000) (hk : (Lit.int .i64 k).wf = true) (hF : F k = none) (hc' : c' ≠ 0) (hB : B ≤ w.heap.size)
    (hcl : ∀ mb g w1, PinsAt w1 B b (some mb) (upd F k (some (g, 0))) (N + 1) 1 (-1073741824) → Fr B [] w w1 → w.heap.size ≤ g → Calls Try.prog 32 #[.pointer (some ⟨g, 0, none⟩), p1] w1 fun e w2 => e = .returned (.tuple #[]) ∧ (R mb g w2 ∧ PinsAt w2 B b (some mb) (upd F k (some (g, c'))) (N + 1) 1 (-1073741824))) :
    Calls Try.prog 23 #[.pointer (some ⟨b, 0, none⟩), .int .i64 k, .func (.func 32) #[] #[p1]] w fun e w' => e = .returned (.tuple #[]) ∧ ThenShut b R w' := by
  obtain ⟨w1, hw1⟩ : ∃ w1, w1 = w.setCell ⟨b, 4, none⟩ (.int .i32 1) := ⟨_, rfl⟩
  have h1 : PinsAt w1 B b mo F N 0 1 := by rw [hw1]; exact h.cell (pb_rc _ _ _ _)
  have hback : w1.setCell ⟨b, 4, none⟩ (.int .i32 0) = w := by rw [hw1, setCell_twice]; exact setCell_self (blk_cell h.blk 4)
  have c6 : w1.cell? ⟨b, 6, none⟩ = some (.map mo) := blk_cell h1.blk 6
  obtain ⟨v0, hl⟩ := (h1.look hk).1 hF
  obtain ⟨w2, hw2⟩ : ∃ w2, w2 = (w.setCell ⟨b, 0, none⟩ (.int .i32 1)).setCell ⟨b, 4, none⟩ (.int .i32 (-1073741824)) := ⟨_, rfl⟩
  have h2 : PinsAt w2 B b mo F N 1 (-1073741824) := by rw [hw2]; exact (h.cell (pb_st _ _ 1 _)).cell (pb_rc _ _ _ _)
  have fr2 : Fr B [] w w2 := by
    rw [hw2]
    exact ((Fr.refl B [] w).set _ (.inr ⟨h.low, _, 69, _, h.blk, .inl rfl⟩)).set _ (.inr ⟨h.low, _, 69, _, blk_set h.blk 0 _, .inl rfl⟩)
  have s2 : w2.heap.size = w.heap.size := by rw [hw2]; simp
  have d6 : w2.cell? ⟨b, 6, none⟩ = some (.map mo) := blk_cell h2.blk 6
  have z6 := blk_free h2.blk 6
  have lb : b < w2.heap.size := blk_lt h2.blk
  cases mo with
  | none =>
    have h3 : PinsAt ((w2.alloc (.map #[] 0)).setCell ⟨b, 6, none⟩ (.map (some w2.heap.size))) B b (some w2.heap.size) F N 1 (-1073741824) := h2.made (by omega)
    obtain ⟨wm, hwm⟩ : ∃ wm, wm = (w2.alloc (.map #[] 0)).setCell ⟨b, 6, none⟩ (.map (some w2.heap.size)) := ⟨_, rfl⟩
    rw [← hwm] at h3
    have fm : Fr B [] w wm := by rw [hwm]; exact (fr2.alloc _).set _ (.inr ⟨h.low, _, 69, _, (by rw [Below.heap_alloc _ _ _ lb]; exact h2.blk), .inl rfl⟩)
    have sm : wm.heap.size = w2.heap.size + 1 := by rw [hwm]; simp
    obtain ⟨v1, hl2⟩ := (h3.look hk).1 hF
    obtain ⟨w3, hw3⟩ : ∃ w3, w3 = wm.alloc (.cells #[.int .i64 0] 87) := ⟨_, rfl⟩
    have x3 : Ext wm w3 := by rw [hw3]; exact Ext.alloc (Ext.refl _) _
    have h3b := h3.ext x3
    have g3 : w3.heap[wm.heap.size]? = some (.cells #[.int .i64 0] 87 (0, 0)) := by rw [hw3]; exact heap_alloc_new _ _
    obtain ⟨w4, hup, h4, ht4⟩ := h3b.put hk hF g3 (by omega) (fun k' g' c1 e => by have := blk_lt (h3.cnt k' g' c1 e).1; omega) hN
    have fr4 : Fr B [] w w4 := by
      obtain ⟨_, _, _, es, cl, hm⟩ := h3b.mapAt
      exact (fm.trans (.of_ext x3 B [])).turned ht4 (by omega) hm
    have HCL := Lib.hid (hcl w2.heap.size wm.heap.size w4 h4 fr4 (by omega))
    rw [sm] at HCL
    rw [sm] at hup
    rw [hw3, hwm, World.setCell_alloc_past _ _ _ _ lb] at hup
    rw [hwm, World.setCell_alloc_past _ _ _ _ lb] at hl2
    have HP := Lib.hid h; have HP1 := Lib.hid h1; have HW1 := Lib.hid hw1; have HP2 := Lib.hid h2; have HW2 := Lib.hid hw2; have HB := Lib.hid hback; have HF := Lib.hid hF
    clear h h1 hw1 hF hcl h2 hw2 h3 h3b h4 hback hw3 s2 g3 fr4 fr2 x3 ht4 w3 fm sm hwm wm
    have hmm := @run_makeMap Try.prog
    have qT : ∀ (w : World) (r : Option Nat), (binOp .eql 67 (.map r) (.map none)).run Try.prog w = .ok (.bool r.isNone) w := fun w r => run_eql_map_nil w _ _ _ r Try.underlying67
    go_enter_defers Try.func23, Try.ntmps23
    go_wp2_with (first | (go_at_call 30; refine (rlock_pins _ B b none F N HP.out).mono ?_; rintro e w' ⟨rfl, rfl⟩; rw [← HW1.out]) | (go_at_call 31; refine (runlock_pins _ B b none F N HP1.out).mono ?_; rintro e w' ⟨rfl, rfl⟩; rw [HB.out]) | (go_at_call 34; refine (lock_pins _ B b none F N HP.out).mono ?_; rintro e w' ⟨rfl, rfl⟩; rw [← HW2.out]))
    refine HCL.out.mono ?_
    rintro e w5 ⟨rfl, hR, hP5⟩
    have g5 : w5.cell? ⟨w2.heap.size + 1, 0, none⟩ = some (.int .i64 c') := blk_cell (hP5.cnt k _ c' (upd_same _ _ _)).1 0
    have n5 : decide (c' = 0) = false := by simpa using hc'
    have HR := Lib.hid hR; have HP5 := Lib.hid hP5
    have n6 : (c' == 0) = false := by simpa using hc'
    clear hR hP5 hup hl
    go_wp2_with (go_at_call 25; refine (aload _ _ _ g5).mono ?_; rintro e w' ⟨rfl, rfl⟩)
    refine leaves_cons (f := 35) (args := #[.pointer (some ⟨b, 0, none⟩)]) (by simp) (by simp [go_sem]) ?_
    refine (unlock_pinsD _ B b _ _ _ .returning HP5.out).mono ?_
    rintro e u' w'' ⟨rfl, rfl, rfl⟩
    exact ⟨_, results_none rfl _ _ _, rfl, _, _, w5, HR.out, rfl⟩
  | some mb =>
    obtain ⟨v1, hl2⟩ := (h2.look hk).1 hF
    obtain ⟨w3, hw3⟩ : ∃ w3, w3 = w2.alloc (.cells #[.int .i64 0] 87) := ⟨_, rfl⟩
    have x3 : Ext w2 w3 := by rw [hw3]; exact Ext.alloc (Ext.refl _) _
    have h3 := h2.ext x3
    have g3 : w3.heap[w2.heap.size]? = some (.cells #[.int .i64 0] 87 (0, 0)) := by rw [hw3]; exact heap_alloc_new _ _
    have e6 : w3.cell? ⟨b, 6, none⟩ = some (.map (some mb)) := blk_cell h3.blk 6
    obtain ⟨w4, hup, h4, ht4⟩ := h3.put hk hF g3 (by omega) (fun k' g' c1 e => by have := blk_lt (h2.cnt k' g' c1 e).1; omega) hN
    have fr4 : Fr B [] w w4 := by
      obtain ⟨_, _, _, es, cl, hm⟩ := h3.mapAt
      exact (fr2.trans (.of_ext x3 B [])).turned ht4 (h.lowm mb rfl) hm
    have HCL := Lib.hid (hcl mb w2.heap.size w4 h4 fr4 (by omega))
    rw [hw3] at hup
    have HP := Lib.hid h; have HP1 := Lib.hid h1; have HW1 := Lib.hid hw1; have HP2 := Lib.hid h2; have HW2 := Lib.hid hw2; have HB := Lib.hid hback; have HF := Lib.hid hF
    clear h h1 hw1 hF hcl h2 hw2 h3 h4 hback hw3 s2 g3 fr4 fr2 x3 ht4 e6 w3
    have qT : ∀ (w : World) (r : Option Nat), (binOp .eql 67 (.map r) (.map none)).run Try.prog w = .ok (.bool r.isNone) w := fun w r => run_eql_map_nil w _ _ _ r Try.underlying67
    go_enter_defers Try.func23, Try.ntmps23
    go_wp2_with (first | (go_at_call 30; refine (rlock_pins _ B b (some mb) F N HP.out).mono ?_; rintro e w' ⟨rfl, rfl⟩; rw [← HW1.out]) | (go_at_call 31; refine (runlock_pins _ B b (some mb) F N HP1.out).mono ?_; rintro e w' ⟨rfl, rfl⟩; rw [HB.out]) | (go_at_call 34; refine (lock_pins _ B b (some mb) F N HP.out).mono ?_; rintro e w' ⟨rfl, rfl⟩; rw [← HW2.out]))
    refine HCL.out.mono ?_
    rintro e w5 ⟨rfl, hR, hP5⟩
    have g5 : w5.cell? ⟨w2.heap.size, 0, none⟩ = some (.int .i64 c') := blk_cell (hP5.cnt k _ c' (upd_same _ _ _)).1 0
    have n5 : decide (c' = 0) = false := by simpa using hc'
    have HR := Lib.hid hR; have HP5 := Lib.hid hP5
    have n6 : (c' == 0) = false := by simpa using hc'
    clear hR hP5 hup hl
    go_wp2_with (go_at_call 25; refine (aload _ _ _ g5).mono ?_; rintro e w' ⟨rfl, rfl⟩)
    refine leaves_cons (f := 35) (args := #[.pointer (some ⟨b, 0, none⟩)]) (by simp) (by simp [go_sem]) ?_
    refine (unlock_pinsD _ B b _ _ _ .returning HP5.out).mono ?_
    rintro e u' w'' ⟨rfl, rfl, rfl⟩
    exact ⟨_, results_none rfl _ _ _, rfl, _, _, w5, HR.out, rfl⟩


end Go.Proofs.Yteeeabmfebofiaa