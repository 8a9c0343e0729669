/- The order of points: cmp.Compare, cmp.Or, the literals of Add, Owners and Remove, walked (printed by gen_cmp.py). -/
import Derived.Test.YtjphpblangeblaaDoorSmall
import Derived.Test.YtjphpblangeblaaDoorSegZR
import Derived.Sort.Walk0
namespace Go.Proofs.YtjphpblangeblaaDoor
open Go.RowKit Go.Maps Go.ChangeMaps Go.Sort
set_option linter.unusedVariables false
set_option linter.unusedSimpArgs false

def cmpI (a b : Int) : Int := if a < b then -1 else if b < a then 1 else 0
def cmpS (a b : Bs) : Int := if a < b then -1 else if b < a then 1 else 0
theorem lt_iff (k t : Bs) : t < k ↔ ¬ k < t ∧ k ≠ t := by
  constructor
  · intro h
    exact ⟨List.lt_asymm h, fun e => by subst e; exact List.lt_irrefl _ h⟩
  · rintro ⟨h1, h2⟩
    refine Decidable.byContradiction fun h3 => h2 (List.le_antisymm (List.not_lt.1 h3) (List.not_lt.1 h1))
theorem gtr_run (k t : Bs) (w : World) : (binOp .gtr 9 (.string ⟨k.toArray⟩) (.string ⟨t.toArray⟩)).run Tryd.prog w = .ok (.bool (decide (t < k))) w := by
  have h0 : binOp .gtr 9 (.string ⟨k.toArray⟩) (.string ⟨t.toArray⟩) = pure (.bool !(Op.bytesLess (ByteArray.mk k.toArray).toList (ByteArray.mk t.toArray).toList || (ByteArray.mk k.toArray).toList == (ByteArray.mk t.toArray).toList)) := by simp [binOp, Op.stringOp]
  have e : (!(Op.bytesLess (ByteArray.mk k.toArray).toList (ByteArray.mk t.toArray).toList || (ByteArray.mk k.toArray).toList == (ByteArray.mk t.toArray).toList)) = decide (t < k) := by
    rw [ByteArray.toList_mk, ByteArray.toList_mk, bytesLess_eq, Bool.eq_iff_iff, decide_eq_true_iff]
    refine Iff.trans ?_ (lt_iff k t).symm
    rw [Bool.not_eq_true', Bool.or_eq_false_iff, decide_eq_false_iff_not]
    simp
  rw [h0, e]; rfl
theorem lss_run (k t : Bs) (w : World) : (binOp .lss 9 (.string ⟨k.toArray⟩) (.string ⟨t.toArray⟩)).run Tryd.prog w = .ok (.bool (decide (k < t))) w := by
  have h0 : binOp .lss 9 (.string ⟨k.toArray⟩) (.string ⟨t.toArray⟩) = pure (.bool (Op.bytesLess (ByteArray.mk k.toArray).toList (ByteArray.mk t.toArray).toList)) := by simp [binOp, Op.stringOp]
  rw [h0, ByteArray.toList_mk, ByteArray.toList_mk, bytesLess_eq]; rfl
set_option maxRecDepth 100000 in
set_option maxHeartbeats 1000000 in
theorem nan42 (a : Int) (w : World) : Calls Tryd.prog 42 #[.int .u64 a] w fun e w' => e = .returned (.bool false) ∧ w = w' := by
  go_enter Tryd.func42, Tryd.ntmps42
  go_wp2
  go_ret
  exact ⟨by simp, rfl⟩
set_option maxRecDepth 100000 in
set_option maxHeartbeats 1000000 in
theorem nan48 (a : Bs) (w : World) : Calls Tryd.prog 48 #[.string ⟨a.toArray⟩] w fun e w' => e = .returned (.bool false) ∧ w = w' := by
  go_enter Tryd.func48, Tryd.ntmps48
  go_wp2
  go_ret
  exact ⟨by simp, rfl⟩
set_option maxRecDepth 100000 in
set_option maxHeartbeats 1000000 in
theorem cmp29 (a b : Int) (w : World) : Calls Tryd.prog 29 #[.int .u64 a, .int .u64 b] w fun e w' => e = .returned (.int .i64 (cmpI a b)) ∧ w = w' := by
  by_cases h1 : a < b
  · have e1 : cmpI a b = -1 := by simp [cmpI, h1]
    rw [e1]
    go_enter Tryd.func29, Tryd.ntmps29
    go_wp2_with (go_at_call 42; refine (nan42 _ _).mono ?_; rintro e w' ⟨rfl, rfl⟩)
    go_ret
    exact ⟨rfl, rfl⟩
  · by_cases h2 : b < a
    · have e1 : cmpI a b = 1 := by simp [cmpI, h1, h2]
      rw [e1]
      have d1 : decide (a < b) = false := decide_eq_false h1
      go_enter Tryd.func29, Tryd.ntmps29
      go_wp2_with (go_at_call 42; refine (nan42 _ _).mono ?_; rintro e w' ⟨rfl, rfl⟩)
      go_ret
      exact ⟨rfl, rfl⟩
    · have e1 : cmpI a b = 0 := by simp [cmpI, h1, h2]
      rw [e1]
      have d1 : decide (a < b) = false := decide_eq_false h1
      have d2 : decide (b < a) = false := decide_eq_false h2
      go_enter Tryd.func29, Tryd.ntmps29
      go_wp2_with (go_at_call 42; refine (nan42 _ _).mono ?_; rintro e w' ⟨rfl, rfl⟩)
      go_ret
      exact ⟨rfl, rfl⟩
set_option maxRecDepth 100000 in
set_option maxHeartbeats 1000000 in
theorem cmp36 (a b : Bs) (w : World) : Calls Tryd.prog 36 #[.string ⟨a.toArray⟩, .string ⟨b.toArray⟩] w fun e w' => e = .returned (.int .i64 (cmpS a b)) ∧ w = w' := by
  have hl : Op.bytesLess a b = decide (a < b) := bytesLess_eq a b
  by_cases h1 : a < b
  · have e1 : cmpS a b = -1 := by simp [cmpS, h1]
    rw [e1]
    rw [decide_eq_true h1] at hl
    clear h1 e1
    go_enter Tryd.func36, Tryd.ntmps36
    go_wp2_with (go_at_call 48; refine (nan48 _ _).mono ?_; rintro e w' ⟨rfl, rfl⟩)
    go_ret
    exact ⟨rfl, rfl⟩
  · rw [decide_eq_false h1] at hl
    by_cases h2 : b < a
    · have e1 : cmpS a b = 1 := by simp [cmpS, h1, h2]
      rw [e1]
      have hne : (a == b) = false := by
        have := ((lt_iff a b).1 h2).2
        simpa using this
      clear h1 h2 e1
      go_enter Tryd.func36, Tryd.ntmps36
      go_wp2_with (go_at_call 48; refine (nan48 _ _).mono ?_; rintro e w' ⟨rfl, rfl⟩)
      go_ret
      exact ⟨rfl, rfl⟩
    · have e1 : cmpS a b = 0 := by simp [cmpS, h1, h2]
      rw [e1]
      have hab : a = b := Decidable.byContradiction fun h => h2 ((lt_iff a b).2 ⟨h1, h⟩)
      subst hab
      clear h1 h2 e1
      go_enter Tryd.func36, Tryd.ntmps36
      go_wp2_with (go_at_call 48; refine (nan48 _ _).mono ?_; rintro e w' ⟨rfl, rfl⟩)
      go_ret
      exact ⟨rfl, rfl⟩
set_option maxRecDepth 100000 in
set_option maxHeartbeats 1000000 in
theorem or35 (c1 c2 : Int) (w : World) (g : Nat) (hg : w.heap[g]? = some (.cells #[.int .i64 c1, .int .i64 c2] 3 (0, 0))) : Calls Tryd.prog 35 #[.slice (some ⟨g, 0, none⟩) 2 2] w fun e w' => e = .returned (.int .i64 (if c1 = 0 then c2 else c1)) ∧ w = w' := by
  have k0 : w.cell? ⟨g, 0, none⟩ = some (.int .i64 c1) := blk_cell hg 0
  have k1 : w.cell? ⟨g, 1, none⟩ = some (.int .i64 c2) := blk_cell hg 1
  clear hg
  by_cases h1 : c1 = 0
  · subst h1
    rw [if_pos rfl]
    by_cases h2 : c2 = 0
    · subst h2
      go_enter Tryd.func35, Tryd.ntmps35
      go_wp2
      refine wp_loop_rounds 3 ?_
      rw [rounds_succ]
      go_wp2
      rw [rounds_succ]
      go_wp2
      rw [rounds_succ]
      go_wp2
      go_ret
      exact ⟨rfl, rfl⟩
    · have e2 : (c2 != 0) = true := by simpa using h2
      go_enter Tryd.func35, Tryd.ntmps35
      go_wp2
      refine wp_loop_rounds 2 ?_
      rw [rounds_succ]
      go_wp2
      rw [rounds_succ]
      go_wp2
      go_ret
      exact ⟨rfl, rfl⟩
  · rw [if_neg h1]
    have e1 : (c1 != 0) = true := by simpa using h1
    go_enter Tryd.func35, Tryd.ntmps35
    go_wp2
    refine wp_loop_rounds 1 ?_
    rw [rounds_succ]
    go_wp2
    go_ret
    exact ⟨rfl, rfl⟩

/-- What is kept: blocks; draws go on. -/
def keepD : Keep where
  r w w' := Ext w w' ∧ w.drawn ≤ w'.drawn
  refl w := ⟨Ext.refl w, Nat.le_refl _⟩
  trans a b c h k := ⟨h.1.trans k.1, Nat.le_trans h.2 k.2⟩
theorem grow_of {w w' : World} (h : Ext w w') (hd : w.drawn ≤ w'.drawn) : ∃ q os, w' = grow (w.drewN q) os := by
  refine ⟨w'.drawn - w.drawn, w'.heap.extract w.heap.size w'.heap.size, ?_⟩
  obtain ⟨hp, tp, dr, os, out⟩ := w'
  have e1 : os = w.os := h.os
  have e2 : tp = w.tape := h.tape
  have e3 : out = w.output := h.output
  have hs : w.heap.size ≤ hp.size := h.size
  have hb : ∀ k, k < w.heap.size → hp[k]? = w.heap[k]? := h.block
  have e4 : hp = w.heap ++ hp.extract w.heap.size hp.size := by
    apply Array.ext_getElem?
    intro k
    by_cases hk : k < w.heap.size
    · rw [Array.getElem?_append_left hk]; exact hb k hk
    · rw [Array.getElem?_append_right (by omega), Array.getElem?_extract]
      by_cases h2 : k < hp.size
      · rw [if_pos (by omega)]; congr 1; omega
      · rw [if_neg (by omega), Array.getElem?_eq_none (by omega)]
  unfold grow World.drewN
  simp only at hd ⊢
  rw [← e4, ← e1, ← e2, ← e3]
  congr 1
  omega
/-- The order of points. -/
def cmpP (p q : Pt) : Int := if cmpI p.at_ q.at_ = 0 then cmpS p.nm q.nm else cmpI p.at_ q.at_
def ptV (p : Pt) : Value := .agg #[.int .u64 p.at_, .string ⟨p.nm.toArray⟩]
set_option maxRecDepth 100000 in
set_option maxHeartbeats 1000000 in
theorem lit28 (p : Pt) (h : Int) (w : World) : Calls Tryd.prog 28 #[ptV p, .int .u64 h] w fun e w' => e = .returned (.int .i64 (cmpI p.at_ h)) ∧ Ext w w' := by
  obtain ⟨a, n⟩ := p
  have H29 := Lib.hid (fun w => cmp29 a h w)
  unfold ptV
  simp only
  go_enter Tryd.func28, Tryd.ntmps28
  go_wp2_with (go_at_call 29; refine (H29.out _).mono ?_; rintro e w' ⟨rfl, rfl⟩)
  exact bodyPost_ret (v := .int .i64 (cmpI a h)) (by simp [results, Tryd.results28, go_sem]) rfl ⟨rfl, ext_alloc1 _ _⟩
set_option maxRecDepth 100000 in
set_option maxHeartbeats 1000000 in
theorem lit40 (p : Pt) (b : Nat) (n : Nm) (w : World) (hb : w.cell? ⟨b, 0, none⟩ = some (.string ⟨n.toArray⟩)) : Calls Tryd.prog 40 #[ptV p, .pointer (some ⟨b, 0, none⟩)] w fun e w' => e = .returned (.bool (p.nm == n)) ∧ Ext w w' := by
  obtain ⟨a, m⟩ := p
  unfold ptV
  simp only
  have hb2 : (w.alloc (.cells #[.int .u64 a, .string ⟨m.toArray⟩] 59)).cell? ⟨b, 0, none⟩ = some (.string ⟨n.toArray⟩) := (ext_alloc1 w _).cell hb
  clear hb
  go_enter Tryd.func40, Tryd.ntmps40
  go_wp2
  go_ret
  exact ⟨rfl, ext_alloc1 _ _⟩
set_option maxRecDepth 100000 in
set_option maxHeartbeats 2000000 in
theorem lit34 (p q : Pt) (w : World) : Calls Tryd.prog 34 #[ptV p, ptV q] w fun e w' => e = .returned (.int .i64 (cmpP p q)) ∧ ∃ k os, w' = grow (w.drewN k) os := by
  obtain ⟨a, m⟩ := p
  obtain ⟨b, n⟩ := q
  have er : (if cmpI a b = 0 then cmpS m n else cmpI a b) = cmpP ⟨a, m⟩ ⟨b, n⟩ := rfl
  have H35 := Lib.hid (fun w g h => or35 (cmpI a b) (cmpS m n) w g h)
  rw [er] at H35
  clear er
  have H29 := Lib.hid (fun w => cmp29 a b w); have H36 := Lib.hid (fun w => cmp36 m n w)
  obtain ⟨r, hr⟩ : ∃ r, r = cmpP ⟨a, m⟩ ⟨b, n⟩ := ⟨_, rfl⟩
  obtain ⟨r1, hr1⟩ : ∃ r, r = cmpI a b := ⟨_, rfl⟩
  obtain ⟨r2, hr2⟩ : ∃ r, r = cmpS m n := ⟨_, rfl⟩
  rw [← hr] at H35 ⊢
  rw [← hr1] at H35 H29
  rw [← hr2] at H35 H36
  clear hr hr1 hr2
  unfold ptV
  simp only
  go_enter Tryd.func34, Tryd.ntmps34
  obtain ⟨w1, hw1⟩ : ∃ w1, w1 = (w.alloc (.cells #[.int .u64 a, .string ⟨m.toArray⟩] 59)).alloc (.cells #[.int .u64 b, .string ⟨n.toArray⟩] 59) := ⟨_, rfl⟩
  have n1 := heap_new2 w (.cells #[.int .u64 a, .string ⟨m.toArray⟩] 59) (.cells #[.int .u64 b, .string ⟨n.toArray⟩] 59)
  have x1 : Ext w w1 := by rw [hw1]; exact (ext_alloc1 _ _).trans (ext_alloc1 _ _)
  have d1 : w.drawn ≤ w1.drawn := by rw [hw1]; exact Nat.le_refl _
  rw [← hw1] at n1
  have k0 : w1.cell? ⟨w.heap.size, 0, none⟩ = some (.int .u64 a) := blk_cell n1.1 0
  have k1 : w1.cell? ⟨w.heap.size, 1, none⟩ = some (.string ⟨m.toArray⟩) := blk_cell n1.1 1
  have k2 : w1.cell? ⟨w.heap.size + 1, 0, none⟩ = some (.int .u64 b) := blk_cell n1.2 0
  have k3 : w1.cell? ⟨w.heap.size + 1, 1, none⟩ = some (.string ⟨n.toArray⟩) := blk_cell n1.2 1
  have HW1 := Lib.hid hw1; have X1 := Lib.hid x1; have D1 := Lib.hid d1
  clear x1 d1 hw1 n1
  go_wp2_with fail
  rw [← HW1.out]
  have G0 : ∀ y : GrowR keepD w1.drew, y.v.cell? ⟨w.heap.size, 0, none⟩ = some (.int .u64 a) := fun y => y.ext.1.cell k0
  have G1 : ∀ y : GrowR keepD w1.drew, y.v.cell? ⟨w.heap.size, 1, none⟩ = some (.string ⟨m.toArray⟩) := fun y => y.ext.1.cell k1
  have G2 : ∀ y : GrowR keepD w1.drew, y.v.cell? ⟨w.heap.size + 1, 0, none⟩ = some (.int .u64 b) := fun y => y.ext.1.cell k2
  have G3 : ∀ y : GrowR keepD w1.drew, y.v.cell? ⟨w.heap.size + 1, 1, none⟩ = some (.string ⟨n.toArray⟩) := fun y => y.ext.1.cell k3
  refine wp_region_segsR keepD [.inl [0, 1, 2, 3, 5, 6, 7, 8], .inr (.inl 4), .inr (.inl 9), .inr (.inl 10), .inr (.inl 11), .inl [12]] (by kernel_rfl) (by kernel_rfl) (fun c a d v w h => by cases d <;> exact h) ?_
  (rw [wpSegsR_inl]; simp only [pickOps, List.map_cons, List.map_nil, List.getD_cons_succ, List.getD_cons_zero]; (repeat (go_big_quiet_step (fail))); refine wpQuiet_nil ?_)
  clear G0 G1 G2 G3 k0 k1 k2 k3
  (rw [wpSegsR_grow]; simp only [pickOps, List.map_cons, List.map_nil, List.getD_cons_succ, List.getD_cons_zero]; go_wp2_with ((go_at_call 29; refine (H29.out _).mono ?_; rintro e w' ⟨rfl, rfl⟩)))
  refine ⟨keepD.refl _, ?_⟩
  (rw [wpSegsR_grow]; simp only [pickOps, List.map_cons, List.map_nil, List.getD_cons_succ, List.getD_cons_zero]; go_wp2_with ((go_at_call 36; refine (H36.out _).mono ?_; rintro e w' ⟨rfl, rfl⟩)))
  refine ⟨keepD.refl _, ?_⟩
  (rw [wpSegsR_grow]; simp only [pickOps, List.map_cons, List.map_nil, List.getD_cons_succ, List.getD_cons_zero]; go_wp2_with (fail))
  refine ⟨⟨ext_alloc1 _ _, Nat.le_refl _⟩, ?_⟩
  have HC := Lib.hid (H35.out (w1.drew.alloc (.cells #[.int .i64 r1, .int .i64 r2] 3)) w1.drew.heap.size (heap_alloc_new w1.drew _))
  (rw [wpSegsR_grow]; simp only [pickOps, List.map_cons, List.map_nil, List.getD_cons_succ, List.getD_cons_zero]; go_wp2_with ((go_at_call 35; refine HC.out.mono ?_; rintro e w' ⟨rfl, rfl⟩)))
  refine ⟨keepD.refl _, ?_⟩
  (rw [wpSegsR_inl]; simp only [pickOps, List.map_cons, List.map_nil, List.getD_cons_succ, List.getD_cons_zero]; (repeat (go_big_quiet_step (fail))); refine wpQuiet_nil ?_)
  rw [wpSegsR_nil]
  go_wp2_with fail
  exact bodyPost_ret (v := .int .i64 r) (by simp [results, Tryd.results34, go_sem]) rfl ⟨rfl, grow_of (X1.out.trans ((Ext.drew (Ext.refl w1)).trans (ext_alloc1 _ _))) (Nat.le_trans D1.out (Nat.le_succ _))⟩
end Go.Proofs.YtjphpblangeblaaDoor
