/- The order of Top: cmp.Compare, cmp.Or and the literal of Top, walked. -/
import Derived.Test.YtlddpdlebdjniaaDoorTopB0
import Derived.Sort.Walk0
import Derived.Shelf.GgSortFunc.Compose
namespace Go.Proofs.YtlddpdlebdjniaaDoor
set_option linter.unusedSimpArgs false
open Go.RowKit Go.Maps Go.ChangeMaps Go.Sort
set_option linter.unusedVariables false

def cmpI (a b : Int) : Int := if a < b then -1 else if b < a then 1 else 0
def cmpS (a b : Bs) : Int := if a < b then -1 else if b < a then 1 else 0
theorem lt_iff (k t : Bs) : t < k ↔ ¬ k < t ∧ k ≠ t := by
  constructor
  · intro h
    exact ⟨List.lt_asymm h, fun e => by subst e; exact List.lt_irrefl _ h⟩
  · rintro ⟨h1, h2⟩
    refine Decidable.byContradiction fun h3 => h2 (List.le_antisymm (List.not_lt.1 h3) (List.not_lt.1 h1))
theorem gtr_run (k t : Bs) (w : World) : (binOp .gtr 9 (.string ⟨k.toArray⟩) (.string ⟨t.toArray⟩)).run Tryd.prog w = .ok (.bool (decide (t < k))) w := by
  have h0 : binOp .gtr 9 (.string ⟨k.toArray⟩) (.string ⟨t.toArray⟩) = pure (.bool !(Op.bytesLess (ByteArray.mk k.toArray).toList (ByteArray.mk t.toArray).toList || (ByteArray.mk k.toArray).toList == (ByteArray.mk t.toArray).toList)) := by simp [binOp, Op.stringOp]
  have e : (!(Op.bytesLess (ByteArray.mk k.toArray).toList (ByteArray.mk t.toArray).toList || (ByteArray.mk k.toArray).toList == (ByteArray.mk t.toArray).toList)) = decide (t < k) := by
    rw [ByteArray.toList_mk, ByteArray.toList_mk, bytesLess_eq, Bool.eq_iff_iff, decide_eq_true_iff]
    refine Iff.trans ?_ (lt_iff k t).symm
    rw [Bool.not_eq_true', Bool.or_eq_false_iff, decide_eq_false_iff_not]
    simp
  rw [h0, e]; rfl
theorem lss_run (k t : Bs) (w : World) : (binOp .lss 9 (.string ⟨k.toArray⟩) (.string ⟨t.toArray⟩)).run Tryd.prog w = .ok (.bool (decide (k < t))) w := by
  have h0 : binOp .lss 9 (.string ⟨k.toArray⟩) (.string ⟨t.toArray⟩) = pure (.bool (Op.bytesLess (ByteArray.mk k.toArray).toList (ByteArray.mk t.toArray).toList)) := by simp [binOp, Op.stringOp]
  rw [h0, ByteArray.toList_mk, ByteArray.toList_mk, bytesLess_eq]; rfl
set_option maxRecDepth 100000 in
set_option maxHeartbeats 1000000 in
theorem nan34 (a : Int) (w : World) : Calls Tryd.prog 31 #[.int .i64 a] w fun e w' => e = .returned (.bool false) ∧ w = w' := by
  go_enter Tryd.func31, Tryd.ntmps31
  go_wp2
  go_ret
  exact ⟨by simp, rfl⟩
set_option maxRecDepth 100000 in
set_option maxHeartbeats 1000000 in
theorem nan35 (a : Bs) (w : World) : Calls Tryd.prog 32 #[.string ⟨a.toArray⟩] w fun e w' => e = .returned (.bool false) ∧ w = w' := by
  go_enter Tryd.func32, Tryd.ntmps32
  go_wp2
  go_ret
  exact ⟨by simp, rfl⟩
set_option maxRecDepth 100000 in
set_option maxHeartbeats 1000000 in
theorem cmp27 (a b : Int) (w : World) : Calls Tryd.prog 20 #[.int .i64 a, .int .i64 b] w fun e w' => e = .returned (.int .i64 (cmpI a b)) ∧ w = w' := by
  by_cases h1 : a < b
  · have e1 : cmpI a b = -1 := by simp [cmpI, h1]
    rw [e1]
    go_enter Tryd.func20, Tryd.ntmps20
    go_wp2_with (go_at_call 31; refine (nan34 _ _).mono ?_; rintro e w' ⟨rfl, rfl⟩)
    go_ret
    exact ⟨rfl, rfl⟩
  · by_cases h2 : b < a
    · have e1 : cmpI a b = 1 := by simp [cmpI, h1, h2]
      rw [e1]
      have d1 : decide (a < b) = false := decide_eq_false h1
      go_enter Tryd.func20, Tryd.ntmps20
      go_wp2_with (go_at_call 31; refine (nan34 _ _).mono ?_; rintro e w' ⟨rfl, rfl⟩)
      go_ret
      exact ⟨rfl, rfl⟩
    · have e1 : cmpI a b = 0 := by simp [cmpI, h1, h2]
      rw [e1]
      have d1 : decide (a < b) = false := decide_eq_false h1
      have d2 : decide (b < a) = false := decide_eq_false h2
      go_enter Tryd.func20, Tryd.ntmps20
      go_wp2_with (go_at_call 31; refine (nan34 _ _).mono ?_; rintro e w' ⟨rfl, rfl⟩)
      go_ret
      exact ⟨rfl, rfl⟩
set_option maxRecDepth 100000 in
set_option maxHeartbeats 1000000 in
theorem cmp28 (a b : Bs) (w : World) : Calls Tryd.prog 21 #[.string ⟨a.toArray⟩, .string ⟨b.toArray⟩] w fun e w' => e = .returned (.int .i64 (cmpS a b)) ∧ w = w' := by
  have hl : Op.bytesLess a b = decide (a < b) := bytesLess_eq a b
  by_cases h1 : a < b
  · have e1 : cmpS a b = -1 := by simp [cmpS, h1]
    rw [e1]
    rw [decide_eq_true h1] at hl
    clear h1 e1
    go_enter Tryd.func21, Tryd.ntmps21
    go_wp2_with (go_at_call 32; refine (nan35 _ _).mono ?_; rintro e w' ⟨rfl, rfl⟩)
    go_ret
    exact ⟨rfl, rfl⟩
  · rw [decide_eq_false h1] at hl
    by_cases h2 : b < a
    · have e1 : cmpS a b = 1 := by simp [cmpS, h1, h2]
      rw [e1]
      have hne : (a == b) = false := by
        have := ((lt_iff a b).1 h2).2
        simpa using this
      clear h1 h2 e1
      go_enter Tryd.func21, Tryd.ntmps21
      go_wp2_with (go_at_call 32; refine (nan35 _ _).mono ?_; rintro e w' ⟨rfl, rfl⟩)
      go_ret
      exact ⟨rfl, rfl⟩
    · have e1 : cmpS a b = 0 := by simp [cmpS, h1, h2]
      rw [e1]
      have hab : a = b := Decidable.byContradiction fun h => h2 ((lt_iff a b).2 ⟨h1, h⟩)
      subst hab
      clear h1 h2 e1
      go_enter Tryd.func21, Tryd.ntmps21
      go_wp2_with (go_at_call 32; refine (nan35 _ _).mono ?_; rintro e w' ⟨rfl, rfl⟩)
      go_ret
      exact ⟨rfl, rfl⟩
set_option maxRecDepth 100000 in
set_option maxHeartbeats 1000000 in
theorem or26 (c1 c2 : Int) (w : World) (g : Nat) (hg : w.heap[g]? = some (.cells #[.int .i64 c1, .int .i64 c2] 3 (0, 0))) : Calls Tryd.prog 19 #[.slice (some ⟨g, 0, none⟩) 2 2] w fun e w' => e = .returned (.int .i64 (if c1 = 0 then c2 else c1)) ∧ w = w' := by
  have k0 : w.cell? ⟨g, 0, none⟩ = some (.int .i64 c1) := blk_cell hg 0
  have k1 : w.cell? ⟨g, 1, none⟩ = some (.int .i64 c2) := blk_cell hg 1
  clear hg
  by_cases h1 : c1 = 0
  · subst h1
    rw [if_pos rfl]
    by_cases h2 : c2 = 0
    · subst h2
      go_enter Tryd.func19, Tryd.ntmps19
      go_wp2
      refine wp_loop_rounds 3 ?_
      rw [rounds_succ]
      go_wp2
      rw [rounds_succ]
      go_wp2
      rw [rounds_succ]
      go_wp2
      go_ret
      exact ⟨rfl, rfl⟩
    · have e2 : (c2 != 0) = true := by simpa using h2
      go_enter Tryd.func19, Tryd.ntmps19
      go_wp2
      refine wp_loop_rounds 2 ?_
      rw [rounds_succ]
      go_wp2
      rw [rounds_succ]
      go_wp2
      go_ret
      exact ⟨rfl, rfl⟩
  · rw [if_neg h1]
    have e1 : (c1 != 0) = true := by simpa using h1
    go_enter Tryd.func19, Tryd.ntmps19
    go_wp2
    refine wp_loop_rounds 1 ?_
    rw [rounds_succ]
    go_wp2
    go_ret
    exact ⟨rfl, rfl⟩
/-- The order of Top: the most first; of those alike by name. -/
def cmpT (M : Bs → Int) (a b : Bs) : Int := if cmpI (M b) (M a) = 0 then cmpS a b else cmpI (M b) (M a)
set_option maxRecDepth 100000 in
set_option maxHeartbeats 1000000 in
theorem top25 (a b : Bs) (w : World) (vb m N : Nat) (M : Bs → Int) (hv : w.cell? ⟨vb, 0, none⟩ = some (.map (some m))) (hM : ByAt w m N M) (ha : a.length ≤ 1000000) (hb : b.length ≤ 1000000) :
    Calls Tryd.prog 18 #[.string ⟨a.toArray⟩, .string ⟨b.toArray⟩, .pointer (some ⟨vb, 0, none⟩)] w fun e w' => e = .returned (.int .i64 (cmpT M a b)) ∧ w' = w.alloc (.cells #[.int .i64 (cmpI (M b) (M a)), .int .i64 (cmpS a b)] 3) := by
  have h1 := hM.look ha
  have h2 := hM.look hb
  have h26 := or26 (cmpI (M b) (M a)) (cmpS a b) (w.alloc (.cells #[.int .i64 (cmpI (M b) (M a)), .int .i64 (cmpS a b)] 3)) w.heap.size (heap_alloc_new w _)
  have er : (if cmpI (M b) (M a) = 0 then cmpS a b else cmpI (M b) (M a)) = cmpT M a b := rfl
  rw [er] at h26
  clear er
  generalize cmpT M a b = r at h26 ⊢
  have h28 := cmp28 a b w
  generalize cmpS a b = r2 at h26 h28 ⊢
  have H26 := Lib.hid h26; have H27 := Lib.hid (cmp27 (M b) (M a) w); have H28 := Lib.hid h28
  clear h26 h28 hM
  go_enter Tryd.func18, Tryd.ntmps18
  go_wp2_with (first | (go_at_call 20; refine H27.out.mono ?_; rintro e w' ⟨rfl, rfl⟩) | (go_at_call 21; refine H28.out.mono ?_; rintro e w' ⟨rfl, rfl⟩) | (go_at_call 19; refine H26.out.mono ?_; rintro e w' ⟨rfl, rfl⟩))
  go_ret
  exact ⟨rfl, rfl⟩
end Go.Proofs.YtlddpdlebdjniaaDoor
