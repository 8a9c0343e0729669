/- The program's Fits, Over, New, walked; and what a nil book tells. -/
import Derived.Test.YtjcpmfioppopcaaBk2
namespace Go.Proofs.Ytjcpmfioppopcaa
open Go.RowKit Go.Maps
set_option linter.unusedVariables false

theorem asks_is {v : Bool} (a : Addr) (t : Bs) (n : Int) (w : World) (h : asksB t n = v) : Calls Try.prog 26 #[.pointer (some a), .string ⟨t.toArray⟩, .int .i64 n] w fun e w' => e = .returned (.bool v) ∧ w = w' := by
  rw [← h]; exact asks_any a t n w

set_option maxRecDepth 100000 in
set_option maxHeartbeats 4000000 in
theorem fits_any (b : Nat) (mo : Option Nat) (L : List Ln) (N : Nat) (room share n : Int) (t : Bs) (w : World) (hBA : BookAt w b mo room share L N) (hI : Inv room share L) :
    Calls Try.prog 13 #[.pointer (some ⟨b, 0, none⟩), .string ⟨t.toArray⟩, .int .i64 n] w fun e w' => e = .returned (.bool (addE room share L t n == 0)) ∧ Ext w w' := by
  have b1 := hI.of0 t; have b2 := hI.ofs t; have b3 := hI.sum0; have b4 := hI.sum; have b5 := hI.s0; have b6 := hI.s1; have b7 := hI.r1
  have G0 : ∀ x : Grow [] w, x.v.cell? ⟨b, 0, none⟩ = some (.int .i64 room) := fun x => x.ext.cell (blk_cell hBA.blk 0) (by simp)
  have G1 : ∀ x : Grow [] w, x.v.cell? ⟨b, 1, none⟩ = some (.int .i64 share) := fun x => x.ext.cell (blk_cell hBA.blk 1) (by simp)
  have G2 : ∀ x : Grow [] w, x.v.cell? ⟨b, 2, none⟩ = some (.int .i64 (rSum L)) := fun x => x.ext.cell (blk_cell hBA.blk 2) (by simp)
  have G3 : ∀ x : Grow [] w, x.v.cell? ⟨b, 3, none⟩ = some (.map mo) := fun x => x.ext.cell (blk_cell hBA.blk 3) (by simp)
  cases hA : asksB t n
  · have e1 : (addE room share L t n == 0) = false := by simp [addE, hA]
    rw [e1]; clear e1
    go_enter Try.func13, Try.ntmps13
    go_wp2
    (refine wp_region_grow (by kernel_rfl) (by kernel_rfl) ?_; (repeat (go_big_quiet_step ((go_at_call 26; exact Calls.inGrow_same (asks_is _ _ _ _ hA))))); refine wpQuiet_nil ?_)
    clear G0 G1 G2 G3
    intro w1 hx1
    go_wp2
    go_ret
    exact ⟨rfl, hx1⟩
  · obtain ⟨⟨n0, n1⟩, tl⟩ := (asks_iff t n).1 hA
    have GL : ∀ x : Grow [] w, (Instr.lookup 55 (.map mo) (.string ⟨t.toArray⟩) false).run Try.prog x.v = .ok (.int .i64 (rOf L t)) x.v := fun x => BookAt.look (hBA.ext x.ext (by simp) (by simp)) (by omega)
    have e9 : IntKind.i64.wrap (rSum L + n) = rSum L + n := IntWalk.i64_in _ (by omega)
    have e8 : IntKind.i64.wrap (rOf L t + n) = rOf L t + n := IntWalk.i64_in _ (by omega)
    by_cases hd : rSum L + n ≤ room
    · have hd1 : decide (rSum L + n ≤ room) = true := by simpa using hd
      by_cases hs : rOf L t + n ≤ share
      · have hd2 : decide (rOf L t + n ≤ share) = true := by simpa using hs
        have e1 : (addE room share L t n == 0) = true := by unfold addE; rw [hA, if_neg (by simp), if_neg (by omega)]; rfl
        rw [e1]; clear e1
        go_enter Try.func13, Try.ntmps13
        go_wp2
        (refine wp_region_grow (by kernel_rfl) (by kernel_rfl) ?_; (repeat (go_big_quiet_step ((go_at_call 26; exact Calls.inGrow_same (asks_is _ _ _ _ hA))))); refine wpQuiet_nil ?_)
        clear G0 G1 G2 G3 GL e9 e8
        intro w1 hx1
        go_wp2
        go_ret
        exact ⟨rfl, hx1⟩
      · have hd2 : decide (rOf L t + n ≤ share) = false := by simpa using hs
        have e1 : (addE room share L t n == 0) = false := by unfold addE; rw [hA, if_neg (by simp), if_pos (by omega)]; rfl
        rw [e1]; clear e1
        go_enter Try.func13, Try.ntmps13
        go_wp2
        (refine wp_region_grow (by kernel_rfl) (by kernel_rfl) ?_; (repeat (go_big_quiet_step ((go_at_call 26; exact Calls.inGrow_same (asks_is _ _ _ _ hA))))); refine wpQuiet_nil ?_)
        clear G0 G1 G2 G3 GL e9 e8
        intro w1 hx1
        go_wp2
        go_ret
        exact ⟨rfl, hx1⟩
    · have hd1 : decide (rSum L + n ≤ room) = false := by simpa using hd
      have e1 : (addE room share L t n == 0) = false := by unfold addE; rw [hA, if_neg (by simp), if_pos (by omega)]; rfl
      rw [e1]; clear e1
      go_enter Try.func13, Try.ntmps13
      go_wp2
      (refine wp_region_grow (by kernel_rfl) (by kernel_rfl) ?_; (repeat (go_big_quiet_step ((go_at_call 26; exact Calls.inGrow_same (asks_is _ _ _ _ hA))))); refine wpQuiet_nil ?_)
      clear G0 G1 G2 G3 GL e9 e8
      intro w1 hx1
      go_wp2
      go_ret
      exact ⟨rfl, hx1⟩

set_option maxRecDepth 100000 in
set_option maxHeartbeats 4000000 in
theorem over_any (b : Nat) (mo : Option Nat) (L : List Ln) (N : Nat) (room share n : Int) (t : Bs) (w : World) (hBA : BookAt w b mo room share L N) (hI : Inv room share L) :
    Calls Try.prog 12 #[.pointer (some ⟨b, 0, none⟩), .string ⟨t.toArray⟩, .int .i64 n] w fun e w' => e = .returned (.tuple #[.int .i64 (overOwn share L t n), .int .i64 (overAny room share L t n), .int .i64 (overE share t n)]) ∧ Ext w w' := by
  have b1 := hI.of0 t; have b2 := hI.ofs t; have b3 := hI.sum0; have b4 := hI.sum; have b5 := hI.s0; have b6 := hI.s1; have b7 := hI.r1
  cases hA : asksB t n
  · have e1 : overE share t n = 1 := by simp [overE, hA]
    have e2 : overOwn share L t n = 0 := by simp [overOwn, e1]
    have e3 : overAny room share L t n = 0 := by simp [overAny, e1]
    rw [e1, e2, e3]; clear e1 e2 e3 hBA
    go_enter Try.func12, Try.ntmps12
    go_wp2_with (go_at_call 26; refine (asks_any _ _ _ _).mono ?_; rintro e w' ⟨rfl, rfl⟩)
    go_ret3
    exact ⟨rfl, Ext.refl _⟩
  · obtain ⟨⟨n0, n1⟩, tl⟩ := (asks_iff t n).1 hA
    have c1 : w.cell? ⟨b, 1, none⟩ = some (.int .i64 share) := blk_cell hBA.blk 1
    by_cases hsh : share < n
    · have e1 : overE share t n = 4 := by unfold overE; rw [hA, if_neg (by simp), if_pos (by omega)]
      have e2 : overOwn share L t n = 0 := by simp [overOwn, e1]
      have e3 : overAny room share L t n = 0 := by simp [overAny, e1]
      rw [e1, e2, e3]; clear e1 e2 e3 hBA
      go_enter Try.func12, Try.ntmps12
      go_wp2_with (go_at_call 26; refine (asks_any _ _ _ _).mono ?_; rintro e w' ⟨rfl, rfl⟩)
      go_ret3
      exact ⟨rfl, Ext.refl _⟩
    · have e1 : overE share t n = 0 := by unfold overE; rw [hA, if_neg (by simp), if_neg (by omega)]
      have e2 : overOwn share L t n = max (rOf L t + n - share) 0 := by unfold overOwn; rw [if_pos e1]
      have e3 : overAny room share L t n = max (rSum L - max (rOf L t + n - share) 0 + n - room) 0 := by unfold overAny; rw [if_pos e1]
      have E1 := Lib.hid e1; have E2 := Lib.hid e2; have E3 := Lib.hid e3; clear e1 e2 e3
      have HB := Lib.hid hBA; clear hBA
      go_enter Try.func12, Try.ntmps12
      go_wp2_with (go_at_call 26; refine (asks_any _ _ _ _).mono ?_; rintro e w' ⟨rfl, rfl⟩)
      have G1 : ∀ x : Grow [] w, x.v.cell? ⟨b, 1, none⟩ = some (.int .i64 share) := fun x => x.ext.cell c1 (by simp)
      have G3 : ∀ x : Grow [] w, x.v.cell? ⟨b, 3, none⟩ = some (.map mo) := fun x => x.ext.cell (blk_cell HB.out.blk 3) (by simp)
      have GL : ∀ x : Grow [] w, (Instr.lookup 55 (.map mo) (.string ⟨t.toArray⟩) false).run Try.prog x.v = .ok (.int .i64 (rOf L t)) x.v := fun x => BookAt.look (HB.out.ext x.ext (by simp) (by simp)) (by omega)
      have e9 : IntKind.i64.wrap (rOf L t + n) = rOf L t + n := IntWalk.i64_in _ (by omega)
      have e8 : IntKind.i64.wrap (rOf L t + n - share) = rOf L t + n - share := IntWalk.i64_in _ (by omega)
      (refine wp_region_grow (by kernel_rfl) (by kernel_rfl) ?_; (repeat (go_big_quiet_step (fail))); refine wpQuiet_nil ?_)
      clear G1 G3 GL e9 e8
      intro w1 hx1
      have hB1 := HB.out.ext (.of hx1 []) (by simp) (by simp)
      have H1 := Lib.hid hB1; clear hB1
      have G0 : ∀ x : Grow [] w1, x.v.cell? ⟨b, 0, none⟩ = some (.int .i64 room) := fun x => x.ext.cell (blk_cell H1.out.blk 0) (by simp)
      have G2 : ∀ x : Grow [] w1, x.v.cell? ⟨b, 2, none⟩ = some (.int .i64 (rSum L)) := fun x => x.ext.cell (blk_cell H1.out.blk 2) (by simp)
      have e9 : IntKind.i64.wrap (rSum L - max (rOf L t + n - share) 0) = rSum L - max (rOf L t + n - share) 0 := IntWalk.i64_in _ (by omega)
      have e8 : IntKind.i64.wrap (rSum L - max (rOf L t + n - share) 0 + n) = rSum L - max (rOf L t + n - share) 0 + n := IntWalk.i64_in _ (by omega)
      have e7 : IntKind.i64.wrap (rSum L - max (rOf L t + n - share) 0 + n - room) = rSum L - max (rOf L t + n - share) 0 + n - room := IntWalk.i64_in _ (by omega)
      go_wp2
      (refine wp_region_grow (by kernel_rfl) (by kernel_rfl) ?_; (repeat (go_big_quiet_step (fail))); refine wpQuiet_nil ?_)
      clear G0 G2 e9 e8 e7
      intro w2 hx2
      go_wp2
      go_ret3
      exact ⟨ret3 E2.out.symm E3.out.symm E1.out.symm, hx1.trans hx2⟩

set_option maxRecDepth 100000 in
set_option maxHeartbeats 4000000 in
theorem new_ok (all share : Int) (w : World) (h1 : okN all = true) (h2 : okN share = true) (h3 : share ≤ all) :
    Calls Try.prog 18 #[.int .i64 all, .int .i64 share] w fun e w' => e = .returned (.tuple #[.pointer (some ⟨w.heap.size, 0, none⟩), .int .i64 0]) ∧ BookAt w' w.heap.size none all share [] 0 ∧ Ext w w' := by
  have h4 : decide (all < share) = false := by simp; omega
  go_enter Try.func18, Try.ntmps18
  go_wp2_with (go_at_call 30; refine (right_any _ _).mono ?_; rintro e w' ⟨rfl, rfl⟩)
  go_ret2
  exact ⟨rfl, ⟨heap_alloc_new w _, .inl ⟨rfl, fun _ => rfl⟩⟩, Ext.alloc (Ext.refl w) _⟩

set_option maxRecDepth 100000 in
set_option maxHeartbeats 4000000 in
theorem new_bad (all share : Int) (w : World) (h : ¬ (okN all = true ∧ okN share = true ∧ share ≤ all)) :
    Calls Try.prog 18 #[.int .i64 all, .int .i64 share] w fun e w' => e = .returned (.tuple #[.pointer none, .int .i64 1]) ∧ w = w' := by
  cases h1 : okN all
  · clear h
    go_enter Try.func18, Try.ntmps18
    go_wp2_with (go_at_call 30; refine (right_any _ _).mono ?_; rintro e w' ⟨rfl, rfl⟩)
    go_ret2
    exact ⟨rfl, rfl⟩
  · cases h2 : okN share
    · clear h
      go_enter Try.func18, Try.ntmps18
      go_wp2_with (go_at_call 30; refine (right_any _ _).mono ?_; rintro e w' ⟨rfl, rfl⟩)
      go_ret2
      exact ⟨rfl, rfl⟩
    · have h3 : ¬ share ≤ all := fun hh => h ⟨h1, h2, hh⟩
      have h4 : decide (all < share) = true := by simp; omega
      clear h
      go_enter Try.func18, Try.ntmps18
      go_wp2_with (go_at_call 30; refine (right_any _ _).mono ?_; rintro e w' ⟨rfl, rfl⟩)
      go_ret2
      exact ⟨rfl, rfl⟩

/-! ### a nil book -/
set_option maxHeartbeats 1000000 in
theorem add_nil (t : Bs) (n : Int) (w : World) : Calls Try.prog 17 #[.pointer none, .string ⟨t.toArray⟩, .int .i64 n] w fun e w' => e = .returned (.int .i64 1) ∧ w = w' := by
  go_enter Try.func17, Try.ntmps17
  go_wp2_with (go_at_call 26; refine (asks_nil _ _ _).mono ?_; rintro e w' ⟨rfl, rfl⟩)
  go_ret
  exact ⟨rfl, rfl⟩
set_option maxHeartbeats 1000000 in
theorem less_nil (t : Bs) (n : Int) (w : World) : Calls Try.prog 14 #[.pointer none, .string ⟨t.toArray⟩, .int .i64 n] w fun e w' => e = .returned (.int .i64 1) ∧ w = w' := by
  go_enter Try.func14, Try.ntmps14
  go_wp2_with (go_at_call 26; refine (asks_nil _ _ _).mono ?_; rintro e w' ⟨rfl, rfl⟩)
  go_ret
  exact ⟨rfl, rfl⟩
set_option maxHeartbeats 1000000 in
theorem over_nil (t : Bs) (n : Int) (w : World) : Calls Try.prog 12 #[.pointer none, .string ⟨t.toArray⟩, .int .i64 n] w fun e w' => e = .returned (.tuple #[.int .i64 0, .int .i64 0, .int .i64 1]) ∧ w = w' := by
  go_enter Try.func12, Try.ntmps12
  go_wp2_with (go_at_call 26; refine (asks_nil _ _ _).mono ?_; rintro e w' ⟨rfl, rfl⟩)
  go_ret3
  exact ⟨rfl, rfl⟩
set_option maxHeartbeats 1000000 in
theorem of_nil (t : Bs) (w : World) : Calls Try.prog 16 #[.pointer none, .string ⟨t.toArray⟩] w fun e w' => e = .returned (.int .i64 0) ∧ w = w' := by
  go_enter Try.func16, Try.ntmps16
  go_wp2
  go_ret
  exact ⟨rfl, rfl⟩
set_option maxHeartbeats 1000000 in
theorem all_nil (w : World) : Calls Try.prog 23 #[.pointer none] w fun e w' => e = .returned (.int .i64 0) ∧ w = w' := by
  go_enter Try.func23, Try.ntmps23
  go_wp2
  go_ret
  exact ⟨rfl, rfl⟩
set_option maxHeartbeats 1000000 in
theorem tenants_nil (w : World) : Calls Try.prog 15 #[.pointer none] w fun e w' => e = .returned (.slice none 0 0) ∧ w = w' := by
  go_enter Try.func15, Try.ntmps15
  go_wp2
  go_ret
  exact ⟨rfl, rfl⟩
set_option maxRecDepth 100000 in
set_option maxHeartbeats 4000000 in
theorem fits_nil (t : Bs) (n : Int) (w : World) : Calls Try.prog 13 #[.pointer none, .string ⟨t.toArray⟩, .int .i64 n] w fun e w' => e = .returned (.bool false) ∧ Ext w w' := by
  go_enter Try.func13, Try.ntmps13
  go_wp2
  (refine wp_region_grow (by kernel_rfl) (by kernel_rfl) ?_; (repeat (go_big_quiet_step ((go_at_call 26; exact Calls.inGrow_same (asks_nil _ _ _))))); refine wpQuiet_nil ?_)
  intro w1 hx1
  go_wp2
  go_ret
  exact ⟨rfl, hx1⟩

end Go.Proofs.Ytjcpmfioppopcaa
