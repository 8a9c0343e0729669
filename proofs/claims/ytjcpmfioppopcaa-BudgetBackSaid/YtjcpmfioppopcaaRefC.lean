/- The reference's Over, Fits, New, walked. -/
import Derived.Test.YtjcpmfioppopcaaRefB
namespace Go.Proofs.Ytjcpmfioppopcaa
open Go.RowKit
set_option linter.unusedVariables false

set_option maxRecDepth 100000 in
set_option maxHeartbeats 4000000 in
theorem rfits_any (L : List Ln) (s : Value) (t : Bs) (all share n : Int) (w : World) (hL : LinesAt w s L) (hlen : L.length ≤ 1000) (hI : Inv all share L) :
    Calls Try.prog 25 #[.agg #[.int .i64 all, .int .i64 share, s], .string ⟨t.toArray⟩, .int .i64 n] w fun e w' => e = .returned (.bool (addE all share L t n == 0)) ∧ Below w.heap.size w w' := by
  obtain ⟨A, c, rfl⟩ := hL.slice
  have hb : Ext w (w.alloc (.cells #[.int .i64 all, .int .i64 share, .slice A L.length c] 32)) := Ext.alloc (Ext.refl w) _
  have hl2 := hL.alloc (.cells #[.int .i64 all, .int .i64 share, .slice A L.length c] 32)
  go_enter Try.func25, Try.ntmps25
  go_wp2_with (go_at_call 21; refine (radd_any L _ t all share n _ hl2 hlen hI).mono ?_; rintro e w1 ⟨s', rfl, hl3, hx1⟩; obtain ⟨A3, c3, rfl⟩ := hl3.slice; clear hl3)
  go_ret
  exact ⟨rfl, (hb.trans hx1).alloc _⟩

set_option maxRecDepth 100000 in
set_option maxHeartbeats 4000000 in
theorem rnew_ok (all share : Int) (w : World) (h1 : okN all = true) (h2 : okN share = true) (h3 : share ≤ all) :
    Calls Try.prog 19 #[.int .i64 all, .int .i64 share] w fun e w' => e = .returned (.tuple #[.agg #[.int .i64 all, .int .i64 share, .slice none 0 0], .int .i64 0]) ∧ Below w.heap.size w w' := by
  have h4 : decide (all < share) = false := by simp; omega
  go_enter Try.func19, Try.ntmps19
  go_wp2_with (go_at_call 31; refine (number_any _ _).mono ?_; rintro e w' ⟨rfl, rfl⟩)
  exact bodyPost_ret (v := .tuple #[.agg #[.int .i64 all, .int .i64 share, .slice none 0 0], .int .i64 0]) (by simp [results, Try.results19, go_sem]) rfl ⟨rfl, (Below.refl _ _).alloc (Nat.le_refl _) _⟩
set_option maxRecDepth 100000 in
set_option maxHeartbeats 4000000 in
theorem rnew_bad (all share : Int) (w : World) (h : ¬ (okN all = true ∧ okN share = true ∧ share ≤ all)) :
    Calls Try.prog 19 #[.int .i64 all, .int .i64 share] w fun e w' => e = .returned (.tuple #[.agg #[.int .i64 0, .int .i64 0, .slice none 0 0], .int .i64 1]) ∧ Below w.heap.size w w' := by
  cases h1 : okN all
  · clear h
    go_enter Try.func19, Try.ntmps19
    go_wp2_with (go_at_call 31; refine (number_any _ _).mono ?_; rintro e w' ⟨rfl, rfl⟩)
    exact bodyPost_ret (v := .tuple #[.agg #[.int .i64 0, .int .i64 0, .slice none 0 0], .int .i64 1]) (by simp [results, Try.results19, go_sem]) rfl ⟨rfl, (Below.refl _ _).alloc (Nat.le_refl _) _⟩
  · cases h2 : okN share
    · clear h
      go_enter Try.func19, Try.ntmps19
      go_wp2_with (go_at_call 31; refine (number_any _ _).mono ?_; rintro e w' ⟨rfl, rfl⟩)
      exact bodyPost_ret (v := .tuple #[.agg #[.int .i64 0, .int .i64 0, .slice none 0 0], .int .i64 1]) (by simp [results, Try.results19, go_sem]) rfl ⟨rfl, (Below.refl _ _).alloc (Nat.le_refl _) _⟩
    · have h3 : ¬ share ≤ all := fun hh => h ⟨h1, h2, hh⟩
      have h4 : decide (all < share) = true := by simp; omega
      clear h
      go_enter Try.func19, Try.ntmps19
      go_wp2_with (go_at_call 31; refine (number_any _ _).mono ?_; rintro e w' ⟨rfl, rfl⟩)
      exact bodyPost_ret (v := .tuple #[.agg #[.int .i64 0, .int .i64 0, .slice none 0 0], .int .i64 1]) (by simp [results, Try.results19, go_sem]) rfl ⟨rfl, (Below.refl _ _).alloc (Nat.le_refl _) _⟩

theorem ret3 {a b c a' b' c' : Int} (h1 : a = a') (h2 : b = b') (h3 : c = c') : Ending.returned (.tuple #[.int .i64 a, .int .i64 b, .int .i64 c]) = .returned (.tuple #[.int .i64 a', .int .i64 b', .int .i64 c']) := by rw [h1, h2, h3]

set_option maxRecDepth 100000 in
set_option maxHeartbeats 4000000 in
theorem rover_arg (L : List Ln) (s : Value) (t : Bs) (all share n : Int) (w : World) (hA : asksB t n = false) :
    Calls Try.prog 24 #[.agg #[.int .i64 all, .int .i64 share, s], .string ⟨t.toArray⟩, .int .i64 n] w fun e w' => e = .returned (.tuple #[.int .i64 0, .int .i64 0, .int .i64 1]) ∧ Below w.heap.size w w' := by
  by_cases h1 : t.length ≤ 200
  · have h2 : okN n = false := by simpa [asksB, h1] using hA
    have hlt : decide (200 < (t.length : Int)) = false := by simp; omega
    go_enter Try.func24, Try.ntmps24
    go_wp2_with (go_at_call 31; refine (number_any _ _).mono ?_; rintro e w' ⟨rfl, rfl⟩)
    go_ret3
    exact ⟨rfl, (Below.refl _ _).alloc (Nat.le_refl _) _⟩
  · have hlt : decide (200 < (t.length : Int)) = true := by simp; omega
    go_enter Try.func24, Try.ntmps24
    go_wp2
    go_ret3
    exact ⟨rfl, (Below.refl _ _).alloc (Nat.le_refl _) _⟩

set_option maxRecDepth 100000 in
set_option maxHeartbeats 4000000 in
theorem rover_ok (L : List Ln) (s : Value) (t : Bs) (all share n : Int) (w : World) (hL : LinesAt w s L) (hlen : L.length ≤ 1000) (hI : Inv all share L) (hA : asksB t n = true) :
    Calls Try.prog 24 #[.agg #[.int .i64 all, .int .i64 share, s], .string ⟨t.toArray⟩, .int .i64 n] w fun e w' => e = .returned (.tuple #[.int .i64 (overOwn share L t n), .int .i64 (overAny all share L t n), .int .i64 (overE share t n)]) ∧ Below w.heap.size w w' := by
  obtain ⟨A, c, rfl⟩ := hL.slice
  obtain ⟨⟨n0, n1⟩, tl⟩ := (asks_iff t n).1 hA
  have hok : okN n = true := by simp [okN, n0, n1]
  have hlt : decide (200 < (t.length : Int)) = false := by simp; omega
  have b1 := hI.of0 t; have b2 := hI.ofs t; have b3 := hI.sum0; have b4 := hI.sum; have b5 := hI.s0; have b6 := hI.s1; have b7 := hI.r1
  have hv : ∀ x ∈ L, 0 ≤ x.2 := fun x hx => (hI.val x hx).1
  have HV := Lib.hid hv; clear hv
  obtain ⟨W, hW⟩ : ∃ W, W = w.alloc (.cells #[.int .i64 all, .int .i64 share, .slice A L.length c] 32) := ⟨_, rfl⟩
  have hE : Ext w W := by rw [hW]; exact Ext.alloc (Ext.refl w) _
  have hw0 : W.heap[w.heap.size]? = some (.cells #[.int .i64 all, .int .i64 share, .slice A L.length c] 32 (0, 0)) := by rw [hW]; exact heap_alloc_new w _
  have a0 : W.cell? ⟨w.heap.size, 0, none⟩ = some (.int .i64 all) := blk_cell hw0 0
  have a1 : W.cell? ⟨w.heap.size, 1, none⟩ = some (.int .i64 share) := blk_cell hw0 1
  have a2 : W.cell? ⟨w.heap.size, 2, none⟩ = some (.slice A L.length c) := blk_cell hw0 2
  have hLW := hE.lines hL
  have HW := Lib.hid hW; clear hw0 hW
  by_cases hsh : share < n
  · have e1 : overE share t n = 4 := by unfold overE; rw [hA, if_neg (by simp), if_pos (by omega)]
    have HE1 := Lib.hid e1; clear e1
    go_enter Try.func24, Try.ntmps24
    go_wp2_with (go_at_call 31; refine (number_any _ _).mono ?_; rintro e w' ⟨rfl, rfl⟩)
    go_ret3
    exact ⟨ret3 (by simp [overOwn, HE1.out]) (by simp [overAny, HE1.out]) HE1.out.symm, (Below.refl _ _).alloc (Nat.le_refl _) _⟩
  · have e1 : overE share t n = 0 := by unfold overE; rw [hA, if_neg (by simp), if_neg (by omega)]
    have HE1 := Lib.hid e1; clear e1
    go_enter Try.func24, Try.ntmps24
    go_wp2_with (go_at_call 31; refine (number_any _ _).mono ?_; rintro e w' ⟨rfl, rfl⟩)
    rw [← HW.out]
    have G0 : ∀ x : Grow [] W, x.v.cell? ⟨w.heap.size, 0, none⟩ = some (.int .i64 all) := fun x => x.ext.cell a0 (by simp)
    have G1 : ∀ x : Grow [] W, x.v.cell? ⟨w.heap.size, 1, none⟩ = some (.int .i64 share) := fun x => x.ext.cell a1 (by simp)
    have G2 : ∀ x : Grow [] W, x.v.cell? ⟨w.heap.size, 2, none⟩ = some (.slice A L.length c) := fun x => x.ext.cell a2 (by simp)
    have e9 : IntKind.i64.wrap (rOf L t + n) = rOf L t + n := IntWalk.i64_in _ (by omega)
    have e8 : IntKind.i64.wrap (rOf L t + n - share) = rOf L t + n - share := IntWalk.i64_in _ (by omega)
    (refine wp_region_grow (by kernel_rfl) (by kernel_rfl) ?_; (repeat (go_big_quiet_step ((go_at_call 32; exact Calls.inGrow (rof_any L _ t all share _ ((Grow.ext _).ext.lines hLW) hlen))))); refine wpQuiet_nil ?_)
    clear G0 G1 G2 e8 e9
    intro w1 hx1
    have c0 := hx1.cell a0; have c1 := hx1.cell a1; have c2 := hx1.cell a2
    have G0 : ∀ x : Grow [] w1, x.v.cell? ⟨w.heap.size, 0, none⟩ = some (.int .i64 all) := fun x => x.ext.cell c0 (by simp)
    have G1 : ∀ x : Grow [] w1, x.v.cell? ⟨w.heap.size, 1, none⟩ = some (.int .i64 share) := fun x => x.ext.cell c1 (by simp)
    have G2 : ∀ x : Grow [] w1, x.v.cell? ⟨w.heap.size, 2, none⟩ = some (.slice A L.length c) := fun x => x.ext.cell c2 (by simp)
    by_cases hown : rOf L t + n - share < 0
    · have e7 : IntKind.i64.wrap (rSum L) = rSum L := IntWalk.i64_in _ (by omega)
      have e8 : IntKind.i64.wrap (rSum L + n) = rSum L + n := IntWalk.i64_in _ (by omega)
      have e6 : IntKind.i64.wrap (rSum L + n - all) = rSum L + n - all := IntWalk.i64_in _ (by omega)
      go_wp2
      (refine wp_region_grow (by kernel_rfl) (by kernel_rfl) ?_; (repeat (go_big_quiet_step ((go_at_call 34; exact Calls.inGrow (rsum_any L _ all share _ (((Grow.ext _).ext).lines (hx1.lines hLW)) hlen HV.out (by omega)))))); refine wpQuiet_nil ?_)
      clear G0 G1 G2 e8 e7 e6
      intro w2 hx2
      by_cases hany : rSum L + n - all < 0
      · go_wp2
        go_ret3
        exact ⟨ret3 (by unfold overOwn; rw [if_pos HE1.out]; omega) (by unfold overAny; rw [if_pos HE1.out]; omega) HE1.out.symm, (hE.trans hx1).trans hx2⟩
      · go_wp2
        go_ret3
        exact ⟨ret3 (by unfold overOwn; rw [if_pos HE1.out]; omega) (by unfold overAny; rw [if_pos HE1.out]; omega) HE1.out.symm, (hE.trans hx1).trans hx2⟩
    · have e9 : IntKind.i64.wrap (rSum L - (rOf L t + n - share)) = rSum L - (rOf L t + n - share) := IntWalk.i64_in _ (by omega)
      have e8 : IntKind.i64.wrap (rSum L - (rOf L t + n - share) + n) = rSum L - (rOf L t + n - share) + n := IntWalk.i64_in _ (by omega)
      have e6 : IntKind.i64.wrap (rSum L - (rOf L t + n - share) + n - all) = rSum L - (rOf L t + n - share) + n - all := IntWalk.i64_in _ (by omega)
      go_wp2
      (refine wp_region_grow (by kernel_rfl) (by kernel_rfl) ?_; (repeat (go_big_quiet_step ((go_at_call 34; exact Calls.inGrow (rsum_any L _ all share _ (((Grow.ext _).ext).lines (hx1.lines hLW)) hlen HV.out (by omega)))))); refine wpQuiet_nil ?_)
      clear G0 G1 G2 e8 e9 e6
      intro w2 hx2
      by_cases hany : rSum L - (rOf L t + n - share) + n - all < 0
      · go_wp2
        go_ret3
        exact ⟨ret3 (by unfold overOwn; rw [if_pos HE1.out]; omega) (by unfold overAny; rw [if_pos HE1.out]; omega) HE1.out.symm, (hE.trans hx1).trans hx2⟩
      · go_wp2
        go_ret3
        exact ⟨ret3 (by unfold overOwn; rw [if_pos HE1.out]; omega) (by unfold overAny; rw [if_pos HE1.out]; omega) HE1.out.symm, (hE.trans hx1).trans hx2⟩

theorem rover_any (L : List Ln) (s : Value) (t : Bs) (all share n : Int) (w : World) (hL : LinesAt w s L) (hlen : L.length ≤ 1000) (hI : Inv all share L) :
    Calls Try.prog 24 #[.agg #[.int .i64 all, .int .i64 share, s], .string ⟨t.toArray⟩, .int .i64 n] w fun e w' => e = .returned (.tuple #[.int .i64 (overOwn share L t n), .int .i64 (overAny all share L t n), .int .i64 (overE share t n)]) ∧ Below w.heap.size w w' := by
  cases hA : asksB t n
  · have e1 : overE share t n = 1 := by simp [overE, hA]
    have e2 : overOwn share L t n = 0 := by simp [overOwn, e1]
    have e3 : overAny all share L t n = 0 := by simp [overAny, e1]
    rw [e1, e2, e3]
    exact rover_arg L s t all share n w hA
  · exact rover_ok L s t all share n w hL hlen hI hA

end Go.Proofs.Ytjcpmfioppopcaa
