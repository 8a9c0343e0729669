/- The program's Add, Less, Of, All, Fits, Over, New, walked. -/
import Derived.Test.YtjcpmfioppopcaaBk
namespace Go.Proofs.Ytjcpmfioppopcaa
open Go.RowKit Go.Maps
set_option linter.unusedVariables false

theorem BookAt.mono {w : World} {b : Nat} {mo : Option Nat} {room share : Int} {L : List Ln} {N N' : Nat} (h : BookAt w b mo room share L N) (hN : N ≤ N') : BookAt w b mo room share L N' := by
  refine ⟨h.blk, ?_⟩
  rcases h.map with h0 | ⟨mb, D, rfl, hown, ht⟩
  · exact .inl h0
  · exact .inr ⟨mb, D, rfl, hown.mono hN, ht⟩

/-- Of a map in a book there is the old one, or a new one. -/
def NewMap (w : World) (mo mo' : Option Nat) : Prop := mo' = mo ∨ (mo = none ∧ ∃ m, mo' = some m ∧ w.heap.size ≤ m)

theorem set_any (b : Nat) (mo : Option Nat) (L : List Ln) (N : Nat) (room share n : Int) (t : Bs) (w : World) (hBA : BookAt w b mo room share L N) (ht : t.length ≤ 200) (hN : N ≤ 100000) (hI : Inv room share L) (h0 : 0 ≤ n) (h1 : n ≤ 1125899906842624) :
    Calls Try.prog 27 #[.pointer (some ⟨b, 0, none⟩), .string ⟨t.toArray⟩, .int .i64 n] w fun e w' => e = .returned (.tuple #[]) ∧ ∃ mo', BookAt w' b mo' room share (rWith L t n) (N + 1) ∧ ExtB (bks b mo) w w' ∧ NewMap w mo mo' := by
  rcases hBA.map with ⟨rfl, h00⟩ | ⟨mb, D, rfl, hown, hti⟩
  · refine (set_none b L room share n t w ht hBA.blk h00 hI h0 h1).mono ?_
    rintro e w' ⟨rfl, hB, hx⟩
    exact ⟨rfl, _, hB.mono (by omega), hx.mono (by simp [bks]), .inr ⟨rfl, _, rfl, Nat.le_refl _⟩⟩
  · refine (set_some b mb N D L room share n t w ht hBA.blk hown hti hN hI h0 h1).mono ?_
    rintro e w' ⟨rfl, hB, hx⟩
    exact ⟨rfl, _, hB, hx.mono (by simp [bks]), .inl rfl⟩

set_option maxHeartbeats 400000 in
theorem right_any (n : Int) (w : World) : Calls Try.prog 30 #[.int .i64 n] w fun e w' => e = .returned (.bool (okN n)) ∧ w = w' := by
  by_cases h1 : 0 ≤ n <;> by_cases h2 : n ≤ 1125899906842624
  all_goals
    go_enter Try.func30, Try.ntmps30
    go_wp2
    go_ret
    exact ⟨by simp [okN, h1, h2], rfl⟩

set_option maxHeartbeats 400000 in
theorem asks_nil (t : Bs) (n : Int) (w : World) : Calls Try.prog 26 #[.pointer none, .string ⟨t.toArray⟩, .int .i64 n] w fun e w' => e = .returned (.bool false) ∧ w = w' := by
  go_enter Try.func26, Try.ntmps26
  go_wp2
  go_ret
  exact ⟨rfl, rfl⟩

set_option maxHeartbeats 400000 in
theorem asks_any (a : Addr) (t : Bs) (n : Int) (w : World) : Calls Try.prog 26 #[.pointer (some a), .string ⟨t.toArray⟩, .int .i64 n] w fun e w' => e = .returned (.bool (asksB t n)) ∧ w = w' := by
  cases h1 : okN n <;> by_cases h2 : t.length ≤ 200
  all_goals
    go_enter Try.func26, Try.ntmps26
    go_wp2_with (go_at_call 30; refine (right_any _ _).mono ?_; rintro e w' ⟨rfl, rfl⟩)
    go_ret
    exact ⟨ret_bool (by simp [asksB, h1, h2] <;> omega), rfl⟩

set_option maxRecDepth 100000 in
set_option maxHeartbeats 4000000 in
theorem add_arg (b : Nat) (t : Bs) (n : Int) (w : World) (hA : asksB t n = false) :
    Calls Try.prog 17 #[.pointer (some ⟨b, 0, none⟩), .string ⟨t.toArray⟩, .int .i64 n] w fun e w' => e = .returned (.int .i64 1) ∧ w = w' := by
  go_enter Try.func17, Try.ntmps17
  go_wp2_with (go_at_call 26; refine (asks_any _ _ _ _).mono ?_; rintro e w' ⟨rfl, rfl⟩)
  go_ret
  exact ⟨rfl, rfl⟩

set_option maxRecDepth 100000 in
set_option maxHeartbeats 4000000 in
theorem add_room (b : Nat) (mo : Option Nat) (L : List Ln) (N : Nat) (room share n : Int) (t : Bs) (w : World) (hBA : BookAt w b mo room share L N) (hI : Inv room share L) (hA : asksB t n = true) (hr : rSum L + n > room ∨ rOf L t + n > share) :
    Calls Try.prog 17 #[.pointer (some ⟨b, 0, none⟩), .string ⟨t.toArray⟩, .int .i64 n] w fun e w' => e = .returned (.int .i64 5) ∧ Ext w w' := by
  obtain ⟨⟨n0, n1⟩, tl⟩ := (asks_iff t n).1 hA
  have b1 := hI.of0 t; have b2 := hI.ofs t; have b3 := hI.sum0; have b4 := hI.sum; have b5 := hI.s0; have b6 := hI.s1; have b7 := hI.r1
  have G0 : ∀ x : Grow [] w, x.v.cell? ⟨b, 0, none⟩ = some (.int .i64 room) := fun x => x.ext.cell (blk_cell hBA.blk 0) (by simp)
  have G1 : ∀ x : Grow [] w, x.v.cell? ⟨b, 1, none⟩ = some (.int .i64 share) := fun x => x.ext.cell (blk_cell hBA.blk 1) (by simp)
  have G2 : ∀ x : Grow [] w, x.v.cell? ⟨b, 2, none⟩ = some (.int .i64 (rSum L)) := fun x => x.ext.cell (blk_cell hBA.blk 2) (by simp)
  have G3 : ∀ x : Grow [] w, x.v.cell? ⟨b, 3, none⟩ = some (.map mo) := fun x => x.ext.cell (blk_cell hBA.blk 3) (by simp)
  have GL : ∀ x : Grow [] w, (Instr.lookup 55 (.map mo) (.string ⟨t.toArray⟩) false).run Try.prog x.v = .ok (.int .i64 (rOf L t)) x.v := fun x => BookAt.look (hBA.ext x.ext (by simp) (by simp)) (by omega)
  have e9 : IntKind.i64.wrap (rSum L + n) = rSum L + n := IntWalk.i64_in _ (by omega)
  have e8 : IntKind.i64.wrap (rOf L t + n) = rOf L t + n := IntWalk.i64_in _ (by omega)
  by_cases hd : room < rSum L + n
  · have hd1 : decide (room < rSum L + n) = true := by simpa using hd
    clear hr
    go_enter Try.func17, Try.ntmps17
    go_wp2_with (go_at_call 26; refine (asks_any _ _ _ _).mono ?_; rintro e w' ⟨rfl, rfl⟩)
    (refine wp_region_grow (by kernel_rfl) (by kernel_rfl) ?_; (repeat (go_big_quiet_step (fail))); refine wpQuiet_nil ?_)
    clear G0 G1 G2 G3 GL e9 e8
    intro w1 hx1
    go_wp2
    go_ret
    exact ⟨rfl, hx1⟩
  · have hd1 : decide (room < rSum L + n) = false := by simpa using hd
    have hd2 : decide (share < rOf L t + n) = true := by simp; omega
    clear hr
    go_enter Try.func17, Try.ntmps17
    go_wp2_with (go_at_call 26; refine (asks_any _ _ _ _).mono ?_; rintro e w' ⟨rfl, rfl⟩)
    (refine wp_region_grow (by kernel_rfl) (by kernel_rfl) ?_; (repeat (go_big_quiet_step (fail))); refine wpQuiet_nil ?_)
    clear G0 G1 G2 G3 GL e9 e8
    intro w1 hx1
    go_wp2
    go_ret
    exact ⟨rfl, hx1⟩

set_option maxRecDepth 100000 in
set_option maxHeartbeats 4000000 in
theorem add_ok (b : Nat) (mo : Option Nat) (L : List Ln) (N : Nat) (room share n : Int) (t : Bs) (w : World) (hBA : BookAt w b mo room share L N) (hN : N ≤ 100000) (hI : Inv room share L) (hA : asksB t n = true) (hr : ¬ (rSum L + n > room ∨ rOf L t + n > share)) :
    Calls Try.prog 17 #[.pointer (some ⟨b, 0, none⟩), .string ⟨t.toArray⟩, .int .i64 n] w fun e w' => e = .returned (.int .i64 0) ∧ ∃ mo', BookAt w' b mo' room share (rWith L t (rOf L t + n)) (N + 1) ∧ ExtB (bks b mo) w w' ∧ NewMap w mo mo' := by
  obtain ⟨⟨n0, n1⟩, tl⟩ := (asks_iff t n).1 hA
  have b1 := hI.of0 t; have b2 := hI.ofs t; have b3 := hI.sum0; have b4 := hI.sum; have b5 := hI.s0; have b6 := hI.s1; have b7 := hI.r1
  have G0 : ∀ x : Grow [] w, x.v.cell? ⟨b, 0, none⟩ = some (.int .i64 room) := fun x => x.ext.cell (blk_cell hBA.blk 0) (by simp)
  have G1 : ∀ x : Grow [] w, x.v.cell? ⟨b, 1, none⟩ = some (.int .i64 share) := fun x => x.ext.cell (blk_cell hBA.blk 1) (by simp)
  have G2 : ∀ x : Grow [] w, x.v.cell? ⟨b, 2, none⟩ = some (.int .i64 (rSum L)) := fun x => x.ext.cell (blk_cell hBA.blk 2) (by simp)
  have G3 : ∀ x : Grow [] w, x.v.cell? ⟨b, 3, none⟩ = some (.map mo) := fun x => x.ext.cell (blk_cell hBA.blk 3) (by simp)
  have GL : ∀ x : Grow [] w, (Instr.lookup 55 (.map mo) (.string ⟨t.toArray⟩) false).run Try.prog x.v = .ok (.int .i64 (rOf L t)) x.v := fun x => BookAt.look (hBA.ext x.ext (by simp) (by simp)) (by omega)
  have e9 : IntKind.i64.wrap (rSum L + n) = rSum L + n := IntWalk.i64_in _ (by omega)
  have e8 : IntKind.i64.wrap (rOf L t + n) = rOf L t + n := IntWalk.i64_in _ (by omega)
  have hd1 : decide (room < rSum L + n) = false := by simp; omega
  have hd2 : decide (share < rOf L t + n) = false := by simp; omega
  have hlow : rOf L t + n ≤ share := by omega
  clear hr
  go_enter Try.func17, Try.ntmps17
  go_wp2_with (go_at_call 26; refine (asks_any _ _ _ _).mono ?_; rintro e w' ⟨rfl, rfl⟩)
  (refine wp_region_grow (by kernel_rfl) (by kernel_rfl) ?_; (repeat (go_big_quiet_step (fail))); refine wpQuiet_nil ?_)
  clear G0 G1 G2 G3 GL e9 e8
  intro w1 hx1
  have hB1 := hBA.ext (.of hx1 []) (by simp) (by simp)
  have c3 : w1.cell? ⟨b, 3, none⟩ = some (.map mo) := blk_cell hB1.blk 3
  have hl := hB1.look (t := t) (by omega)
  have H1 := Lib.hid hB1; clear hB1
  go_wp2_with (go_at_call 27; refine (set_any b mo L N room share _ t _ H1.out tl hN hI ?c0 ?c1).mono ?_; rotate_left; rotate_left; rintro e w2 ⟨rfl, mo', hB2, hx2, hn2⟩)
  case c0 => omega
  case c1 => omega
  go_ret
  refine ⟨rfl, mo', hB2, (ExtB.of hx1 _).trans hx2, ?_⟩
  rcases hn2 with h | ⟨h, m, hm, hs⟩
  · exact .inl h
  · exact .inr ⟨h, m, hm, Nat.le_trans hx1.size hs⟩

theorem add_any (b : Nat) (mo : Option Nat) (L : List Ln) (N : Nat) (room share n : Int) (t : Bs) (w : World) (hBA : BookAt w b mo room share L N) (hN : N ≤ 100000) (hI : Inv room share L) :
    Calls Try.prog 17 #[.pointer (some ⟨b, 0, none⟩), .string ⟨t.toArray⟩, .int .i64 n] w fun e w' => e = .returned (.int .i64 (addE room share L t n)) ∧ ∃ mo', BookAt w' b mo' room share (addL room share L t n) (N + 1) ∧ ExtB (bks b mo) w w' ∧ NewMap w mo mo' := by
  cases hA : asksB t n
  · have e1 : addE room share L t n = 1 := by simp [addE, hA]
    have e2 : addL room share L t n = L := by simp [addL, e1]
    rw [e1, e2]
    refine (add_arg b t n w hA).mono ?_
    rintro e w' ⟨rfl, rfl⟩
    exact ⟨rfl, mo, hBA.mono (by omega), ExtB.refl _ _, .inl rfl⟩
  · by_cases h1 : rSum L + n > room ∨ rOf L t + n > share
    · have e1 : addE room share L t n = 5 := by unfold addE; rw [hA, if_neg (by simp), if_pos h1]
      have e2 : addL room share L t n = L := by simp [addL, e1]
      rw [e1, e2]
      refine (add_room b mo L N room share n t w hBA hI hA h1).mono ?_
      rintro e w' ⟨rfl, hx⟩
      exact ⟨rfl, mo, (hBA.ext (.of hx []) (by simp) (by simp)).mono (by omega), .of hx _, .inl rfl⟩
    · have e1 : addE room share L t n = 0 := by unfold addE; rw [hA, if_neg (by simp), if_neg h1]
      have e2 : addL room share L t n = rWith L t (rOf L t + n) := by simp [addL, e1]
      rw [e1, e2]
      exact add_ok b mo L N room share n t w hBA hN hI hA h1

set_option maxRecDepth 100000 in
set_option maxHeartbeats 4000000 in
theorem less_any (b : Nat) (mo : Option Nat) (L : List Ln) (N : Nat) (room share n : Int) (t : Bs) (w : World) (hBA : BookAt w b mo room share L N) (hN : N ≤ 100000) (hI : Inv room share L) :
    Calls Try.prog 14 #[.pointer (some ⟨b, 0, none⟩), .string ⟨t.toArray⟩, .int .i64 n] w fun e w' => e = .returned (.int .i64 (lessE L t n)) ∧ ∃ mo', BookAt w' b mo' room share (lessL L t n) (N + 1) ∧ ExtB (bks b mo) w w' ∧ NewMap w mo mo' := by
  cases hA : asksB t n
  · have e1 : lessE L t n = 1 := by simp [lessE, hA]
    have e2 : lessL L t n = L := by simp [lessL, e1]
    rw [e1, e2]
    have HB := Lib.hid hBA; clear hBA
    go_enter Try.func14, Try.ntmps14
    go_wp2_with (go_at_call 26; refine (asks_any _ _ _ _).mono ?_; rintro e w' ⟨rfl, rfl⟩)
    go_ret
    exact ⟨rfl, mo, HB.out.mono (by omega), ExtB.refl _ _, .inl rfl⟩
  · obtain ⟨⟨n0, n1⟩, tl⟩ := (asks_iff t n).1 hA
    have b1 := hI.of0 t; have b2 := hI.ofs t; have b3 := hI.sum0; have b4 := hI.sum; have b5 := hI.s0; have b6 := hI.s1; have b7 := hI.r1
    have c3 : w.cell? ⟨b, 3, none⟩ = some (.map mo) := blk_cell hBA.blk 3
    have hl := hBA.look (t := t) (by omega)
    have HB := Lib.hid hBA; clear hBA
    by_cases h1 : rOf L t < n
    · have e1 : lessE L t n = 4 := by unfold lessE; rw [hA, if_neg (by simp), if_pos h1]
      have e2 : lessL L t n = L := by simp [lessL, e1]
      rw [e1, e2]
      clear e1 e2
      go_enter Try.func14, Try.ntmps14
      go_wp2_with (go_at_call 26; refine (asks_any _ _ _ _).mono ?_; rintro e w' ⟨rfl, rfl⟩)
      go_ret
      exact ⟨rfl, mo, HB.out.mono (by omega), ExtB.refl _ _, .inl rfl⟩
    · have e1 : lessE L t n = 0 := by unfold lessE; rw [hA, if_neg (by simp), if_neg h1]
      have e2 : lessL L t n = rWith L t (rOf L t - n) := by simp [lessL, e1]
      rw [e1, e2]
      clear e1 e2
      go_enter Try.func14, Try.ntmps14
      go_wp2_with (first | (go_at_call 26; refine (asks_any _ _ _ _).mono ?_; rintro e w' ⟨rfl, rfl⟩) | (go_at_call 27; refine (set_any b mo L N room share _ t _ HB.out tl hN hI ?c0 ?c1).mono ?_; rotate_left; rotate_left; rintro e w2 ⟨rfl, mo', hB2, hx2, hn2⟩))
      case c0 => omega
      case c1 => omega
      go_ret
      exact ⟨rfl, mo', hB2, hx2, hn2⟩

set_option maxHeartbeats 1000000 in
theorem of_any (b : Nat) (mo : Option Nat) (L : List Ln) (N : Nat) (room share : Int) (t : Bs) (w : World) (hBA : BookAt w b mo room share L N) (ht : t.length ≤ 1000000) :
    Calls Try.prog 16 #[.pointer (some ⟨b, 0, none⟩), .string ⟨t.toArray⟩] w fun e w' => e = .returned (.int .i64 (rOf L t)) ∧ w = w' := by
  have c3 : w.cell? ⟨b, 3, none⟩ = some (.map mo) := blk_cell hBA.blk 3
  have hl := hBA.look (t := t) ht
  clear hBA
  go_enter Try.func16, Try.ntmps16
  go_wp2
  go_ret
  exact ⟨rfl, rfl⟩

set_option maxHeartbeats 1000000 in
theorem all_any (b : Nat) (mo : Option Nat) (L : List Ln) (N : Nat) (room share : Int) (w : World) (hBA : BookAt w b mo room share L N) :
    Calls Try.prog 23 #[.pointer (some ⟨b, 0, none⟩)] w fun e w' => e = .returned (.int .i64 (rSum L)) ∧ w = w' := by
  have c2 : w.cell? ⟨b, 2, none⟩ = some (.int .i64 (rSum L)) := blk_cell hBA.blk 2
  clear hBA
  go_enter Try.func23, Try.ntmps23
  go_wp2
  go_ret
  exact ⟨rfl, rfl⟩

end Go.Proofs.Ytjcpmfioppopcaa
