/- The statements' example, walked. -/
import Derived.Test.YteeeabmfebofiaaState
namespace Go.Proofs.Yteeeabmfebofiaa
open Go.RowKit Go.ChangeMaps Go.Maps
set_option linter.unusedVariables false

theorem wf7 : (Lit.int .i64 7).wf = true := by decide
set_option maxRecDepth 100000 in
set_option maxHeartbeats 4000000 in
theorem wakes_any (w : World) : Calls Try.prog 9 #[] w fun e w' => e = .returned (.bool true) ∧ Ext w w' := by
  obtain ⟨B, hB⟩ : ∃ B, B = w.heap.size := ⟨_, rfl⟩
  have HB := Lib.hid hB
  clear hB
  go_enter Try.func9, Try.ntmps9
  go_wp2_with fail
  refine (pi_new _).mono ?_
  rintro e w1 ⟨rfl, p1, x1⟩
  rw [← HB.out] at p1 ⊢
  have P1 := Lib.hid p1; have X1 := Lib.hid (Fz.of_ext x1 B)
  clear p1 x1
  go_wp2_with fail
  refine (pi_take _ _ _ _ _ _ _ P1.out wf7 (by omega) (by simp)).mono ?_
  rintro e w2 ⟨a, g, rfl, p2, x2⟩
  have P2 : Hid (PI w2 B B 1 [⟨a, 7, g, false⟩] []) := Lib.hid p2
  have X2 := Lib.hid (X1.out.trans x2)
  clear p2 x2 X1 P1
  go_wp2_with fail
  refine (pi_take _ _ _ _ _ _ _ P2.out wf7 (by omega) (by simp)).mono ?_
  rintro e w3 ⟨b, g', rfl, p3, x3⟩
  have P3 : Hid (PI w3 B B 2 [⟨a, 7, g, false⟩, ⟨b, 7, g', false⟩] []) := Lib.hid p3
  have X3 := Lib.hid (X2.out.trans x3)
  clear p3 x3 X2 P2
  go_wp2_with fail
  refine (pi_free _ _ _ _ _ _ 0 _ P3.out (by omega) rfl).mono ?_
  rintro e w4 ⟨rfl, p4, x4⟩
  have P4 : Hid (PI w4 B B 2 [⟨a, 7, g, true⟩, ⟨b, 7, g', false⟩] []) := Lib.hid p4
  have X4 := Lib.hid (X3.out.trans x4)
  clear p4 x4 X3 P3
  go_wp2_with fail
  refine (pi_free _ _ _ _ _ _ 0 _ P4.out (by omega) rfl).mono ?_
  rintro e w5 ⟨rfl, p5, x5⟩
  have P5 : Hid (PI w5 B B 2 [⟨a, 7, g, true⟩, ⟨b, 7, g', false⟩] []) := Lib.hid p5
  have X5 := Lib.hid (X4.out.trans x5)
  clear p5 x5 X4 P4
  have h6 : Calls Try.prog 13 #[.pointer (some ⟨B, 0, none⟩), .int .i64 7] w5 fun e w' => e = .returned (.int .i64 1) ∧ w5 = w' := pi_held _ _ _ _ _ _ _ P5.out wf7
  have H6 := Lib.hid h6; clear h6
  go_wp2_with fail
  refine H6.out.mono ?_
  rintro e w' ⟨rfl, rfl⟩
  have h7 : Calls Try.prog 14 #[.pointer (some ⟨B, 0, none⟩), .int .i64 7] w5 (StaysP w5 B B 3 [⟨a, 7, g, true⟩, ⟨b, 7, g', false⟩] [] (.bool false)) := pi_shut _ _ _ _ _ _ _ P5.out wf7 (by omega)
  have H7 := Lib.hid h7; clear h7
  go_wp2_with fail
  refine H7.out.mono ?_
  rintro e w6 ⟨rfl, p6, x6⟩
  have P6 := Lib.hid p6; have X6 := Lib.hid (X5.out.trans x6)
  clear p6 x6 X5 P5 H7 H6
  go_wp2_with fail
  refine (pi_free _ _ _ _ _ _ 1 _ P6.out (by omega) rfl).mono ?_
  rintro e w7 ⟨rfl, p7, x7⟩
  have P7 : Hid (PI w7 B B 3 [⟨a, 7, g, true⟩, ⟨b, 7, g', true⟩] []) := Lib.hid p7
  have X7 := Lib.hid (X6.out.trans x7)
  clear p7 x7 X6 P6
  have h8 : Calls Try.prog 14 #[.pointer (some ⟨B, 0, none⟩), .int .i64 7] w7 (StaysP w7 B B 4 [⟨a, 7, g, true⟩, ⟨b, 7, g', true⟩] [7] (.bool true)) := pi_shut _ _ _ _ _ _ _ P7.out wf7 (by omega)
  have H8 := Lib.hid h8; clear h8
  go_wp2_with fail
  refine H8.out.mono ?_
  rintro e w8 ⟨rfl, p8, x8⟩
  have P8 := Lib.hid p8; have X8 := Lib.hid (X7.out.trans x8)
  clear p8 x8 X7 P7 H8
  go_wp2_with fail
  refine (pi_take_shut _ _ _ _ _ _ _ P8.out wf7 (by simp)).mono ?_
  rintro e w9 ⟨rfl, p9, x9⟩
  have P9 := Lib.hid p9; have X9 := Lib.hid (X8.out.trans x9)
  clear p9 x9 X8 P8
  have h10 : Calls Try.prog 16 #[.pointer (some ⟨a, 0, none⟩)] w9 fun e w' => e = .returned (.int .i64 7) ∧ w9 = w' := pi_key _ _ _ _ _ _ _ P9.out (List.mem_cons_self ..)
  have H10 := Lib.hid h10; clear h10
  go_wp2_with fail
  refine H10.out.mono ?_
  rintro e w' ⟨rfl, rfl⟩
  go_wp2_with fail
  go_ret
  refine ⟨rfl, ?_⟩
  have := X9.out.below (by rw [HB.out]; exact Nat.le_refl _)
  rw [HB.out] at this
  exact this
end Go.Proofs.Yteeeabmfebofiaa
