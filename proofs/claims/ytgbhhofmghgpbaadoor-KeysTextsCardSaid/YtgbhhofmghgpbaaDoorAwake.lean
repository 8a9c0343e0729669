/- The statements' example, walked. -/
import Derived.Test.YtgbhhofmghgpbaaDoorUni
namespace Go.Proofs.YtgbhhofmghgpbaaDoor
open Go.RowKit Go.Sort Go.Shelf Go.Maps Go.ChangeMaps
set_option linter.unusedVariables false

theorem texts1 (W : World) (s : Bs) : Texts (W.alloc (.cells #[.string ⟨s.toArray⟩] 9)).heap.size (W.alloc (.cells #[.string ⟨s.toArray⟩] 9)) (.slice (some ⟨W.heap.size, 0, none⟩) 1 1) [s] := by
  refine ⟨_, 1, rfl, fun j hj => ⟨W.heap.size, 0, rfl, by simp, ?_⟩⟩
  have : j = 0 := by simp at hj; omega
  subst this
  exact blk_cell (heap_alloc_new W _) 0
theorem texts2 (W : World) (s t : Bs) : Texts (W.alloc (.cells #[.string ⟨s.toArray⟩, .string ⟨t.toArray⟩] 9)).heap.size (W.alloc (.cells #[.string ⟨s.toArray⟩, .string ⟨t.toArray⟩] 9)) (.slice (some ⟨W.heap.size, 0, none⟩) 2 2) [s, t] := by
  refine ⟨_, 2, rfl, fun j hj => ⟨W.heap.size, 0, rfl, by simp, ?_⟩⟩
  have : j = 0 ∨ j = 1 := by simp at hj; omega
  rcases this with rfl | rfl
  · exact blk_cell (heap_alloc_new W _) 0
  · exact blk_cell (heap_alloc_new W _) 1
theorem nums1 (W : World) (s : Int) : Nums (W.alloc (.cells #[.int .i64 s] 2)).heap.size (W.alloc (.cells #[.int .i64 s] 2)) (.slice (some ⟨W.heap.size, 0, none⟩) 1 1) [s] := by
  refine ⟨_, 1, rfl, fun j hj => ⟨W.heap.size, 0, rfl, by simp, ?_⟩⟩
  have : j = 0 := by simp at hj; omega
  subst this
  exact blk_cell (heap_alloc_new W _) 0
theorem nums2 (W : World) (s t : Int) : Nums (W.alloc (.cells #[.int .i64 s, .int .i64 t] 2)).heap.size (W.alloc (.cells #[.int .i64 s, .int .i64 t] 2)) (.slice (some ⟨W.heap.size, 0, none⟩) 2 2) [s, t] := by
  refine ⟨_, 2, rfl, fun j hj => ⟨W.heap.size, 0, rfl, by simp, ?_⟩⟩
  have : j = 0 ∨ j = 1 := by simp at hj; omega
  rcases this with rfl | rfl
  · exact blk_cell (heap_alloc_new W _) 0
  · exact blk_cell (heap_alloc_new W _) 1
theorem alloc_ext (W : World) (o : Obj) : Ext W (W.alloc o) := Ext.alloc (Ext.refl _) _
set_option maxRecDepth 100000 in
set_option maxHeartbeats 4000000 in
theorem awake_any (w : World) : Calls Tryd.prog 5 #[] w fun e w' => e = .returned (.bool true) ∧ Ext w w' := by
  obtain ⟨B, hB⟩ : ∃ B, B = w.heap.size := ⟨_, rfl⟩
  have HB := Lib.hid hB
  clear hB
  go_enter Tryd.func5, Tryd.ntmps5
  go_wp2_with fail
  refine (new_any _).mono ?_
  rintro e w1 ⟨rfl, p1, x1⟩
  rw [← HB.out] at p1 ⊢
  have P1 := Lib.hid p1; have X1 := Lib.hid (Fk.of_ext x1 B B)
  clear p1 x1
  have h2 : Calls Tryd.prog 13 #[.pointer (some ⟨B, 0, none⟩), .int .i64 1, .slice (some ⟨w1.heap.size, 0, none⟩) 2 2] (w1.alloc (.cells #[.string ⟨#[97]⟩, .string ⟨#[98]⟩] 9)) fun e w' => e = .returned (.int .i64 0) ∧ KI w' B B 5 [(1, [97]), (1, [98])] ∧ Fk B B w1 w' :=
    (ki_tie _ B B 0 [] 1 _ [[97], [98]] (P1.out.ext (alloc_ext _ _)) (by decide) (texts2 w1 [97] [98]) (by simp) (by simp) (by omega)).mono fun e w' ⟨h1, h2, h3⟩ => ⟨h1, h2, (Fk.of_ext (alloc_ext _ _) _ _).trans h3⟩
  have H2 := Lib.hid h2; clear h2
  go_wp2_with fail
  refine H2.out.mono ?_
  rintro e w2 ⟨rfl, p2, x2⟩
  have P2 := Lib.hid p2; have X2 := Lib.hid (X1.out.trans x2)
  clear p2 x2 X1 P1 H2
  have h3 : Calls Tryd.prog 13 #[.pointer (some ⟨B, 0, none⟩), .int .i64 2, .slice (some ⟨w2.heap.size, 0, none⟩) 1 1] (w2.alloc (.cells #[.string ⟨#[98]⟩] 9)) fun e w' => e = .returned (.int .i64 0) ∧ KI w' B B 8 [(1, [97]), (1, [98]), (2, [98])] ∧ Fk B B w2 w' :=
    (ki_tie _ B B 5 _ 2 _ [[98]] (P2.out.ext (alloc_ext _ _)) (by decide) (texts1 w2 [98]) (by simp) (by simp) (by omega)).mono fun e w' ⟨h1, h2, h3⟩ => ⟨h1, h2, (Fk.of_ext (alloc_ext _ _) _ _).trans h3⟩
  have H3 := Lib.hid h3; clear h3
  go_wp2_with fail
  refine H3.out.mono ?_
  rintro e w3 ⟨rfl, p3, x3⟩
  have P3 := Lib.hid p3; have X3 := Lib.hid (X2.out.trans x3)
  clear p3 x3 X2 P2 H3
  have h4 : Calls Tryd.prog 15 #[.pointer (some ⟨B, 0, none⟩), .slice (some ⟨w3.heap.size, 0, none⟩) 1 1] (w3.alloc (.cells #[.string ⟨#[98]⟩] 9)) fun e w' => ∃ v, e = .returned v ∧ Nums w'.heap.size w' v [1, 2] ∧ Ext w3 w' :=
    (with_any _ B B 8 _ _ [[98]] (P3.out.ext (alloc_ext _ _)) (texts1 w3 [98]) (by simp) (by simp) (by omega)).mono fun e w' ⟨v, zs, h1, h2, ⟨h3, h4⟩, h5⟩ => ⟨v, h1, by
      rw [sortI_of h3 (by decide) (fun x => (h4 x).trans (by simp)) (by decide : [1, 2].Pairwise fun a b : Int => a ≤ b)] at h2
      exact h2.nums, (alloc_ext _ _).trans h5⟩
  have H4 := Lib.hid h4; clear h4
  go_wp2_with fail
  refine H4.out.mono ?_
  rintro e w4 ⟨v4, rfl, q4, x4⟩
  have Q4 := Lib.hid q4; have X4 := Lib.hid x4
  clear q4 x4 H4
  have h5 := numbers_any _ _ _ _ _ [1, 2] [1, 2] (nums_up (alloc_ext w4 (.cells #[.int .i64 1, .int .i64 2] 2)) Q4.out) (nums2 w4 1 2) (by simp) (by simp)
  have H5 := Lib.hid h5; clear h5
  go_wp2_with fail
  refine H5.out.mono ?_
  rintro e w5 ⟨rfl, x5⟩
  have X5 := Lib.hid (X4.out.trans ((alloc_ext _ _).trans x5))
  clear x5 X4 H5 Q4
  have P5 := Lib.hid (P3.out.ext X5.out)
  have h6 : Calls Tryd.prog 16 #[.pointer (some ⟨B, 0, none⟩)] w5 fun e w' => ∃ v, e = .returned v ∧ Texts w'.heap.size w' v [[97], [98]] ∧ Ext w5 w' :=
    (keys_any _ B B 8 _ P5.out (by omega)).mono fun e w' ⟨v, zs, h1, h2, ⟨h3, h4⟩, h5⟩ => ⟨v, h1, by
      rw [sortS_of h3 (by decide) (fun x => (h4 x).trans (by simp; exact ⟨by rintro ⟨id, h | h | h⟩ <;> simp [h.2], by rintro (h | h); exact ⟨1, .inl ⟨rfl, h⟩⟩; exact ⟨1, .inr (.inl ⟨rfl, h⟩)⟩⟩)) (by decide : [[97], [98]].Pairwise fun a b : Bs => a ≤ b)] at h2
      exact h2.texts, h5⟩
  have H6 := Lib.hid h6; clear h6
  go_wp2_with fail
  refine H6.out.mono ?_
  rintro e w6 ⟨v6, rfl, q6, x6⟩
  have h7 := same_any _ _ _ _ _ [[97], [98]] [[97], [98]] (texts_up (alloc_ext w6 (.cells #[.string ⟨#[97]⟩, .string ⟨#[98]⟩] 9)) q6) (texts2 w6 [97] [98]) (by simp) (by simp)
  have H7 := Lib.hid h7; have X6 := Lib.hid (X5.out.trans x6)
  clear h7 q6 x6 X5 H6
  go_wp2_with fail
  refine H7.out.mono ?_
  rintro e w7 ⟨rfl, x7⟩
  have X7 := Lib.hid (X6.out.trans ((alloc_ext _ _).trans x7))
  clear x7 X6 H7 P5
  have P7 := Lib.hid (P3.out.ext X7.out)
  have Y7 := Lib.hid (X3.out.trans (Fk.of_ext X7.out B B))
  clear X7 X3 P3
  have h8 : Calls Tryd.prog 13 #[.pointer (some ⟨B, 0, none⟩), .int .i64 1, .slice (some ⟨w7.heap.size, 0, none⟩) 1 1] (w7.alloc (.cells #[.string ⟨#[99]⟩] 9)) fun e w' => e = .returned (.int .i64 0) ∧ KI w' B B 11 [(2, [98]), (1, [99])] ∧ Fk B B w7 w' :=
    (ki_tie _ B B 8 _ 1 _ [[99]] (P7.out.ext (alloc_ext _ _)) (by decide) (texts1 w7 [99]) (by simp) (by simp) (by omega)).mono fun e w' ⟨h1, h2, h3⟩ => ⟨h1, h2, (Fk.of_ext (alloc_ext _ _) _ _).trans h3⟩
  have H8 := Lib.hid h8; clear h8
  go_wp2_with fail
  refine H8.out.mono ?_
  rintro e w8 ⟨rfl, p8, x8⟩
  have P8 := Lib.hid p8; have X8 := Lib.hid (Y7.out.trans x8)
  clear p8 x8 Y7 P7 H8
  have h9 : Calls Tryd.prog 15 #[.pointer (some ⟨B, 0, none⟩), .slice (some ⟨w8.heap.size, 0, none⟩) 1 1] (w8.alloc (.cells #[.string ⟨#[98]⟩] 9)) fun e w' => ∃ v, e = .returned v ∧ Nums w'.heap.size w' v [2] ∧ Ext w8 w' :=
    (with_any _ B B 11 _ _ [[98]] (P8.out.ext (alloc_ext _ _)) (texts1 w8 [98]) (by simp) (by simp) (by omega)).mono fun e w' ⟨v, zs, h1, h2, ⟨h3, h4⟩, h5⟩ => ⟨v, h1, by
      rw [sortI_of h3 (by decide) (fun x => (h4 x).trans (by simp)) (by decide : [2].Pairwise fun a b : Int => a ≤ b)] at h2
      exact h2.nums, (alloc_ext _ _).trans h5⟩
  have H9 := Lib.hid h9; clear h9
  go_wp2_with fail
  refine H9.out.mono ?_
  rintro e w9 ⟨v9, rfl, q9, x9⟩
  have h10 := numbers_any _ _ _ _ _ [2] [2] (nums_up (alloc_ext w9 (.cells #[.int .i64 2] 2)) q9) (nums1 w9 2) (by simp) (by simp)
  have H10 := Lib.hid h10; have X9 := Lib.hid (X8.out.trans (Fk.of_ext x9 B B))
  clear h10 q9 x9 X8 P8 H9
  go_wp2_with fail
  refine H10.out.mono ?_
  rintro e w10 ⟨rfl, x10⟩
  have X10 := Lib.hid (X9.out.trans (Fk.of_ext ((alloc_ext _ _).trans x10) B B))
  clear x10 X9 H10
  go_wp2
  go_ret
  refine ⟨rfl, ?_⟩
  have := X10.out.below (B := B) (by rw [HB.out]; exact Nat.le_refl _) (Nat.le_refl _)
  rw [HB.out] at this
  exact this
end Go.Proofs.YtgbhhofmghgpbaaDoor
