/- The program's text, walked (printed by gen_text.py). -/
import Derived.Test.YtlddpdlebdjniaaDoorTxtD
namespace Go.Proofs.YtlddpdlebdjniaaDoor
open Go.RowKit Go.Maps Go.ChangeMaps
set_option linter.unusedVariables false
set_option linter.unusedSimpArgs false
theorem lineL_len (word : Bs) (n : Int) (h : -9223372036854775808 ≤ n ∧ n ≤ 9223372036854775807) (hw : word.length ≤ 1000) : (lineL word n).length ≤ 1022 := by
  have := itoaZ_len n h.1 h.2
  unfold lineL; simp; omega
theorem Tab.lt {w : World} (h : Tab w) : 0 < w.heap.size := by
  have g : Tryd.prog.globalNamed "internal/strconv.uint64pow10" = some 0 := by kernel_rfl
  unfold Tab Lib.TabIs World.var? at h
  rw [g, Option.bind_some] at h
  rcases Nat.eq_zero_or_pos w.heap.size with e | e
  · rw [Array.getElem?_eq_none (by omega)] at h; cases h
  · exact e
def textL (a0 a1 a2 a3 a4 a5 a6 a7 a8 a9 a10 a11 : Int) : Bs := (([] : Bs) ++ lineL [97, 115, 107, 115] a0 ++ lineL [119, 104, 111, 108, 101] a1 ++ lineL [99, 117, 116] a2 ++ lineL [108, 101, 102, 116] a3 ++ lineL [116, 111, 108, 100] a4 ++ lineL [102, 101, 116, 99, 104, 101, 100] a5 ++ lineL [119, 97, 115, 116, 101, 100] a6 ++ lineL [102, 101, 116, 99, 104, 101, 115] a7 ++ lineL [102, 97, 105, 108, 101, 100] a8 ++ lineL [115, 116, 111, 112, 112, 101, 100] a9 ++ lineL [112, 117, 114, 103, 101, 115] a10 ++ lineL [99, 114, 97, 115, 104, 101, 115] a11)
set_option maxRecDepth 100000 in
set_option maxHeartbeats 8000000 in
theorem text_any (a0 a1 a2 a3 a4 a5 a6 a7 a8 a9 a10 a11 : Int) (h0 : -9223372036854775808 ≤ a0 ∧ a0 ≤ 9223372036854775807) (h1 : -9223372036854775808 ≤ a1 ∧ a1 ≤ 9223372036854775807) (h2 : -9223372036854775808 ≤ a2 ∧ a2 ≤ 9223372036854775807) (h3 : -9223372036854775808 ≤ a3 ∧ a3 ≤ 9223372036854775807) (h4 : -9223372036854775808 ≤ a4 ∧ a4 ≤ 9223372036854775807) (h5 : -9223372036854775808 ≤ a5 ∧ a5 ≤ 9223372036854775807) (h6 : -9223372036854775808 ≤ a6 ∧ a6 ≤ 9223372036854775807) (h7 : -9223372036854775808 ≤ a7 ∧ a7 ≤ 9223372036854775807) (h8 : -9223372036854775808 ≤ a8 ∧ a8 ≤ 9223372036854775807) (h9 : -9223372036854775808 ≤ a9 ∧ a9 ≤ 9223372036854775807) (h10 : -9223372036854775808 ≤ a10 ∧ a10 ≤ 9223372036854775807) (h11 : -9223372036854775808 ≤ a11 ∧ a11 ≤ 9223372036854775807) (w : World) (hT : Tab w) : Calls Tryd.prog 5 #[.agg #[.int .i64 a0, .int .i64 a1, .int .i64 a2, .int .i64 a3, .int .i64 a4, .int .i64 a5, .int .i64 a6, .int .i64 a7, .int .i64 a8, .int .i64 a9, .int .i64 a10, .int .i64 a11]] w fun e w' => e = .returned (.string ⟨(textL a0 a1 a2 a3 a4 a5 a6 a7 a8 a9 a10 a11).toArray⟩) ∧ Ext w w' := by
  obtain ⟨W2, hW2⟩ : ∃ W, W = (w.alloc (.cells #[.int .i64 a0, .int .i64 a1, .int .i64 a2, .int .i64 a3, .int .i64 a4, .int .i64 a5, .int .i64 a6, .int .i64 a7, .int .i64 a8, .int .i64 a9, .int .i64 a10, .int .i64 a11] 26)).alloc (.cells #[.pointer none, .slice none 0 0] 61) := ⟨_, rfl⟩
  have x2 : Ext w W2 := by rw [hW2]; exact Ext.alloc (alloc_ext _ _) _
  obtain ⟨n1, n2⟩ := heap_new2 w (.cells #[.int .i64 a0, .int .i64 a1, .int .i64 a2, .int .i64 a3, .int .i64 a4, .int .i64 a5, .int .i64 a6, .int .i64 a7, .int .i64 a8, .int .i64 a9, .int .i64 a10, .int .i64 a11] 26) (.cells #[.pointer none, .slice none 0 0] 61)
  rw [← hW2] at n1 n2
  have hs2 : W2.heap.size = w.heap.size + 2 := by rw [hW2]; simp
  have HB0 := Lib.hid (show Bd (w.heap.size + 1) (w.heap.size + 1) [] W2 from .inl ⟨Nat.le_refl _, .slice none 0 0, n2, World.ownsRowF_nil _ _ _ _, by simp [Value.ownBlock]⟩)
  have X0 := Lib.hid x2; have P0 := Lib.hid n1; have S0 := Lib.hid (show w.heap.size + 1 ≤ W2.heap.size by omega)
  have HT := Lib.hid hT; have HW2 := Lib.hid hW2; have Y0 := Lib.hid (Below.refl (w.heap.size + 1) W2)
  have k0 := blk_cell n1 0
  try simp only [List.getElem?_toArray, List.getElem?_cons_succ, List.getElem?_cons_zero] at k0
  have HK := Lib.hid k0
  have L0 := Lib.hid (show ([] : Bs).length ≤ 0 by simp)
  have HH := Lib.hid (And.intro h0 (And.intro h1 (And.intro h2 (And.intro h3 (And.intro h4 (And.intro h5 (And.intro h6 (And.intro h7 (And.intro h8 (And.intro h9 (And.intro h10 h11)))))))))))
  clear h0 h1 h2 h3 h4 h5 h6 h7 h8 h9 h10 h11 hT x2 n1 n2 hs2 k0 hW2
  unfold textL
  go_enter Tryd.func5, Tryd.ntmps5
  have k0 : ((w.alloc (.cells #[.int .i64 a0, .int .i64 a1, .int .i64 a2, .int .i64 a3, .int .i64 a4, .int .i64 a5, .int .i64 a6, .int .i64 a7, .int .i64 a8, .int .i64 a9, .int .i64 a10, .int .i64 a11] 26)).alloc (.cells #[.pointer none, .slice none 0 0] 61)).cell? ⟨w.heap.size, 0, none⟩ = some (.int .i64 a0) := by rw [← HW2.out]; exact HK.out
  have HL0 := Lib.hid (line_any (w.heap.size + 1) (w.heap.size + 1) ([] : Bs) [97, 115, 107, 115] a0 (HH.out.1).1 (HH.out.1).2 W2 (HT.out.same ((Below.block Y0.out 0 (by omega)).trans (X0.out.block 0 HT.out.lt))) HB0.out (by have := L0.out; omega) (by simp) S0.out)
  rw [HW2.out] at HL0
  go_wp2_with (go_at_call 10; refine HL0.out.mono ?_; rintro e u0 ⟨rfl, hb, hx⟩; refine stop_of ?_)
  unfold Stop
  obtain ⟨l0, hl0⟩ : ∃ l, l = ([] : Bs) ++ lineL [97, 115, 107, 115] a0 := ⟨_, rfl⟩
  rw [← hl0] at hb
  have E0 := Lib.hid hl0
  have L1 := Lib.hid (show l0.length ≤ 1022 by rw [hl0, List.length_append]; have h := lineL_len [97, 115, 107, 115] a0 (HH.out.1) (by simp); have h2 := L0.out; omega)
  have HB1 := Lib.hid hb; have Y1 := Lib.hid (Below.trans Y0.out (by rw [HW2.out]; exact hx)); have S1 := Lib.hid (Nat.le_trans S0.out Y1.out.size)
  clear hb hx hl0 HL0 k0
  have k1 := blk_cell ((Y1.out.block w.heap.size (by omega)).trans P0.out) 1
  try simp only [List.getElem?_toArray, List.getElem?_cons_succ, List.getElem?_cons_zero] at k1
  have HL1 := Lib.hid (line_any (w.heap.size + 1) (w.heap.size + 1) l0 [119, 104, 111, 108, 101] a1 (HH.out.2.1).1 (HH.out.2.1).2 u0 (HT.out.same ((Below.block Y1.out 0 (by omega)).trans (X0.out.block 0 HT.out.lt))) HB1.out (by have := L1.out; omega) (by simp) S1.out)
  go_wp2_with (go_at_call 10; refine HL1.out.mono ?_; rintro e u1 ⟨rfl, hb, hx⟩; refine stop_of ?_)
  unfold Stop
  obtain ⟨l1, hl1⟩ : ∃ l, l = l0 ++ lineL [119, 104, 111, 108, 101] a1 := ⟨_, rfl⟩
  rw [← hl1] at hb
  have E1 := Lib.hid hl1
  have L2 := Lib.hid (show l1.length ≤ 2044 by rw [hl1, List.length_append]; have h := lineL_len [119, 104, 111, 108, 101] a1 (HH.out.2.1) (by simp); have h2 := L1.out; omega)
  have HB2 := Lib.hid hb; have Y2 := Lib.hid (Below.trans Y1.out hx); have S2 := Lib.hid (Nat.le_trans S0.out Y2.out.size)
  clear hb hx hl1 HL1 k1
  have k2 := blk_cell ((Y2.out.block w.heap.size (by omega)).trans P0.out) 2
  try simp only [List.getElem?_toArray, List.getElem?_cons_succ, List.getElem?_cons_zero] at k2
  have HL2 := Lib.hid (line_any (w.heap.size + 1) (w.heap.size + 1) l1 [99, 117, 116] a2 (HH.out.2.2.1).1 (HH.out.2.2.1).2 u1 (HT.out.same ((Below.block Y2.out 0 (by omega)).trans (X0.out.block 0 HT.out.lt))) HB2.out (by have := L2.out; omega) (by simp) S2.out)
  go_wp2_with (go_at_call 10; refine HL2.out.mono ?_; rintro e u2 ⟨rfl, hb, hx⟩; refine stop_of ?_)
  unfold Stop
  obtain ⟨l2, hl2⟩ : ∃ l, l = l1 ++ lineL [99, 117, 116] a2 := ⟨_, rfl⟩
  rw [← hl2] at hb
  have E2 := Lib.hid hl2
  have L3 := Lib.hid (show l2.length ≤ 3066 by rw [hl2, List.length_append]; have h := lineL_len [99, 117, 116] a2 (HH.out.2.2.1) (by simp); have h2 := L2.out; omega)
  have HB3 := Lib.hid hb; have Y3 := Lib.hid (Below.trans Y2.out hx); have S3 := Lib.hid (Nat.le_trans S0.out Y3.out.size)
  clear hb hx hl2 HL2 k2
  have k3 := blk_cell ((Y3.out.block w.heap.size (by omega)).trans P0.out) 3
  try simp only [List.getElem?_toArray, List.getElem?_cons_succ, List.getElem?_cons_zero] at k3
  have HL3 := Lib.hid (line_any (w.heap.size + 1) (w.heap.size + 1) l2 [108, 101, 102, 116] a3 (HH.out.2.2.2.1).1 (HH.out.2.2.2.1).2 u2 (HT.out.same ((Below.block Y3.out 0 (by omega)).trans (X0.out.block 0 HT.out.lt))) HB3.out (by have := L3.out; omega) (by simp) S3.out)
  go_wp2_with (go_at_call 10; refine HL3.out.mono ?_; rintro e u3 ⟨rfl, hb, hx⟩; refine stop_of ?_)
  unfold Stop
  obtain ⟨l3, hl3⟩ : ∃ l, l = l2 ++ lineL [108, 101, 102, 116] a3 := ⟨_, rfl⟩
  rw [← hl3] at hb
  have E3 := Lib.hid hl3
  have L4 := Lib.hid (show l3.length ≤ 4088 by rw [hl3, List.length_append]; have h := lineL_len [108, 101, 102, 116] a3 (HH.out.2.2.2.1) (by simp); have h2 := L3.out; omega)
  have HB4 := Lib.hid hb; have Y4 := Lib.hid (Below.trans Y3.out hx); have S4 := Lib.hid (Nat.le_trans S0.out Y4.out.size)
  clear hb hx hl3 HL3 k3
  have k4 := blk_cell ((Y4.out.block w.heap.size (by omega)).trans P0.out) 4
  try simp only [List.getElem?_toArray, List.getElem?_cons_succ, List.getElem?_cons_zero] at k4
  have HL4 := Lib.hid (line_any (w.heap.size + 1) (w.heap.size + 1) l3 [116, 111, 108, 100] a4 (HH.out.2.2.2.2.1).1 (HH.out.2.2.2.2.1).2 u3 (HT.out.same ((Below.block Y4.out 0 (by omega)).trans (X0.out.block 0 HT.out.lt))) HB4.out (by have := L4.out; omega) (by simp) S4.out)
  go_wp2_with (go_at_call 10; refine HL4.out.mono ?_; rintro e u4 ⟨rfl, hb, hx⟩; refine stop_of ?_)
  unfold Stop
  obtain ⟨l4, hl4⟩ : ∃ l, l = l3 ++ lineL [116, 111, 108, 100] a4 := ⟨_, rfl⟩
  rw [← hl4] at hb
  have E4 := Lib.hid hl4
  have L5 := Lib.hid (show l4.length ≤ 5110 by rw [hl4, List.length_append]; have h := lineL_len [116, 111, 108, 100] a4 (HH.out.2.2.2.2.1) (by simp); have h2 := L4.out; omega)
  have HB5 := Lib.hid hb; have Y5 := Lib.hid (Below.trans Y4.out hx); have S5 := Lib.hid (Nat.le_trans S0.out Y5.out.size)
  clear hb hx hl4 HL4 k4
  have k5 := blk_cell ((Y5.out.block w.heap.size (by omega)).trans P0.out) 5
  try simp only [List.getElem?_toArray, List.getElem?_cons_succ, List.getElem?_cons_zero] at k5
  have HL5 := Lib.hid (line_any (w.heap.size + 1) (w.heap.size + 1) l4 [102, 101, 116, 99, 104, 101, 100] a5 (HH.out.2.2.2.2.2.1).1 (HH.out.2.2.2.2.2.1).2 u4 (HT.out.same ((Below.block Y5.out 0 (by omega)).trans (X0.out.block 0 HT.out.lt))) HB5.out (by have := L5.out; omega) (by simp) S5.out)
  go_wp2_with (go_at_call 10; refine HL5.out.mono ?_; rintro e u5 ⟨rfl, hb, hx⟩; refine stop_of ?_)
  unfold Stop
  obtain ⟨l5, hl5⟩ : ∃ l, l = l4 ++ lineL [102, 101, 116, 99, 104, 101, 100] a5 := ⟨_, rfl⟩
  rw [← hl5] at hb
  have E5 := Lib.hid hl5
  have L6 := Lib.hid (show l5.length ≤ 6132 by rw [hl5, List.length_append]; have h := lineL_len [102, 101, 116, 99, 104, 101, 100] a5 (HH.out.2.2.2.2.2.1) (by simp); have h2 := L5.out; omega)
  have HB6 := Lib.hid hb; have Y6 := Lib.hid (Below.trans Y5.out hx); have S6 := Lib.hid (Nat.le_trans S0.out Y6.out.size)
  clear hb hx hl5 HL5 k5
  have k6 := blk_cell ((Y6.out.block w.heap.size (by omega)).trans P0.out) 6
  try simp only [List.getElem?_toArray, List.getElem?_cons_succ, List.getElem?_cons_zero] at k6
  have HL6 := Lib.hid (line_any (w.heap.size + 1) (w.heap.size + 1) l5 [119, 97, 115, 116, 101, 100] a6 (HH.out.2.2.2.2.2.2.1).1 (HH.out.2.2.2.2.2.2.1).2 u5 (HT.out.same ((Below.block Y6.out 0 (by omega)).trans (X0.out.block 0 HT.out.lt))) HB6.out (by have := L6.out; omega) (by simp) S6.out)
  go_wp2_with (go_at_call 10; refine HL6.out.mono ?_; rintro e u6 ⟨rfl, hb, hx⟩; refine stop_of ?_)
  unfold Stop
  obtain ⟨l6, hl6⟩ : ∃ l, l = l5 ++ lineL [119, 97, 115, 116, 101, 100] a6 := ⟨_, rfl⟩
  rw [← hl6] at hb
  have E6 := Lib.hid hl6
  have L7 := Lib.hid (show l6.length ≤ 7154 by rw [hl6, List.length_append]; have h := lineL_len [119, 97, 115, 116, 101, 100] a6 (HH.out.2.2.2.2.2.2.1) (by simp); have h2 := L6.out; omega)
  have HB7 := Lib.hid hb; have Y7 := Lib.hid (Below.trans Y6.out hx); have S7 := Lib.hid (Nat.le_trans S0.out Y7.out.size)
  clear hb hx hl6 HL6 k6
  have k7 := blk_cell ((Y7.out.block w.heap.size (by omega)).trans P0.out) 7
  try simp only [List.getElem?_toArray, List.getElem?_cons_succ, List.getElem?_cons_zero] at k7
  have HL7 := Lib.hid (line_any (w.heap.size + 1) (w.heap.size + 1) l6 [102, 101, 116, 99, 104, 101, 115] a7 (HH.out.2.2.2.2.2.2.2.1).1 (HH.out.2.2.2.2.2.2.2.1).2 u6 (HT.out.same ((Below.block Y7.out 0 (by omega)).trans (X0.out.block 0 HT.out.lt))) HB7.out (by have := L7.out; omega) (by simp) S7.out)
  go_wp2_with (go_at_call 10; refine HL7.out.mono ?_; rintro e u7 ⟨rfl, hb, hx⟩; refine stop_of ?_)
  unfold Stop
  obtain ⟨l7, hl7⟩ : ∃ l, l = l6 ++ lineL [102, 101, 116, 99, 104, 101, 115] a7 := ⟨_, rfl⟩
  rw [← hl7] at hb
  have E7 := Lib.hid hl7
  have L8 := Lib.hid (show l7.length ≤ 8176 by rw [hl7, List.length_append]; have h := lineL_len [102, 101, 116, 99, 104, 101, 115] a7 (HH.out.2.2.2.2.2.2.2.1) (by simp); have h2 := L7.out; omega)
  have HB8 := Lib.hid hb; have Y8 := Lib.hid (Below.trans Y7.out hx); have S8 := Lib.hid (Nat.le_trans S0.out Y8.out.size)
  clear hb hx hl7 HL7 k7
  have k8 := blk_cell ((Y8.out.block w.heap.size (by omega)).trans P0.out) 8
  try simp only [List.getElem?_toArray, List.getElem?_cons_succ, List.getElem?_cons_zero] at k8
  have HL8 := Lib.hid (line_any (w.heap.size + 1) (w.heap.size + 1) l7 [102, 97, 105, 108, 101, 100] a8 (HH.out.2.2.2.2.2.2.2.2.1).1 (HH.out.2.2.2.2.2.2.2.2.1).2 u7 (HT.out.same ((Below.block Y8.out 0 (by omega)).trans (X0.out.block 0 HT.out.lt))) HB8.out (by have := L8.out; omega) (by simp) S8.out)
  go_wp2_with (go_at_call 10; refine HL8.out.mono ?_; rintro e u8 ⟨rfl, hb, hx⟩; refine stop_of ?_)
  unfold Stop
  obtain ⟨l8, hl8⟩ : ∃ l, l = l7 ++ lineL [102, 97, 105, 108, 101, 100] a8 := ⟨_, rfl⟩
  rw [← hl8] at hb
  have E8 := Lib.hid hl8
  have L9 := Lib.hid (show l8.length ≤ 9198 by rw [hl8, List.length_append]; have h := lineL_len [102, 97, 105, 108, 101, 100] a8 (HH.out.2.2.2.2.2.2.2.2.1) (by simp); have h2 := L8.out; omega)
  have HB9 := Lib.hid hb; have Y9 := Lib.hid (Below.trans Y8.out hx); have S9 := Lib.hid (Nat.le_trans S0.out Y9.out.size)
  clear hb hx hl8 HL8 k8
  have k9 := blk_cell ((Y9.out.block w.heap.size (by omega)).trans P0.out) 9
  try simp only [List.getElem?_toArray, List.getElem?_cons_succ, List.getElem?_cons_zero] at k9
  have HL9 := Lib.hid (line_any (w.heap.size + 1) (w.heap.size + 1) l8 [115, 116, 111, 112, 112, 101, 100] a9 (HH.out.2.2.2.2.2.2.2.2.2.1).1 (HH.out.2.2.2.2.2.2.2.2.2.1).2 u8 (HT.out.same ((Below.block Y9.out 0 (by omega)).trans (X0.out.block 0 HT.out.lt))) HB9.out (by have := L9.out; omega) (by simp) S9.out)
  go_wp2_with (go_at_call 10; refine HL9.out.mono ?_; rintro e u9 ⟨rfl, hb, hx⟩; refine stop_of ?_)
  unfold Stop
  obtain ⟨l9, hl9⟩ : ∃ l, l = l8 ++ lineL [115, 116, 111, 112, 112, 101, 100] a9 := ⟨_, rfl⟩
  rw [← hl9] at hb
  have E9 := Lib.hid hl9
  have L10 := Lib.hid (show l9.length ≤ 10220 by rw [hl9, List.length_append]; have h := lineL_len [115, 116, 111, 112, 112, 101, 100] a9 (HH.out.2.2.2.2.2.2.2.2.2.1) (by simp); have h2 := L9.out; omega)
  have HB10 := Lib.hid hb; have Y10 := Lib.hid (Below.trans Y9.out hx); have S10 := Lib.hid (Nat.le_trans S0.out Y10.out.size)
  clear hb hx hl9 HL9 k9
  have k10 := blk_cell ((Y10.out.block w.heap.size (by omega)).trans P0.out) 10
  try simp only [List.getElem?_toArray, List.getElem?_cons_succ, List.getElem?_cons_zero] at k10
  have HL10 := Lib.hid (line_any (w.heap.size + 1) (w.heap.size + 1) l9 [112, 117, 114, 103, 101, 115] a10 (HH.out.2.2.2.2.2.2.2.2.2.2.1).1 (HH.out.2.2.2.2.2.2.2.2.2.2.1).2 u9 (HT.out.same ((Below.block Y10.out 0 (by omega)).trans (X0.out.block 0 HT.out.lt))) HB10.out (by have := L10.out; omega) (by simp) S10.out)
  go_wp2_with (go_at_call 10; refine HL10.out.mono ?_; rintro e u10 ⟨rfl, hb, hx⟩; refine stop_of ?_)
  unfold Stop
  obtain ⟨l10, hl10⟩ : ∃ l, l = l9 ++ lineL [112, 117, 114, 103, 101, 115] a10 := ⟨_, rfl⟩
  rw [← hl10] at hb
  have E10 := Lib.hid hl10
  have L11 := Lib.hid (show l10.length ≤ 11242 by rw [hl10, List.length_append]; have h := lineL_len [112, 117, 114, 103, 101, 115] a10 (HH.out.2.2.2.2.2.2.2.2.2.2.1) (by simp); have h2 := L10.out; omega)
  have HB11 := Lib.hid hb; have Y11 := Lib.hid (Below.trans Y10.out hx); have S11 := Lib.hid (Nat.le_trans S0.out Y11.out.size)
  clear hb hx hl10 HL10 k10
  have k11 := blk_cell ((Y11.out.block w.heap.size (by omega)).trans P0.out) 11
  try simp only [List.getElem?_toArray, List.getElem?_cons_succ, List.getElem?_cons_zero] at k11
  have HL11 := Lib.hid (line_any (w.heap.size + 1) (w.heap.size + 1) l10 [99, 114, 97, 115, 104, 101, 115] a11 (HH.out.2.2.2.2.2.2.2.2.2.2.2).1 (HH.out.2.2.2.2.2.2.2.2.2.2.2).2 u10 (HT.out.same ((Below.block Y11.out 0 (by omega)).trans (X0.out.block 0 HT.out.lt))) HB11.out (by have := L11.out; omega) (by simp) S11.out)
  go_wp2_with (go_at_call 10; refine HL11.out.mono ?_; rintro e u11 ⟨rfl, hb, hx⟩; refine stop_of ?_)
  unfold Stop
  obtain ⟨l11, hl11⟩ : ∃ l, l = l10 ++ lineL [99, 114, 97, 115, 104, 101, 115] a11 := ⟨_, rfl⟩
  rw [← hl11] at hb
  have E11 := Lib.hid hl11
  have L12 := Lib.hid (show l11.length ≤ 12264 by rw [hl11, List.length_append]; have h := lineL_len [99, 114, 97, 115, 104, 101, 115] a11 (HH.out.2.2.2.2.2.2.2.2.2.2.2) (by simp); have h2 := L11.out; omega)
  have HB12 := Lib.hid hb; have Y12 := Lib.hid (Below.trans Y11.out hx); have S12 := Lib.hid (Nat.le_trans S0.out Y12.out.size)
  clear hb hx hl11 HL11 k11
  have HS := Lib.hid (string_any (w.heap.size + 1) (w.heap.size + 1) l11 u11 HB12.out S12.out)
  go_wp2_with (go_at_call 13; refine HS.out.mono ?_; rintro e u12 ⟨rfl, hx⟩; refine stop_of ?_)
  unfold Stop
  have X13 := Lib.hid (show Ext w u12 from Below.trans X0.out (Below.mono (Below.trans Y12.out hx) (Nat.le_succ _)))
  go_wp2_with fail
  go_ret
  refine ⟨?_, X13.out⟩
  rw [E11.out, E10.out, E9.out, E8.out, E7.out, E6.out, E5.out, E4.out, E3.out, E2.out, E1.out, E0.out]
  rfl
end Go.Proofs.YtlddpdlebdjniaaDoor
