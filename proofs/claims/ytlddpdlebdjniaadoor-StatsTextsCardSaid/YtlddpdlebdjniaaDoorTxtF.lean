/- The document's text, walked (printed by gen_rtext.py). -/
import Derived.Test.YtlddpdlebdjniaaDoorTxtE
namespace Go.Proofs.YtlddpdlebdjniaaDoor
open Go.RowKit Go.Maps Go.ChangeMaps
set_option linter.unusedVariables false
set_option linter.unusedSimpArgs false
def wordsL : List Bs := [[97, 115, 107, 115], [119, 104, 111, 108, 101], [99, 117, 116], [108, 101, 102, 116], [116, 111, 108, 100], [102, 101, 116, 99, 104, 101, 100], [119, 97, 115, 116, 101, 100], [102, 101, 116, 99, 104, 101, 115], [102, 97, 105, 108, 101, 100], [115, 116, 111, 112, 112, 101, 100], [112, 117, 114, 103, 101, 115], [99, 114, 97, 115, 104, 101, 115]]
/-- The first j lines. -/
def partL (ns : List Int) (j : Nat) : Bs := ((wordsL.zip ns).take j).foldl (fun l x => l ++ lineL x.1 x.2) []
theorem partL_succ (ns : List Int) (hn : ns.length = 12) {j : Nat} (hj : j < 12) : partL ns (j + 1) = partL ns j ++ lineL (wordsL[j]'(by simpa [wordsL] using hj)) (ns[j]'(by omega)) := by
  unfold partL
  rw [List.take_succ_eq_append_getElem (by simp [wordsL, hn]; omega), List.foldl_append]
  simp
theorem partL_all (a0 a1 a2 a3 a4 a5 a6 a7 a8 a9 a10 a11 : Int) : partL [a0, a1, a2, a3, a4, a5, a6, a7, a8, a9, a10, a11] 12 = textL a0 a1 a2 a3 a4 a5 a6 a7 a8 a9 a10 a11 := rfl
theorem partL_len (ns : List Int) (hn : ns.length = 12) (hb : ∀ n ∈ ns, -9223372036854775808 ≤ n ∧ n ≤ 9223372036854775807) : ∀ j, j ≤ 12 → (partL ns j).length ≤ j * 1022
  | 0, _ => by simp [partL]
  | j + 1, h => by
    rw [partL_succ ns hn (by omega), List.length_append]
    have h1 := partL_len ns hn hb j (by omega)
    have h2 := lineL_len (wordsL[j]'(by simp [wordsL]; omega)) (ns[j]'(by omega)) (hb _ (List.getElem_mem _)) (by
      have : ∀ w ∈ wordsL, w.length ≤ 1000 := by decide
      exact this _ (List.getElem_mem _))
    omega
theorem wpQuiet_add {ops : Array Oper} {C : World → Prop} {Q : Act → Prop} {a : Act} {o : Oper} {rest : List Oper} (hw : Region.wanted o (yielded ops a.tmps) = true) (s t : Operand) (ho : o.op = .binOp .add 9 s t 9) (x y z : Bs) (hs : a.eval s = .string ⟨x.toArray⟩) (ht : a.eval t = .string ⟨y.toArray⟩) (hx : x.length ≤ 1000000) (hy : y.length ≤ 1000000) (hz : z = x ++ y)
    (h : wpQuiet Tryd.prog ops C Q rest (a.put o.dst (.string ⟨z.toArray⟩))) : wpQuiet Tryd.prog ops C Q (o :: rest) a :=
  BigFrame.wpQuiet_want hw fun K hK => ⟨.string ⟨z.toArray⟩, fun W hW => by
    unfold Oper.quietAt execOp
    have e := str_add W hx hy hz
    simp only [ho, hs, ht, eqGuard, Sem.run_bind, Sem.run_pure, Result.andThen_ok, Bool.not_false, if_true, e]
    exact ⟨rfl, rfl⟩, hK _ h⟩
theorem wordsL_len {j : Nat} (h : j < 12) : j < wordsL.length := by simp [wordsL]; omega
theorem wordsL_small : ∀ w ∈ wordsL, w.length ≤ 1000 := by decide
set_option maxRecDepth 100000 in
set_option maxHeartbeats 4000000 in
theorem rtext_walk (a0 a1 a2 a3 a4 a5 a6 a7 a8 a9 a10 a11 : Int) (h0 : -9223372036854775808 ≤ a0 ∧ a0 ≤ 9223372036854775807) (h1 : -9223372036854775808 ≤ a1 ∧ a1 ≤ 9223372036854775807) (h2 : -9223372036854775808 ≤ a2 ∧ a2 ≤ 9223372036854775807) (h3 : -9223372036854775808 ≤ a3 ∧ a3 ≤ 9223372036854775807) (h4 : -9223372036854775808 ≤ a4 ∧ a4 ≤ 9223372036854775807) (h5 : -9223372036854775808 ≤ a5 ∧ a5 ≤ 9223372036854775807) (h6 : -9223372036854775808 ≤ a6 ∧ a6 ≤ 9223372036854775807) (h7 : -9223372036854775808 ≤ a7 ∧ a7 ≤ 9223372036854775807) (h8 : -9223372036854775808 ≤ a8 ∧ a8 ≤ 9223372036854775807) (h9 : -9223372036854775808 ≤ a9 ∧ a9 ≤ 9223372036854775807) (h10 : -9223372036854775808 ≤ a10 ∧ a10 ≤ 9223372036854775807) (h11 : -9223372036854775808 ≤ a11 ∧ a11 ≤ 9223372036854775807) (w : World) : Calls Tryd.prog 7 #[.agg #[.int .i64 a0, .int .i64 a1, .int .i64 a2, .int .i64 a3, .int .i64 a4, .int .i64 a5, .int .i64 a6, .int .i64 a7, .int .i64 a8, .int .i64 a9, .int .i64 a10, .int .i64 a11]] w fun e w' => e = .returned (.string ⟨(textL a0 a1 a2 a3 a4 a5 a6 a7 a8 a9 a10 a11).toArray⟩) ∧ Ext w w' := by
  obtain ⟨ns, hns⟩ : ∃ ns : List Int, ns = [a0, a1, a2, a3, a4, a5, a6, a7, a8, a9, a10, a11] := ⟨_, rfl⟩
  obtain ⟨W3, hW3⟩ : ∃ W, W = ((w.alloc (.cells #[.int .i64 a0, .int .i64 a1, .int .i64 a2, .int .i64 a3, .int .i64 a4, .int .i64 a5, .int .i64 a6, .int .i64 a7, .int .i64 a8, .int .i64 a9, .int .i64 a10, .int .i64 a11] 23)).alloc (.cells #[.string ⟨#[97, 115, 107, 115]⟩, .string ⟨#[119, 104, 111, 108, 101]⟩, .string ⟨#[99, 117, 116]⟩, .string ⟨#[108, 101, 102, 116]⟩, .string ⟨#[116, 111, 108, 100]⟩, .string ⟨#[102, 101, 116, 99, 104, 101, 100]⟩, .string ⟨#[119, 97, 115, 116, 101, 100]⟩, .string ⟨#[102, 101, 116, 99, 104, 101, 115]⟩, .string ⟨#[102, 97, 105, 108, 101, 100]⟩, .string ⟨#[115, 116, 111, 112, 112, 101, 100]⟩, .string ⟨#[112, 117, 114, 103, 101, 115]⟩, .string ⟨#[99, 114, 97, 115, 104, 101, 115]⟩] 9)).alloc (.cells #[.int .i64 a0, .int .i64 a1, .int .i64 a2, .int .i64 a3, .int .i64 a4, .int .i64 a5, .int .i64 a6, .int .i64 a7, .int .i64 a8, .int .i64 a9, .int .i64 a10, .int .i64 a11] 2) := ⟨_, rfl⟩
  have HNL := Lib.hid (show ns.length = 12 by rw [hns]; rfl)
  have HB := Lib.hid (show ∀ n ∈ ns, -9223372036854775808 ≤ n ∧ n ≤ 9223372036854775807 from by rw [hns]; simp; omega)
  obtain ⟨n1, n2⟩ := heap_new2 (w.alloc (.cells #[.int .i64 a0, .int .i64 a1, .int .i64 a2, .int .i64 a3, .int .i64 a4, .int .i64 a5, .int .i64 a6, .int .i64 a7, .int .i64 a8, .int .i64 a9, .int .i64 a10, .int .i64 a11] 23)) (.cells #[.string ⟨#[97, 115, 107, 115]⟩, .string ⟨#[119, 104, 111, 108, 101]⟩, .string ⟨#[99, 117, 116]⟩, .string ⟨#[108, 101, 102, 116]⟩, .string ⟨#[116, 111, 108, 100]⟩, .string ⟨#[102, 101, 116, 99, 104, 101, 100]⟩, .string ⟨#[119, 97, 115, 116, 101, 100]⟩, .string ⟨#[102, 101, 116, 99, 104, 101, 115]⟩, .string ⟨#[102, 97, 105, 108, 101, 100]⟩, .string ⟨#[115, 116, 111, 112, 112, 101, 100]⟩, .string ⟨#[112, 117, 114, 103, 101, 115]⟩, .string ⟨#[99, 114, 97, 115, 104, 101, 115]⟩] 9) (.cells #[.int .i64 a0, .int .i64 a1, .int .i64 a2, .int .i64 a3, .int .i64 a4, .int .i64 a5, .int .i64 a6, .int .i64 a7, .int .i64 a8, .int .i64 a9, .int .i64 a10, .int .i64 a11] 2)
  rw [← hW3] at n1 n2
  have hsz : (w.alloc (.cells #[.int .i64 a0, .int .i64 a1, .int .i64 a2, .int .i64 a3, .int .i64 a4, .int .i64 a5, .int .i64 a6, .int .i64 a7, .int .i64 a8, .int .i64 a9, .int .i64 a10, .int .i64 a11] 23)).heap.size = w.heap.size + 1 := by simp
  rw [hsz] at n1 n2
  have X3 := Lib.hid (show Ext w W3 by rw [hW3]; exact Ext.alloc (Ext.alloc (alloc_ext _ _) _) _)
  have N1 := Lib.hid (show W3.heap[w.heap.size + 1]? = some (.cells (wordsL.map fun t => Value.string ⟨t.toArray⟩).toArray 9 (0, 0)) from n1)
  have N2 := Lib.hid (show W3.heap[w.heap.size + 2]? = some (.cells (ns.map fun z => Value.int .i64 z).toArray 2 (0, 0)) from by rw [hns]; exact n2)
  have HE := Lib.hid (show partL ns 12 = textL a0 a1 a2 a3 a4 a5 a6 a7 a8 a9 a10 a11 by rw [hns]; rfl)
  have HW3 := Lib.hid hW3
  clear n1 n2 hsz hW3 hns h0 h1 h2 h3 h4 h5 h6 h7 h8 h9 h10 h11
  go_enter Tryd.func7, Tryd.ntmps7
  go_wp2_with fail
  rw [← HW3.out]
  go_loopw [6, 5] (fun i s wr => ∃ j : Nat, j ≤ 12 ∧ i = .int .i64 j ∧ s = .string ⟨(partL ns j).toArray⟩ ∧ Hid (Ext W3 wr)) (fun i _ _ => 12 - (RowKit.intOf i).toNat)
  case atStart => exact ⟨0, by omega, rfl, rfl, Lib.hid (Ext.refl _)⟩
  case round =>
    obtain ⟨j, hj, rfl, rfl, HX⟩ := hrel
    by_cases hlt : j < 12
    · have k1 : wr.cell? ⟨w.heap.size + 1, j, none⟩ = some (.string ⟨(wordsL[j]'(wordsL_len hlt)).toArray⟩) := by
        rw [blk_cell (HX.out.heap N1.out)]; simp [wordsL_len hlt]
      have k2 : wr.cell? ⟨w.heap.size + 2, j, none⟩ = some (.int .i64 (ns[j]'(by rw [HNL.out]; exact hlt))) := by
        rw [blk_cell (HX.out.heap N2.out)]; simp [HNL.out, hlt]
      have hs := partL_succ ns HNL.out hlt
      have hl := partL_len ns HNL.out HB.out j hj
      obtain ⟨wd, hwd⟩ : ∃ x, x = wordsL[j]'(wordsL_len hlt) := ⟨_, rfl⟩
      obtain ⟨z, hz⟩ : ∃ x, x = ns[j]'(by rw [HNL.out]; exact hlt) := ⟨_, rfl⟩
      have hzb := HB.out z (by rw [hz]; exact List.getElem_mem _)
      have hwl := wordsL_small wd (by rw [hwd]; exact List.getElem_mem _)
      rw [← hwd] at k1 hs
      rw [← hz] at k2 hs
      obtain ⟨pl, hpl⟩ : ∃ x, x = partL ns j := ⟨_, rfl⟩
      rw [← hpl] at hs hl ⊢
      have hil := itoaZ_len z hzb.1 hzb.2
      have HD := Lib.hid (rtext_any z hzb.1 hzb.2 wr)
      obtain ⟨ds, hds⟩ : ∃ x, x = itoaZ z := ⟨_, rfl⟩
      obtain ⟨t1, h1⟩ : ∃ t, t = pl ++ wd := ⟨_, rfl⟩
      obtain ⟨t2, h2⟩ : ∃ t, t = t1 ++ [32] := ⟨_, rfl⟩
      obtain ⟨t3, h3⟩ : ∃ t, t = t2 ++ ds := ⟨_, rfl⟩
      obtain ⟨t4, h4⟩ : ∃ t, t = t3 ++ [10] := ⟨_, rfl⟩
      have HS := Lib.hid (show partL ns (j + 1) = t4 by rw [hs, h4, h3, h2, h1, hds]; simp [lineL])
      rw [← hds] at HD hil
      have HZB := Lib.hid hzb; have EDS := Lib.hid hds
      have L0 := Lib.hid (show pl.length ≤ 12264 by omega); have LW := Lib.hid hwl; have LI := Lib.hid hil
      have L1 := Lib.hid (show t1.length ≤ 13264 by rw [h1, List.length_append]; omega)
      have L2 := Lib.hid (show t2.length ≤ 13265 by rw [h2, List.length_append]; have := L1.out; simp; omega)
      have L3 := Lib.hid (show t3.length ≤ 13285 by rw [h3, List.length_append]; have := L2.out; omega)
      have E1 := Lib.hid h1; have E2 := Lib.hid h2; have E3 := Lib.hid h3; have E4 := Lib.hid h4
      clear hs hl hwd hz hpl hil hds h1 h2 h3 h4 hzb hwl
      go_wp2_with fail
      refine wp_region_segs [] [.inl [0, 1, 2, 3, 4, 5, 6, 7, 8, 9, 10], .inr (.inl 11), .inl [12, 13, 14]] (by kernel_rfl) (by kernel_rfl) (fun c a d v w h => by cases d <;> exact h) ?_
      have G0 : ∀ y : Grow [] wr.drew, y.v.cell? ⟨w.heap.size + 1, j, none⟩ = some (.string ⟨wd.toArray⟩) := fun y => y.ext.ext.cell k1
      have G1 : ∀ y : Grow [] wr.drew, y.v.cell? ⟨w.heap.size + 2, j, none⟩ = some (.int .i64 z) := fun y => y.ext.ext.cell k2
      (rw [wpSegs_inl]; simp only [pickOps, List.map_cons, List.map_nil, List.getD_cons_succ, List.getD_cons_zero]; (repeat (go_big_quiet_step (fail))); (refine wpQuiet_add rfl _ _ rfl pl wd t1 rfl rfl (by have := L0.out; omega) (by have := LW.out; omega) E1.out ?_; simp only [Act.put, List.setIfInBounds_toArray, List.set_cons_succ, List.set_cons_zero]); (repeat (go_big_quiet_step (fail))); (refine wpQuiet_add rfl _ _ rfl t1 [32] t2 rfl rfl (by have := L1.out; omega) (by simp) E2.out ?_; simp only [Act.put, List.setIfInBounds_toArray, List.set_cons_succ, List.set_cons_zero]); (repeat (go_big_quiet_step (fail))); refine wpQuiet_nil ?_)
      clear G0 G1 k1 k2
      (rw [wpSegs_grow]; simp only [pickOps, List.map_cons, List.map_nil, List.getD_cons_succ, List.getD_cons_zero]; go_wp2_with ((go_at_call 14; refine (rtext_any z HZB.out.1 HZB.out.2 _).mono ?_; rintro e w1 ⟨rfl, x1⟩)))
      refine ⟨.of x1 _, ?_⟩
      have X1 := Lib.hid (HX.out.trans ((Ext.drew (Ext.refl wr)).trans x1))
      clear x1
      rw [← EDS.out]
      (rw [wpSegs_inl]; simp only [pickOps, List.map_cons, List.map_nil, List.getD_cons_succ, List.getD_cons_zero]; (repeat (go_big_quiet_step (fail))); (refine wpQuiet_add rfl _ _ rfl t2 ds t3 rfl rfl (by have := L2.out; omega) (by have := LI.out; omega) E3.out ?_; simp only [Act.put, List.setIfInBounds_toArray, List.set_cons_succ, List.set_cons_zero]); (repeat (go_big_quiet_step (fail))); (refine wpQuiet_add rfl _ _ rfl t3 [10] t4 rfl rfl (by have := L3.out; omega) (by simp) E4.out ?_; simp only [Act.put, List.setIfInBounds_toArray, List.set_cons_succ, List.set_cons_zero]); (repeat (go_big_quiet_step (fail))); refine wpQuiet_nil ?_)
      rw [wpSegs_nil]
      go_wp2_with fail
      go_roundw
      case rel => exact ⟨j + 1, by omega, by go_num, by rw [HS.out], X1⟩
      case measure => simp [RowKit.intOf]; omega
    · have hj12 : j = 12 := by omega
      subst hj12
      rw [HE.out]
      go_wp2_with fail
      go_ret
      exact ⟨rfl, X3.out.trans HX.out⟩
end Go.Proofs.YtlddpdlebdjniaaDoor
