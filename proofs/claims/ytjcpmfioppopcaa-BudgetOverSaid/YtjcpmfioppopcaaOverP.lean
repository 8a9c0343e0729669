/- BudgetOver: for every room, all acts and every question the call returns true, and its arguments read as before. -/
import Derived.Test.YtjcpmfioppopcaaArgs
namespace Go.Proofs.Ytjcpmfioppopcaa
open Go.ChangeShapes Go.WideShapes Go.ChangeAt Go.RowKit
set_option linter.unusedVariables false

set_option maxRecDepth 100000 in
set_option maxHeartbeats 8000000 in
theorem over_walk (all share : Int) (xs : List AR) (A : Option Addr) (c : Nat) (t : Bs) (n : Int) (l : Bool) (w : World) (hA : ActsAt w A xs) (hlen : xs.length ≤ maxLen) :
    Calls Try.prog 7 #[.agg #[.int .i64 all, .int .i64 share], .slice A xs.length c, .agg #[.string ⟨t.toArray⟩, .int .i64 n, .bool l]] w fun e w' => e = .returned (.bool true) ∧ Below w.heap.size w w' := by
  obtain ⟨W, hW⟩ : ∃ W, W = (w.alloc (.cells #[.int .i64 all, .int .i64 share] 23)).alloc (.cells #[.string ⟨t.toArray⟩, .int .i64 n, .bool l] 26) := ⟨_, rfl⟩
  have hE : Ext w W := by rw [hW]; exact ((Ext.refl w).alloc _).alloc _
  have hf := heap_new2 w (.cells #[.int .i64 all, .int .i64 share] 23) (.cells #[.string ⟨t.toArray⟩, .int .i64 n, .bool l] 26)
  rw [← hW] at hf
  have r0 : W.cell? ⟨w.heap.size, 0, none⟩ = some (.int .i64 all) := blk_cell hf.1 0
  have r1 : W.cell? ⟨w.heap.size, 1, none⟩ = some (.int .i64 share) := blk_cell hf.1 1
  have k0 : W.cell? ⟨w.heap.size + 1, 0, none⟩ = some (.string ⟨t.toArray⟩) := blk_cell hf.2 0
  have k1 : W.cell? ⟨w.heap.size + 1, 1, none⟩ = some (.int .i64 n) := blk_cell hf.2 1
  have HW := Lib.hid hW; have HA := Lib.hid (hA.ext hE); clear hW hA hf
  have hsz : w.heap.size + 1 < W.heap.size := World.block_lt_of_cell? _ _ k0
  cases hsm : smallB xs
  · go_enter Try.func7, Try.ntmps7
    go_wp2_with (first | (go_at_call 9; rw [← HW.out]; refine (wakes_any _).mono ?_; rintro e w1 ⟨rfl, hx1⟩) | (go_at_call 10; refine (small_any xs A c _ (HA.out.ext hx1) hlen).mono ?_; rintro e w2 ⟨rfl, hx2⟩))
    go_ret
    exact ⟨rfl, (hE.trans hx1).trans hx2⟩
  · obtain ⟨hxs, h60⟩ := small_spec hsm
    have HXS := Lib.hid hxs; clear hxs
    go_enter Try.func7, Try.ntmps7
    go_wp2_with fail
    rw [← HW.out]
    refine (wakes_any _).mono ?_
    rintro e w1 ⟨rfl, hx1⟩
    have j0 := Ext.cell hx1 k0
    go_wp2_with fail
    refine (small_any xs A c _ (HA.out.ext hx1) hlen).mono ?_
    rintro e w2 ⟨rfl, hx2⟩
    have hx2' : Ext W w2 := Ext.trans hx1 hx2
    have i0 := hx2'.cell k0; have i1 := hx2'.cell k1; have q0 := hx2'.cell r0; have q1 := hx2'.cell r1
    rw [hsm]
    by_cases htl : t.length ≤ 300
    · have hdl : decide (300 < (t.length : Int)) = false := by simp; omega
      by_cases hok : okR all share
      · have hI := play_inv (inv0 hok.1 hok.2.1 hok.2.2) xs
        have hll := play_len all share xs
        go_wp2_with fail
        refine (play_ok all share xs A c _ (HA.out.ext hx2') h60 hok).mono ?_
        rintro e w3 ⟨b, mo, s, rfl, hB, hL, hAb, hb, hx3⟩
        obtain ⟨L, hLe⟩ : ∃ L, L = playL all share xs := ⟨_, rfl⟩
        rw [← hLe] at hI hll hB hL
        clear hLe
        obtain ⟨As, cs, rfl⟩ := hL.slice
        have hx3' : Ext W w3 := hx2'.trans hx3
        obtain ⟨wb, hwb⟩ : ∃ wb, wb = w3.alloc (.cells #[.int .i64 all, .int .i64 share, .slice As L.length cs] 32) := ⟨_, rfl⟩
        have hx4 : Ext w3 wb := by rw [hwb]; exact (Ext.refl w3).alloc _
        have hbx : wb.heap[w3.heap.size]? = some (.cells #[.int .i64 all, .int .i64 share, .slice As L.length cs] 32 (0, 0)) := by rw [hwb]; exact heap_alloc_new w3 _
        have hB4 := hB.ext (.of hx4 []) (by simp) (by simp)
        have hL4 := hx4.lines hL
        have hx4' : Ext W wb := hx3'.trans hx4
        have z0 := hx4'.cell k0; have z1 := hx4'.cell k1
        have m0 : wb.cell? ⟨w3.heap.size, 0, none⟩ = some (.int .i64 all) := blk_cell hbx 0
        have m1 : wb.cell? ⟨w3.heap.size, 1, none⟩ = some (.int .i64 share) := blk_cell hbx 1
        have m2 : wb.cell? ⟨w3.heap.size, 2, none⟩ = some (.slice As L.length cs) := blk_cell hbx 2
        have HWB := Lib.hid hwb
        have y0 := hx3'.cell k0; have y1 := hx3'.cell k1
        have hs3 : w.heap.size + 1 < w3.heap.size := World.block_lt_of_cell? _ _ y0
        clear hB hL hwb hbx j0 i0 i1 q0 q1
        go_wp2_with fail
        clear y0 y1
        rw [← HWB.out]
        refine (over_any b mo L 60 all share n t _ hB4 hI).mono ?_
        rintro e w5 ⟨rfl, hx5⟩
        have hL5 := hx5.lines hL4
        have o0 := hx5.cell z0; have o1 := hx5.cell z1; have u0 := hx5.cell m0; have u1 := hx5.cell m1; have u2 := hx5.cell m2
        go_wp2_with fail
        refine (rover_any L _ t all share n _ hL5 (by omega) hI).mono ?_
        rintro e w6 ⟨rfl, hx6⟩
        have hx6' : Ext wb w6 := hx5.trans hx6
        have s0 := hx6'.cell z0; have s1 := hx6'.cell z1; have v0 := hx6'.cell m0; have v1 := hx6'.cell m1; have v2 := hx6'.cell m2
        have hP : PlayAt w6 b mo w3.heap.size (.slice As L.length cs) all share L 60 := ⟨hB4.ext (.of hx6' []) (by simp) (by simp), hx6'.heap (by rw [HWB.out]; exact heap_alloc_new w3 _), hx6'.lines hL4⟩
        have HP := Lib.hid hP
        have hAc := HA.out.ext (hx4'.trans hx6')
        have HAC := Lib.hid hAc
        clear hP hAc hB4 hL4 hL5 o0 o1 u0 u1 u2 z0 z1 m0 m1 m2
        go_wp2
        have G0 : ∀ x : Grow [] w6, x.v.cell? ⟨w3.heap.size, 0, none⟩ = some (.int .i64 all) := fun x => x.ext.cell v0 (by simp)
        have G1 : ∀ x : Grow [] w6, x.v.cell? ⟨w3.heap.size, 1, none⟩ = some (.int .i64 share) := fun x => x.ext.cell v1 (by simp)
        have G2 : ∀ x : Grow [] w6, x.v.cell? ⟨w3.heap.size, 2, none⟩ = some (.slice As L.length cs) := fun x => x.ext.cell v2 (by simp)
        have G3 : ∀ x : Grow [] w6, x.v.cell? ⟨w.heap.size + 1, 0, none⟩ = some (.string ⟨t.toArray⟩) := fun x => x.ext.cell s0 (by simp)
        have G4 : ∀ x : Grow [] w6, x.v.cell? ⟨w.heap.size + 1, 1, none⟩ = some (.int .i64 n) := fun x => x.ext.cell s1 (by simp)
        (refine wp_region_grow (by kernel_rfl) (by kernel_rfl) ?_; (repeat (go_big_quiet_step ((first | (go_at_call 13; refine Calls.inGrow (fits_any b mo L 60 all share n t _ (HP.out.ext (Grow.ext _).ext).book hI)) | (go_at_call 25; exact Calls.inGrow (rfits_any L _ t all share n _ (HP.out.ext (Grow.ext _).ext).lines (by omega) hI)) | (go_at_call 22; exact Calls.inGrow (same_any b mo L 60 all share _ xs A c _ (HP.out.ext (Grow.ext _).ext).book (HP.out.ext (Grow.ext _).ext).lines (by omega) (by omega) hI (HAC.out.ext (Grow.ext _).ext) HXS.out (by omega))))))); refine wpQuiet_nil ?_)
        clear G0 G1 G2 G3 G4
        intro w7 hx7
        go_wp2
        go_ret
        exact ⟨rfl, ((hE.trans hx4').trans hx6').trans hx7⟩
      · go_wp2_with fail
        refine (play_bad all share xs.length A c _ hok).mono ?_
        rintro e w3 ⟨x, y, rfl, ⟨a', b', s', rfl, rfl⟩, hx3⟩
        go_wp2
        go_ret
        exact ⟨rfl, ((hE.trans hx2').trans hx3).alloc _⟩
    · have hdl : decide (300 < (t.length : Int)) = true := by simp; omega
      go_wp2
      go_ret
      exact ⟨rfl, hE.trans hx2'⟩

set_option maxRecDepth 100000 in
theorem budgetOver_lifted (os : Os) (started : os.Started) (H : Type) (enc : TypeId × Value → H) :
    ReturnsInHanded {} Try.checked os 7 .any (Rows.budgetOverSpec.pre6 enc Try.prog Try.f7 Rows.budgetOverRow.domain false) (Rows.budgetOverSpec.post enc Try.prog Try.f7 false true false false) := by
  refine returnsInHanded_of_change (C := Try.checked) own started (by kernel_rfl) Try.func7
    (ChangeSpec.witness6 (enc := enc) (C := Try.checked) false ⟨#[], #[.agg #[.int .i64 0, .int .i64 0], .slice none 0 0, .agg #[.string ⟨#[]⟩, .int .i64 0, .bool false]], []⟩ 8 (by kernel_rfl) (by kernel_rfl) (by kernel_rfl) (by kernel_rfl)) ?_
  intro W base args ds gs before hval0 hW hcnd _
  have hval : ∀ (j : Nat) t v, Try.f7.params[j]? = some t → args[j]? = some v → Value.okWide Try.prog W .any base t v := hval0
  have hW' := hW
  obtain ⟨p, q, hA0, hV, rfl, hfz, hnd⟩ := hW
  have hA : DataW.TrodAll enc Try.prog W 0 (fun _ => true) true Try.f7.params.toList args.toList ds p := hA0
  rw [Try.params7] at hA hval
  obtain ⟨v0, vs0, d0, ds0, p0, q0, hargs, rfl, rfl, h0, r0⟩ := trodAll_cons hA
  obtain ⟨v1, vs1, d1, ds1, p1, q1, rfl, rfl, rfl, h1, r1⟩ := trodAll_cons r0
  obtain ⟨v2, vs2, d2, ds2, p2, q2, rfl, rfl, rfl, h2, r2⟩ := trodAll_cons r1
  obtain ⟨rfl, rfl, rfl⟩ := trodAll_nil r2
  obtain rfl : args = #[v0, v1, v2] := by cases args; simp_all
  obtain ⟨rfl, rfl⟩ := trodVars_none hV
  have lt0 : ∀ x ∈ p0, x.block < W.heap.size := by obtain ⟨m, hm⟩ := h0; exact DataW.trod_lt m _ _ _ hm
  have t0 := fun W' (bel : Below W.heap.size W W') => Below.trod laidOut (by kernel_rfl) (of_decide_eq_true (by kernel_rfl)) h0 bel lt0
  have lt1 : ∀ x ∈ p1, x.block < W.heap.size := by obtain ⟨m, hm⟩ := h1; exact DataW.trod_lt m _ _ _ hm
  have t1 := fun W' (bel : Below W.heap.size W W') => Below.trod laidOut (by kernel_rfl) (of_decide_eq_true (by kernel_rfl)) h1 bel lt1
  have lt2 : ∀ x ∈ p2, x.block < W.heap.size := by obtain ⟨m, hm⟩ := h2; exact DataW.trod_lt m _ _ _ hm
  have t2 := fun W' (bel : Below W.heap.size W W') => Below.trod laidOut (by kernel_rfl) (of_decide_eq_true (by kernel_rfl)) h2 bel lt2
  obtain ⟨a0, s0, rfl⟩ := room_open (hval 0 23 v0 rfl rfl) h0
  obtain ⟨A1, xs1, c1, rfl, ha1, hl1⟩ := acts_open (hval 1 24 v1 rfl rfl) h1
  obtain ⟨u2, n2, b2, rfl⟩ := act_open (hval 2 26 v2 rfl rfl) h2
  clear hA0 hval0
  refine (over_walk a0 s0 xs1 A1 c1 u2 n2 b2 W ha1 hl1).mono fun e W' ⟨he, bel⟩ => ?_
  subst he
  exact ⟨_, rfl, _, _, _, [], _, [], hW', trodAll_mk1 (shut_bool Try.underlying4 _), (trodAll_cons_mk (t0 W' bel) (trodAll_cons_mk (t1 W' bel) (trodAll_cons_mk (t2 W' bel) trodAll_mk0))), rfl, bel.frame _, fun h => by cases h⟩

/-- The statement. -/
theorem BudgetOver_proved : Rows.BudgetOverSaid :=
  OpenClaim.holds_of_wide 7 Try.f7 rfl rfl rfl rfl rfl rfl rfl ⟨rfl, rfl, rfl, rfl, rfl⟩ rfl rfl rfl rfl rfl (by kernel_rfl) Try.func7 (by kernel_rfl)
    (of_decide_eq_true (by kernel_rfl)) (by unfold Func.isWrapper; first | (rw [if_pos (by decide +kernel)]; kernel_rfl) | (rw [if_neg (by decide +kernel)]; exact ⟨rfl, rfl⟩))
    (fun os started H enc _ => budgetOver_lifted os started H enc)
#print axioms BudgetOver_proved
end Go.Proofs.Ytjcpmfioppopcaa
