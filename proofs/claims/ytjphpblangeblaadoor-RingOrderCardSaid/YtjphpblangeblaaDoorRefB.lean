/- The document's Way, walked. -/
import Derived.Test.YtjphpblangeblaaDoorRefA
namespace Go.Proofs.YtjphpblangeblaaDoor
open Go.RowKit Go.Maps Go.ChangeMaps
set_option linter.unusedVariables false
set_option linter.unusedSimpArgs false
theorem wrap_u64 (z : Int) : IntKind.u64.wrap z = z % 18446744073709551616 := by
  unfold IntKind.wrap; simp [IntKind.bits, IntKind.signed]
section
variable {w : World} {B x each : Nat} {own : Nat → Prop} {L : NL} {n : Nm} {sv : Value} {ob : Bs} {k : Nat}
set_option maxRecDepth 100000 in
set_option maxHeartbeats 4000000 in
theorem rway_any (h : RRx w B x own each L sv) (ho : ob.length ≤ 1000000) (hn : n.length ≤ 1000) (hk : k ≤ 20) : Calls Tryd.prog 30 #[.pointer (some ⟨x, 0, none⟩), .string ⟨ob.toArray⟩, .agg #[.string ⟨n.toArray⟩, .int .i64 k]] w fun e w' => e = .returned (.int .u64 (wayA pd (hashL ob) n (each * k))) ∧ Ext w w' := by
  have HH := Lib.hid (fun W => rhash_any ob W ho)
  obtain ⟨H, hH⟩ : ∃ H, H = hashL ob := ⟨_, rfl⟩
  rw [← hH] at HH ⊢
  obtain ⟨M, hM⟩ : ∃ M, M = each * k := ⟨_, rfl⟩
  have hM0 : M ≤ 4000 := by rw [hM]; exact Nat.mul_le_mul h.e1.2 hk
  have e9 : IntKind.i64.wrap ((each : Int) * (k : Int)) = (M : Int) := by
    have : (each : Int) * (k : Int) = (M : Int) := by rw [hM]; push_cast; rfl
    rw [this]; exact IntWalk.i64_in _ (by omega)
  obtain ⟨W1, hW1⟩ : ∃ W1, W1 = w.alloc (.cells #[.string ⟨n.toArray⟩, .int .i64 k] 69) := ⟨_, rfl⟩
  obtain ⟨vb, hvb⟩ : ∃ vb, vb = w.heap.size := ⟨_, rfl⟩
  have n1 : W1.heap[vb]? = some (.cells #[.string ⟨n.toArray⟩, .int .i64 k] 69 (0, 0)) := by rw [hW1, hvb]; exact heap_alloc_new w _
  have x1 : Ext w W1 := by rw [hW1]; exact ext_alloc1 _ _
  have k0 : W1.cell? ⟨vb, 0, none⟩ = some (.string ⟨n.toArray⟩) := blk_cell n1 0
  have k1 : W1.cell? ⟨vb, 1, none⟩ = some (.int .i64 k) := blk_cell n1 1
  have ke : W1.cell? ⟨x, 0, none⟩ = some (.int .i64 each) := x1.cell (blk_cell h.blk 0)
  have HW1 := Lib.hid hW1; have HVB := Lib.hid hvb; have X1 := Lib.hid x1; have HM := Lib.hid hM; have HNL := Lib.hid hn
  rw [← hM]
  clear h hH hM hW1 hvb n1 x1 hn
  go_enter Tryd.func30, Tryd.ntmps30
  go_wp2_with (go_at_call 43; refine (HH.out _).mono ?_; rintro e w' ⟨rfl, rfl⟩)
  rw [← HW1.out, ← HVB.out]
  go_loopw [9, 7, 10] (fun i b _ wr => ∃ j : Nat, j ≤ M ∧ i = .int .i64 j ∧ Hid (b = .int .u64 (wayA pd H n j)) ∧ Hid (Ext W1 wr)) (fun i _ _ _ => M - (RowKit.intOf i).toNat)
  case atStart => exact ⟨0, by omega, rfl, Lib.hid rfl, Lib.hid (Ext.refl _)⟩
  case round =>
    obtain ⟨j, hj, rfl, hb, HX⟩ := hrel
    obtain ⟨bv, hbv⟩ : ∃ bv, bv = wayA pd H n j := ⟨_, rfl⟩
    rw [← hbv] at hb
    have hb2 := hb.out
    subst hb2
    have HBV := Lib.hid hbv
    clear hbv hb
    have k0r := HX.out.cell k0; have k1r := HX.out.cell k1; have ker := HX.out.cell ke
    go_wp2_with fail
    refine wp_region_segs [] [.inl [0, 1, 2, 3, 4, 5, 6, 7, 8]] (by kernel_rfl) (by kernel_rfl) (fun c a d v w h => by cases d <;> exact h) ?_
    have G0 : ∀ y : Grow [] wr.drew, y.v.cell? ⟨x, 0, none⟩ = some (.int .i64 each) := fun y => y.ext.ext.cell ker
    have G1 : ∀ y : Grow [] wr.drew, y.v.cell? ⟨vb, 1, none⟩ = some (.int .i64 k) := fun y => y.ext.ext.cell k1r
    (rw [wpSegs_inl]; simp only [pickOps, List.map_cons, List.map_nil, List.getD_cons_succ, List.getD_cons_zero]; (repeat (go_big_quiet_step (fail))); refine wpQuiet_nil ?_)
    clear G0 G1
    rw [wpSegs_nil]
    by_cases hlt : j < M
    · have hdl := decL_len j j (Nat.le_refl _)
      have HD := Lib.hid (fun W => digits_any j j W (Nat.le_refl _) (by omega))
      obtain ⟨ds, hds⟩ : ∃ ds, ds = decL j := ⟨_, rfl⟩
      rw [← hds] at hdl HD
      have hd1 : ds.length ≤ 100000 := by omega
      have hsum : (ds ++ [35] ++ n).length ≤ 1000000 := by have := HNL.out; simp; omega
      have HS := Lib.hid (fun W => rhash_any (ds ++ [35] ++ n) W hsum)
      obtain ⟨p, hp⟩ : ∃ p, p = hashL (ds ++ [35] ++ n) := ⟨_, rfl⟩
      rw [← hp] at HS
      have HPD : Hid (p = pd j n) := Lib.hid (by rw [hp, hds]; rfl)
      obtain ⟨t1, ht1⟩ : ∃ t, t = ds ++ [35] := ⟨_, rfl⟩
      rw [← ht1] at HS
      obtain ⟨t2, ht2⟩ : ∃ t, t = t1 ++ n := ⟨_, rfl⟩
      rw [← ht2] at HS
      have HT1 := Lib.hid ht1; have HT2 := Lib.hid ht2; have HD1 := Lib.hid hd1
      clear hdl hds hd1 hsum hp ht1 ht2
      go_wp2_with fail
      refine wp_region_segs [] [.inl [0, 3, 4, 7], .inr (.inl 1), .inl [2, 5], .inr (.inl 6), .inl [8, 9]] (by kernel_rfl) (by kernel_rfl) (fun c a d v w h => by cases d <;> exact h) ?_
      have G0 : ∀ y : Grow [] wr.drew.drew, y.v.cell? ⟨vb, 0, none⟩ = some (.string ⟨n.toArray⟩) := fun y => y.ext.ext.cell k0r
      (rw [wpSegs_inl]; simp only [pickOps, List.map_cons, List.map_nil, List.getD_cons_succ, List.getD_cons_zero]; (repeat (go_big_quiet_step (fail))); refine wpQuiet_nil ?_)
      clear G0
      (rw [wpSegs_grow]; simp only [pickOps, List.map_cons, List.map_nil, List.getD_cons_succ, List.getD_cons_zero]; go_wp2_with ((go_at_call 44; refine (HD.out _).mono ?_; rintro e w3 ⟨rfl, hx3⟩)))
      refine ⟨.of hx3 _, ?_⟩
      have HX3 := Lib.hid ((HX.out.trans ((Ext.refl wr).drew.trans (Ext.refl wr.drew).drew)).trans hx3)
      clear hx3
      (rw [wpSegs_inl]; simp only [pickOps, List.map_cons, List.map_nil, List.getD_cons_succ, List.getD_cons_zero]; (repeat (go_big_quiet_step (fail))); (refine wpQuiet_add rfl _ _ rfl ds [35] t1 rfl rfl (by have := HD1.out; omega) (by simp) HT1.out ?_; simp only [Act.put, List.setIfInBounds_toArray, List.set_cons_succ, List.set_cons_zero]); (repeat (go_big_quiet_step (fail))); (refine wpQuiet_add rfl _ _ rfl t1 n t2 rfl rfl (by have := HD1.out; rw [HT1.out]; simp; omega) (by have := HNL.out; omega) HT2.out ?_; simp only [Act.put, List.setIfInBounds_toArray, List.set_cons_succ, List.set_cons_zero]); (repeat (go_big_quiet_step (fail))); refine wpQuiet_nil ?_)
      (rw [wpSegs_grow]; simp only [pickOps, List.map_cons, List.map_nil, List.getD_cons_succ, List.getD_cons_zero]; go_wp2_with ((go_at_call 43; refine (HS.out _).mono ?_; rintro e w4 ⟨rfl, rfl⟩)))
      refine ⟨ExtB.refl _ _, ?_⟩
      (rw [wpSegs_inl]; simp only [pickOps, List.map_cons, List.map_nil, List.getD_cons_succ, List.getD_cons_zero]; (repeat (go_big_quiet_step (fail))); refine wpQuiet_nil ?_)
      rw [wpSegs_nil]
      have HWR := Lib.hid (wrap_u64 (p - H))
      obtain ⟨d, hd⟩ : ∃ d, d = IntKind.u64.wrap (p - H) := ⟨_, rfl⟩
      have HDD : Hid (d = (pd j n - H) % 18446744073709551616) := Lib.hid (by rw [hd, HWR.out, HPD.out])
      rw [← hd]
      clear hd
      have hstep : wayA pd H n (j + 1) = if j = 0 ∨ d < bv then d else bv := by
        rw [HDD.out, HBV.out]; rfl
      have HSTEP := Lib.hid hstep
      clear hstep
      by_cases hj0 : j = 0
      · subst hj0
        have HS1 : Hid (wayA pd H n (0 + 1) = d) := Lib.hid (by rw [HSTEP.out, if_pos (.inl rfl)])
        go_wp2
        go_roundw
        case rel => exact ⟨0 + 1, by omega, by go_num, Lib.hid (by rw [HS1.out]), HX3⟩
        case measure => simp [RowKit.intOf]; omega
      · have hj0b : ((j : Int) == 0) = false := by simp; omega
        by_cases hdb : d < bv
        · have HS1 : Hid (wayA pd H n (j + 1) = d) := Lib.hid (by rw [HSTEP.out, if_pos (.inr hdb)])
          go_wp2
          go_roundw
          case rel => exact ⟨j + 1, by omega, by go_num, Lib.hid (by rw [HS1.out]), HX3⟩
          case measure => simp [RowKit.intOf]; omega
        · have HS1 : Hid (wayA pd H n (j + 1) = bv) := Lib.hid (by rw [HSTEP.out, if_neg (by rintro (h | h); exact hj0 h; exact hdb h)])
          go_wp2
          go_roundw
          case rel => exact ⟨j + 1, by omega, by go_num, Lib.hid (by rw [HS1.out]), HX3⟩
          case measure => simp [RowKit.intOf]; omega
    · have e : j = M := by omega
      subst e
      go_wp2
      go_ret
      exact ⟨by rw [HBV.out]; rfl, X1.out.trans (HX.out.trans (Ext.refl wr).drew)⟩
end
end Go.Proofs.YtjphpblangeblaaDoor
