/- BudgetHolds: behind any acts each tenant has something and no more than its share; all together no more than there is room for. -/
import Derived.Test.YtjcpmfioppopcaaArgs
namespace Go.Proofs.Ytjcpmfioppopcaa
open Go.ChangeShapes Go.WideShapes Go.ChangeAt Go.RowKit
set_option linter.unusedVariables false

def sumT (L : List Ln) (k : Nat) : Int := (((rTen L).take k).map (rOf L)).sum
theorem sumT_zero (L : List Ln) : sumT L 0 = 0 := by simp [sumT]
theorem sumT_succ (L : List Ln) (k : Nat) (hk : k < (rTen L).length) : sumT L (k + 1) = sumT L k + rOf L (rTen L)[k] := by
  unfold sumT; rw [List.take_succ_eq_append_getElem hk, List.map_append, List.sum_append]; simp only [List.map_cons, List.map_nil, List.sum_cons, List.sum_nil, Int.add_zero]
theorem sumT_all {room share : Int} {L : List Ln} (hI : Inv room share L) : sumT L (rTen L).length = rSum L := by
  unfold sumT; rw [List.take_of_length_le (Nat.le_refl _)]; exact sum_tenants hI.one
theorem sum_nonneg' (l : List Int) (h : ∀ x ∈ l, 0 ≤ x) : 0 ≤ l.sum := by
  induction l with
  | nil => simp
  | cons a r ih =>
    have h1 := h a (by simp)
    have h2 := ih fun x hx => h x (by simp [hx])
    simp; omega
theorem sumT_bound {room share : Int} {L : List Ln} (hI : Inv room share L) (k : Nat) : 0 ≤ sumT L k ∧ sumT L k ≤ rSum L := by
  have h1 : 0 ≤ sumT L k := sum_nonneg' _ fun x hx => by
    obtain ⟨t, _, rfl⟩ := List.mem_map.1 hx; exact hI.of0 t
  have h2 : 0 ≤ (((rTen L).drop k).map (rOf L)).sum := sum_nonneg' _ fun x hx => by
    obtain ⟨t, _, rfl⟩ := List.mem_map.1 hx; exact hI.of0 t
  have h3 : sumT L k + (((rTen L).drop k).map (rOf L)).sum = rSum L := by
    rw [← sum_tenants hI.one]; unfold sumT
    rw [← List.sum_append, ← List.map_append, List.take_append_drop]
  omega
theorem ten_mem {room share : Int} {L : List Ln} (hI : Inv room share L) {t : Bs} (ht : t ∈ rTen L) : 0 < rOf L t ∧ rOf L t ≤ share ∧ t.length ≤ 200 := by
  have h1 := (mem_rTen_iff hI.one t).1 ht
  obtain ⟨x, hx, rfl, _⟩ := (mem_rTen L t).1 ht
  have h2 := hI.of0 x.1; have h3 := hI.ofs x.1
  exact ⟨by omega, h3, hI.len x hx⟩

set_option maxRecDepth 100000 in
set_option maxHeartbeats 8000000 in
theorem holds_walk (all share : Int) (xs : List AR) (A : Option Addr) (c : Nat) (w : World) (hA : ActsAt w A xs) (hlen : xs.length ≤ maxLen) :
    Calls Try.prog 5 #[.agg #[.int .i64 all, .int .i64 share], .slice A xs.length c] w fun e w' => e = .returned (.bool true) ∧ Below w.heap.size w w' := by
  obtain ⟨W, hW⟩ : ∃ W, W = w.alloc (.cells #[.int .i64 all, .int .i64 share] 23) := ⟨_, rfl⟩
  have hE : Ext w W := by rw [hW]; exact (Ext.refl w).alloc _
  have hf := heap_alloc_new w (.cells #[.int .i64 all, .int .i64 share] 23)
  rw [← hW] at hf
  have r0 : W.cell? ⟨w.heap.size, 0, none⟩ = some (.int .i64 all) := blk_cell hf 0
  have r1 : W.cell? ⟨w.heap.size, 1, none⟩ = some (.int .i64 share) := blk_cell hf 1
  have HW := Lib.hid hW; have HA := Lib.hid (hA.ext hE); clear hW hA hf
  cases hsm : smallB xs
  · go_enter Try.func5, Try.ntmps5
    go_wp2_with (first | (go_at_call 9; rw [← HW.out]; refine (wakes_any _).mono ?_; rintro e w1 ⟨rfl, hx1⟩) | (go_at_call 10; refine (small_any xs A c _ (HA.out.ext hx1) hlen).mono ?_; rintro e w2 ⟨rfl, hx2⟩))
    go_ret
    exact ⟨rfl, (hE.trans hx1).trans hx2⟩
  · obtain ⟨hxs, h60⟩ := small_spec hsm
    clear hxs
    go_enter Try.func5, Try.ntmps5
    go_wp2_with fail
    rw [← HW.out]
    refine (wakes_any _).mono ?_
    rintro e w1 ⟨rfl, hx1⟩
    go_wp2_with fail
    refine (small_any xs A c _ (HA.out.ext hx1) hlen).mono ?_
    rintro e w2 ⟨rfl, hx2⟩
    have hx2' : Ext W w2 := Ext.trans hx1 hx2
    have q0 := hx2'.cell r0; have q1 := hx2'.cell r1
    rw [hsm]
    by_cases hok : okR all share
    · have hI := play_inv (inv0 hok.1 hok.2.1 hok.2.2) xs
      have hll := play_len all share xs
      go_wp2_with fail
      refine (play_ok all share xs A c _ (HA.out.ext hx2') h60 hok).mono ?_
      rintro e w3 ⟨b, mo, s, rfl, hB, hL, hAb, hb, hx3⟩
      obtain ⟨L, hLe⟩ : ∃ L, L = playL all share xs := ⟨_, rfl⟩
      rw [← hLe] at hI hll hB hL
      clear hLe
      obtain ⟨As, cs, rfl⟩ := hL.slice
      have hx3' : Ext W w3 := hx2'.trans hx3
      obtain ⟨wb, hwb⟩ : ∃ wb, wb = w3.alloc (.cells #[.int .i64 all, .int .i64 share, .slice As L.length cs] 32) := ⟨_, rfl⟩
      have hx4 : Ext w3 wb := by rw [hwb]; exact (Ext.refl w3).alloc _
      have hB4 := hB.ext (.of hx4 []) (by simp) (by simp)
      have hx4' : Ext W wb := hx3'.trans hx4
      have HWB := Lib.hid hwb
      clear hB hL hwb q0 q1
      have b3 := hI.sum0; have b4 := hI.sum; have b7 := hI.r1
      go_wp2_with fail
      rw [← HWB.out]
      refine (tenants_any b mo L 60 all share _ hB4 (by omega) hI).mono ?_
      rintro e w5 ⟨v, rfl, hT, hx5⟩
      obtain ⟨At, ct, rfl⟩ := hT.slice
      have hTl : (rTen L).length ≤ 60 := Nat.le_trans (len_rTen L) (Nat.le_trans hll h60)
      have hx5' : Ext W w5 := hx4'.trans hx5
      have hB5 := hB4.ext (.of hx5 []) (by simp) (by simp)
      have HB5 := Lib.hid hB5; have HT := Lib.hid hT
      clear hB4 hB5 hT
      go_wp2
      go_loopw [8, 10, 31] (fun a _ i wr => ∃ k : Nat, k ≤ (rTen L).length ∧ i = .int .i64 k ∧ a = .int .i64 (sumT L k) ∧ Ext w5 wr) (fun _ _ i _ => (rTen L).length - (intOf i).toNat)
      case atStart => exact ⟨0, by omega, rfl, by rw [sumT_zero], Ext.refl _⟩
      case round =>
        obtain ⟨k, hk, rfl, rfl, hEr⟩ := hrel
        have t0 := sumT_bound hI k
        have hBr := HB5.out.ext (.of hEr []) (by simp) (by simp)
        have HBR := Lib.hid hBr; clear hBr
        have v0 := (hx5'.trans hEr).cell r0; have v1 := (hx5'.trans hEr).cell r1
        by_cases hlt : k < (rTen L).length
        · obtain ⟨g, rfl, hg, hgc⟩ := (HT.out.below hEr).at_ hlt
          obtain ⟨m1, m2, m3⟩ := ten_mem hI (List.getElem_mem hlt)
          have t1 := sumT_bound hI (k + 1)
          rw [sumT_succ L k hlt] at t1
          have hst := sumT_succ L k hlt
          have HST := Lib.hid hst; clear hst
          obtain ⟨t, hte⟩ : ∃ t, t = (rTen L)[k] := ⟨_, rfl⟩
          rw [← hte] at m1 m2 m3 t1 hgc
          have HTE := Lib.hid hte; clear hte
          have d1 : decide (share < rOf L t) = false := by simp; omega
          have d2 : decide (rOf L t ≤ 0) = false := by simp; omega
          have i1 : IntKind.i64.wrap (sumT L k + rOf L t) = sumT L k + rOf L t := IntWalk.i64_in _ (by omega)
          go_wp2
          have G1 : ∀ x : Grow [] wr, x.v.cell? ⟨w.heap.size, 1, none⟩ = some (.int .i64 share) := fun x => x.ext.cell v1 (by simp)
          (refine wp_region_grow (by kernel_rfl) (by kernel_rfl) ?_; (repeat (go_big_quiet_step ((go_at_call 16; exact Calls.inGrow_same (of_any b mo L 60 all share t _ (HBR.out.ext (.of (Grow.ext _).ext []) (by simp) (by simp)) (by omega)))))); refine wpQuiet_nil ?_)
          clear G1
          intro w7 hx7
          go_wp2_with fail
          refine (of_any b mo L 60 all share t _ (HBR.out.ext (.of hx7 []) (by simp) (by simp)) (by omega)).mono ?_
          rintro e w8 ⟨rfl, rfl⟩
          go_wp2
          go_roundw
          case rel => exact ⟨k + 1, by omega, by go_num, by rw [HST.out, ← HTE.out], hEr.trans hx7⟩
          case measure => simp [intOf]; omega
        · obtain rfl : k = (rTen L).length := by omega
          rw [sumT_all hI] at t0 ⊢
          have d1 : decide (rSum L ≤ all) = true := by simp; omega
          go_wp2_with fail
          refine (all_any b mo L 60 all share _ HBR.out).mono ?_
          rintro e w8 ⟨rfl, rfl⟩
          go_wp2
          go_ret
          exact ⟨rfl, (hE.trans hx5').trans hEr⟩
    · go_wp2_with fail
      refine (play_bad all share xs.length A c _ hok).mono ?_
      rintro e w3 ⟨x, y, rfl, ⟨a', b', s', rfl, rfl⟩, hx3⟩
      go_wp2
      go_ret
      exact ⟨rfl, ((hE.trans hx2').trans hx3).alloc _⟩

set_option maxRecDepth 100000 in
theorem budgetHolds_lifted (os : Os) (started : os.Started) (H : Type) (enc : TypeId × Value → H) :
    ReturnsInHanded {} Try.checked os 5 .any (Rows.budgetHoldsSpec.pre6 enc Try.prog Try.f5 Rows.budgetHoldsRow.domain false) (Rows.budgetHoldsSpec.post enc Try.prog Try.f5 false true false false) := by
  refine returnsInHanded_of_change (C := Try.checked) own started (by kernel_rfl) Try.func5
    (ChangeSpec.witness6 (enc := enc) (C := Try.checked) false ⟨#[], #[.agg #[.int .i64 0, .int .i64 0], .slice none 0 0], []⟩ 8 (by kernel_rfl) (by kernel_rfl) (by kernel_rfl) (by kernel_rfl)) ?_
  intro W base args ds gs before hval0 hW hcnd _
  have hval : ∀ (j : Nat) t v, Try.f5.params[j]? = some t → args[j]? = some v → Value.okWide Try.prog W .any base t v := hval0
  have hW' := hW
  obtain ⟨p, q, hA0, hV, rfl, hfz, hnd⟩ := hW
  have hA : DataW.TrodAll enc Try.prog W 0 (fun _ => true) true Try.f5.params.toList args.toList ds p := hA0
  rw [Try.params5] at hA hval
  obtain ⟨v0, vs0, d0, ds0, p0, q0, hargs, rfl, rfl, h0, r0⟩ := trodAll_cons hA
  obtain ⟨v1, vs1, d1, ds1, p1, q1, rfl, rfl, rfl, h1, r1⟩ := trodAll_cons r0
  obtain ⟨rfl, rfl, rfl⟩ := trodAll_nil r1
  obtain rfl : args = #[v0, v1] := by cases args; simp_all
  obtain ⟨rfl, rfl⟩ := trodVars_none hV
  have lt0 : ∀ x ∈ p0, x.block < W.heap.size := by obtain ⟨m, hm⟩ := h0; exact DataW.trod_lt m _ _ _ hm
  have t0 := fun W' (bel : Below W.heap.size W W') => Below.trod laidOut (by kernel_rfl) (of_decide_eq_true (by kernel_rfl)) h0 bel lt0
  have lt1 : ∀ x ∈ p1, x.block < W.heap.size := by obtain ⟨m, hm⟩ := h1; exact DataW.trod_lt m _ _ _ hm
  have t1 := fun W' (bel : Below W.heap.size W W') => Below.trod laidOut (by kernel_rfl) (of_decide_eq_true (by kernel_rfl)) h1 bel lt1
  obtain ⟨a0, s0, rfl⟩ := room_open (hval 0 23 v0 rfl rfl) h0
  obtain ⟨A1, xs1, c1, rfl, ha1, hl1⟩ := acts_open (hval 1 24 v1 rfl rfl) h1
  clear hA0 hval0
  refine (holds_walk a0 s0 xs1 A1 c1 W ha1 hl1).mono fun e W' ⟨he, bel⟩ => ?_
  subst he
  exact ⟨_, rfl, _, _, _, [], _, [], hW', trodAll_mk1 (shut_bool Try.underlying4 _), (trodAll_cons_mk (t0 W' bel) (trodAll_cons_mk (t1 W' bel) trodAll_mk0)), rfl, bel.frame _, fun h => by cases h⟩

/-- The statement. -/
theorem BudgetHolds_proved : Rows.BudgetHoldsSaid :=
  OpenClaim.holds_of_wide 5 Try.f5 rfl rfl rfl rfl rfl rfl rfl ⟨rfl, rfl, rfl, rfl, rfl⟩ rfl rfl rfl rfl rfl (by kernel_rfl) Try.func5 (by kernel_rfl)
    (of_decide_eq_true (by kernel_rfl)) (by unfold Func.isWrapper; first | (rw [if_pos (by decide +kernel)]; kernel_rfl) | (rw [if_neg (by decide +kernel)]; exact ⟨rfl, rfl⟩))
    (fun os started H enc _ => budgetHolds_lifted os started H enc)
#print axioms BudgetHolds_proved
end Go.Proofs.Ytjcpmfioppopcaa
