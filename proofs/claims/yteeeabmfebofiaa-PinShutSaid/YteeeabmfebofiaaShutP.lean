/- PinShut: for every key and every number of tries the call returns true, and its arguments read as before. -/
import Derived.Test.YteeeabmfebofiaaArgs
import Derived.Test.YteeeabmfebofiaaAll
namespace Go.Proofs.Yteeeabmfebofiaa
open Go.ChangeShapes Go.WideShapes Go.ChangeAt Go.RowKit Go.Maps
set_option linter.unusedVariables false

set_option maxRecDepth 100000 in
set_option maxHeartbeats 4000000 in
theorem shut_walk (key : Int) (tn : Nat) (w : World) (hk : (Lit.int .i64 key).wf = true) (h1 : tn ≤ 255) :
    Calls Try.prog 6 #[.int .i64 key, .int .u8 tn] w fun e w' => e = .returned (.bool true) ∧ Below w.heap.size w w' := by
  obtain ⟨n, hne⟩ : ∃ n, n = tn % 20 := ⟨_, rfl⟩
  have hn2 : n ≤ 20 := by omega
  have c1 : IntKind.i64.wrap (tn : Int) = tn := IntWalk.i64_in _ (by omega)
  have e1 : (tn : Int) % 20 = (n : Int) := by omega
  have HNE := Lib.hid hne
  clear hne
  go_enter Try.func6, Try.ntmps6
  go_wp2_with fail
  refine (wakes_any _).mono ?_
  rintro e w1 ⟨rfl, x1⟩
  have X1 := Lib.hid x1; clear x1
  go_wp2_with fail
  refine (pi_new _).mono ?_
  rintro e w2 ⟨rfl, p2, x2⟩
  obtain ⟨B, hB⟩ : ∃ B, B = w1.heap.size := ⟨_, rfl⟩
  rw [← hB] at p2 ⊢
  have hs : Calls Try.prog 14 #[.pointer (some ⟨B, 0, none⟩), .int .i64 key] w2 (StaysP w2 B B 1 [] [key] (.bool true)) := by
    have := pi_shut w2 B B 0 [] [] key p2 hk (by omega)
    exact this
  have HS := Lib.hid hs
  have P2 := Lib.hid p2; have X2 := Lib.hid x2; have HB := Lib.hid hB
  clear p2 x2 hB hs
  go_wp2_with fail
  refine HS.out.mono ?_
  rintro e w3 ⟨rfl, p3, x3⟩
  have hbel : Below B w1 w3 := by
    have h1 : Below B w1 w2 := by rw [HB.out]; exact X2.out
    exact h1.trans (x3.below P2.out.low)
  have P3 := Lib.hid p3; have BE := Lib.hid hbel
  clear p3 x3 hbel P2 X2 HS
  go_wp2_with fail
  rw [e1]
  go_loopw [22, 48] (fun i _ wr => ∃ j : Nat, j ≤ n ∧ i = .int .i64 j ∧ (PI wr B B (1 + j) [] [key] ∧ Below B w1 wr)) (fun i _ _ => n - (intOf i).toNat)
  case atStart => exact ⟨0, by omega, rfl, P3.out, BE.out⟩
  case round =>
    clear P3 BE
    obtain ⟨j, hj, rfl, pj, bj⟩ := hrel
    have P := Lib.hid pj; have BJ := Lib.hid bj
    clear pj bj
    by_cases hlt : j < n
    · go_wp2_with fail
      refine (pi_take_shut _ _ _ _ _ _ _ P.out hk (by simp)).mono ?_
      rintro e w4 ⟨rfl, p4, x4⟩
      have hh : Calls Try.prog 13 #[.pointer (some ⟨B, 0, none⟩), .int .i64 key] w4 fun e w' => e = .returned (.int .i64 0) ∧ w4 = w' := pi_held w4 B B _ [] [key] key p4 hk
      have hs : Calls Try.prog 14 #[.pointer (some ⟨B, 0, none⟩), .int .i64 key] w4 (StaysP w4 B B (1 + j + 1) [] [key] (.bool true)) := by
        have h0 := pi_shut w4 B B (1 + j) [] [key] key p4 hk (by omega)
        have e0 : shutOf [] [key] key = [key] := by unfold shutOf; simp
        rw [e0] at h0
        exact h0
      have P4 := Lib.hid p4; have X4 := Lib.hid x4; have HH := Lib.hid hh; have HS := Lib.hid hs
      clear p4 x4 hh hs
      go_wp2_with fail
      refine HH.out.mono ?_
      rintro e w' ⟨rfl, rfl⟩
      go_wp2_with fail
      refine HS.out.mono ?_
      rintro e w5 ⟨rfl, p5, x5⟩
      have HN : Hid (PI w5 B B (1 + (j + 1)) [] [key] ∧ Below B w1 w5) := Lib.hid ⟨p5.more (by omega), (BJ.out.trans (X4.out.below P.out.low)).trans (x5.below P4.out.low)⟩
      clear p5 x5 HS HH X4 P4 P BJ
      go_wp2
      go_roundw
      case rel => exact ⟨j + 1, by omega, by go_num, HN.out⟩
      case measure => simp [intOf]; omega
    · go_wp2_with fail
      refine (pi_all _ _ _ _ _ _ (by omega) P.out).mono ?_
      rintro e w4 ⟨v, zs, rfl, q1, q2, q3, q4, q5, q6⟩
      have hz : zs = [] := by
        apply List.eq_nil_iff_forall_not_mem.2
        intro k hk
        have := (q3 k).1 hk
        simp [live] at this
      subst hz
      obtain ⟨A, c, rfl⟩ := q1.slice
      have Q6 := Lib.hid q6
      clear q1 q2 q3 q4 q5 q6
      go_wp2
      go_ret
      refine ⟨rfl, ?_⟩
      have hbb := BJ.out.trans (Q6.out.below P.out.low)
      rw [HB.out] at hbb
      exact X1.out.trans hbb

set_option maxRecDepth 100000 in
theorem pinShut_lifted (os : Os) (started : os.Started) (H : Type) (enc : TypeId × Value → H) :
    ReturnsInHanded {} Try.checked os 6 .any (Rows.pinShutSpec.pre6 enc Try.prog Try.f6 Rows.pinShutRow.domain false) (Rows.pinShutSpec.post enc Try.prog Try.f6 false true false false) := by
  refine returnsInHanded_of_change (C := Try.checked) own started (by kernel_rfl) Try.func6
    (ChangeSpec.witness6 (enc := enc) (C := Try.checked) false ⟨#[], #[.int .i64 0, .int .u8 0], []⟩ 8 (by kernel_rfl) (by kernel_rfl) (by kernel_rfl) (by kernel_rfl)) ?_
  intro W base args ds gs before hval0 hW hcnd _
  have hval : ∀ (j : Nat) t v, Try.f6.params[j]? = some t → args[j]? = some v → Value.okWide Try.prog W .any base t v := hval0
  have hW' := hW
  obtain ⟨p, q, hA0, hV, rfl, hfz, hnd⟩ := hW
  have hA : DataW.TrodAll enc Try.prog W 0 (fun _ => true) true Try.f6.params.toList args.toList ds p := hA0
  rw [Try.params6] at hA hval
  obtain ⟨v0, vs0, d0, ds0, p0, q0, hargs, rfl, rfl, h0, r0⟩ := trodAll_cons hA
  obtain ⟨v1, vs1, d1, ds1, p1, q1, rfl, rfl, rfl, h1, r1⟩ := trodAll_cons r0
  obtain ⟨rfl, rfl, rfl⟩ := trodAll_nil r1
  obtain rfl : args = #[v0, v1] := by cases args; simp_all
  obtain ⟨rfl, rfl⟩ := trodVars_none hV
  have lt0 : ∀ x ∈ p0, x.block < W.heap.size := by obtain ⟨m, hm⟩ := h0; exact DataW.trod_lt m _ _ _ hm
  have t0 := fun W' (bel : Below W.heap.size W W') => Below.trod laidOut (by kernel_rfl) (of_decide_eq_true (by kernel_rfl)) h0 bel lt0
  have lt1 : ∀ x ∈ p1, x.block < W.heap.size := by obtain ⟨m, hm⟩ := h1; exact DataW.trod_lt m _ _ _ hm
  have t1 := fun W' (bel : Below W.heap.size W W') => Below.trod laidOut (by kernel_rfl) (of_decide_eq_true (by kernel_rfl)) h1 bel lt1
  obtain ⟨i0, rfl, _, _, wf0⟩ := open_int Try.underlying2 (hval 0 2 v0 rfl rfl) h0
  obtain ⟨z1, rfl, _, _, wz1⟩ := open_int Try.underlying5 (hval 1 5 v1 rfl rfl) h1
  obtain ⟨n1, rfl, b1⟩ := u8_nat wz1
  clear hA0 hval0
  refine (shut_walk i0 n1 W wf0 b1 ).mono fun e W' ⟨he, bel⟩ => ?_
  subst he
  exact ⟨_, rfl, _, _, _, [], _, [], hW', trodAll_mk1 (shut_bool Try.underlying4 _), (trodAll_cons_mk (t0 W' bel) (trodAll_cons_mk (t1 W' bel) trodAll_mk0)), rfl, bel.frame _, fun h => by cases h⟩

/-- The statement. -/
theorem PinShut_proved : Rows.PinShutSaid :=
  OpenClaim.holds_of_wide 6 Try.f6 rfl rfl rfl rfl rfl rfl rfl ⟨rfl, rfl, rfl, rfl, rfl⟩ rfl rfl rfl rfl rfl (by kernel_rfl) Try.func6 (by kernel_rfl)
    (of_decide_eq_true (by kernel_rfl)) (by unfold Func.isWrapper; first | (rw [if_pos (by decide +kernel)]; kernel_rfl) | (rw [if_neg (by decide +kernel)]; exact ⟨rfl, rfl⟩))
    (fun os started H enc _ => pinShut_lifted os started H enc)
#print axioms PinShut_proved
end Go.Proofs.Yteeeabmfebofiaa
