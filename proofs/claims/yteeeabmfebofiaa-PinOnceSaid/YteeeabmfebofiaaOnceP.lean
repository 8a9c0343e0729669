/- PinOnce: for every key and all numbers of holds and frees the call returns true, and its arguments read as before. -/
import Derived.Test.YteeeabmfebofiaaArgs
namespace Go.Proofs.Yteeeabmfebofiaa
open Go.ChangeShapes Go.WideShapes Go.ChangeAt Go.RowKit Go.Maps
set_option linter.unusedVariables false

structure OnceRel (w1 : World) (B b : Nat) (key : Int) (j : Nat) (L : List Hold) (v : Value) (wr : World) : Prop where
  len : L.length = j
  keys : ∀ x ∈ L, x.key = key ∧ x.freed = false
  pi : PI wr B b j L []
  row : HRow wr B v (L.map Hold.blk)
  bel : Below B w1 wr
structure OnceRel2 (w1 : World) (B b : Nat) (n : Nat) (L : List Hold) (v : Value) (i : Nat) (wr : World) : Prop where
  pi : PI wr B b n (if i = 0 then L else endAt L 0) []
  row : HRow wr B v (L.map Hold.blk)
  bel : Below B w1 wr
theorem live_all (L : List Hold) (key : Int) (h : ∀ x ∈ L, x.key = key ∧ x.freed = false) : live L key = L.length := by
  unfold live
  rw [List.filter_eq_self.2]
  intro x hx
  simp [h x hx]

set_option maxRecDepth 100000 in
set_option maxHeartbeats 4000000 in
theorem once_walk (key : Int) (hn fn : Nat) (w : World) (hk : (Lit.int .i64 key).wf = true) (h1 : hn ≤ 255) (h2 : fn ≤ 255) :
    Calls Try.prog 3 #[.int .i64 key, .int .u8 hn, .int .u8 fn] w fun e w' => e = .returned (.bool true) ∧ Below w.heap.size w w' := by
  obtain ⟨n, hne⟩ : ∃ n, n = 1 + hn % 10 := ⟨_, rfl⟩
  obtain ⟨m, hme⟩ : ∃ m, m = 1 + fn % 10 := ⟨_, rfl⟩
  have hn1 : 1 ≤ n := by omega
  have hn2 : n ≤ 10 := by omega
  have hm1 : 1 ≤ m := by omega
  have hm2 : m ≤ 10 := by omega
  have c1 : IntKind.i64.wrap (hn : Int) = hn := IntWalk.i64_in _ (by omega)
  have c2 : IntKind.i64.wrap (fn : Int) = fn := IntWalk.i64_in _ (by omega)
  have e1 : IntKind.i64.wrap (1 + (hn : Int) % 10) = n := by rw [IntWalk.i64_in _ (by omega)]; omega
  have e2 : IntKind.i64.wrap (1 + (fn : Int) % 10) = m := by rw [IntWalk.i64_in _ (by omega)]; omega
  have HNE := Lib.hid hne; have HME := Lib.hid hme
  clear hne hme
  go_enter Try.func3, Try.ntmps3
  go_wp2_with fail
  refine (wakes_any _).mono ?_
  rintro e w1 ⟨rfl, x1⟩
  have X1 := Lib.hid x1; clear x1
  go_wp2_with fail
  refine (pi_new _).mono ?_
  rintro e w2 ⟨rfl, p2, x2⟩
  obtain ⟨B, hB⟩ : ∃ B, B = w1.heap.size := ⟨_, rfl⟩
  rw [← hB] at p2 ⊢
  have P2 := Lib.hid p2; have X2 := Lib.hid x2; have HB := Lib.hid hB
  clear p2 x2 hB
  go_wp2_with fail
  go_loopw [9, 23] (fun v i wr => ∃ (j : Nat) (L : List Hold), j ≤ n ∧ i = .int .i64 j ∧ OnceRel w1 B B key j L v wr) (fun _ i _ => n - (intOf i).toNat)
  case atStart => exact ⟨0, [], by omega, rfl, rfl, by simp, P2.out, HRow.nil _ _, by rw [HB.out]; exact X2.out⟩
  case round =>
    clear P2 X2
    obtain ⟨j, L, hj, rfl, hr⟩ := hrel
    have HR := Lib.hid hr
    clear hr
    by_cases hlt : j < n
    · go_wp2_with fail
      refine (pi_take _ _ _ _ _ _ _ HR.out.pi hk (by omega) (by simp)).mono ?_
      rintro e w3 ⟨h, g, rfl, p3, x3⟩
      have P3 := Lib.hid p3; have X3 := Lib.hid x3; have R3 := Lib.hid (HR.out.row.fz x3)
      clear p3 x3
      go_wp2_with (at_builtin; refine wpList_append_hold rfl _ _ rfl B B (j + 1) _ _ _ _ h R3.out P3.out rfl _ rfl ?c0 ?c1 ?_)
      case c0 => simp
      case c1 => have := HR.out.len; simp; omega
      intro v' w4 r4 p4 b4 _
      have HN : Hid (OnceRel w1 B B key (j + 1) (L ++ [⟨h, key, g, false⟩]) v' w4) := Lib.hid ⟨by simp [HR.out.len], fun x hx => by
          rcases List.mem_append.1 hx with hx | hx
          · exact HR.out.keys x hx
          · simp at hx; subst hx; exact ⟨rfl, rfl⟩, p4, by simpa using r4, (HR.out.bel.trans (X3.out.below HR.out.pi.low)).trans b4⟩
      clear r4 p4 b4 X3 R3 P3 HR
      go_wp2
      go_roundw
      case rel => exact ⟨j + 1, _, by omega, by go_num, HN.out⟩
      case measure => simp [intOf]; omega
    · obtain rfl : j = n := by omega
      go_wp2_with fail
      obtain ⟨wo, rfl⟩ : ∃ wo : World, wo = wr := ⟨_, rfl⟩
      obtain ⟨x, L', rfl⟩ : ∃ x L', L = x :: L' := by
        cases L with
        | nil => have := HR.out.len; simp at this; omega
        | cons x L' => exact ⟨x, L', rfl⟩
      have hxk := HR.out.keys x (by simp)
      obtain ⟨gs, cs, hvv, _⟩ := HR.out.row.get (i := 0) (by simp)
      have hlj : ((x :: L').map Hold.blk).length = j := by rw [List.length_map]; exact HR.out.len
      rw [hlj] at hvv
      subst hvv
      have HLJ := Lib.hid hlj
      clear hlj
      go_loopw [12, 46] (fun t i wr => ∃ q : Nat, q ≤ m ∧ i = .int .i64 q ∧ t = .int .i64 (if q = 0 then 0 else 1) ∧ OnceRel2 w1 B B j (x :: L') (.slice (some ⟨gs, 0, none⟩) j cs) q wr) (fun _ i _ => m - (intOf i).toNat)
      case atStart => exact ⟨0, by omega, rfl, rfl, HR.out.pi, HR.out.row, HR.out.bel⟩
      case round =>
        obtain ⟨q, hq, rfl, rfl, hr⟩ := hrel
        obtain ⟨g', c', hv, hc⟩ := hr.row.get (i := 0) (by simp)
        injection hv with hv1 hv2 hv3
        injection hv1 with hv1
        injection hv1 with hv1
        subst hv1
        clear hv2 hv3
        have hc0 : wr.cell? ⟨gs, 0, none⟩ = some (.pointer (some ⟨x.blk, 0, none⟩)) := hc
        have hln : 0 < j := by omega
        have R := Lib.hid hr
        clear hr hc
        by_cases hlt : q < m
        · by_cases hq0 : q = 0
          · subst hq0
            rw [show (if (0 : Nat) = 0 then (0 : Int) else 1) = 0 from rfl, show ((0 : Nat) : Int) = 0 from rfl]
            have hfr : Calls Try.prog 12 #[.pointer (some ⟨x.blk, 0, none⟩)] wr (StaysP wr B B j (endAt (x :: L') 0) [] (.bool true)) := by
              have := pi_free _ _ _ _ _ _ 0 x R.out.pi (by omega) rfl
              rw [hxk.2] at this
              exact this
            have HFR := Lib.hid hfr
            clear hfr
            go_wp2_with fail
            refine HFR.out.mono ?_
            rintro e w5 ⟨rfl, p5, x5⟩
            have HN : Hid (OnceRel2 w1 B B j (x :: L') (.slice (some ⟨gs, 0, none⟩) j cs) 1 w5) := Lib.hid ⟨p5, R.out.row.fz x5, R.out.bel.trans (x5.below R.out.pi.low)⟩
            clear p5 x5 R HFR
            go_wp2
            go_roundw
            case rel => exact ⟨1, by omega, by go_num, rfl, HN.out⟩
            case measure => simp [intOf]; omega
          · have eq0 : (if q = 0 then (x :: L') else endAt (x :: L') 0) = endAt (x :: L') 0 := if_neg hq0
            have eq1 : (if q + 1 = 0 then (x :: L') else endAt (x :: L') 0) = endAt (x :: L') 0 := if_neg (by omega)
            have et : (if q = 0 then (0 : Int) else 1) = 1 := if_neg hq0
            have hp := R.out.pi
            rw [eq0] at hp
            have hfr : Calls Try.prog 12 #[.pointer (some ⟨x.blk, 0, none⟩)] wr (StaysP wr B B j (endAt (x :: L') 0) [] (.bool false)) := pi_free _ _ _ _ (endAt (x :: L') 0) _ 0 { x with freed := true } hp (by omega) rfl
            have HFR := Lib.hid hfr; have EQ := Lib.hid eq1; have HP := Lib.hid hp
            clear hfr eq0 eq1 hp
            rw [et]
            have HQ0 := Lib.hid hq0; have ET := Lib.hid et
            clear hq0 et
            go_wp2_with fail
            refine HFR.out.mono ?_
            rintro e w5 ⟨rfl, p5, x5⟩
            have HN : Hid (OnceRel2 w1 B B j (x :: L') (.slice (some ⟨gs, 0, none⟩) j cs) (q + 1) w5) := Lib.hid ⟨by rw [EQ.out]; exact p5, R.out.row.fz x5, R.out.bel.trans (x5.below HP.out.low)⟩
            clear p5 x5 R HFR
            go_wp2
            go_roundw
            case rel => exact ⟨q + 1, by omega, by go_num, by rw [if_neg (by omega)], HN.out⟩
            case measure => simp [intOf]; omega
        · obtain rfl : q = m := by omega
          have eq0 : (if q = 0 then (x :: L') else endAt (x :: L') 0) = endAt (x :: L') 0 := if_neg (by omega)
          have et : (if q = 0 then (0 : Int) else 1) = 1 := if_neg (by omega)
          have hp := R.out.pi
          rw [eq0] at hp
          rw [et]
          have hl0 : live (x :: L') key = j := by rw [live_all _ _ HR.out.keys]; exact HR.out.len
          have hl1 := live_end (x :: L') 0 x key rfl
          rw [hl0, if_pos hxk] at hl1
          have hheld : Calls Try.prog 13 #[.pointer (some ⟨B, 0, none⟩), .int .i64 key] wr fun e w' => e = .returned (.int .i64 ((j : Int) - 1)) ∧ wr = w' := by
            have := pi_held wr B B j _ [] key hp hk
            have e : ((live (endAt (x :: L') 0) key : Nat) : Int) = (j : Int) - 1 := by omega
            rw [e] at this
            exact this
          have hshut := pi_shut wr B B j _ [] key hp hk (by omega)
          have edec : decide (live (endAt (x :: L') 0) key = 0) = decide ((j : Int) = 1) := by
            rw [decide_eq_decide]; omega
          rw [edec] at hshut
          have HH := Lib.hid hheld; have HS := Lib.hid hshut; have HP := Lib.hid hp
          clear hheld hshut hp eq0 et hl0 hl1 edec
          go_wp2_with (first | (go_at_call 13; refine HH.out.mono ?_; rintro e w' ⟨rfl, rfl⟩) | (go_at_call 14; refine HS.out.mono ?_; rintro e w' ⟨rfl, p6, x6⟩; have X6 := Lib.hid x6; clear p6 x6))
          go_ret
          refine ⟨by simp; rw [Bool.eq_iff_iff]; simp, ?_⟩
          have hb := R.out.bel.trans (X6.out.below HP.out.low)
          rw [HB.out] at hb
          exact (X1.out.trans hb)
set_option maxRecDepth 100000 in
theorem pinOnce_lifted (os : Os) (started : os.Started) (H : Type) (enc : TypeId × Value → H) :
    ReturnsInHanded {} Try.checked os 3 .any (Rows.pinOnceSpec.pre6 enc Try.prog Try.f3 Rows.pinOnceRow.domain false) (Rows.pinOnceSpec.post enc Try.prog Try.f3 false true false false) := by
  refine returnsInHanded_of_change (C := Try.checked) own started (by kernel_rfl) Try.func3
    (ChangeSpec.witness6 (enc := enc) (C := Try.checked) false ⟨#[], #[.int .i64 0, .int .u8 0, .int .u8 0], []⟩ 8 (by kernel_rfl) (by kernel_rfl) (by kernel_rfl) (by kernel_rfl)) ?_
  intro W base args ds gs before hval0 hW hcnd _
  have hval : ∀ (j : Nat) t v, Try.f3.params[j]? = some t → args[j]? = some v → Value.okWide Try.prog W .any base t v := hval0
  have hW' := hW
  obtain ⟨p, q, hA0, hV, rfl, hfz, hnd⟩ := hW
  have hA : DataW.TrodAll enc Try.prog W 0 (fun _ => true) true Try.f3.params.toList args.toList ds p := hA0
  rw [Try.params3] at hA hval
  obtain ⟨v0, vs0, d0, ds0, p0, q0, hargs, rfl, rfl, h0, r0⟩ := trodAll_cons hA
  obtain ⟨v1, vs1, d1, ds1, p1, q1, rfl, rfl, rfl, h1, r1⟩ := trodAll_cons r0
  obtain ⟨v2, vs2, d2, ds2, p2, q2, rfl, rfl, rfl, h2, r2⟩ := trodAll_cons r1
  obtain ⟨rfl, rfl, rfl⟩ := trodAll_nil r2
  obtain rfl : args = #[v0, v1, v2] := by cases args; simp_all
  obtain ⟨rfl, rfl⟩ := trodVars_none hV
  have lt0 : ∀ x ∈ p0, x.block < W.heap.size := by obtain ⟨m, hm⟩ := h0; exact DataW.trod_lt m _ _ _ hm
  have t0 := fun W' (bel : Below W.heap.size W W') => Below.trod laidOut (by kernel_rfl) (of_decide_eq_true (by kernel_rfl)) h0 bel lt0
  have lt1 : ∀ x ∈ p1, x.block < W.heap.size := by obtain ⟨m, hm⟩ := h1; exact DataW.trod_lt m _ _ _ hm
  have t1 := fun W' (bel : Below W.heap.size W W') => Below.trod laidOut (by kernel_rfl) (of_decide_eq_true (by kernel_rfl)) h1 bel lt1
  have lt2 : ∀ x ∈ p2, x.block < W.heap.size := by obtain ⟨m, hm⟩ := h2; exact DataW.trod_lt m _ _ _ hm
  have t2 := fun W' (bel : Below W.heap.size W W') => Below.trod laidOut (by kernel_rfl) (of_decide_eq_true (by kernel_rfl)) h2 bel lt2
  obtain ⟨i0, rfl, _, _, wf0⟩ := open_int Try.underlying2 (hval 0 2 v0 rfl rfl) h0
  obtain ⟨z1, rfl, _, _, wz1⟩ := open_int Try.underlying5 (hval 1 5 v1 rfl rfl) h1
  obtain ⟨n1, rfl, b1⟩ := u8_nat wz1
  obtain ⟨z2, rfl, _, _, wz2⟩ := open_int Try.underlying5 (hval 2 5 v2 rfl rfl) h2
  obtain ⟨n2, rfl, b2⟩ := u8_nat wz2
  clear hA0 hval0
  refine (once_walk i0 n1 n2 W wf0 b1 b2 ).mono fun e W' ⟨he, bel⟩ => ?_
  subst he
  exact ⟨_, rfl, _, _, _, [], _, [], hW', trodAll_mk1 (shut_bool Try.underlying4 _), (trodAll_cons_mk (t0 W' bel) (trodAll_cons_mk (t1 W' bel) (trodAll_cons_mk (t2 W' bel) trodAll_mk0))), rfl, bel.frame _, fun h => by cases h⟩

/-- The statement. -/
theorem PinOnce_proved : Rows.PinOnceSaid :=
  OpenClaim.holds_of_wide 3 Try.f3 rfl rfl rfl rfl rfl rfl rfl ⟨rfl, rfl, rfl, rfl, rfl⟩ rfl rfl rfl rfl rfl (by kernel_rfl) Try.func3 (by kernel_rfl)
    (of_decide_eq_true (by kernel_rfl)) (by unfold Func.isWrapper; first | (rw [if_pos (by decide +kernel)]; kernel_rfl) | (rw [if_neg (by decide +kernel)]; exact ⟨rfl, rfl⟩))
    (fun os started H enc _ => pinOnce_lifted os started H enc)
#print axioms PinOnce_proved
end Go.Proofs.Yteeeabmfebofiaa
