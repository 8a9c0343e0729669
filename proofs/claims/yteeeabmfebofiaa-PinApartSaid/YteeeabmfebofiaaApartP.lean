/- PinApart: for any two keys and all acts the call returns true, and its arguments read as before. -/
import Derived.Test.YteeeabmfebofiaaArgs
namespace Go.Proofs.Yteeeabmfebofiaa
open Go.ChangeShapes Go.WideShapes Go.ChangeAt Go.RowKit Go.Maps
set_option linter.unusedVariables false

structure ApRel (w1 : World) (B p : Nat) (a b : Int) (N j : Nat) (x : Hold) (Ls : List Hold) (S : List Int) (v : Value) (wr : World) : Prop where
  xk : x.key = b ∧ x.freed = false
  ks : ∀ y ∈ Ls, y.key = a
  len : Ls.length ≤ j
  ss : ∀ s ∈ S, s = a
  pi : PI wr B p N (x :: Ls) S
  row : HRow wr B v (Ls.map Hold.blk)
  bel : Below B w1 wr
theorem live_other {a b : Int} (hab : a ≠ b) : ∀ (Ls : List Hold), (∀ y ∈ Ls, y.key = a) → live Ls b = 0
  | [], _ => rfl
  | y :: Ls, h => by rw [live_cons, live_other hab Ls (fun z hz => h z (by simp [hz])), if_neg (fun e => hab ((h y (by simp)).symm.trans e.1))]
section
variable {w1 wr : World} {B p : Nat} {a b : Int} {N j : Nat} {x : Hold} {Ls : List Hold} {S : List Int} {v : Value}
theorem ApRel.ext {w' : World} (h : ApRel w1 B p a b N j x Ls S v wr) (hx : Ext wr w') : ApRel w1 B p a b N j x Ls S v w' :=
  ⟨h.xk, h.ks, h.len, h.ss, h.pi.keeps (.of_ext hx), h.row.ext hx, h.bel.trans (Below.mono hx h.pi.low)⟩
theorem ApRel.up {M k : Nat} (h : ApRel w1 B p a b N j x Ls S v wr) (hN : N ≤ M) (hj : j ≤ k) : ApRel w1 B p a b M k x Ls S v wr :=
  ⟨h.xk, h.ks, Nat.le_trans h.len hj, h.ss, h.pi.more hN, h.row, h.bel⟩
theorem ApRel.live (h : ApRel w1 B p a b N j x Ls S v wr) (hab : a ≠ b) : live (x :: Ls) b = 1 := by
  rw [live_cons, live_other hab Ls h.ks, if_pos h.xk]
theorem ApRel.held (h : ApRel w1 B p a b N j x Ls S v wr) (hab : a ≠ b) (hk : (Lit.int .i64 b).wf = true) : Calls Try.prog 13 #[.pointer (some ⟨p, 0, none⟩), .int .i64 b] wr fun e w' => e = .returned (.int .i64 1) ∧ wr = w' := by
  have := pi_held wr B p N _ S b h.pi hk
  rw [h.live hab] at this
  exact this
theorem ApRel.shut (h : ApRel w1 B p a b N j x Ls S v wr) (hab : a ≠ b) (hk : (Lit.int .i64 b).wf = true) (hN : N ≤ 100000) : Calls Try.prog 14 #[.pointer (some ⟨p, 0, none⟩), .int .i64 b] wr fun e w' => e = .returned (.bool false) ∧ ApRel w1 B p a b (N + 1) j x Ls S v w' := by
  have := pi_shut wr B p N _ S b h.pi hk hN
  have e1 : shutOf (x :: Ls) S b = S := by unfold shutOf; rw [if_neg (fun e => by have := h.live hab; omega)]
  rw [h.live hab, e1] at this
  exact this.mono fun e w' ⟨he, q1, q2⟩ => ⟨he, h.xk, h.ks, h.len, h.ss, q1, h.row.fz q2, h.bel.trans (q2.below h.pi.low)⟩
theorem ApRel.shutA (h : ApRel w1 B p a b N j x Ls S v wr) (hk : (Lit.int .i64 a).wf = true) (hN : N ≤ 100000) : Calls Try.prog 14 #[.pointer (some ⟨p, 0, none⟩), .int .i64 a] wr fun e w' => ∃ bv S', e = .returned (.bool bv) ∧ ApRel w1 B p a b (N + 1) j x Ls S' v w' := by
  refine (pi_shut wr B p N _ S a h.pi hk hN).mono fun e w' ⟨he, q1, q2⟩ => ⟨_, _, he, h.xk, h.ks, h.len, fun s hs => ?_, q1, h.row.fz q2, h.bel.trans (q2.below h.pi.low)⟩
  unfold shutOf at hs
  split at hs
  · rcases List.mem_append.1 hs with hs | hs
    · exact h.ss s hs
    · simpa using hs
  · exact h.ss s hs
theorem ApRel.takeShut (h : ApRel w1 B p a b N j x Ls S v wr) (hk : (Lit.int .i64 a).wf = true) (hS : a ∈ S) : Calls Try.prog 11 #[.pointer (some ⟨p, 0, none⟩), .int .i64 a] wr fun e w' => e = .returned (.tuple #[.pointer none, .int .i64 15]) ∧ ApRel w1 B p a b N j x Ls S v w' :=
  (pi_take_shut wr B p N _ S a h.pi hk hS).mono fun e w' ⟨he, q1, q2⟩ => ⟨he, h.xk, h.ks, h.len, h.ss, q1, h.row.fz q2, h.bel.trans (q2.below h.pi.low)⟩
theorem ApRel.free (h : ApRel w1 B p a b N j x Ls S v wr) (hN : N ≤ 100000) {i : Nat} (hi : i < Ls.length) : Calls Try.prog 12 #[.pointer (some ⟨Ls[i].blk, 0, none⟩)] wr fun e w' => ∃ bv Ls', e = .returned (.bool bv) ∧ ApRel w1 B p a b N j x Ls' S v w' := by
  refine (pi_free wr B p N (x :: Ls) S (i + 1) Ls[i] h.pi hN (by simp [hi])).mono fun e w' ⟨he, q1, q2⟩ => ⟨_, endAt Ls i, he, h.xk, fun y hy => ?_, by rw [end_length]; exact h.len, h.ss, q1, ?_, h.bel.trans (q2.below h.pi.low)⟩
  · obtain ⟨q, hq⟩ := List.getElem?_of_mem hy
    rw [end_get] at hq
    split at hq
    · cases hz : Ls[q]? with
      | none => rw [hz] at hq; cases hq
      | some z => rw [hz] at hq; simp at hq; subst hq; exact h.ks z (List.mem_of_getElem? hz)
    · exact h.ks y (List.mem_of_getElem? hq)
  · have : (endAt Ls i).map Hold.blk = Ls.map Hold.blk := by
      apply List.ext_getElem?
      intro j
      rw [List.getElem?_map, List.getElem?_map, end_get]
      split
      · cases Ls[j]? <;> rfl
      · rfl
    rw [this]
    exact h.row.fz q2
end

set_option maxRecDepth 100000 in
set_option maxHeartbeats 8000000 in
theorem apart_walk (a b : Int) (xs : List ActV) (A : Option Addr) (c : Nat) (w : World) (ha : (Lit.int .i64 a).wf = true) (hb : (Lit.int .i64 b).wf = true) (hA : ActsAt w A xs) (hlen : xs.length ≤ maxLen) :
    Calls Try.prog 4 #[.int .i64 a, .int .i64 b, .slice A xs.length c] w fun e w' => e = .returned (.bool true) ∧ Below w.heap.size w w' := by
  unfold maxLen at hlen
  by_cases hab : a = b
  · subst hab
    go_enter Try.func4, Try.ntmps4
    go_wp2_with (go_at_call 9; refine (wakes_any _).mono ?_; rintro e w1 ⟨rfl, x1⟩)
    go_ret
    exact ⟨rfl, x1⟩
  · by_cases h60 : 60 < xs.length
    · have h60' : decide ((60 : Int) < (xs.length : Int)) = true := by simp; omega
      go_enter Try.func4, Try.ntmps4
      go_wp2_with (go_at_call 9; refine (wakes_any _).mono ?_; rintro e w1 ⟨rfl, x1⟩)
      go_ret
      exact ⟨rfl, x1⟩
    · have h60' : decide ((60 : Int) < (xs.length : Int)) = false := by simp; omega
      have HA := Lib.hid hA
      clear hA
      go_enter Try.func4, Try.ntmps4
      go_wp2_with fail
      refine (wakes_any _).mono ?_
      rintro e w1 ⟨rfl, x1⟩
      have X1 := Lib.hid x1; clear x1
      go_wp2_with fail
      refine (pi_new _).mono ?_
      rintro e w2 ⟨rfl, p2, x2⟩
      obtain ⟨B, hB⟩ : ∃ B, B = w1.heap.size := ⟨_, rfl⟩
      rw [← hB] at p2 ⊢
      have P2 := Lib.hid p2; have X2 := Lib.hid x2; have HB := Lib.hid hB
      clear p2 x2 hB
      go_wp2_with fail
      refine (pi_take _ _ _ _ _ _ _ P2.out hb (by omega) (by simp)).mono ?_
      rintro e w3 ⟨h, g, rfl, p3, x3⟩
      have hbel : Below B w1 w3 := by
        have h1 : Below B w1 w2 := by rw [HB.out]; exact X2.out
        exact h1.trans (x3.below P2.out.low)
      have P3 : Hid (ApRel w1 B B a b 1 0 ⟨h, b, g, false⟩ [] [] (.slice none 0 0) w3) := Lib.hid ⟨⟨rfl, rfl⟩, by simp, by simp, by simp, p3, HRow.nil _ _, hbel⟩
      clear p3 x3 P2 X2 hbel
      go_wp2_with fail
      go_loopw [10, 42] (fun v i wr => ∃ (j : Nat) (Ls : List Hold) (S : List Int), j ≤ xs.length ∧ i = .int .i64 j ∧ ApRel w1 B B a b (1 + 2 * j) j ⟨h, b, g, false⟩ Ls S v wr) (fun _ i _ => xs.length - (intOf i).toNat)
      case atStart => exact ⟨0, [], [], by omega, rfl, P3.out⟩
      case round =>
        clear P3
        obtain ⟨j, Ls, S, hj, rfl, hr⟩ := hrel
        have R := Lib.hid hr
        clear hr
        by_cases hlt : j < xs.length
        · have hbw : Below w.heap.size w wr := by
            have h1 := R.out.bel
            rw [HB.out] at h1
            exact X1.out.trans h1
          obtain ⟨ba, off, rfl, k0, k1, k2, b0, b1, b2⟩ := (HA.out.below hbw rfl) j hlt
          have hba : ba < wr.heap.size := World.block_lt_of_cell? _ _ k0
          clear hbw
          generalize xs[j].kind = kd at *
          generalize xs[j].key = ky at *
          generalize xs[j].hold = hd at *
          have hx : Ext wr (wr.alloc (.cells #[.int .u8 kd, .int .i64 ky, .int .u8 hd] 35)) := Ext.alloc (Ext.refl _) _
          have Ra := Lib.hid (R.out.ext hx)
          clear hx R
          cases hk0 : ((kd : Int) % 3 == 0)
          · cases hk1 : ((kd : Int) % 3 == 1)
            · go_wp2_with fail
              refine (Ra.out.shutA ha (by omega)).mono ?_
              rintro e w5 ⟨bv, S', rfl, r5⟩
              have R5 := Lib.hid r5
              clear r5 Ra
              go_wp2_with fail
              refine (R5.out.held hab hb).mono ?_
              rintro e w' ⟨rfl, rfl⟩
              go_wp2_with fail
              refine (R5.out.shut hab hb (by omega)).mono ?_
              rintro e w6 ⟨rfl, r6⟩
              have R6 := Lib.hid r6
              clear r6 R5
              go_wp2
              go_roundw
              case rel => exact ⟨j + 1, _, _, by omega, by go_num, R6.out.up (by omega) (by omega)⟩
              case measure => simp [intOf]; omega
            · cases hL : Ls with
              | nil =>
                subst hL
                obtain ⟨A', c', rfl⟩ := Ra.out.row.slice
                have R5 := Ra
                go_wp2_with fail
                refine (R5.out.held hab hb).mono ?_
                rintro e w' ⟨rfl, rfl⟩
                go_wp2_with fail
                refine (R5.out.shut hab hb (by omega)).mono ?_
                rintro e w6 ⟨rfl, r6⟩
                have R6 := Lib.hid r6
                clear r6 R5
                go_wp2
                go_roundw
                case rel => exact ⟨j + 1, _, _, by omega, by go_num, R6.out.up (by omega) (by omega)⟩
                case measure => simp [intOf]; omega
              | cons y Lr =>
                have hn0 : 0 < Ls.length := by rw [hL]; simp
                obtain ⟨i, hi⟩ : ∃ i, i = hd % Ls.length := ⟨_, rfl⟩
                have hil : i < Ls.length := by rw [hi]; exact Nat.mod_lt _ hn0
                obtain ⟨gs, cs, hvv, hc⟩ := Ra.out.row.get (i := i) (by simpa using hil)
                rw [List.length_map] at hvv
                rw [List.getElem_map] at hc
                have ei : (hd : Int) % (Ls.length : Int) = (i : Int) := by rw [hi]; rfl
                obtain ⟨n, hn⟩ : ∃ n, n = Ls.length := ⟨_, rfl⟩
                rw [← hn] at hvv ei
                subst hvv
                have hn1 : 0 < n := by omega
                have hn2 : (n : Int) ≠ 0 := by omega
                have hil' : i < n := by omega
                have c2 : IntKind.i64.wrap (hd : Int) = hd := IntWalk.i64_in _ (by omega)
                have hfree := Ra.out.free (by omega) hil
                obtain ⟨hbk, hbe⟩ : ∃ q, q = Ls[i].blk := ⟨_, rfl⟩
                rw [← hbe] at hfree hc
                have HFR := Lib.hid hfree; have HN := Lib.hid hn; have HI := Lib.hid hi; have HL := Lib.hid hL
                clear hfree hn hi hL hbe hn0
                go_wp2_with fail
                refine HFR.out.mono ?_
                rintro e w5 ⟨bv, Ls', rfl, r5⟩
                have R5 := Lib.hid r5
                clear r5 Ra
                go_wp2_with fail
                refine (R5.out.held hab hb).mono ?_
                rintro e w' ⟨rfl, rfl⟩
                go_wp2_with fail
                refine (R5.out.shut hab hb (by omega)).mono ?_
                rintro e w6 ⟨rfl, r6⟩
                have R6 := Lib.hid r6
                clear r6 R5
                go_wp2
                go_roundw
                case rel => exact ⟨j + 1, _, _, by omega, by go_num, R6.out.up (by omega) (by omega)⟩
                case measure => simp [intOf]; omega
          · by_cases hS : a ∈ S
            · go_wp2_with fail
              refine (Ra.out.takeShut ha hS).mono ?_
              rintro e w5 ⟨rfl, r5⟩
              have R5 := Lib.hid r5
              clear r5 Ra
              go_wp2_with fail
              refine (R5.out.held hab hb).mono ?_
              rintro e w' ⟨rfl, rfl⟩
              go_wp2_with fail
              refine (R5.out.shut hab hb (by omega)).mono ?_
              rintro e w6 ⟨rfl, r6⟩
              have R6 := Lib.hid r6
              clear r6 R5
              go_wp2
              go_roundw
              case rel => exact ⟨j + 1, _, _, by omega, by go_num, R6.out.up (by omega) (by omega)⟩
              case measure => simp [intOf]; omega
            · go_wp2_with fail
              refine (pi_take _ _ _ _ _ _ _ Ra.out.pi ha (by omega) hS).mono ?_
              rintro e w4 ⟨h', g', rfl, p4, x4⟩
              have P4 := Lib.hid p4; have X4 := Lib.hid x4; have R4 := Lib.hid (Ra.out.row.fz x4)
              clear p4 x4
              go_wp2_with (at_builtin; refine wpList_append_hold rfl _ _ rfl B B (1 + 2 * j + 1) _ _ _ _ h' R4.out P4.out rfl _ rfl ?c0 ?c1 ?_)
              case c0 => simp
              case c1 => have := Ra.out.len; simp; omega
              intro v' w5 r5 p5 b5 _
              have R5 : Hid (ApRel w1 B B a b (1 + 2 * j + 1) (j + 1) ⟨h, b, g, false⟩ (Ls ++ [⟨h', a, g', false⟩]) S v' w5) := Lib.hid ⟨⟨rfl, rfl⟩, fun y hy => by
                  rcases List.mem_append.1 hy with hy | hy
                  · exact Ra.out.ks y hy
                  · simp at hy; subst hy; rfl, by simp; exact Ra.out.len, Ra.out.ss, p5, by simpa using r5, (Ra.out.bel.trans (X4.out.below Ra.out.pi.low)).trans b5⟩
              clear r5 p5 b5 P4 X4 R4 Ra
              go_wp2_with fail
              refine (R5.out.held hab hb).mono ?_
              rintro e w' ⟨rfl, rfl⟩
              go_wp2_with fail
              refine (R5.out.shut hab hb (by omega)).mono ?_
              rintro e w6 ⟨rfl, r6⟩
              have R6 := Lib.hid r6
              clear r6 R5
              go_wp2
              go_roundw
              case rel => exact ⟨j + 1, _, _, by omega, by go_num, R6.out.up (by omega) (by omega)⟩
              case measure => simp [intOf]; omega
        · have hf0 : Calls Try.prog 12 #[.pointer (some ⟨h, 0, none⟩)] wr (StaysP wr B B (1 + 2 * j) (endAt (⟨h, b, g, false⟩ :: Ls) 0) S (.bool true)) := pi_free _ _ _ _ _ _ 0 _ R.out.pi (by omega) rfl
          have HF0 := Lib.hid hf0
          clear hf0
          go_wp2_with fail
          refine HF0.out.mono ?_
          rintro e w5 ⟨rfl, p5, x5⟩
          have hl0 : live (endAt (⟨h, b, g, false⟩ :: Ls) 0) b = 0 := by
            have h1 := live_end (⟨h, b, g, false⟩ :: Ls) 0 _ b rfl
            rw [R.out.live hab] at h1
            simp at h1; omega
          have hheld := pi_held _ _ _ _ _ _ b p5 hb
          have hshut := pi_shut _ _ _ _ _ _ b p5 hb (by omega)
          rw [hl0] at hheld hshut
          have HH := Lib.hid hheld; have HS := Lib.hid hshut; have P5 := Lib.hid p5; have X5 := Lib.hid x5
          clear hheld hshut p5 x5 hl0
          go_wp2_with fail
          refine HH.out.mono ?_
          rintro e w' ⟨rfl, rfl⟩
          go_wp2_with fail
          refine HS.out.mono ?_
          rintro e w6 ⟨rfl, _, x6⟩
          have X6 := Lib.hid x6
          clear x6
          go_wp2
          go_ret
          refine ⟨rfl, ?_⟩
          have hbb := (R.out.bel.trans (X5.out.below R.out.pi.low)).trans (X6.out.below P5.out.low)
          rw [HB.out] at hbb
          exact X1.out.trans hbb

set_option maxRecDepth 100000 in
theorem pinApart_lifted (os : Os) (started : os.Started) (H : Type) (enc : TypeId × Value → H) :
    ReturnsInHanded {} Try.checked os 4 .any (Rows.pinApartSpec.pre6 enc Try.prog Try.f4 Rows.pinApartRow.domain false) (Rows.pinApartSpec.post enc Try.prog Try.f4 false true false false) := by
  refine returnsInHanded_of_change (C := Try.checked) own started (by kernel_rfl) Try.func4
    (ChangeSpec.witness6 (enc := enc) (C := Try.checked) false ⟨#[], #[.int .i64 0, .int .i64 0, .slice none 0 0], []⟩ 8 (by kernel_rfl) (by kernel_rfl) (by kernel_rfl) (by kernel_rfl)) ?_
  intro W base args ds gs before hval0 hW hcnd _
  have hval : ∀ (j : Nat) t v, Try.f4.params[j]? = some t → args[j]? = some v → Value.okWide Try.prog W .any base t v := hval0
  have hW' := hW
  obtain ⟨p, q, hA0, hV, rfl, hfz, hnd⟩ := hW
  have hA : DataW.TrodAll enc Try.prog W 0 (fun _ => true) true Try.f4.params.toList args.toList ds p := hA0
  rw [Try.params4] at hA hval
  obtain ⟨v0, vs0, d0, ds0, p0, q0, hargs, rfl, rfl, h0, r0⟩ := trodAll_cons hA
  obtain ⟨v1, vs1, d1, ds1, p1, q1, rfl, rfl, rfl, h1, r1⟩ := trodAll_cons r0
  obtain ⟨v2, vs2, d2, ds2, p2, q2, rfl, rfl, rfl, h2, r2⟩ := trodAll_cons r1
  obtain ⟨rfl, rfl, rfl⟩ := trodAll_nil r2
  obtain rfl : args = #[v0, v1, v2] := by cases args; simp_all
  obtain ⟨rfl, rfl⟩ := trodVars_none hV
  have lt0 : ∀ x ∈ p0, x.block < W.heap.size := by obtain ⟨m, hm⟩ := h0; exact DataW.trod_lt m _ _ _ hm
  have t0 := fun W' (bel : Below W.heap.size W W') => Below.trod laidOut (by kernel_rfl) (of_decide_eq_true (by kernel_rfl)) h0 bel lt0
  have lt1 : ∀ x ∈ p1, x.block < W.heap.size := by obtain ⟨m, hm⟩ := h1; exact DataW.trod_lt m _ _ _ hm
  have t1 := fun W' (bel : Below W.heap.size W W') => Below.trod laidOut (by kernel_rfl) (of_decide_eq_true (by kernel_rfl)) h1 bel lt1
  have lt2 : ∀ x ∈ p2, x.block < W.heap.size := by obtain ⟨m, hm⟩ := h2; exact DataW.trod_lt m _ _ _ hm
  have t2 := fun W' (bel : Below W.heap.size W W') => Below.trod laidOut (by kernel_rfl) (of_decide_eq_true (by kernel_rfl)) h2 bel lt2
  obtain ⟨i0, rfl, _, _, wf0⟩ := open_int Try.underlying2 (hval 0 2 v0 rfl rfl) h0
  obtain ⟨i1, rfl, _, _, wf1⟩ := open_int Try.underlying2 (hval 1 2 v1 rfl rfl) h1
  obtain ⟨A2, xs2, c2, rfl, ha2, hl2⟩ := acts_open (hval 2 33 v2 rfl rfl) h2
  clear hA0 hval0
  refine (apart_walk i0 i1 xs2 A2 c2 W wf0 wf1 ha2 hl2 ).mono fun e W' ⟨he, bel⟩ => ?_
  subst he
  exact ⟨_, rfl, _, _, _, [], _, [], hW', trodAll_mk1 (shut_bool Try.underlying4 _), (trodAll_cons_mk (t0 W' bel) (trodAll_cons_mk (t1 W' bel) (trodAll_cons_mk (t2 W' bel) trodAll_mk0))), rfl, bel.frame _, fun h => by cases h⟩

/-- The statement. -/
theorem PinApart_proved : Rows.PinApartSaid :=
  OpenClaim.holds_of_wide 4 Try.f4 rfl rfl rfl rfl rfl rfl rfl ⟨rfl, rfl, rfl, rfl, rfl⟩ rfl rfl rfl rfl rfl (by kernel_rfl) Try.func4 (by kernel_rfl)
    (of_decide_eq_true (by kernel_rfl)) (by unfold Func.isWrapper; first | (rw [if_pos (by decide +kernel)]; kernel_rfl) | (rw [if_neg (by decide +kernel)]; exact ⟨rfl, rfl⟩))
    (fun os started H enc _ => pinApart_lifted os started H enc)
#print axioms PinApart_proved
end Go.Proofs.Yteeeabmfebofiaa
