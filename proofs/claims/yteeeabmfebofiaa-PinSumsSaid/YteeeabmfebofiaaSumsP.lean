/- PinSums: for all keys and all frees the call returns true, and its arguments read as before. -/
import Derived.Test.YteeeabmfebofiaaSums
namespace Go.Proofs.Yteeeabmfebofiaa
open Go.ChangeShapes Go.WideShapes Go.ChangeAt Go.RowKit Go.Maps
set_option linter.unusedVariables false

structure SuRel (w : World) (B p N : Nat) (L : List Hold) (v : Value) (wr : World) : Prop where
  pi : PI wr B p N L []
  row : HRow wr B v (L.map Hold.blk)
  bel : Below w.heap.size w wr
theorem end_blk (L : List Hold) (i : Nat) : (endAt L i).map Hold.blk = L.map Hold.blk := by
  apply List.ext_getElem?
  intro j
  rw [List.getElem?_map, List.getElem?_map, end_get]
  split
  · cases L[j]? <;> rfl
  · rfl

set_option maxRecDepth 100000 in
set_option maxHeartbeats 8000000 in
theorem sums_walk (xs : List Int) (A : Option Addr) (c : Nat) (ys : List Int) (A' : Option Addr) (c' : Nat) (w : World) (hA : NumsAt w .i64 A xs) (hlen : xs.length ≤ maxLen) (hA' : NumsAt w .u8 A' ys) (hlen' : ys.length ≤ maxLen) :
    Calls Try.prog 7 #[.slice A xs.length c, .slice A' ys.length c'] w fun e w' => e = .returned (.bool true) ∧ Below w.heap.size w w' := by
  unfold maxLen at hlen hlen'
  by_cases h60 : 60 < xs.length
  · have h60' : decide ((60 : Int) < (xs.length : Int)) = true := by simp; omega
    go_enter Try.func7, Try.ntmps7
    go_wp2_with (go_at_call 9; refine (wakes_any _).mono ?_; rintro e w1 ⟨rfl, x1⟩)
    go_ret
    exact ⟨rfl, x1⟩
  · by_cases h61 : 60 < ys.length
    · have h60' : decide ((60 : Int) < (xs.length : Int)) = false := by simp; omega
      have h61' : decide ((60 : Int) < (ys.length : Int)) = true := by simp; omega
      go_enter Try.func7, Try.ntmps7
      go_wp2_with (go_at_call 9; refine (wakes_any _).mono ?_; rintro e w1 ⟨rfl, x1⟩)
      go_ret
      exact ⟨rfl, x1⟩
    · have h60' : decide ((60 : Int) < (xs.length : Int)) = false := by simp; omega
      have h61' : decide ((60 : Int) < (ys.length : Int)) = false := by simp; omega
      have HA := Lib.hid hA; have HA' := Lib.hid hA'
      clear hA hA'
      go_enter Try.func7, Try.ntmps7
      go_wp2_with fail
      refine (wakes_any _).mono ?_
      rintro e w1 ⟨rfl, x1⟩
      have X1 := Lib.hid x1; clear x1
      go_wp2_with fail
      refine (pi_new _).mono ?_
      rintro e w2 ⟨rfl, p2, x2⟩
      obtain ⟨B, hB⟩ : ∃ B, B = w1.heap.size := ⟨_, rfl⟩
      have hwB : w.heap.size ≤ B := by rw [hB]; exact X1.out.size
      rw [← hB] at p2 ⊢
      have S2 : Hid (SuRel w B B 0 [] (.slice none 0 0) w2) := Lib.hid ⟨p2, HRow.nil _ _, Ext.trans X1.out x2⟩
      clear p2 x2 hB X1
      go_wp2_with fail
      go_loopw [6, 32] (fun v i wr => ∃ (j : Nat) (L : List Hold), j ≤ xs.length ∧ i = .int .i64 j ∧ (L.length = j ∧ (∀ x ∈ L, x.freed = false) ∧ SuRel w B B j L v wr)) (fun _ i _ => xs.length - (intOf i).toNat)
      case atStart => exact ⟨0, [], by omega, rfl, rfl, by simp, S2.out⟩
      case round =>
        clear S2
        obtain ⟨j, L, hj, rfl, hLj, hLf, hr⟩ := hrel
        have R := Lib.hid hr; have LJ := Lib.hid hLj; have LF := Lib.hid hLf
        clear hr hLj hLf
        by_cases hlt : j < xs.length
        · obtain ⟨ba, off, rfl, k0, b0⟩ := (HA.out.ext R.out.bel) j hlt
          have hba : ba < wr.heap.size := World.block_lt_of_cell? _ _ k0
          generalize xs[j] = ky at *
          go_wp2_with fail
          refine (pi_take _ _ _ _ _ _ _ R.out.pi b0 (by omega) (by simp)).mono ?_
          rintro e w3 ⟨h, g, rfl, p3, x3⟩
          have P3 := Lib.hid p3; have X3 := Lib.hid x3; have R3 := Lib.hid (R.out.row.fz x3)
          clear p3 x3
          go_wp2_with (at_builtin; refine wpList_append_hold rfl _ _ rfl B B (j + 1) _ _ _ _ h R3.out P3.out rfl _ rfl ?c0 ?c1 ?_)
          case c0 => simp
          case c1 => have := LJ.out; simp; omega
          intro v' w4 r4 p4 b4 _
          have hb3 : Below w.heap.size wr w3 := (X3.out.below R.out.pi.low).mono hwB
          have HN : Hid ((L ++ [(⟨h, ky, g, false⟩ : Hold)]).length = j + 1 ∧ (∀ x ∈ L ++ [(⟨h, ky, g, false⟩ : Hold)], x.freed = false) ∧ SuRel w B B (j + 1) (L ++ [⟨h, ky, g, false⟩]) v' w4) := Lib.hid ⟨by simp [LJ.out], fun x hx => by
              rcases List.mem_append.1 hx with hx | hx
              · exact LF.out x hx
              · simp at hx; subst hx; rfl, p4, by simpa using r4, (R.out.bel.trans hb3).trans (b4.mono hwB)⟩
          clear r4 p4 b4 X3 R3 P3 R LJ LF hb3
          go_wp2
          go_roundw
          case rel => exact ⟨j + 1, _, by omega, by go_num, HN.out⟩
          case measure => simp [intOf]; omega
        · obtain ⟨wo, rfl⟩ : ∃ wo : World, wo = wr := ⟨_, rfl⟩
          have hll : L.length = xs.length := by rw [LJ.out]; omega
          obtain ⟨As, cs, hvv⟩ := R.out.row.slice
          rw [List.length_map, hll] at hvv
          subst hvv
          obtain ⟨n, hn⟩ : ∃ n, n = xs.length := ⟨_, rfl⟩
          have HLL : Hid (L.length = n) := Lib.hid (by rw [hll, hn])
          have htot : total L = n := by rw [total_all LF.out, HLL.out]
          have HT := Lib.hid htot
          clear hll htot
          have hn60 : n ≤ 60 := by omega
          have hjn : j ≤ 60 := by omega
          rw [← hn] at R
          go_wp2_with fail
          rw [← hn]
          have HNN := Lib.hid hn
          clear hn
          go_loopw [11, 57] (fun t i wr => ∃ (q : Nat) (L' : List Hold), q ≤ ys.length ∧ i = .int .i64 q ∧ t = .int .i64 (total L') ∧ (L'.length = n ∧ SuRel w B B j L' (.slice As n cs) wr)) (fun _ i _ => ys.length - (intOf i).toNat)
          case atStart => exact ⟨0, L, by omega, rfl, by rw [HT.out], HLL.out, R.out⟩
          case round =>
            clear R HLL HT LJ LF
            obtain ⟨q, L', hq, rfl, rfl, hl', hr⟩ := hrel
            have ht60 : total L' ≤ 60 := by have := total_le L'; omega
            have R := Lib.hid hr; have HL' := Lib.hid hl'
            clear hr hl'
            by_cases hlt2 : q < ys.length
            · obtain ⟨ba, off, rfl, k0, b0⟩ := (HA'.out.ext R.out.bel) q hlt2
              have hba : ba < wr.heap.size := World.block_lt_of_cell? _ _ k0
              generalize ys[q] = fz at *
              obtain ⟨fq, rfl, hf255⟩ := u8_nat b0
              by_cases hn0 : n = 0
              · have hn0' : decide (0 < n) = false := by simp; omega
                have hn0'' : ¬ 0 < n := by omega
                have HN0 := Lib.hid hn0
                clear hn0
                go_wp2
                go_roundw
                case rel => exact ⟨q + 1, L', by omega, by go_num, rfl, HL'.out, R.out⟩
                case measure => simp [intOf]; omega
              · have hn1 : 0 < n := by omega
                have hn0' : decide (0 < n) = true := by simp; omega
                have hn2 : (n : Int) ≠ 0 := by omega
                obtain ⟨i, hi⟩ : ∃ i, i = fq % n := ⟨_, rfl⟩
                have hil' : i < n := by rw [hi]; exact Nat.mod_lt _ hn1
                have hil : i < L'.length := by rw [HL'.out]; exact hil'
                obtain ⟨gs, cs', hvv, hc⟩ := R.out.row.get (i := i) (by simpa using hil)
                injection hvv with hv1 hv2 hv3
                subst hv1
                rw [List.getElem_map] at hc
                have ei : (fq : Int) % (n : Int) = (i : Int) := by rw [hi]; rfl
                have c2 : IntKind.i64.wrap (fq : Int) = fq := IntWalk.i64_in _ (by omega)
                have hfree := pi_free _ _ _ _ _ _ i L'[i] R.out.pi (by omega) (by simp [hil])
                have hte := total_end L' i L'[i] (by simp [hil])
                have hel : (endAt L' i).length = n := by rw [end_length]; exact HL'.out
                obtain ⟨x, hx⟩ : ∃ x, x = L'[i] := ⟨_, rfl⟩
                rw [← hx] at hfree hc hte
                have HFR := Lib.hid hfree; have HI := Lib.hid hi; have HTE := Lib.hid hte; have HEL := Lib.hid hel
                clear hfree hi hx hn0 hv2 hv3 hte hel
                cases hxf : x.freed
                · rw [hxf] at HFR HTE
                  have HXF := Lib.hid hxf
                  have ht1 : total L' = total (endAt L' i) + 1 := by have := HTE.out; simpa using this
                  have ht0 : 1 ≤ total L' := by omega
                  have HT1 := Lib.hid ht1
                  clear hxf ht1
                  go_wp2_with fail
                  refine HFR.out.mono ?_
                  rintro e w5 ⟨rfl, p5, x5⟩
                  have HN : Hid (SuRel w B B j (endAt L' i) (.slice (some ⟨gs, 0, none⟩) n cs) w5) := Lib.hid ⟨p5, by rw [end_blk]; exact R.out.row.fz x5, R.out.bel.trans ((x5.below R.out.pi.low).mono hwB)⟩
                  clear p5 x5 HFR R
                  go_wp2
                  go_roundw
                  case rel => exact ⟨q + 1, endAt L' i, by omega, by go_num, by rw [HT1.out]; go_num, HEL.out, HN.out⟩
                  case measure => simp [intOf]; omega
                · rw [hxf] at HFR HTE
                  have HXF := Lib.hid hxf
                  have ht1 : total L' = total (endAt L' i) := by have := HTE.out; simpa using this
                  have HT1 := Lib.hid ht1
                  clear hxf ht1
                  go_wp2_with fail
                  refine HFR.out.mono ?_
                  rintro e w5 ⟨rfl, p5, x5⟩
                  have HN : Hid (SuRel w B B j (endAt L' i) (.slice (some ⟨gs, 0, none⟩) n cs) w5) := Lib.hid ⟨p5, by rw [end_blk]; exact R.out.row.fz x5, R.out.bel.trans ((x5.below R.out.pi.low).mono hwB)⟩
                  clear p5 x5 HFR R
                  go_wp2
                  go_roundw
                  case rel => exact ⟨q + 1, endAt L' i, by omega, by go_num, by rw [HT1.out], HEL.out, HN.out⟩
                  case measure => simp [intOf]; omega
            · obtain ⟨wp, rfl⟩ : ∃ wp : World, wp = wr := ⟨_, rfl⟩
              go_wp2_with fail
              refine (pi_all _ _ _ _ _ _ (by omega) R.out.pi).mono ?_
              rintro e w4 ⟨v, zs, rfl, q1, q2, q3, q4, q5, q6⟩
              obtain ⟨A3, c3, rfl⟩ := q1.slice
              obtain ⟨m, hm⟩ : ∃ m, m = zs.length := ⟨_, rfl⟩
              rw [← hm] at q1 ⊢
              have hnd := nodup_of_lt q2
              have hsum : (zs.map (live L')).sum = total L' := by rw [sum_live zs hnd L', inOf_all q3]
              have hm60 : m ≤ 60 := by
                have h1 : ∀ (ys : List Int), (∀ k ∈ ys, 1 ≤ live L' k) → ys.length ≤ (ys.map (live L')).sum := by
                  intro ys
                  induction ys with
                  | nil => intro _; simp
                  | cons y ys ih =>
                    intro h
                    have := ih (fun k hk => h k (by simp [hk]))
                    have := h y (by simp)
                    simp; omega
                have := h1 zs (fun k hk => (q3 k).1 hk)
                omega
              have hbb : Below w.heap.size w w4 := R.out.bel.trans ((q6.below R.out.pi.low).mono hwB)
              have Q1 := Lib.hid q1; have Q3 := Lib.hid q3; have Q4 := Lib.hid q4; have Q5 := Lib.hid q5; have HM := Lib.hid hm; have HND := Lib.hid hnd; have HSUM := Lib.hid hsum; have BB := Lib.hid hbb
              clear q1 q2 q3 q4 q5 q6 hm hnd hsum hbb
              go_wp2_with fail
              go_loopw [14, 81] (fun t i wr => ∃ r : Nat, r ≤ m ∧ i = .int .i64 r ∧ t = .int .i64 (((zs.take r).map (live L')).sum : Nat) ∧ wr = w4) (fun _ i _ => m - (intOf i).toNat)
              case atStart => exact ⟨0, by omega, rfl, rfl, rfl⟩
              case round =>
                obtain ⟨r, hr, rfl, rfl, rfl⟩ := hrel
                have hbound : ((zs.take r).map (live L')).sum ≤ 60 := by
                  rw [sum_live _ (HND.out.sublist (List.take_sublist _ _)) L']
                  have := inOf_le L' (zs.take r)
                  have := HL'.out
                  omega
                by_cases hlt3 : r < m
                · have hrz : r < zs.length := by rw [← HM.out]; exact hlt3
                  obtain ⟨g3, c4, hvv, hc⟩ := Q1.out.get (i := r) hrz
                  injection hvv with hv1 hv2 hv3
                  subst hv1
                  have hheld := pi_held _ _ _ _ _ _ zs[r] Q5.out (Q4.out _ (by simp))
                  have hge := (Q3.out zs[r]).1 (by simp)
                  have hle := live_le L' zs[r]
                  rw [HL'.out] at hle
                  have htk : zs.take (r + 1) = zs.take r ++ [zs[r]] := List.take_succ_eq_append_getElem hrz
                  have hsm : ((zs.take (r + 1)).map (live L')).sum = ((zs.take r).map (live L')).sum + live L' zs[r] := by simp only [htk, List.map_append, List.sum_append, List.map_cons, List.map_nil, List.sum_cons, List.sum_nil, Nat.add_zero]
                  generalize zs[r] = kz at *
                  obtain ⟨sm, hsme⟩ : ∃ sm, sm = ((zs.take r).map (live L')).sum := ⟨_, rfl⟩
                  rw [← hsme] at hsm hbound ⊢
                  obtain ⟨lv, hlv⟩ : ∃ lv, lv = live L' kz := ⟨_, rfl⟩
                  rw [← hlv] at hsm hheld hge hle
                  have HH := Lib.hid hheld; have HSM := Lib.hid hsm
                  clear hheld hsm hsme hlv htk hv2 hv3
                  have hd1 : decide ((lv : Int) < 1) = false := by simp; omega
                  go_wp2_with (go_at_call 13; refine HH.out.mono ?_; rintro e w' ⟨rfl, rfl⟩)
                  go_roundw
                  case rel => exact ⟨r + 1, by omega, by go_num, by rw [HSM.out]; go_num, (by first | rfl | trivial)⟩
                  case measure => simp [intOf]; omega
                · have hrm : zs.take r = zs := List.take_of_length_le (by rw [← HM.out]; omega)
                  rw [hrm, HSUM.out]
                  clear hrm
                  go_wp2
                  go_ret
                  exact ⟨by simp, BB.out⟩

set_option maxRecDepth 100000 in
theorem pinSums_lifted (os : Os) (started : os.Started) (H : Type) (enc : TypeId × Value → H) :
    ReturnsInHanded {} Try.checked os 7 .any (Rows.pinSumsSpec.pre6 enc Try.prog Try.f7 Rows.pinSumsRow.domain false) (Rows.pinSumsSpec.post enc Try.prog Try.f7 false true false false) := by
  refine returnsInHanded_of_change (C := Try.checked) own started (by kernel_rfl) Try.func7
    (ChangeSpec.witness6 (enc := enc) (C := Try.checked) false ⟨#[], #[.slice none 0 0, .slice none 0 0], []⟩ 8 (by kernel_rfl) (by kernel_rfl) (by kernel_rfl) (by kernel_rfl)) ?_
  intro W base args ds gs before hval0 hW hcnd _
  have hval : ∀ (j : Nat) t v, Try.f7.params[j]? = some t → args[j]? = some v → Value.okWide Try.prog W .any base t v := hval0
  have hW' := hW
  obtain ⟨p, q, hA0, hV, rfl, hfz, hnd⟩ := hW
  have hA : DataW.TrodAll enc Try.prog W 0 (fun _ => true) true Try.f7.params.toList args.toList ds p := hA0
  rw [Try.params7] at hA hval
  obtain ⟨v0, vs0, d0, ds0, p0, q0, hargs, rfl, rfl, h0, r0⟩ := trodAll_cons hA
  obtain ⟨v1, vs1, d1, ds1, p1, q1, rfl, rfl, rfl, h1, r1⟩ := trodAll_cons r0
  obtain ⟨rfl, rfl, rfl⟩ := trodAll_nil r1
  obtain rfl : args = #[v0, v1] := by cases args; simp_all
  obtain ⟨rfl, rfl⟩ := trodVars_none hV
  have lt0 : ∀ x ∈ p0, x.block < W.heap.size := by obtain ⟨m, hm⟩ := h0; exact DataW.trod_lt m _ _ _ hm
  have t0 := fun W' (bel : Below W.heap.size W W') => Below.trod laidOut (by kernel_rfl) (of_decide_eq_true (by kernel_rfl)) h0 bel lt0
  have lt1 : ∀ x ∈ p1, x.block < W.heap.size := by obtain ⟨m, hm⟩ := h1; exact DataW.trod_lt m _ _ _ hm
  have t1 := fun W' (bel : Below W.heap.size W W') => Below.trod laidOut (by kernel_rfl) (of_decide_eq_true (by kernel_rfl)) h1 bel lt1
  obtain ⟨A0, xs0, c0, rfl, ha0, hl0⟩ := nums_open Try.underlying37 Try.underlying2 cells2 (hval 0 37 v0 rfl rfl) h0
  obtain ⟨A1, xs1, c1, rfl, ha1, hl1⟩ := nums_open Try.underlying53 Try.underlying5 cells5 (hval 1 53 v1 rfl rfl) h1
  clear hA0 hval0
  refine (sums_walk xs0 A0 c0 xs1 A1 c1 W ha0 hl0 ha1 hl1 ).mono fun e W' ⟨he, bel⟩ => ?_
  subst he
  exact ⟨_, rfl, _, _, _, [], _, [], hW', trodAll_mk1 (shut_bool Try.underlying4 _), (trodAll_cons_mk (t0 W' bel) (trodAll_cons_mk (t1 W' bel) trodAll_mk0)), rfl, bel.frame _, fun h => by cases h⟩

/-- The statement. -/
theorem PinSums_proved : Rows.PinSumsSaid :=
  OpenClaim.holds_of_wide 7 Try.f7 rfl rfl rfl rfl rfl rfl rfl ⟨rfl, rfl, rfl, rfl, rfl⟩ rfl rfl rfl rfl rfl (by kernel_rfl) Try.func7 (by kernel_rfl)
    (of_decide_eq_true (by kernel_rfl)) (by unfold Func.isWrapper; first | (rw [if_pos (by decide +kernel)]; kernel_rfl) | (rw [if_neg (by decide +kernel)]; exact ⟨rfl, rfl⟩))
    (fun os started H enc _ => pinSums_lifted os started H enc)
#print axioms PinSums_proved

end Go.Proofs.Yteeeabmfebofiaa
