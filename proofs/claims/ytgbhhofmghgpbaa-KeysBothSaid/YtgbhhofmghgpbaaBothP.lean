/- Proved: KeysBoth, for every input: a thing is told of a key just if the key is told of the thing. -/
import Derived.Test.YtgbhhofmghgpbaaMore0
namespace Go.Proofs.Ytgbhhofmghgpbaa
open Go.ChangeShapes Go.WideShapes Go.ChangeAt Go.RowKit Go.Deep Go.Joins
open Go.Sort Go.Shelf Go.Maps Go.ChangeMaps
set_option linter.unusedVariables false

set_option maxRecDepth 100000 in
set_option maxHeartbeats 4000000 in
theorem both_walk (xs : List OpV) (A : Option Addr) (c : Nat) (w : World) (hO : OpsAt w A xs) (hlen : xs.length ≤ 9223372036854775807) :
    Calls Try.prog 5 #[.slice A xs.length c] w fun e w' => e = .returned (.bool true) ∧ Below w.heap.size w w' := by
  obtain ⟨m, hm⟩ : ∃ m, m = xs.length := ⟨_, rfl⟩
  have hsm := small_any w A xs c hO hlen
  rw [← hm] at hlen hsm ⊢
  have HSM := Lib.hid hsm; have HM := Lib.hid hm; have HO := Lib.hid hO
  clear hsm hm hO
  go_enter Try.func5, Try.ntmps5
  go_wp2_with fail
  refine HSM.out.mono ?_
  rintro e w1 ⟨r, rfl, hr, x1⟩
  clear HSM
  have X1 := Lib.hid x1
  clear x1
  cases r with
  | false =>
    clear hr
    go_wp2_with fail
    refine (awake_any _).mono ?_
    rintro e w2 ⟨rfl, x2⟩
    have X2 := Lib.hid (X1.out.trans x2)
    clear x2
    go_wp2
    go_ret
    exact ⟨rfl, X2.out⟩
  | true =>
    have HR := Lib.hid (hr rfl)
    clear hr
    go_wp2_with fail
    refine (new_any _).mono ?_
    rintro e w2 ⟨rfl, p2, x2⟩
    obtain ⟨B, hBB⟩ : ∃ B, B = w1.heap.size := ⟨_, rfl⟩
    rw [← hBB] at p2 ⊢
    have HBw : Hid (w.heap.size ≤ B) := Lib.hid (by rw [hBB]; exact X1.out.size)
    have P2 : Hid (MoRel w B xs 0 [] w2) := Lib.hid ⟨by simpa [manyO] using p2, by simp, Fk.of_ext (X1.out.trans x2) B B⟩
    clear p2 x2 hBB X1
    go_wp2
    go_loopw [25, 5] (fun i _ wr => ∃ j : Nat, ∃ L, j ≤ m ∧ i = .int .i64 j ∧ MoRel w B xs j L wr) (fun i _ _ => m - (intOf i).toNat)
    case atStart => exact ⟨0, [], by omega, rfl, P2.out⟩
    case round =>
      clear P2
      obtain ⟨j, L, hj, rfl, hr⟩ := hrel
      have R := Lib.hid hr
      clear hr
      by_cases hlt : j < m
      · have hjs : j < xs.length := by rw [← HM.out]; exact hlt
        obtain ⟨ba, off, rfl, hb, k0, k1, k2, b0, b1, tA⟩ := (HO.out.ext (R.out.fk.ext HBw.out)) j hjs
        have htk : xs.take (j + 1) = xs.take j ++ [xs[j]] := List.take_succ_eq_append_getElem hjs
        have hsk := HR.out.key (o := xs[j]) (by simp)
        obtain ⟨o, ho⟩ : ∃ o, o = xs[j] := ⟨_, rfl⟩
        rw [← ho] at k0 k1 k2 b0 b1 tA htk hsk
        obtain ⟨kd, id, kv, ks⟩ := o
        dsimp only at k0 k1 k2 b0 b1 tA hsk
        have hM1 : manyO (xs.take (j + 1)) = manyO (xs.take j) + ks.length := by rw [htk, manyO_append]; simp [manyO]
        have hle := manyO_take xs j
        have htie := ki_tie (wr.alloc (.cells #[.int .u8 kd, .int .i64 id, kv] 30)) B B _ L id kv ks (R.out.ki.ext (alloc_ext _ _)) b1 (texts_up (alloc_ext _ _) tA.1) (by omega) (fun k hk => by have := hsk.2 k hk; omega) (by have := HR.out.1; have := HR.out.2.1; have := HM.out; omega)
        have HT : Hid (Calls Try.prog 11 #[.pointer (some ⟨B, 0, none⟩), .int .i64 id, kv] (wr.alloc (.cells #[.int .u8 kd, .int .i64 id, kv] 30)) fun e w' => e = .returned (.int .i64 (tieN id ks)) ∧ MoRel w B xs (j + 1) (tieL L id ks) w') :=
          Lib.hid (htie.mono fun e w' ⟨h1, h2, h3⟩ => ⟨h1, by rw [hM1]; exact h2.more (by omega), by rw [hM1]; have := tieL_len L id ks; have := R.out.few; omega, R.out.fk.trans ((Fk.of_ext (alloc_ext _ _) B B).trans h3)⟩)
        have hun := ki_untie (wr.alloc (.cells #[.int .u8 kd, .int .i64 id, kv] 30)) B B _ L id (R.out.ki.ext (alloc_ext _ _)) b1
        have HU : Hid (Calls Try.prog 14 #[.pointer (some ⟨B, 0, none⟩), .int .i64 id] (wr.alloc (.cells #[.int .u8 kd, .int .i64 id, kv] 30)) fun e w' => e = .returned (.bool (!(keysL L id).isEmpty)) ∧ MoRel w B xs (j + 1) (untieL L id) w') :=
          Lib.hid (hun.mono fun e w' ⟨h1, h2, h3⟩ => ⟨h1, by rw [hM1]; exact h2.more (by omega), by rw [hM1]; have := untieL_len L id; have := R.out.few; omega, R.out.fk.trans ((Fk.of_ext (alloc_ext _ _) B B).trans h3)⟩)
        obtain ⟨A', c', hkv, -⟩ := tA.1
        obtain ⟨n, hn⟩ : ∃ n, n = ks.length := ⟨_, rfl⟩
        rw [← hn] at hkv
        clear htie hun hM1 hle htk ho hjs tA hsk b0 R hn
        subst hkv
        cases hk4 : ((kd : Int) % 4 == 1)
        · go_wp2_with fail
          refine HT.out.mono ?_
          rintro e w3 ⟨rfl, r3⟩
          have R3 := Lib.hid r3
          clear r3 HT HU
          go_wp2
          go_roundw
          case rel => exact ⟨j + 1, _, by omega, by go_num, R3.out⟩
          case measure => simp [intOf]; omega
        · go_wp2_with fail
          refine HU.out.mono ?_
          rintro e w3 ⟨rfl, r3⟩
          have R3 := Lib.hid r3
          clear r3 HT HU
          go_wp2
          go_roundw
          case rel => exact ⟨j + 1, _, by omega, by go_num, R3.out⟩
          case measure => simp [intOf]; omega
      · obtain rfl : j = m := by omega
        have hjn : xs.take j = xs := List.take_of_length_le (by have := HM.out; omega)
        have R1 : Hid (KI wr B B 300 L ∧ L.length ≤ 120 ∧ Ext w wr) := Lib.hid (by
          have h1 := R.out.ki; have h2 := R.out.few
          have h3 := HR.out.2.1; have h4 := HR.out.1; have h5 := HM.out
          rw [hjn] at h1 h2
          exact ⟨h1.more (by omega), by omega, R.out.fk.ext HBw.out⟩)
        clear R HR hjn
        have hk5 := keysN wr B B 300 L R1.out.1 (by omega)
        have HK5 := Lib.hid hk5
        clear hk5
        go_wp2_with fail
        refine HK5.out.mono ?_
        rintro e w5 ⟨v5, ss, rfl, n5, d5, m5, s5, l5, x5⟩
        obtain ⟨As, cs, hv5, hcs⟩ := n5
        obtain ⟨ns, hns⟩ : ∃ n, n = ss.length := ⟨_, rfl⟩
        rw [← hns] at hv5 l5
        replace l5 : ns ≤ 120 := Nat.le_trans l5 R1.out.2.1
        have M5 := Lib.hid m5; have HCS := Lib.hid hcs; have HNS := Lib.hid hns
        have K5 := Lib.hid (R1.out.1.ext x5); have X5 := Lib.hid (R1.out.2.2.trans x5); have L5 := Lib.hid R1.out.2.1
        clear d5 m5 s5 x5 hcs hns HK5 R1
        subst hv5
        go_wp2
        go_loopw [47, 7, 8] (fun i _ _ wr => ∃ q : Nat, q ≤ ns ∧ i = .int .i64 q ∧ Ext w5 wr) (fun i _ _ _ => ns - (intOf i).toNat)
        case atStart => exact ⟨0, by omega, rfl, Ext.refl _⟩
        case round =>
          obtain ⟨q, hq, rfl, hx⟩ := hrel
          have HX := Lib.hid hx
          clear hx
          by_cases hqn : q < ns
          · have hqs : q < ss.length := by rw [← HNS.out]; exact hqn
            obtain ⟨gs, os, rfl, _, hcell⟩ := HCS.out q hqs
            obtain ⟨id0, hid0⟩ := (M5.out _).1 (List.getElem_mem hqs)
            obtain ⟨k, hkk⟩ : ∃ k, k = ss[q] := ⟨_, rfl⟩
            rw [← hkk] at hcell hid0
            have hcl : wr.cell? ⟨gs, os + q, none⟩ = some (.string ⟨k.toArray⟩) := Ext.cell HX.out hcell
            have HI0 := Lib.hid hid0
            have hw7 := withN (wr.alloc (.cells #[.string ⟨k.toArray⟩] 9)) B B 300 L _ [k] (K5.out.ext (HX.out.trans (alloc_ext _ _))) (texts1 wr k) (by simp) (fun k' hk' => by rw [List.mem_singleton] at hk'; subst hk'; have := K5.out.klen hid0; omega) (by omega)
            have HW7 := Lib.hid hw7
            clear hw7 hcell hid0 hkk hqs
            go_wp2_with fail
            refine HW7.out.mono ?_
            rintro e w7 ⟨v7, zs, rfl, n7, d7, m7, s7, l7, x7⟩
            replace m7 : ∀ id, id ∈ zs ↔ (id, k) ∈ L := fun id => (m7 id).trans (by simp)
            obtain ⟨Az, cz, hv7, hcz⟩ := n7
            obtain ⟨nz, hnz⟩ : ∃ n, n = zs.length := ⟨_, rfl⟩
            rw [← hnz] at hv7 l7
            replace l7 : nz ≤ 120 := Nat.le_trans l7 L5.out
            have p7 : 0 < nz := by rw [hnz]; exact List.length_pos_of_mem ((m7 _).2 HI0.out)
            have M7 := Lib.hid m7; have HCZ := Lib.hid hcz; have HNZ := Lib.hid hnz; have X7 := Lib.hid (HX.out.trans ((alloc_ext _ _).trans x7))
            have K7 := Lib.hid (K5.out.ext X7.out)
            have e0 : ((nz : Int) == 0) = false := by simp; omega
            clear d7 m7 s7 x7 hcz hnz HW7 HX HI0 hcl
            subst hv7
            go_wp2
            go_loopw [60, 10] (fun i _ wr => ∃ t : Nat, t ≤ nz ∧ i = .int .i64 t ∧ Ext w7 wr) (fun i _ _ => nz - (intOf i).toNat)
            case atStart => exact ⟨0, by omega, rfl, Ext.refl _⟩
            case round =>
              obtain ⟨t, ht, rfl, hx⟩ := hrel
              have HX := Lib.hid hx
              clear hx
              by_cases htn : t < nz
              · have hts : t < zs.length := by rw [← HNZ.out]; exact htn
                obtain ⟨gz, oz, rfl, _, hcell⟩ := HCZ.out t hts
                have hin := (M7.out _).1 (List.getElem_mem hts)
                obtain ⟨id, hii⟩ : ∃ id, id = zs[t] := ⟨_, rfl⟩
                rw [← hii] at hcell hin
                have hcl : wr.cell? ⟨gz, oz + t, none⟩ = some (.int .i64 id) := Ext.cell HX.out hcell
                have hof := ofN wr B B 300 L id (K7.out.ext HX.out) (K7.out.wf hin)
                have HOF := Lib.hid hof; have HIN := Lib.hid hin
                clear hof hin hii hcell hts
                go_wp2_with fail
                refine HOF.out.mono ?_
                rintro e w8 ⟨v8, rfl, n8, x8⟩
                have hri := rin_any w8 _ v8 _ k n8 (by rw [sortS_len]; have := keysL_len L id; have := L5.out; omega)
                rw [decide_eq_true ((sorted_mem L id k).2 HIN.out)] at hri
                have HRI := Lib.hid hri; have X8 := Lib.hid (HX.out.trans x8)
                clear hri n8 x8 HOF HIN HX
                go_wp2_with fail
                refine HRI.out.mono ?_
                rintro e w9 ⟨rfl, rfl⟩
                clear HRI
                go_wp2
                go_roundw
                case rel => exact ⟨t + 1, by omega, by go_num, X8.out⟩
                case measure => simp [intOf]; omega
              · go_wp2
                go_loopw [73, 12, 13, 15] (fun i _ _ _ wr => ∃ a : Nat, a ≤ j ∧ i = .int .i64 a ∧ Ext w7 wr) (fun i _ _ _ _ => j - (intOf i).toNat)
                case atStart => exact ⟨0, by omega, rfl, HX.out⟩
                case round =>
                  clear HX
                  obtain ⟨a, ha, rfl, hx⟩ := hrel
                  have HX := Lib.hid hx
                  clear hx
                  by_cases han : a < j
                  · have has : a < xs.length := by rw [← HM.out]; exact han
                    obtain ⟨ba, off, rfl, hb, k0, k1, k2, b0, b1, tA⟩ := (HO.out.ext (X5.out.trans (X7.out.trans HX.out))) a has
                    obtain ⟨o, ho⟩ : ∃ o, o = xs[a] := ⟨_, rfl⟩
                    rw [← ho] at k0 k1 k2 b0 b1 tA
                    obtain ⟨kd, id, kv, ks⟩ := o
                    dsimp only at k0 k1 k2 b0 b1 tA
                    obtain ⟨A', c', hkv, -⟩ := tA.1
                    obtain ⟨n, hn⟩ : ∃ n, n = ks.length := ⟨_, rfl⟩
                    rw [← hn] at hkv
                    clear hn tA ho has
                    subst hkv
                    have XA := Lib.hid (alloc_ext wr (.cells #[.int .u8 kd, .int .i64 id, .slice A' n c'] 30))
                    have hof := ofN (wr.alloc (.cells #[.int .u8 kd, .int .i64 id, .slice A' n c'] 30)) B B 300 L id (K7.out.ext (HX.out.trans XA.out)) b1
                    have HOF := Lib.hid hof
                    clear hof
                    go_wp2
                    go_loop [79, 13, 15] (fun i th _ => ∃ p : Nat, p ≤ nz ∧ i = .int .i64 p ∧ th = .bool (decide (id ∈ zs.take p))) (fun i _ _ => nz - (intOf i).toNat)
                    case atStart => exact ⟨0, by omega, rfl, by simp⟩
                    case round =>
                      obtain ⟨p, hp, rfl, rfl⟩ := hrel
                      by_cases hpn : p < nz
                      · have hps : p < zs.length := by rw [← HNZ.out]; exact hpn
                        obtain ⟨gw, ow, rfl, _, hcell2⟩ := HCZ.out p hps
                        have htk : zs.take (p + 1) = zs.take p ++ [zs[p]] := List.take_succ_eq_append_getElem hps
                        obtain ⟨y, hyy⟩ : ∃ y, y = zs[p] := ⟨_, rfl⟩
                        rw [← hyy] at hcell2 htk
                        have hcell3 := Ext.cell (HX.out.trans XA.out) hcell2
                        have HTK := Lib.hid htk
                        clear htk hyy hcell2 hps
                        by_cases hm1 : id ∈ zs.take p
                        · have e1 : decide (id ∈ zs.take p) = true := decide_eq_true hm1
                          rw [e1]
                          clear e1
                          have HM1 : Hid (id ∈ zs.take (p + 1)) := Lib.hid (by rw [HTK.out]; exact List.mem_append_left _ hm1)
                          clear hm1 HTK
                          go_wp2
                          go_round
                          case rel => exact ⟨p + 1, by omega, by go_num, by rw [decide_eq_true HM1.out]⟩
                          case measure => simp [intOf]; omega
                        · have e1 : decide (id ∈ zs.take p) = false := decide_eq_false hm1
                          rw [e1]
                          clear e1
                          have HM1 : Hid (id ∈ zs.take (p + 1) ↔ y = id) := Lib.hid (by rw [HTK.out, List.mem_append, List.mem_singleton]; exact ⟨fun h => h.elim (fun h => absurd h hm1) Eq.symm, fun h => .inr h.symm⟩)
                          clear hm1 HTK
                          go_wp2
                          go_round
                          case rel => exact ⟨p + 1, by omega, by go_num, congrArg Value.bool (by rw [Bool.eq_iff_iff]; simp [HM1.out])⟩
                          case measure => simp [intOf]; omega
                      · have hpp : zs.take p = zs := List.take_of_length_le (by have := HNZ.out; omega)
                        rw [hpp]
                        clear hpp
                        go_wp2_with fail
                        refine HOF.out.mono ?_
                        rintro e w8 ⟨v8, rfl, n8, x8⟩
                        have hri := rin_any w8 _ v8 _ k n8 (by rw [sortS_len]; have := keysL_len L id; have := L5.out; omega)
                        have e1 : decide (k ∈ sortS (keysL L id)) = decide (id ∈ zs) := decide_eq_decide.2 ((sorted_mem L id k).trans (M7.out id).symm)
                        rw [e1] at hri
                        clear e1
                        generalize decide (id ∈ zs) = bb at hri ⊢
                        have HRI := Lib.hid hri; have X8 := Lib.hid (HX.out.trans (XA.out.trans x8))
                        clear hri n8 x8 HOF HX XA
                        go_wp2_with fail
                        refine HRI.out.mono ?_
                        rintro e w9 ⟨rfl, rfl⟩
                        clear HRI
                        cases bb
                        · go_wp2
                          go_roundw
                          case rel => exact ⟨a + 1, by omega, by go_num, X8.out⟩
                          case measure => simp [intOf]; omega
                        · go_wp2
                          go_roundw
                          case rel => exact ⟨a + 1, by omega, by go_num, X8.out⟩
                          case measure => simp [intOf]; omega
                  · go_wp2
                    go_roundw
                    case rel => exact ⟨q + 1, by omega, by go_num, X7.out.trans HX.out⟩
                    case measure => simp [intOf]; omega
          · go_wp2_with fail
            refine (awake_any _).mono ?_
            rintro e w10 ⟨rfl, x10⟩
            have X10 := Lib.hid (X5.out.trans (HX.out.trans x10))
            clear x10
            go_wp2
            go_ret
            exact ⟨rfl, X10.out⟩
set_option maxRecDepth 100000 in
theorem keysBoth_lifted (os : Os) (started : os.Started) (H : Type) (enc : TypeId × Value → H) :
    ReturnsInHanded {} Try.checked os 5 .any (Rows.keysBothSpec.pre6 enc Try.prog Try.f5 Rows.keysBothRow.domain false) (Rows.keysBothSpec.post enc Try.prog Try.f5 false true false false) := by
  refine returnsInHanded_of_change (C := Try.checked) own started (by kernel_rfl) Try.func5
    (ChangeSpec.witness6 (enc := enc) (C := Try.checked) false ⟨#[], #[.slice none 0 0], []⟩ 8 (by kernel_rfl) (by kernel_rfl) (by kernel_rfl) (by kernel_rfl)) ?_
  intro W base args ds gs before hval0 hW hcnd _
  have hval : ∀ (j : Nat) t v, Try.f5.params[j]? = some t → args[j]? = some v → Value.okWide Try.prog W .any base t v := hval0
  have hW' := hW
  obtain ⟨p, q, hA0, hV, rfl, hfz, hnd⟩ := hW
  have hA : DataW.TrodAll enc Try.prog W 0 (fun _ => true) true Try.f5.params.toList args.toList ds p := hA0
  rw [Try.params5] at hA hval
  obtain ⟨v0, vs0, d0, ds0, p0, q0, hargs, rfl, rfl, h0, r0⟩ := trodAll_cons hA
  obtain ⟨rfl, rfl, rfl⟩ := trodAll_nil r0
  obtain rfl : args = #[v0] := by cases args; simp_all
  obtain ⟨rfl, rfl⟩ := trodVars_none hV
  have lt0 : ∀ x ∈ p0, x.block < W.heap.size := by obtain ⟨m, hm⟩ := h0; exact DataW.trod_lt m _ _ _ hm
  have t0 := fun W' (bel : Below W.heap.size W W') => Below.trod laidOut (by kernel_rfl) (of_decide_eq_true (by kernel_rfl)) h0 bel lt0
  obtain ⟨A0, xs0, c0, rfl, ha0, hl0⟩ := ops_open (hval 0 22 v0 rfl rfl) h0
  clear hA0 hval0
  refine (both_walk xs0 A0 c0 W ha0 hl0 ).mono fun e W' ⟨he, bel⟩ => ?_
  subst he
  exact ⟨_, rfl, _, _, _, [], _, [], hW', trodAll_mk1 (shut_bool Try.underlying4 _), (trodAll_cons_mk (t0 W' bel) trodAll_mk0), rfl, bel.frame _, fun h => by cases h⟩

/-- The statement. -/
theorem KeysBoth_proved : Rows.KeysBothSaid :=
  OpenClaim.holds_of_wide 5 Try.f5 rfl rfl rfl rfl rfl rfl rfl ⟨rfl, rfl, rfl, rfl, rfl⟩ rfl rfl rfl rfl rfl (by kernel_rfl) Try.func5 (by kernel_rfl)
    (of_decide_eq_true (by kernel_rfl)) (by unfold Func.isWrapper; first | (rw [if_pos (by decide +kernel)]; kernel_rfl) | (rw [if_neg (by decide +kernel)]; exact ⟨rfl, rfl⟩))
    (fun os started H enc _ => keysBoth_lifted os started H enc)
#print axioms KeysBoth_proved
end Go.Proofs.Ytgbhhofmghgpbaa
