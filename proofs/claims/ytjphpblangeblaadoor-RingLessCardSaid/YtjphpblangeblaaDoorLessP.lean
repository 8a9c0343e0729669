/- Proved: RingLess, for every input: a name less changes only the objects that it owned (printed by gen_laws.py). -/
import Derived.Test.YtjphpblangeblaaDoorLawC
namespace Go.Proofs.YtjphpblangeblaaDoor
open Go.RowKit Go.Maps Go.ChangeMaps
set_option linter.unusedVariables false
set_option linter.unusedSimpArgs false
section
variable {w : World} {p : Int} {A : Option Addr} {n c : Nat} {xs : List OpP}
set_option maxRecDepth 100000 in
set_option maxHeartbeats 8000000 in
theorem less_walk (h : OpsAt w (.slice A n c) xs) (hnl : n ≤ 9223372036854775807) (hT : Tab w) {ob : Bs} {z : Nat} (hzz : z ≤ 255) : Calls Tryd.prog 7 #[.agg #[.int .i64 p, .slice A n c], .int .u8 z, .string ⟨ob.toArray⟩] w fun e w' => e = .returned (.bool true) ∧ Ext w w' := by
  have HOPS := Lib.hid h; have HT := Lib.hid hT; have HNL := Lib.hid hnl
  clear h hT hnl
  go_enter Tryd.func7, Tryd.ntmps7
  go_wp2_with (refine wpList_boxA 24 rfl _ rfl #[.int .i64 p, .slice A n c] rfl ?_; intro W0 x0 n0 s0; refine stop_of ?_)
  unfold Stop
  have X0 := Lib.hid x0; have N0 := Lib.hid n0
  obtain ⟨mb, hmb⟩ : ∃ mb, mb = w.heap.size := ⟨_, rfl⟩
  rw [← hmb] at N0 ⊢
  clear x0 n0 s0 hmb
  go_wp2_with (first | (refine wpList_get 24 _ rfl _ rfl mb 0 24 _ [.int .i64 p, .slice A n c] N0.out rfl (by kernel_rfl) Tryd.underlying24 rfl size24 ?_) | (go_at_call 9; refine (light_any (HOPS.out.ext X0.out) HNL.out).mono ?_; rintro e w1 ⟨⟨r, rfl, hr⟩, x1⟩; refine stop_of ?_))
  unfold Stop
  have HR := Lib.hid hr; have X1 := Lib.hid (X0.out.trans x1); have N1 := Lib.hid (x1.heap N0.out)
  clear hr x1
  cases r with
  | false =>
    have HTW := Lib.hid (HT.out.ext X1.out)
    go_wp2_with (go_at_call 10; refine (awake_any HTW.out).mono ?_; rintro e wz ⟨rfl, xz⟩)
    go_ret
    exact ⟨rfl, X1.out.trans xz⟩
  | true =>
    by_cases hob : 200 < (ob.length : Int)
    · have HTW := Lib.hid (HT.out.ext X1.out)
      go_wp2_with (go_at_call 10; refine (awake_any HTW.out).mono ?_; rintro e wz ⟨rfl, xz⟩)
      go_ret
      exact ⟨rfl, X1.out.trans xz⟩
    · have hob2 : decide (200 < (ob.length : Int)) = false := decide_eq_false hob
      have HOB := Lib.hid (show ob.length ≤ 1000000 by omega)
      clear hob
      have HSM := Lib.hid (HR.out rfl)
      by_cases hp : p < 1 ∨ 200 < p
      · have HMD := Lib.hid (made_bad (w := w1) (A := A) (n := n) (c := c) hp)
        clear hp
        go_wp2_with (first | (refine wpList_get 24 _ rfl _ rfl mb 0 24 _ [.int .i64 p, .slice A n c] N1.out rfl (by kernel_rfl) Tryd.underlying24 rfl size24 ?_) | (go_at_call 11; refine HMD.out.mono ?_; rintro e w2 ⟨rfl, x2⟩; refine stop_of ?_))
        unfold Stop
        have X2 := Lib.hid (X1.out.trans x2)
        have HTW := Lib.hid (HT.out.ext X2.out)
        clear x2
        go_wp2_with (go_at_call 10; refine (awake_any HTW.out).mono ?_; rintro e wz ⟨rfl, xz⟩)
        go_ret
        exact ⟨rfl, X2.out.trans xz⟩
      · obtain ⟨pn, rfl⟩ : ∃ pn : Nat, p = pn := ⟨p.toNat, by omega⟩
        have HMD := Lib.hid (made_any (HOPS.out.ext X1.out) HSM.out (HT.out.ext X1.out) (p := pn) (by omega) (by omega))
        clear hp
        go_wp2_with (first | (refine wpList_get 24 _ rfl _ rfl mb 0 24 _ [.int .i64 pn, .slice A n c] N1.out rfl (by kernel_rfl) Tryd.underlying24 rfl size24 ?_) | (go_at_call 11; refine HMD.out.mono ?_; rintro e w2 ⟨b, x, rfl, h2⟩; refine stop_of ?_))
        unfold Stop
        have HP := Lib.hid h2
        have X2 := Lib.hid (X1.out.trans h2.base)
        obtain ⟨L, hL⟩ : ∃ L, L = doL xs := ⟨_, rfl⟩
        rw [← hL] at HP
        clear h2 hL HMD
        have HPN := Lib.hid (p_names HP.out)
        go_wp2_with (go_at_call 19; refine HPN.out.mono ?_; rintro e w3 ⟨v3, rfl, r3, x3⟩; refine stop_of ?_)
        unfold Stop
        have HK := Lib.hid HP.out.ok
        obtain ⟨nm, hnm⟩ : ∃ nm, nm = namL L := ⟨_, rfl⟩
        rw [← hnm] at r3
        obtain ⟨ln, hln⟩ : ∃ ln, ln = nm.length := ⟨_, rfl⟩
        have HLL := Lib.hid (show ln = L.length by rw [hln, hnm, namL_len])
        have HL64 := Lib.hid (show ln ≤ 64 by rw [HLL.out]; exact HK.out.len)
        obtain ⟨A3, c3, hv3⟩ := own_slice r3
        rw [← hln] at hv3
        subst hv3
        have R3 := Lib.hid r3
        have X3 := Lib.hid (X2.out.trans x3); have HP3 := Lib.hid (HP.out.ext x3)
        have HLN := Lib.hid hln; have HNM := Lib.hid hnm
        clear r3 x3 HPN hln hnm
        by_cases h0 : ln = 0
        · subst h0
          have HTW := Lib.hid (HT.out.ext X3.out)
          go_wp2_with (go_at_call 10; refine (awake_any HTW.out).mono ?_; rintro e wz ⟨rfl, xz⟩)
          go_ret
          exact ⟨rfl, X3.out.trans xz⟩
        · have hz : ((ln : Int) == 0) = false := by simp; omega
          have hz2 : ¬ ((ln : Int) = 0) := by omega
          obtain ⟨ix, hix⟩ : ∃ ix, ix = z % ln := ⟨_, rfl⟩
          have hil : ix < ln := by rw [hix]; exact Nat.mod_lt _ (by omega)
          have hrem : Int.tmod (z : Int) (ln : Int) = (ix : Int) := by rw [hix]; exact (Int.ofNat_tmod z ln).symm
          obtain ⟨b3, o3, rfl, k3⟩ := R3.out.texts.cell (j := ix) (by rw [← HLN.out]; exact hil)
          have hgm : nm[ix]'(by rw [← HLN.out]; exact hil) ∈ L.map Prod.fst := by rw [← namL_mem HK.out, ← HNM.out]; simp
          obtain ⟨gn, hgn⟩ : ∃ gn, gn = nm[ix]'(by rw [← HLN.out]; exact hil) := ⟨_, rfl⟩
          rw [← hgn] at k3 hgm
          have HGM := Lib.hid hgm
          have HPO := Lib.hid (p_owners HP3.out HOB.out 64)
          have HZ := Lib.hid hzz
          have hz3 : (z : Int) ≤ 255 := by omega
          have hln3 : (ln : Int) ≤ 64 := by have := HL64.out; omega
          clear hix hgm hgn h0 hzz
          go_wp2_with (go_at_call 12; refine HPO.out.mono ?_; rintro e w4 ⟨v4, rfl, r4, x4⟩; refine stop_of ?_)
          unfold Stop
          rw [ordL_all HK.out] at r4
          obtain ⟨lo, hlo⟩ : ∃ lo, lo = ordL pd pn (hashL ob) L := ⟨_, rfl⟩
          rw [← hlo] at r4
          have HLO := Lib.hid (show lo.length = ln by rw [hlo, ordL_len pn (hashL ob) HK.out.nd, HLL.out])
          have HLO2 := Lib.hid hlo
          obtain ⟨A4, c4, hv4⟩ := own_slice r4
          rw [HLO.out] at hv4
          subst hv4
          have R4 := Lib.hid r4
          have X4 := Lib.hid (X3.out.trans x4)
          have HP4 := Lib.hid (HP3.out.hold x4)
          have HX34 := Lib.hid x4
          clear r4 x4 hlo HPO
          have hrm := p_rem HP4.out (n := gn) (HK.out.short HGM.out)
          rw [show decide (wt L gn ≠ 0) = true from decide_eq_true (HK.out.pos.1 HGM.out)] at hrm
          have HRM := Lib.hid hrm
          clear hrm
          clear hrem hil k3
          go_wp2_with (go_at_call 21; refine HRM.out.mono ?_; rintro e w5 ⟨rfl, h5, q5⟩; refine stop_of ?_)
          unfold Stop
          have HP5 := Lib.hid h5
          have R5 := Lib.hid (R4.out.keep (w' := w5) fun g hg hg2 => q5 g (.inr ⟨hg, hg2⟩))
          have X5 := Lib.hid h5.base
          have hpt := p_points h5 (n := gn) (HK.out.short HGM.out)
          rw [show ((pn * wt (remL L gn) gn : Nat) : Int) = 0 from by rw [wt_remL]; simp] at hpt
          have HPT := Lib.hid hpt
          clear h5 q5 hpt HRM
          go_wp2_with (go_at_call 22; refine HPT.out.mono ?_; rintro e w6 ⟨rfl, rfl⟩; refine stop_of ?_)
          unfold Stop
          have T5 := Lib.hid R5.out.texts
          go_wp2_with fail
          go_loopw [70, 13, 15] (fun i s _ wr => ∃ (j q : Nat) (Ao : Option Addr) (co : Nat), j ≤ ln ∧ i = .int .i64 j ∧ s = .slice Ao q co ∧ Hid (SRow wr w5.heap.size (.slice Ao q co) ((lo.take j).filter fun a => a != gn)) ∧ Hid (Ext w5 wr)) (fun i _ _ _ => ln - (RowKit.intOf i).toNat)
          case atStart => exact ⟨0, 0, none, 0, by omega, rfl, rfl, Lib.hid (World.ownsRow_nil _ _ _ _), Lib.hid (Ext.refl _)⟩
          case round =>
            obtain ⟨j, q, Ao, co, hj, rfl, rfl, HR, HX⟩ := hrel
            by_cases hlt : j < ln
            · have hjs : j < lo.length := by rw [HLO.out]; exact hlt
              obtain ⟨b4, o4, rfl, k4⟩ := (T5.out.ext HX.out).cell hjs
              have hft := filt_take (fun a => a != gn) lo hjs
              obtain ⟨yn, hyn⟩ : ∃ y, y = lo[j] := ⟨_, rfl⟩
              rw [← hyn] at k4 hft
              have HFT := Lib.hid hft
              clear hjs hft hyn
              by_cases hy : yn = gn
              · subst hy
                have hb : (!(yn == yn)) = false := by simp
                go_wp2
                go_roundw
                case rel => exact ⟨j + 1, q, Ao, co, by omega, by go_num, rfl, by have h := HFT.out; simp at h; rw [h]; exact HR, HX⟩
                case measure => simp [RowKit.intOf]; omega
              · have hb : (!(yn == gn)) = true := by simp [hy]
                have HB3 := Lib.hid (show (if yn != gn then [yn] else []) = [yn] from by simp [hy])
                obtain ⟨out, hout⟩ : ∃ out, out = (lo.take j).filter fun a => a != gn := ⟨_, rfl⟩
                rw [← hout] at HR
                have hq : out.length ≤ 64 := by rw [hout]; exact Nat.le_trans (List.length_filter_le _ _) (by simp; have := HL64.out; omega)
                have HQ := Lib.hid hq
                have hft2 : (lo.take (j + 1)).filter (fun a => a != gn) = out ++ [yn] := by rw [HFT.out, hout]; exact congrArg _ HB3.out
                have HFT2 := Lib.hid hft2
                have RA := Lib.hid (ownsRow_below HR.out (ext_alloc1 wr (.cells #[.string ⟨yn.toArray⟩] 9)))
                have XA := Lib.hid (HX.out.trans (ext_alloc1 wr (.cells #[.string ⟨yn.toArray⟩] 9)))
                clear hy hout hq hft2 HFT HB3
                go_wp2_with (refine wpList_appendS rfl _ _ rfl yn (ss := out) RA.out rfl wr.heap.size rfl (heap_alloc_new wr _) (by have := HQ.out; omega) XA.out.size ?_; intro v5 W5 r5 g5; refine stop_of ?_)
                unfold Stop
                obtain ⟨A5, c5, hv5⟩ := own_slice r5
                subst hv5
                have R5 := Lib.hid (show SRow W5 w5.heap.size (.slice A5 (out ++ [yn]).length c5) ((lo.take (j + 1)).filter fun a => a != gn) from by rw [HFT2.out]; exact r5)
                have X5 := Lib.hid (show Ext w5 W5 from RowKit.Below.trans XA.out (own_below RA.out g5 XA.out.size))
                obtain ⟨q5, hq5⟩ : ∃ q5, q5 = (out ++ [yn]).length := ⟨_, rfl⟩
                rw [← hq5] at R5 ⊢
                clear r5 g5 hq5
                go_wp2_with fail
                go_roundw
                case rel => exact ⟨j + 1, q5, A5, c5, by omega, by go_num, rfl, R5, X5⟩
                case measure => simp [RowKit.intOf]; omega
            · have hjn : lo.take j = lo := List.take_of_length_le (by have := HLO.out; omega)
              rw [hjn] at HR
              have RQ := HR
              clear hjn HR
              have XW := Lib.hid ((X1.out.trans X5.out).trans HX.out)
              have HP6 := Lib.hid (HP5.out.ext HX.out)
              have HPO := Lib.hid (p_owners HP6.out HOB.out 64)
              go_wp2_with (go_at_call 12; refine HPO.out.mono ?_; rintro e w7 ⟨v7, rfl, r7, x7⟩; refine stop_of ?_)
              unfold Stop
              have HK6 := Lib.hid HP6.out.ok
              rw [ordL_all HK6.out] at r7
              have hle : ordL pd pn (hashL ob) (remL L gn) = lo.filter (fun a => a != gn) := by rw [HLO2.out]; exact ordL_less pn (hashL ob) HK.out.nd gn
              rw [hle] at r7
              obtain ⟨fl, hfl⟩ : ∃ fl, fl = lo.filter (fun a => a != gn) := ⟨_, rfl⟩
              rw [← hfl] at r7 RQ
              have hf64 : fl.length ≤ 1000000 := by rw [hfl]; exact Nat.le_trans (List.length_filter_le _ _) (by rw [HLO.out]; have := HL64.out; omega)
              have hs := same_any w7 v7 _ fl fl (SRow.texts r7) (SRow.texts (SRow.ext RQ.out x7)) hf64 hf64
              rw [show decide (fl = fl) = true from decide_eq_true rfl] at hs
              have HS := Lib.hid hs
              have X7 := Lib.hid (XW.out.trans x7)
              clear r7 x7 hle hfl hf64 hs HPO
              go_wp2_with (go_at_call 15; refine HS.out.mono ?_; rintro e w8 ⟨rfl, x8⟩; refine stop_of ?_)
              unfold Stop
              have X8 := Lib.hid (X7.out.trans x8)
              have HTW := Lib.hid (HT.out.ext X8.out)
              clear x8 HS
              go_wp2_with (go_at_call 10; refine (awake_any HTW.out).mono ?_; rintro e wz ⟨rfl, xz⟩)
              go_ret
              exact ⟨rfl, X8.out.trans xz⟩
end
open Go.ChangeShapes Go.WideShapes Go.ChangeAt
set_option maxRecDepth 100000 in
theorem ringLess_contract (H : Type) (enc : TypeId × Value → H) (W : World) (base : Nat) (args : Array Value) (ds gs : List (DataW H)) (before : List MemPlace)
    (hval : ∀ (j : Nat) t v, Tryd.f7.params[j]? = some t → args[j]? = some v → Value.okWide Tryd.prog W .any base t v)
    (hW : DataW.Whole enc Tryd.prog Tryd.f7.params.toList Rows.ringLessSpec.vars false W args.toList ds gs before)
    (hsz : (DataW.weightsEach Tryd.prog (Tryd.f7.params.toList ++ (OpenSpec.ofChange Rows.ringLessSpec).bare.plain.varTypes Tryd.prog) (ds ++ gs)).all (· ≤ reachBytes) = true) (hL : laidMetH Tryd.prog laid3 W) :
    Calls Tryd.prog 7 args W fun e W' => ∃ v, e = .returned v ∧ Rows.ringLessSpec.post enc Tryd.prog Tryd.f7 false true false false W args v W' := by
  have hW' := hW
  have hT := tab_of hL
  obtain ⟨p, q, hA0, hV, rfl, hfz, hnd⟩ := hW
  have hA : DataW.TrodAll enc Tryd.prog W 0 (fun _ => true) true Tryd.f7.params.toList args.toList ds p := hA0
  rw [Tryd.params7] at hA hval
  obtain ⟨v0, vs0, d0, ds0, p0, q0, hargs, rfl, rfl, h0, r0⟩ := trodAll_cons hA
  obtain ⟨v1, vs1, d1, ds1, p1, q1, rfl, rfl, rfl, h1, r1⟩ := trodAll_cons r0
  obtain ⟨v2, vs2, d2, ds2, p2, q2, rfl, rfl, rfl, h2, r2⟩ := trodAll_cons r1
  obtain ⟨rfl, rfl, rfl⟩ := trodAll_nil r2
  obtain rfl : args = #[v0, v1, v2] := by cases args; simp_all
  obtain ⟨rfl, rfl⟩ := trodVars_none hV
  have lt0 : ∀ x ∈ p0, x.block < W.heap.size := by obtain ⟨m, hm⟩ := h0; exact DataW.trod_lt m _ _ _ hm
  have t0 := fun W' (bel : Below W.heap.size W W') => Below.trod laidOut (by kernel_rfl) (of_decide_eq_true (by kernel_rfl)) h0 bel lt0
  have lt1 : ∀ x ∈ p1, x.block < W.heap.size := by obtain ⟨m, hm⟩ := h1; exact DataW.trod_lt m _ _ _ hm
  have t1 := fun W' (bel : Below W.heap.size W W') => Below.trod laidOut (by kernel_rfl) (of_decide_eq_true (by kernel_rfl)) h1 bel lt1
  have lt2 : ∀ x ∈ p2, x.block < W.heap.size := by obtain ⟨m, hm⟩ := h2; exact DataW.trod_lt m _ _ _ hm
  have t2 := fun W' (bel : Below W.heap.size W W') => Below.trod laidOut (by kernel_rfl) (of_decide_eq_true (by kernel_rfl)) h2 bel lt2
  obtain ⟨q0, A0, xs0, c0, rfl, ha0, hl0⟩ := make_open (hval 0 24 v0 rfl rfl) h0
  obtain ⟨z1, rfl, b1⟩ := u8_of (hval 1 5 v1 rfl rfl) h1
  obtain ⟨s2, rfl⟩ := str_of (hval 2 9 v2 rfl rfl) h2
  clear hA0
  refine (less_walk  ha0 hl0 hT b1).mono fun e W' ⟨he, hx⟩ => ?_
  have bel : Below W.heap.size W W' := hx
  subst he
  exact ⟨_, rfl, _, _, _, [], _, [], hW', trodAll_mk1 (shut_bool Tryd.underlying4 _), (trodAll_cons_mk (t0 W' bel) (trodAll_cons_mk (t1 W' bel) (trodAll_cons_mk (t2 W' bel) trodAll_mk0))), rfl, bel.frame _, fun h => by cases h⟩

set_option maxRecDepth 100000 in
theorem ringLess_reads (os : Os) {H : Type} (enc : TypeId × Value → H) : ∃ x, DataW.whole enc Tryd.prog ((laidWorld os).forCall (fun _ _ => 0) ⟨#[], #[.agg #[.int .i64 0, .slice none 0 0], .int .u8 0, .string ⟨#[]⟩], []⟩).memory Tryd.f7.params.toList Rows.ringLessSpec.vars false (#[.agg #[.int .i64 0, .slice none 0 0], .int .u8 0, .string ⟨#[]⟩] : Array Value).toList 8 = some x :=
  Option.isSome_iff_exists.1 (by kernel_rfl)
set_option maxRecDepth 100000 in
theorem ringLess_lifted (os : Os) (started : os.Started) (H : Type) (enc : TypeId × Value → H) (F : Stop.Interp) :
    ReturnsInHanded {} Tryd.checked os 7 .any ((OpenSpec.ofChange Rows.ringLessSpec).preRow enc Tryd.prog Tryd.f7 Rows.ringLessRow.domain false Rows.ringLessRow.laid) (((OpenSpec.ofChange Rows.ringLessSpec).at F).post enc Tryd.prog Tryd.f7 false true false false) := by
  obtain ⟨x, hx⟩ := ringLess_reads os enc
  refine returnsInHanded_of_row (C := Tryd.checked) (s := OpenSpec.ofChange Rows.ringLessSpec) own started (by kernel_rfl) Tryd.func7
    (witness_row_at (enc := enc) (C := Tryd.checked) false (laidWorld os) #[.agg #[.int .i64 0, .slice none 0 0], .int .u8 0, .string ⟨#[]⟩] (World.laidAll_os _ _ _) (by kernel_rfl) (by kernel_rfl) (by kernel_rfl)
      (OpenSpec.preRow_of_cond 8 hx rfl (fun k hk => by cases hk) (by kernel_rfl) (laid_met os _))) ?_
  intro W base args ds gs before hval hW _ _ hsz hL _ _
  exact ringLess_contract H enc W base args ds gs before hval hW hsz hL
theorem ringLess_said : Rows.RingLessSaid :=
  OpenClaim.holds_of_cond 7 Tryd.f7 rfl rfl rfl rfl rfl rfl rfl ⟨rfl, rfl, rfl, rfl, rfl⟩ rfl rfl rfl rfl rfl (by kernel_rfl) Tryd.func7 (by kernel_rfl)
    (of_decide_eq_true (by kernel_rfl)) (by unfold Func.isWrapper; first | (rw [if_pos (by decide +kernel)]; kernel_rfl) | (rw [if_neg (by decide +kernel)]; exact ⟨rfl, rfl⟩))
    (fun os started H enc _ F => by rw [OpenClaim.pre_eq_preRow]; exact ringLess_lifted os started H enc F)
theorem ringLess_plain (f : FuncId) (fn : Func) (hf : Tryd.pinned.checked.prog.funcNamed Rows.ringLessRow.func = some f) (hfn : Tryd.pinned.checked.prog.funcs[f]? = some fn) :
    false = Tryd.pinned.checked.prog.looks [] ∧ ∀ (j : Nat) t, fn.params[j]? = some t → Tryd.pinned.checked.prog.wantsStandIn t = false := by
  obtain rfl : f = 7 := Option.some.inj ((show Tryd.prog.funcNamed Rows.ringLessRow.func = some 7 by kernel_rfl).symm.trans hf) |>.symm
  obtain rfl : fn = Tryd.f7 := (Option.some.inj (Tryd.func7.symm.trans hfn)).symm
  refine ⟨by kernel_rfl, fun j t ht => ?_⟩
  rw [Tryd.params7] at ht
  have hm : t ∈ [24, 5, 9] := by simpa using Array.mem_of_getElem? ht
  have hall : ([24, 5, 9].all fun u => !Tryd.prog.wantsStandIn u) = true := by kernel_rfl
  exact (show Tryd.prog.wantsStandIn t = false by simpa using List.all_eq_true.1 hall t hm)
/-- The statement. -/
theorem RingLess_proved : Rows.RingLessCardSaid :=
  Claim7.holds_tied_plain_at .later [] _ _ _ _ ringLess_said (fun _ h => by cases h) (by kernel_rfl) (fun _ h => by cases h) ringLess_row_tie rfl ⟨rfl, rfl⟩ (by kernel_rfl) rfl ringLess_plain (by kernel_rfl)
#print axioms RingLess_proved
end Go.Proofs.YtjphpblangeblaaDoor
