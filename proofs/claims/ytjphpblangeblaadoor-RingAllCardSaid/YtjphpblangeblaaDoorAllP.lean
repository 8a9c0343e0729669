/- Proved: RingAll, for every input: asked for as many as there are, all names own an object in some order, each once (printed by gen_laws.py). -/
import Derived.Test.YtjphpblangeblaaDoorTabC
namespace Go.Proofs.YtjphpblangeblaaDoor
open Go.RowKit Go.Maps Go.ChangeMaps
set_option linter.unusedVariables false
set_option linter.unusedSimpArgs false
section
variable {w : World} {p : Int} {A : Option Addr} {n c : Nat} {xs : List OpP}
set_option maxRecDepth 100000 in
set_option maxHeartbeats 8000000 in
theorem all_walk (h : OpsAt w (.slice A n c) xs) (hnl : n ≤ 9223372036854775807) (hT : Tab w) {ob : Bs} : Calls Tryd.prog 8 #[.agg #[.int .i64 p, .slice A n c], .string ⟨ob.toArray⟩] w fun e w' => e = .returned (.bool true) ∧ Ext w w' := by
  have HOPS := Lib.hid h; have HT := Lib.hid hT; have HNL := Lib.hid hnl
  clear h hT hnl
  go_enter Tryd.func8, Tryd.ntmps8
  go_wp2_with (refine wpList_boxA 24 rfl _ rfl #[.int .i64 p, .slice A n c] rfl ?_; intro W0 x0 n0 s0; refine stop_of ?_)
  unfold Stop
  have X0 := Lib.hid x0; have N0 := Lib.hid n0
  obtain ⟨mb, hmb⟩ : ∃ mb, mb = w.heap.size := ⟨_, rfl⟩
  rw [← hmb] at N0 ⊢
  clear x0 n0 s0 hmb
  go_wp2_with (first | (refine wpList_get 24 _ rfl _ rfl mb 0 24 _ [.int .i64 p, .slice A n c] N0.out rfl (by kernel_rfl) Tryd.underlying24 rfl size24 ?_) | (go_at_call 9; refine (light_any (HOPS.out.ext X0.out) HNL.out).mono ?_; rintro e w1 ⟨⟨r, rfl, hr⟩, x1⟩; refine stop_of ?_))
  unfold Stop
  have HR := Lib.hid hr; have X1 := Lib.hid (X0.out.trans x1); have N1 := Lib.hid (x1.heap N0.out)
  clear hr x1
  cases r with
  | false =>
    have HTW := Lib.hid (HT.out.ext X1.out)
    go_wp2_with (go_at_call 10; refine (awake_any HTW.out).mono ?_; rintro e wz ⟨rfl, xz⟩)
    go_ret
    exact ⟨rfl, X1.out.trans xz⟩
  | true =>
    by_cases hob : 200 < (ob.length : Int)
    · have HTW := Lib.hid (HT.out.ext X1.out)
      go_wp2_with (go_at_call 10; refine (awake_any HTW.out).mono ?_; rintro e wz ⟨rfl, xz⟩)
      go_ret
      exact ⟨rfl, X1.out.trans xz⟩
    · have hob2 : decide (200 < (ob.length : Int)) = false := decide_eq_false hob
      have HOB := Lib.hid (show ob.length ≤ 1000000 by omega)
      clear hob
      have HSM := Lib.hid (HR.out rfl)
      by_cases hp : p < 1 ∨ 200 < p
      · have HMD := Lib.hid (made_bad (w := w1) (A := A) (n := n) (c := c) hp)
        clear hp
        go_wp2_with (first | (refine wpList_get 24 _ rfl _ rfl mb 0 24 _ [.int .i64 p, .slice A n c] N1.out rfl (by kernel_rfl) Tryd.underlying24 rfl size24 ?_) | (go_at_call 11; refine HMD.out.mono ?_; rintro e w2 ⟨rfl, x2⟩; refine stop_of ?_))
        unfold Stop
        have X2 := Lib.hid (X1.out.trans x2)
        have HTW := Lib.hid (HT.out.ext X2.out)
        clear x2
        go_wp2_with (go_at_call 10; refine (awake_any HTW.out).mono ?_; rintro e wz ⟨rfl, xz⟩)
        go_ret
        exact ⟨rfl, X2.out.trans xz⟩
      · obtain ⟨pn, rfl⟩ : ∃ pn : Nat, p = pn := ⟨p.toNat, by omega⟩
        have HMD := Lib.hid (made_any (HOPS.out.ext X1.out) HSM.out (HT.out.ext X1.out) (p := pn) (by omega) (by omega))
        clear hp
        go_wp2_with (first | (refine wpList_get 24 _ rfl _ rfl mb 0 24 _ [.int .i64 pn, .slice A n c] N1.out rfl (by kernel_rfl) Tryd.underlying24 rfl size24 ?_) | (go_at_call 11; refine HMD.out.mono ?_; rintro e w2 ⟨b, x, rfl, h2⟩; refine stop_of ?_))
        unfold Stop
        have HP := Lib.hid h2
        have X2 := Lib.hid (X1.out.trans h2.base)
        obtain ⟨L, hL⟩ : ∃ L, L = doL xs := ⟨_, rfl⟩
        rw [← hL] at HP
        clear h2 hL HMD
        have HPO := Lib.hid (p_owners HP.out HOB.out 64)
        go_wp2_with (go_at_call 12; refine HPO.out.mono ?_; rintro e w3 ⟨v3, rfl, r3, x3⟩; refine stop_of ?_)
        unfold Stop
        have R3 := Lib.hid r3; have X3 := Lib.hid x3
        have HPN := Lib.hid (p_names (HP.out.ext x3))
        clear r3 x3 HPO
        go_wp2_with (go_at_call 19; refine HPN.out.mono ?_; rintro e w4 ⟨v4, rfl, r4, x4⟩; refine stop_of ?_)
        unfold Stop
        have hk := HP.out.ok
        obtain ⟨lo, hlo⟩ : ∃ lo, lo = (ordL pd pn (hashL ob) L).take (min 64 (L.length : Int)).toNat := ⟨_, rfl⟩
        rw [← hlo] at R3
        have hol := ordL_len (pd := pd) pn (hashL ob) hk.nd
        have hlo2 : lo = ordL pd pn (hashL ob) L := by rw [hlo]; exact List.take_of_length_le (by rw [hol]; have := hk.len; omega)
        obtain ⟨ln, hln⟩ : ∃ ln, ln = L.length := ⟨_, rfl⟩
        have hll : lo.length = ln := by rw [hlo2, hol, hln]
        have hnl : (namL L).length = ln := by unfold namL; rw [toldN_len, hln]
        have HLN := Lib.hid (show ln ≤ 64 from by rw [hln]; exact hk.len)
        have HMEM := Lib.hid (show ∀ y ∈ namL L, y ∈ lo from fun y hy => by
          rw [hlo2, ordL_mem _ _ hk.nd]
          rw [← namL_of hk (List.Perm.refl _), sortS_mem] at hy
          exact hy)
        have T3 := Lib.hid (SRow.texts (SRow.ext R3.out x4))
        have T4 := Lib.hid (SRow.texts r4)
        obtain ⟨nm, hnm⟩ : ∃ nm, nm = namL L := ⟨_, rfl⟩
        rw [← hnm] at T4 HMEM hnl
        obtain ⟨A3, c3, hv3⟩ := own_slice R3.out
        obtain ⟨A4, c4, hv4⟩ := own_slice r4
        rw [← hnm, hnl] at hv4
        rw [hll] at hv3
        subst hv3 hv4
        have HLL := Lib.hid hll; have HNLL := Lib.hid hnl
        have X4 := Lib.hid ((X2.out.trans X3.out).trans x4)
        clear r4 x4 HPN hk hlo hol hlo2 hln hll hnl hnm
        have hln64 : ln ≤ 64 := HLN.out
        go_wp2_with fail
        go_loopw [45, 11] (fun i _ wr => ∃ j : Nat, j ≤ ln ∧ i = .int .i64 j ∧ Hid (Ext w4 wr)) (fun i _ _ => ln - (RowKit.intOf i).toNat)
        case atStart => exact ⟨0, by omega, rfl, Lib.hid (Ext.refl _)⟩
        case round =>
          obtain ⟨j, hj, rfl, HX⟩ := hrel
          by_cases hlt : j < ln
          · have hjs : j < nm.length := by rw [HNLL.out]; exact hlt
            obtain ⟨b4, o4, rfl, k4⟩ := (T4.out.ext HX.out).cell hjs
            have hm := HMEM.out nm[j] (by simp)
            obtain ⟨y, hy⟩ : ∃ y, y = nm[j] := ⟨_, rfl⟩
            rw [← hy] at k4 hm
            have hin := rin_any wr _ lo y (T3.out.ext HX.out) (by rw [HLL.out]; omega)
            rw [decide_eq_true hm] at hin
            have HIN := Lib.hid hin
            clear hm hy hin hjs
            go_wp2_with (go_at_call 23; refine HIN.out.mono ?_; rintro e w5 ⟨rfl, rfl⟩)
            go_roundw
            case rel => exact ⟨j + 1, by omega, by go_num, HX⟩
            case measure => simp [RowKit.intOf]; omega
          · have X5 := Lib.hid (X4.out.trans HX.out)
            have HTW := Lib.hid (HT.out.ext X5.out)
            go_wp2_with (go_at_call 10; refine (awake_any HTW.out).mono ?_; rintro e wz ⟨rfl, xz⟩)
            go_ret
            exact ⟨rfl, X5.out.trans xz⟩
end
open Go.ChangeShapes Go.WideShapes Go.ChangeAt
set_option maxRecDepth 100000 in
theorem ringAll_contract (H : Type) (enc : TypeId × Value → H) (W : World) (base : Nat) (args : Array Value) (ds gs : List (DataW H)) (before : List MemPlace)
    (hval : ∀ (j : Nat) t v, Tryd.f8.params[j]? = some t → args[j]? = some v → Value.okWide Tryd.prog W .any base t v)
    (hW : DataW.Whole enc Tryd.prog Tryd.f8.params.toList Rows.ringAllSpec.vars false W args.toList ds gs before)
    (hsz : (DataW.weightsEach Tryd.prog (Tryd.f8.params.toList ++ (OpenSpec.ofChange Rows.ringAllSpec).bare.plain.varTypes Tryd.prog) (ds ++ gs)).all (· ≤ reachBytes) = true) (hL : laidMetH Tryd.prog laid3 W) :
    Calls Tryd.prog 8 args W fun e W' => ∃ v, e = .returned v ∧ Rows.ringAllSpec.post enc Tryd.prog Tryd.f8 false true false false W args v W' := by
  have hW' := hW
  have hT := tab_of hL
  obtain ⟨p, q, hA0, hV, rfl, hfz, hnd⟩ := hW
  have hA : DataW.TrodAll enc Tryd.prog W 0 (fun _ => true) true Tryd.f8.params.toList args.toList ds p := hA0
  rw [Tryd.params8] at hA hval
  obtain ⟨v0, vs0, d0, ds0, p0, q0, hargs, rfl, rfl, h0, r0⟩ := trodAll_cons hA
  obtain ⟨v1, vs1, d1, ds1, p1, q1, rfl, rfl, rfl, h1, r1⟩ := trodAll_cons r0
  obtain ⟨rfl, rfl, rfl⟩ := trodAll_nil r1
  obtain rfl : args = #[v0, v1] := by cases args; simp_all
  obtain ⟨rfl, rfl⟩ := trodVars_none hV
  have lt0 : ∀ x ∈ p0, x.block < W.heap.size := by obtain ⟨m, hm⟩ := h0; exact DataW.trod_lt m _ _ _ hm
  have t0 := fun W' (bel : Below W.heap.size W W') => Below.trod laidOut (by kernel_rfl) (of_decide_eq_true (by kernel_rfl)) h0 bel lt0
  have lt1 : ∀ x ∈ p1, x.block < W.heap.size := by obtain ⟨m, hm⟩ := h1; exact DataW.trod_lt m _ _ _ hm
  have t1 := fun W' (bel : Below W.heap.size W W') => Below.trod laidOut (by kernel_rfl) (of_decide_eq_true (by kernel_rfl)) h1 bel lt1
  obtain ⟨q0, A0, xs0, c0, rfl, ha0, hl0⟩ := make_open (hval 0 24 v0 rfl rfl) h0
  obtain ⟨s1, rfl⟩ := str_of (hval 1 9 v1 rfl rfl) h1
  clear hA0
  refine (all_walk  ha0 hl0 hT ).mono fun e W' ⟨he, hx⟩ => ?_
  have bel : Below W.heap.size W W' := hx
  subst he
  exact ⟨_, rfl, _, _, _, [], _, [], hW', trodAll_mk1 (shut_bool Tryd.underlying4 _), (trodAll_cons_mk (t0 W' bel) (trodAll_cons_mk (t1 W' bel) trodAll_mk0)), rfl, bel.frame _, fun h => by cases h⟩

set_option maxRecDepth 100000 in
theorem ringAll_reads (os : Os) {H : Type} (enc : TypeId × Value → H) : ∃ x, DataW.whole enc Tryd.prog ((laidWorld os).forCall (fun _ _ => 0) ⟨#[], #[.agg #[.int .i64 0, .slice none 0 0], .string ⟨#[]⟩], []⟩).memory Tryd.f8.params.toList Rows.ringAllSpec.vars false (#[.agg #[.int .i64 0, .slice none 0 0], .string ⟨#[]⟩] : Array Value).toList 8 = some x :=
  Option.isSome_iff_exists.1 (by kernel_rfl)
set_option maxRecDepth 100000 in
theorem ringAll_lifted (os : Os) (started : os.Started) (H : Type) (enc : TypeId × Value → H) (F : Stop.Interp) :
    ReturnsInHanded {} Tryd.checked os 8 .any ((OpenSpec.ofChange Rows.ringAllSpec).preRow enc Tryd.prog Tryd.f8 Rows.ringAllRow.domain false Rows.ringAllRow.laid) (((OpenSpec.ofChange Rows.ringAllSpec).at F).post enc Tryd.prog Tryd.f8 false true false false) := by
  obtain ⟨x, hx⟩ := ringAll_reads os enc
  refine returnsInHanded_of_row (C := Tryd.checked) (s := OpenSpec.ofChange Rows.ringAllSpec) own started (by kernel_rfl) Tryd.func8
    (witness_row_at (enc := enc) (C := Tryd.checked) false (laidWorld os) #[.agg #[.int .i64 0, .slice none 0 0], .string ⟨#[]⟩] (World.laidAll_os _ _ _) (by kernel_rfl) (by kernel_rfl) (by kernel_rfl)
      (OpenSpec.preRow_of_cond 8 hx rfl (fun k hk => by cases hk) (by kernel_rfl) (laid_met os _))) ?_
  intro W base args ds gs before hval hW _ _ hsz hL _ _
  exact ringAll_contract H enc W base args ds gs before hval hW hsz hL
theorem ringAll_said : Rows.RingAllSaid :=
  OpenClaim.holds_of_cond 8 Tryd.f8 rfl rfl rfl rfl rfl rfl rfl ⟨rfl, rfl, rfl, rfl, rfl⟩ rfl rfl rfl rfl rfl (by kernel_rfl) Tryd.func8 (by kernel_rfl)
    (of_decide_eq_true (by kernel_rfl)) (by unfold Func.isWrapper; first | (rw [if_pos (by decide +kernel)]; kernel_rfl) | (rw [if_neg (by decide +kernel)]; exact ⟨rfl, rfl⟩))
    (fun os started H enc _ F => by rw [OpenClaim.pre_eq_preRow]; exact ringAll_lifted os started H enc F)
theorem ringAll_plain (f : FuncId) (fn : Func) (hf : Tryd.pinned.checked.prog.funcNamed Rows.ringAllRow.func = some f) (hfn : Tryd.pinned.checked.prog.funcs[f]? = some fn) :
    false = Tryd.pinned.checked.prog.looks [] ∧ ∀ (j : Nat) t, fn.params[j]? = some t → Tryd.pinned.checked.prog.wantsStandIn t = false := by
  obtain rfl : f = 8 := Option.some.inj ((show Tryd.prog.funcNamed Rows.ringAllRow.func = some 8 by kernel_rfl).symm.trans hf) |>.symm
  obtain rfl : fn = Tryd.f8 := (Option.some.inj (Tryd.func8.symm.trans hfn)).symm
  refine ⟨by kernel_rfl, fun j t ht => ?_⟩
  rw [Tryd.params8] at ht
  have hm : t ∈ [24, 9] := by simpa using Array.mem_of_getElem? ht
  have hall : ([24, 9].all fun u => !Tryd.prog.wantsStandIn u) = true := by kernel_rfl
  exact (show Tryd.prog.wantsStandIn t = false by simpa using List.all_eq_true.1 hall t hm)
/-- The statement. -/
theorem RingAll_proved : Rows.RingAllCardSaid :=
  Claim7.holds_tied_plain_at .later [] _ _ _ _ ringAll_said (fun _ h => by cases h) (by kernel_rfl) (fun _ h => by cases h) ringAll_row_tie rfl ⟨rfl, rfl⟩ (by kernel_rfl) rfl ringAll_plain (by kernel_rfl)
#print axioms RingAll_proved
end Go.Proofs.YtjphpblangeblaaDoor
