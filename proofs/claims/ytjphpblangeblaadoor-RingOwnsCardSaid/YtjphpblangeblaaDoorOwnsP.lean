/- Proved: RingOwns, for every input: who owns any object, and who does if those ahead do not, is what the document says (printed by gen_laws.py). -/
import Derived.Test.YtjphpblangeblaaDoorTabC
namespace Go.Proofs.YtjphpblangeblaaDoor
open Go.RowKit Go.Maps Go.ChangeMaps
set_option linter.unusedVariables false
set_option linter.unusedSimpArgs false
section
variable {w : World} {p : Int} {A : Option Addr} {n c : Nat} {xs : List OpP}
set_option maxRecDepth 100000 in
set_option maxHeartbeats 8000000 in
theorem owns_walk (h : OpsAt w (.slice A n c) xs) (hnl : n ≤ 9223372036854775807) (hT : Tab w) {ob : Bs} {k : Int} : Calls Tryd.prog 3 #[.agg #[.int .i64 p, .slice A n c], .string ⟨ob.toArray⟩, .int .i64 k] w fun e w' => e = .returned (.bool true) ∧ Ext w w' := by
  have HOPS := Lib.hid h; have HT := Lib.hid hT; have HNL := Lib.hid hnl
  clear h hT hnl
  go_enter Tryd.func3, Tryd.ntmps3
  go_wp2_with (refine wpList_boxA 24 rfl _ rfl #[.int .i64 p, .slice A n c] rfl ?_; intro W0 x0 n0 s0; refine stop_of ?_)
  unfold Stop
  have X0 := Lib.hid x0; have N0 := Lib.hid n0
  obtain ⟨mb, hmb⟩ : ∃ mb, mb = w.heap.size := ⟨_, rfl⟩
  rw [← hmb] at N0 ⊢
  clear x0 n0 s0 hmb
  go_wp2_with (first | (refine wpList_get 24 _ rfl _ rfl mb 0 24 _ [.int .i64 p, .slice A n c] N0.out rfl (by kernel_rfl) Tryd.underlying24 rfl size24 ?_) | (go_at_call 9; refine (light_any (HOPS.out.ext X0.out) HNL.out).mono ?_; rintro e w1 ⟨⟨r, rfl, hr⟩, x1⟩; refine stop_of ?_))
  unfold Stop
  have HR := Lib.hid hr; have X1 := Lib.hid (X0.out.trans x1); have N1 := Lib.hid (x1.heap N0.out)
  clear hr x1
  cases r with
  | false =>
    have HTW := Lib.hid (HT.out.ext X1.out)
    go_wp2_with (go_at_call 10; refine (awake_any HTW.out).mono ?_; rintro e wz ⟨rfl, xz⟩)
    go_ret
    exact ⟨rfl, X1.out.trans xz⟩
  | true =>
    by_cases hob : 200 < (ob.length : Int)
    · have HTW := Lib.hid (HT.out.ext X1.out)
      go_wp2_with (go_at_call 10; refine (awake_any HTW.out).mono ?_; rintro e wz ⟨rfl, xz⟩)
      go_ret
      exact ⟨rfl, X1.out.trans xz⟩
    · have hob2 : decide (200 < (ob.length : Int)) = false := decide_eq_false hob
      have HOB := Lib.hid (show ob.length ≤ 1000000 by omega)
      clear hob
      have HSM := Lib.hid (HR.out rfl)
      by_cases hp : p < 1 ∨ 200 < p
      · have HMD := Lib.hid (made_bad (w := w1) (A := A) (n := n) (c := c) hp)
        clear hp
        go_wp2_with (first | (refine wpList_get 24 _ rfl _ rfl mb 0 24 _ [.int .i64 p, .slice A n c] N1.out rfl (by kernel_rfl) Tryd.underlying24 rfl size24 ?_) | (go_at_call 11; refine HMD.out.mono ?_; rintro e w2 ⟨rfl, x2⟩; refine stop_of ?_))
        unfold Stop
        have X2 := Lib.hid (X1.out.trans x2)
        have HTW := Lib.hid (HT.out.ext X2.out)
        clear x2
        go_wp2_with (go_at_call 10; refine (awake_any HTW.out).mono ?_; rintro e wz ⟨rfl, xz⟩)
        go_ret
        exact ⟨rfl, X2.out.trans xz⟩
      · obtain ⟨pn, rfl⟩ : ∃ pn : Nat, p = pn := ⟨p.toNat, by omega⟩
        have HMD := Lib.hid (made_any (HOPS.out.ext X1.out) HSM.out (HT.out.ext X1.out) (p := pn) (by omega) (by omega))
        clear hp
        go_wp2_with (first | (refine wpList_get 24 _ rfl _ rfl mb 0 24 _ [.int .i64 pn, .slice A n c] N1.out rfl (by kernel_rfl) Tryd.underlying24 rfl size24 ?_) | (go_at_call 11; refine HMD.out.mono ?_; rintro e w2 ⟨b, x, rfl, h2⟩; refine stop_of ?_))
        unfold Stop
        have HP := Lib.hid h2
        have X2 := Lib.hid (X1.out.trans h2.base)
        obtain ⟨L, hL⟩ : ∃ L, L = doL xs := ⟨_, rfl⟩
        rw [← hL] at HP
        clear h2 hL HMD
        have hkk : ∃ kk : Nat, kk = (min k (L.length : Int)).toNat := ⟨_, rfl⟩
        obtain ⟨kk, hkk⟩ := hkk
        have HPO := Lib.hid (p_owners HP.out HOB.out k)
        go_wp2_with (go_at_call 12; refine HPO.out.mono ?_; rintro e w3 ⟨v3, rfl, r3, x3⟩; refine stop_of ?_)
        unfold Stop
        have R3 := Lib.hid r3; have X3 := Lib.hid x3
        have HP3 := Lib.hid (HP.out.ext x3)
        have how := p_owner HP3.out HOB.out
        obtain ⟨isb, hisb⟩ : ∃ z, z = decide (L ≠ []) := ⟨_, rfl⟩
        rw [← hisb] at how
        have HOW := Lib.hid how; have HISB := Lib.hid hisb
        clear how hisb
        clear r3 x3 HPO
        go_wp2_with (go_at_call 13; refine HOW.out.mono ?_; rintro e w4 ⟨rfl, x4⟩; refine stop_of ?_)
        unfold Stop
        have X4 := Lib.hid x4
        have HP4 := Lib.hid (HP3.out.ext x4)
        have HDO := Lib.hid (d_owners HP4.out HOB.out 1)
        clear x4 HOW
        go_wp2_with (go_at_call 14; refine HDO.out.mono ?_; rintro e w5 ⟨v5, rfl, r5, x5⟩; refine stop_of ?_)
        unfold Stop
        have R5 := Lib.hid r5; have X5 := Lib.hid x5
        have HP5 := Lib.hid (HP4.out.ext x5)
        have HDK := Lib.hid (d_owners HP5.out HOB.out k)
        clear r5 x5 HDO
        go_wp2_with (go_at_call 14; refine HDK.out.mono ?_; rintro e w6 ⟨v6, rfl, r6, x6⟩; refine stop_of ?_)
        unfold Stop
        have hk := HP.out.ok
        have hol := ordL_len (pd := pd) pn (hashL ob) hk.nd
        obtain ⟨l, hl⟩ : ∃ l, l = ordL pd pn (hashL ob) L := ⟨_, rfl⟩
        rw [← hl] at R3 R5 r6 hol ⊢
        have hl64 : (l.take (min k (L.length : Int)).toNat).length ≤ 1000000 := by rw [List.length_take]; have := hk.len; omega
        have hself : decide (l.take (min k (L.length : Int)).toNat = l.take (min k (L.length : Int)).toNat) = true := decide_eq_true rfl
        have hs := same_any w6 v3 v6 _ _ (SRow.texts (SRow.ext R3.out (X4.out.trans (X5.out.trans x6)))) (SRow.texts r6) hl64 hl64
        rw [hself] at hs
        have HS := Lib.hid hs
        have R56 := Lib.hid (SRow.ext R5.out x6)
        have X6 := Lib.hid ((((X2.out.trans X3.out).trans X4.out).trans X5.out).trans x6)
        clear r6 x6 HDK hself hs hl64 hl
        go_wp2_with (go_at_call 15; refine HS.out.mono ?_; rintro e w7 ⟨rfl, x7⟩; refine stop_of ?_)
        unfold Stop
        have X7 := Lib.hid (X6.out.trans x7)
        have HTW := Lib.hid (HT.out.ext X7.out)
        have R57 := Lib.hid (SRow.ext R56.out x7)
        clear x7 HS R56
        cases l with
        | nil =>
          have hL : L = [] := List.eq_nil_of_length_eq_zero hol.symm
          subst hL
          have hd : isb = false := by rw [HISB.out]; simp
          subst hd
          have R57 := Lib.hid (show SRow w7 _ v5 [] from by have := R57.out; simpa using this)
          obtain ⟨A5, c5, hv5⟩ := own_slice R57.out
          subst hv5
          clear hol hk hkk
          unfold whoL
          go_wp2_with (go_at_call 10; refine (awake_any HTW.out).mono ?_; rintro e wz ⟨rfl, xz⟩)
          go_ret
          exact ⟨rfl, X7.out.trans xz⟩
        | cons y r =>
          have hL : L ≠ [] := by rintro rfl; simp at hol
          have hd : isb = true := by rw [HISB.out]; simp [hL]
          subst hd
          have e1 : (min 1 (L.length : Int)).toNat = 1 := by simp at hol; omega
          rw [e1] at R57
          have R57 := Lib.hid (show SRow w7 _ v5 [y] from by have := R57.out; simpa using this)
          obtain ⟨A5, c5, hv5⟩ := own_slice R57.out
          subst hv5
          obtain ⟨b5, o5, rfl, k5⟩ := R57.out.texts.cell (j := 0) (by simp)
          simp at k5
          have hyy : (y == y) = true := by simp
          simp only [List.length_cons, List.length_nil]
          clear hol hk hL e1 hkk
          unfold whoL
          go_wp2_with (go_at_call 10; refine (awake_any HTW.out).mono ?_; rintro e wz ⟨rfl, xz⟩)
          go_ret
          exact ⟨rfl, X7.out.trans xz⟩
end
open Go.ChangeShapes Go.WideShapes Go.ChangeAt
set_option maxRecDepth 100000 in
theorem ringOwns_contract (H : Type) (enc : TypeId × Value → H) (W : World) (base : Nat) (args : Array Value) (ds gs : List (DataW H)) (before : List MemPlace)
    (hval : ∀ (j : Nat) t v, Tryd.f3.params[j]? = some t → args[j]? = some v → Value.okWide Tryd.prog W .any base t v)
    (hW : DataW.Whole enc Tryd.prog Tryd.f3.params.toList Rows.ringOwnsSpec.vars false W args.toList ds gs before)
    (hsz : (DataW.weightsEach Tryd.prog (Tryd.f3.params.toList ++ (OpenSpec.ofChange Rows.ringOwnsSpec).bare.plain.varTypes Tryd.prog) (ds ++ gs)).all (· ≤ reachBytes) = true) (hL : laidMetH Tryd.prog laid3 W) :
    Calls Tryd.prog 3 args W fun e W' => ∃ v, e = .returned v ∧ Rows.ringOwnsSpec.post enc Tryd.prog Tryd.f3 false true false false W args v W' := by
  have hW' := hW
  have hT := tab_of hL
  obtain ⟨p, q, hA0, hV, rfl, hfz, hnd⟩ := hW
  have hA : DataW.TrodAll enc Tryd.prog W 0 (fun _ => true) true Tryd.f3.params.toList args.toList ds p := hA0
  rw [Tryd.params3] at hA hval
  obtain ⟨v0, vs0, d0, ds0, p0, q0, hargs, rfl, rfl, h0, r0⟩ := trodAll_cons hA
  obtain ⟨v1, vs1, d1, ds1, p1, q1, rfl, rfl, rfl, h1, r1⟩ := trodAll_cons r0
  obtain ⟨v2, vs2, d2, ds2, p2, q2, rfl, rfl, rfl, h2, r2⟩ := trodAll_cons r1
  obtain ⟨rfl, rfl, rfl⟩ := trodAll_nil r2
  obtain rfl : args = #[v0, v1, v2] := by cases args; simp_all
  obtain ⟨rfl, rfl⟩ := trodVars_none hV
  have lt0 : ∀ x ∈ p0, x.block < W.heap.size := by obtain ⟨m, hm⟩ := h0; exact DataW.trod_lt m _ _ _ hm
  have t0 := fun W' (bel : Below W.heap.size W W') => Below.trod laidOut (by kernel_rfl) (of_decide_eq_true (by kernel_rfl)) h0 bel lt0
  have lt1 : ∀ x ∈ p1, x.block < W.heap.size := by obtain ⟨m, hm⟩ := h1; exact DataW.trod_lt m _ _ _ hm
  have t1 := fun W' (bel : Below W.heap.size W W') => Below.trod laidOut (by kernel_rfl) (of_decide_eq_true (by kernel_rfl)) h1 bel lt1
  have lt2 : ∀ x ∈ p2, x.block < W.heap.size := by obtain ⟨m, hm⟩ := h2; exact DataW.trod_lt m _ _ _ hm
  have t2 := fun W' (bel : Below W.heap.size W W') => Below.trod laidOut (by kernel_rfl) (of_decide_eq_true (by kernel_rfl)) h2 bel lt2
  obtain ⟨q0, A0, xs0, c0, rfl, ha0, hl0⟩ := make_open (hval 0 24 v0 rfl rfl) h0
  obtain ⟨s1, rfl⟩ := str_of (hval 1 9 v1 rfl rfl) h1
  obtain ⟨z2, rfl⟩ := int_of (hval 2 3 v2 rfl rfl) h2
  clear hA0
  refine (owns_walk  ha0 hl0 hT ).mono fun e W' ⟨he, hx⟩ => ?_
  have bel : Below W.heap.size W W' := hx
  subst he
  exact ⟨_, rfl, _, _, _, [], _, [], hW', trodAll_mk1 (shut_bool Tryd.underlying4 _), (trodAll_cons_mk (t0 W' bel) (trodAll_cons_mk (t1 W' bel) (trodAll_cons_mk (t2 W' bel) trodAll_mk0))), rfl, bel.frame _, fun h => by cases h⟩

set_option maxRecDepth 100000 in
theorem ringOwns_reads (os : Os) {H : Type} (enc : TypeId × Value → H) : ∃ x, DataW.whole enc Tryd.prog ((laidWorld os).forCall (fun _ _ => 0) ⟨#[], #[.agg #[.int .i64 0, .slice none 0 0], .string ⟨#[]⟩, .int .i64 0], []⟩).memory Tryd.f3.params.toList Rows.ringOwnsSpec.vars false (#[.agg #[.int .i64 0, .slice none 0 0], .string ⟨#[]⟩, .int .i64 0] : Array Value).toList 8 = some x :=
  Option.isSome_iff_exists.1 (by kernel_rfl)
set_option maxRecDepth 100000 in
theorem ringOwns_lifted (os : Os) (started : os.Started) (H : Type) (enc : TypeId × Value → H) (F : Stop.Interp) :
    ReturnsInHanded {} Tryd.checked os 3 .any ((OpenSpec.ofChange Rows.ringOwnsSpec).preRow enc Tryd.prog Tryd.f3 Rows.ringOwnsRow.domain false Rows.ringOwnsRow.laid) (((OpenSpec.ofChange Rows.ringOwnsSpec).at F).post enc Tryd.prog Tryd.f3 false true false false) := by
  obtain ⟨x, hx⟩ := ringOwns_reads os enc
  refine returnsInHanded_of_row (C := Tryd.checked) (s := OpenSpec.ofChange Rows.ringOwnsSpec) own started (by kernel_rfl) Tryd.func3
    (witness_row_at (enc := enc) (C := Tryd.checked) false (laidWorld os) #[.agg #[.int .i64 0, .slice none 0 0], .string ⟨#[]⟩, .int .i64 0] (World.laidAll_os _ _ _) (by kernel_rfl) (by kernel_rfl) (by kernel_rfl)
      (OpenSpec.preRow_of_cond 8 hx rfl (fun k hk => by cases hk) (by kernel_rfl) (laid_met os _))) ?_
  intro W base args ds gs before hval hW _ _ hsz hL _ _
  exact ringOwns_contract H enc W base args ds gs before hval hW hsz hL
theorem ringOwns_said : Rows.RingOwnsSaid :=
  OpenClaim.holds_of_cond 3 Tryd.f3 rfl rfl rfl rfl rfl rfl rfl ⟨rfl, rfl, rfl, rfl, rfl⟩ rfl rfl rfl rfl rfl (by kernel_rfl) Tryd.func3 (by kernel_rfl)
    (of_decide_eq_true (by kernel_rfl)) (by unfold Func.isWrapper; first | (rw [if_pos (by decide +kernel)]; kernel_rfl) | (rw [if_neg (by decide +kernel)]; exact ⟨rfl, rfl⟩))
    (fun os started H enc _ F => by rw [OpenClaim.pre_eq_preRow]; exact ringOwns_lifted os started H enc F)
theorem ringOwns_plain (f : FuncId) (fn : Func) (hf : Tryd.pinned.checked.prog.funcNamed Rows.ringOwnsRow.func = some f) (hfn : Tryd.pinned.checked.prog.funcs[f]? = some fn) :
    false = Tryd.pinned.checked.prog.looks [] ∧ ∀ (j : Nat) t, fn.params[j]? = some t → Tryd.pinned.checked.prog.wantsStandIn t = false := by
  obtain rfl : f = 3 := Option.some.inj ((show Tryd.prog.funcNamed Rows.ringOwnsRow.func = some 3 by kernel_rfl).symm.trans hf) |>.symm
  obtain rfl : fn = Tryd.f3 := (Option.some.inj (Tryd.func3.symm.trans hfn)).symm
  refine ⟨by kernel_rfl, fun j t ht => ?_⟩
  rw [Tryd.params3] at ht
  have hm : t ∈ [24, 9, 3] := by simpa using Array.mem_of_getElem? ht
  have hall : ([24, 9, 3].all fun u => !Tryd.prog.wantsStandIn u) = true := by kernel_rfl
  exact (show Tryd.prog.wantsStandIn t = false by simpa using List.all_eq_true.1 hall t hm)
/-- The statement. -/
theorem RingOwns_proved : Rows.RingOwnsCardSaid :=
  Claim7.holds_tied_plain_at .later [] _ _ _ _ ringOwns_said (fun _ h => by cases h) (by kernel_rfl) (fun _ h => by cases h) ringOwns_row_tie rfl ⟨rfl, rfl⟩ (by kernel_rfl) rfl ringOwns_plain (by kernel_rfl)
#print axioms RingOwns_proved
end Go.Proofs.YtjphpblangeblaaDoor
