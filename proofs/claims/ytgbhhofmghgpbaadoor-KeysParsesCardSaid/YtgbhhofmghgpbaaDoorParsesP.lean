/- Proved: KeysParses, for every input that the card ties: the keys of any text, or why there are none, are what the document says. -/
import Derived.Test.YtgbhhofmghgpbaaDoorArgsC
namespace Go.Proofs.YtgbhhofmghgpbaaDoor
open Go.ChangeShapes Go.WideShapes Go.ChangeAt Go.RowKit Go.Deep Go.Joins
open Go.Maps Go.ChangeMaps Go.Sort Go.Shelf
set_option linter.unusedVariables false
set_option linter.unusedSimpArgs false
set_option maxRecDepth 100000 in
set_option maxHeartbeats 2000000 in
theorem parses_walk (s : Bs) {w : World} (hT : True) : Calls Tryd.prog 3 #[.string ⟨s.toArray⟩] w fun e w' => e = .returned (.bool true) ∧ Ext w w' := by
  have hsz : (⟨s.toArray⟩ : ByteArray).size = s.length := rfl
  by_cases hl : 1500 < s.length
  · have hl' : (1500 : Int) < (s.length : Int) := by omega
    clear hl
    go_enter Tryd.func3, Tryd.ntmps3
    go_wp2_with (go_at_call 5; refine (awake_any _).mono ?_; rintro e w1 ⟨rfl, x1⟩)
    go_ret
    exact ⟨rfl, x1⟩
  · have hl' : (s.length : Int) ≤ 1500 := by omega
    have hp := (callsIn_wide (n := 6)).1 (parse_in 6 (by omega) s (by omega) w)
    have hlen : (parseP rightB s).1.length ≤ 32 := by
      unfold parseP
      split
      · simp
      · split <;> simp <;> omega
    obtain ⟨pl, hpl⟩ : ∃ p, p = (parseP rightB s).1 := ⟨_, rfl⟩
    obtain ⟨pc, hpc⟩ : ∃ p, p = (parseP rightB s).2 := ⟨_, rfl⟩
    have hrp := fun W => rparse_any s (by omega) W
    rw [← hpl, ← hpc] at hp
    rw [← hpl] at hlen
    have HP := Lib.hid hp
    have HR := Lib.hid (show ∀ W, Calls Tryd.prog 7 #[.string ⟨s.toArray⟩] W fun e W' => ∃ sv, e = .returned (.tuple #[sv, .int .i64 pc]) ∧ SRow W' W.heap.size sv pl ∧ Ext W W' by rw [hpl, hpc]; exact hrp)
    clear hp hrp hl hpl hpc
    go_enter Tryd.func3, Tryd.ntmps3
    go_wp2_with (go_at_call 6; refine HP.out.mono ?_; rintro e w1 ⟨v1, rfl, r1, x1⟩; refine stop_of ?_)
    unfold Stop
    have R1 := Lib.hid r1; have X1 := Lib.hid (show Ext w w1 from x1)
    clear r1 x1 HP
    go_wp2_with (go_at_call 7; refine (HR.out w1).mono ?_; rintro e w2 ⟨v2, rfl, r2, x2⟩; refine stop_of ?_)
    unfold Stop
    have hsa := same_any w2 _ _ v1 v2 pl pl (texts_up x2 (srow_texts R1.out)) (srow_texts r2) (by omega) (by omega)
    rw [decide_eq_true rfl] at hsa
    have HSA := Lib.hid hsa; have X2 := Lib.hid (X1.out.trans x2)
    clear hsa r2 x2 HR R1 X1
    go_wp2_with (go_at_call 8; refine HSA.out.mono ?_; rintro e w3 ⟨rfl, x3⟩; refine stop_of ?_)
    unfold Stop
    have X3 := Lib.hid (X2.out.trans x3)
    clear x3 X2 HSA
    go_wp2_with (go_at_call 5; refine (awake_any _).mono ?_; rintro e w4 ⟨rfl, x4⟩; refine stop_of ?_)
    unfold Stop
    have X4 := Lib.hid (X3.out.trans x4)
    clear x4 X3
    go_wp2
    go_ret
    exact ⟨rfl, X4.out⟩
set_option maxRecDepth 100000 in
theorem keysParses_contract (H : Type) (enc : TypeId × Value → H) (W : World) (base : Nat) (args : Array Value) (ds gs : List (DataW H)) (before : List MemPlace)
    (hval : ∀ (j : Nat) t v, Tryd.f3.params[j]? = some t → args[j]? = some v → Value.okWide Tryd.prog W .any base t v)
    (hW : DataW.Whole enc Tryd.prog Tryd.f3.params.toList Rows.keysParsesSpec.vars false W args.toList ds gs before)
    (hsz : (DataW.weightsEach Tryd.prog (Tryd.f3.params.toList ++ (OpenSpec.ofChange Rows.keysParsesSpec).bare.plain.varTypes Tryd.prog) (ds ++ gs)).all (· ≤ reachBytes) = true) (hL : laidMetH Tryd.prog laid3 W) :
    Calls Tryd.prog 3 args W fun e W' => ∃ v, e = .returned v ∧ Rows.keysParsesSpec.post enc Tryd.prog Tryd.f3 false true false false W args v W' := by
  have hW' := hW
  have hT := tab_of hL
  obtain ⟨p, q, hA0, hV, rfl, hfz, hnd⟩ := hW
  have hA : DataW.TrodAll enc Tryd.prog W 0 (fun _ => true) true Tryd.f3.params.toList args.toList ds p := hA0
  rw [Tryd.params3] at hA hval
  obtain ⟨v0, vs0, d0, ds0, p0, q0, hargs, rfl, rfl, h0, r0⟩ := trodAll_cons hA
  obtain ⟨rfl, rfl, rfl⟩ := trodAll_nil r0
  obtain rfl : args = #[v0] := by cases args; simp_all
  obtain ⟨rfl, rfl⟩ := trodVars_none hV
  have lt0 : ∀ x ∈ p0, x.block < W.heap.size := by obtain ⟨m, hm⟩ := h0; exact DataW.trod_lt m _ _ _ hm
  have t0 := fun W' (bel : Below W.heap.size W W') => Below.trod laidOut (by kernel_rfl) (of_decide_eq_true (by kernel_rfl)) h0 bel lt0
  obtain ⟨s0, rfl⟩ := str_of (hval 0 9 v0 rfl rfl) h0
  clear hA0
  refine (parses_walk s0  hT ).mono fun e W' ⟨he, hx⟩ => ?_
  have bel : Below W.heap.size W W' := hx
  subst he
  exact ⟨_, rfl, _, _, _, [], _, [], hW', trodAll_mk1 (shut_bool Tryd.underlying4 _), (trodAll_cons_mk (t0 W' bel) trodAll_mk0), rfl, bel.frame _, fun h => by cases h⟩

set_option maxRecDepth 100000 in
theorem keysParses_reads (os : Os) {H : Type} (enc : TypeId × Value → H) : ∃ x, DataW.whole enc Tryd.prog ((laidWorld os).forCall (fun _ _ => 0) ⟨#[], #[.string ⟨#[]⟩], []⟩).memory Tryd.f3.params.toList Rows.keysParsesSpec.vars false (#[.string ⟨#[]⟩] : Array Value).toList 8 = some x :=
  Option.isSome_iff_exists.1 (by kernel_rfl)
set_option maxRecDepth 100000 in
theorem keysParses_lifted (os : Os) (started : os.Started) (H : Type) (enc : TypeId × Value → H) (F : Stop.Interp) :
    ReturnsInHanded {} Tryd.checked os 3 .any ((OpenSpec.ofChange Rows.keysParsesSpec).preRow enc Tryd.prog Tryd.f3 Rows.keysParsesRow.domain false Rows.keysParsesRow.laid) (((OpenSpec.ofChange Rows.keysParsesSpec).at F).post enc Tryd.prog Tryd.f3 false true false false) := by
  obtain ⟨x, hx⟩ := keysParses_reads os enc
  refine returnsInHanded_of_row (C := Tryd.checked) (s := OpenSpec.ofChange Rows.keysParsesSpec) own started (by kernel_rfl) Tryd.func3
    (witness_row_at (enc := enc) (C := Tryd.checked) false (laidWorld os) #[.string ⟨#[]⟩] (World.laidAll_os _ _ _) (by kernel_rfl) (by kernel_rfl) (by kernel_rfl)
      (OpenSpec.preRow_of_cond 8 hx rfl (fun k hk => by cases hk) (by kernel_rfl) (laid_met os _))) ?_
  intro W base args ds gs before hval hW _ _ hsz hL _ _
  exact keysParses_contract H enc W base args ds gs before hval hW hsz hL
theorem keysParses_said : Rows.KeysParsesSaid :=
  OpenClaim.holds_of_cond 3 Tryd.f3 rfl rfl rfl rfl rfl rfl rfl ⟨rfl, rfl, rfl, rfl, rfl⟩ rfl rfl rfl rfl rfl (by kernel_rfl) Tryd.func3 (by kernel_rfl)
    (of_decide_eq_true (by kernel_rfl)) (by unfold Func.isWrapper; first | (rw [if_pos (by decide +kernel)]; kernel_rfl) | (rw [if_neg (by decide +kernel)]; exact ⟨rfl, rfl⟩))
    (fun os started H enc _ F => by rw [OpenClaim.pre_eq_preRow]; exact keysParses_lifted os started H enc F)
theorem keysParses_plain (f : FuncId) (fn : Func) (hf : Tryd.pinned.checked.prog.funcNamed Rows.keysParsesRow.func = some f) (hfn : Tryd.pinned.checked.prog.funcs[f]? = some fn) :
    false = Tryd.pinned.checked.prog.looks [] ∧ ∀ (j : Nat) t, fn.params[j]? = some t → Tryd.pinned.checked.prog.wantsStandIn t = false := by
  obtain rfl : f = 3 := Option.some.inj ((show Tryd.prog.funcNamed Rows.keysParsesRow.func = some 3 by kernel_rfl).symm.trans hf) |>.symm
  obtain rfl : fn = Tryd.f3 := (Option.some.inj (Tryd.func3.symm.trans hfn)).symm
  refine ⟨by kernel_rfl, fun j t ht => ?_⟩
  rw [Tryd.params3] at ht
  have hm : t ∈ [9] := by simpa using Array.mem_of_getElem? ht
  have hall : ([9].all fun u => !Tryd.prog.wantsStandIn u) = true := by kernel_rfl
  exact (show Tryd.prog.wantsStandIn t = false by simpa using List.all_eq_true.1 hall t hm)
/-- The statement. -/
theorem KeysParses_proved : Rows.KeysParsesCardSaid :=
  Claim7.holds_tied_plain_at .later [] _ _ _ _ keysParses_said (fun _ h => by cases h) (by kernel_rfl) (fun _ h => by cases h) keysParses_row_tie rfl ⟨rfl, rfl⟩ (by kernel_rfl) rfl keysParses_plain (by kernel_rfl)
#print axioms KeysParses_proved
end Go.Proofs.YtgbhhofmghgpbaaDoor
