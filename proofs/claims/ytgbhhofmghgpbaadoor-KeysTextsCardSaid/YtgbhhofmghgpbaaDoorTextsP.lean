/- Proved: KeysTexts, for every input that the card ties: the text of any keys, or why there is none, is what the document says; it is parsed as they were. -/
import Derived.Test.YtgbhhofmghgpbaaDoorTxtA
import Derived.Test.YtgbhhofmghgpbaaDoorArgsC
namespace Go.Proofs.YtgbhhofmghgpbaaDoor
open Go.ChangeShapes Go.WideShapes Go.ChangeAt Go.RowKit Go.Deep Go.Joins
open Go.Maps Go.ChangeMaps Go.Sort Go.Shelf
set_option linter.unusedVariables false
set_option linter.unusedSimpArgs false
theorem str_neq (W : World) (x y : Bs) : (binOp .neq 9 (.string ⟨x.toArray⟩) (.string ⟨y.toArray⟩)).run Tryd.prog W = .ok (.bool (!decide (x = y))) W := by
  have : (x == y) = decide (x = y) := by rw [Bool.eq_iff_iff]; simp
  simp [go_sem, Tryd.underlying9, bne, this]
theorem right_word {k : Bs} (h : rightB k = true) : k ≠ [] ∧ ∀ c ∈ k, c ≠ 32 := by
  unfold rightB at h
  simp only [Bool.and_eq_true, decide_eq_true_eq] at h
  refine ⟨fun e => by rw [e] at h; simp at h, fun c hc e => ?_⟩
  have := List.all_eq_true.1 h.2 c hc
  rw [e] at this
  simp [byteB] at this
theorem parse_back {ss : List Bs} (h : checkN ss = 0) : parseP rightB (Lib.join ss [32]) = (ss, 0) := by
  obtain ⟨h1, h2, h3⟩ := check_zero h
  exact parse_text h2 h3 fun k hk => by
    have hr := List.all_eq_true.1 h1 k hk
    exact ⟨(right_word hr).1, hr, (right_word hr).2⟩
set_option maxRecDepth 100000 in
set_option maxHeartbeats 2000000 in
theorem texts_walk (v : Value) (ss : List Bs) {w : World} (ha : TextsA w v ss) (hT : True) : Calls Tryd.prog 4 #[v] w fun e w' => e = .returned (.bool true) ∧ Ext w w' := by
  obtain ⟨hA, ⟨hcap, _⟩, hlm, hkm⟩ := ha
  have hfw := few_any w _ v ss 40 1500 hA hlm (by omega) (by omega) hkm
  cases hf : fewB ss 40 1500
  · rw [hf] at hfw
    have HFW := Lib.hid hfw
    clear hfw hf hlm hkm hA hcap
    go_enter Tryd.func4, Tryd.ntmps4
    go_wp2_with (first | (go_at_call 9; refine HFW.out.mono ?_; rintro e w1 ⟨rfl, rfl⟩) | (go_at_call 5; refine (awake_any _).mono ?_; rintro e w1 ⟨rfl, x1⟩))
    go_ret
    exact ⟨rfl, x1⟩
  · obtain ⟨hb, hl⟩ := (fewB_iff ss 40 1500).1 hf
    rw [hf] at hfw
    have HFW := Lib.hid hfw; have HA := Lib.hid hA
    have HB := Lib.hid (And.intro (show bytesL ss ≤ 1500 by omega) (show ss.length ≤ 40 by omega))
    have HK := Lib.hid (show ∀ k ∈ ss, k.length ≤ 1000000 from fun k hk => by have := bytes_mem hk; omega)
    have HCAP := Lib.hid hcap
    clear hfw hf hlm hkm hA hcap hb hl
    obtain ⟨tx, htx⟩ : ∃ tx, tx = (textP ss).1 := ⟨_, rfl⟩
    obtain ⟨cn, hcn⟩ : ∃ cn, cn = (textP ss).2 := ⟨_, rfl⟩
    have HKT := Lib.hid (show Calls Tryd.prog 10 #[v] w fun e w' => e = .returned (.tuple #[.string ⟨tx.toArray⟩, .int .i64 cn]) ∧ Ext w w' by rw [htx, hcn]; exact ktext_any w v ss HA.out HCAP.out (by have := HB.out; omega) HK.out (by have := HB.out; omega))
    have HRT := Lib.hid (show ∀ w', Ext w w' → Calls Tryd.prog 11 #[v] w' fun e w2 => e = .returned (.tuple #[.string ⟨tx.toArray⟩, .int .i64 cn]) ∧ Ext w' w2 from fun w' x => by rw [htx, hcn]; exact rtext_any w' _ v ss (texts_up x HA.out) HCAP.out (by have := HB.out; omega) (by have := HB.out; omega))
    have qn : ∀ W : World, (binOp .neq 9 (.string ⟨tx.toArray⟩) (.string ⟨tx.toArray⟩)).run Tryd.prog W = .ok (.bool false) W := fun W => by rw [str_neq]; simp
    by_cases h0 : checkN ss = 0
    · have e1 : tx = Lib.join ss [32] := by rw [htx, textP_ok h0]
      have e2 : cn = 0 := by rw [hcn, textP_ok h0]
      rw [e2] at HKT HRT
      have htl : tx.length ≤ 10000 := by rw [e1]; have := bytes_join ss; have := HB.out; omega
      have hp : ∀ W, Calls Tryd.prog 6 #[.string ⟨tx.toArray⟩] W fun e W' => ∃ sv, e = .returned (.tuple #[sv, .int .i64 0]) ∧ SRow W' W.heap.size sv ss ∧ Below W.heap.size W W' := fun W => by
        have := (callsIn_wide (n := 6)).1 (parse_in 6 (by omega) tx htl W)
        rw [e1, parse_back h0] at this
        rw [e1]; exact this
      have HP := Lib.hid hp
      clear htx hcn e1 e2 htl hp h0 cn
      go_enter Tryd.func4, Tryd.ntmps4
      go_wp2_with (first | (go_at_call 9; refine HFW.out.mono ?_; rintro e w1 ⟨rfl, rfl⟩) | (go_at_call 10; refine HKT.out.mono ?_; rintro e w1 ⟨rfl, x1⟩; refine stop_of ?_))
      unfold Stop
      have X1 := Lib.hid x1
      clear x1
      go_wp2_with (go_at_call 11; refine (HRT.out _ X1.out).mono ?_; rintro e w2 ⟨rfl, x2⟩; refine stop_of ?_)
      unfold Stop
      have X2 := Lib.hid (X1.out.trans x2)
      clear x2 X1
      go_wp2_with (go_at_call 6; refine (HP.out w2).mono ?_; rintro e w3 ⟨v3, rfl, r3, x3⟩; refine stop_of ?_)
      unfold Stop
      have X3 := Lib.hid (X2.out.trans (show Ext w2 w3 from x3))
      have hsa := same_any w3 _ _ v3 v ss ss (srow_texts r3) (texts_up X3.out HA.out) (by have := HB.out; omega) (by have := HB.out; omega)
      rw [decide_eq_true rfl] at hsa
      have HSA := Lib.hid hsa
      clear x3 r3 hsa X2
      go_wp2_with (go_at_call 8; refine HSA.out.mono ?_; rintro e w4 ⟨rfl, x4⟩; refine stop_of ?_)
      unfold Stop
      have X4 := Lib.hid (X3.out.trans x4)
      clear x4 X3 HSA
      go_wp2_with (go_at_call 5; refine (awake_any _).mono ?_; rintro e w5 ⟨rfl, x5⟩; refine stop_of ?_)
      unfold Stop
      have X5 := Lib.hid (X4.out.trans x5)
      clear x5 X4
      go_wp2
      go_ret
      exact ⟨rfl, X5.out⟩
    · have hne : (cn != 0) = true := by rw [hcn, textP_bad h0]; simpa using h0
      clear htx hcn h0
      go_enter Tryd.func4, Tryd.ntmps4
      go_wp2_with (first | (go_at_call 9; refine HFW.out.mono ?_; rintro e w1 ⟨rfl, rfl⟩) | (go_at_call 10; refine HKT.out.mono ?_; rintro e w1 ⟨rfl, x1⟩; refine stop_of ?_))
      unfold Stop
      have X1 := Lib.hid x1
      clear x1
      go_wp2_with (go_at_call 11; refine (HRT.out _ X1.out).mono ?_; rintro e w2 ⟨rfl, x2⟩; refine stop_of ?_)
      unfold Stop
      have X2 := Lib.hid (X1.out.trans x2)
      clear x2 X1
      go_wp2_with (go_at_call 5; refine (awake_any _).mono ?_; rintro e w5 ⟨rfl, x5⟩; refine stop_of ?_)
      unfold Stop
      have X5 := Lib.hid (X2.out.trans x5)
      clear x5 X2
      go_wp2
      go_ret
      exact ⟨rfl, X5.out⟩
set_option maxRecDepth 100000 in
theorem keysTexts_contract (H : Type) (enc : TypeId × Value → H) (W : World) (base : Nat) (args : Array Value) (ds gs : List (DataW H)) (before : List MemPlace)
    (hval : ∀ (j : Nat) t v, Tryd.f4.params[j]? = some t → args[j]? = some v → Value.okWide Tryd.prog W .any base t v)
    (hW : DataW.Whole enc Tryd.prog Tryd.f4.params.toList Rows.keysTextsSpec.vars false W args.toList ds gs before)
    (hsz : (DataW.weightsEach Tryd.prog (Tryd.f4.params.toList ++ (OpenSpec.ofChange Rows.keysTextsSpec).bare.plain.varTypes Tryd.prog) (ds ++ gs)).all (· ≤ reachBytes) = true) (hL : laidMetH Tryd.prog laid3 W) :
    Calls Tryd.prog 4 args W fun e W' => ∃ v, e = .returned v ∧ Rows.keysTextsSpec.post enc Tryd.prog Tryd.f4 false true false false W args v W' := by
  have hW' := hW
  have hT := tab_of hL
  obtain ⟨p, q, hA0, hV, rfl, hfz, hnd⟩ := hW
  have hA : DataW.TrodAll enc Tryd.prog W 0 (fun _ => true) true Tryd.f4.params.toList args.toList ds p := hA0
  rw [Tryd.params4] at hA hval
  obtain ⟨v0, vs0, d0, ds0, p0, q0, hargs, rfl, rfl, h0, r0⟩ := trodAll_cons hA
  obtain ⟨rfl, rfl, rfl⟩ := trodAll_nil r0
  obtain rfl : args = #[v0] := by cases args; simp_all
  obtain ⟨rfl, rfl⟩ := trodVars_none hV
  have lt0 : ∀ x ∈ p0, x.block < W.heap.size := by obtain ⟨m, hm⟩ := h0; exact DataW.trod_lt m _ _ _ hm
  have t0 := fun W' (bel : Below W.heap.size W W') => Below.trod laidOut (by kernel_rfl) (of_decide_eq_true (by kernel_rfl)) h0 bel lt0
  obtain ⟨ss0, ha0⟩ := texts_open (hval 0 23 v0 rfl rfl) h0
  clear hA0
  refine (texts_walk v0 ss0 ha0 hT ).mono fun e W' ⟨he, hx⟩ => ?_
  have bel : Below W.heap.size W W' := hx
  subst he
  exact ⟨_, rfl, _, _, _, [], _, [], hW', trodAll_mk1 (shut_bool Tryd.underlying4 _), (trodAll_cons_mk (t0 W' bel) trodAll_mk0), rfl, bel.frame _, fun h => by cases h⟩

set_option maxRecDepth 100000 in
theorem keysTexts_reads (os : Os) {H : Type} (enc : TypeId × Value → H) : ∃ x, DataW.whole enc Tryd.prog ((laidWorld os).forCall (fun _ _ => 0) ⟨#[], #[.slice none 0 0], []⟩).memory Tryd.f4.params.toList Rows.keysTextsSpec.vars false (#[.slice none 0 0] : Array Value).toList 8 = some x :=
  Option.isSome_iff_exists.1 (by kernel_rfl)
set_option maxRecDepth 100000 in
theorem keysTexts_lifted (os : Os) (started : os.Started) (H : Type) (enc : TypeId × Value → H) (F : Stop.Interp) :
    ReturnsInHanded {} Tryd.checked os 4 .any ((OpenSpec.ofChange Rows.keysTextsSpec).preRow enc Tryd.prog Tryd.f4 Rows.keysTextsRow.domain false Rows.keysTextsRow.laid) (((OpenSpec.ofChange Rows.keysTextsSpec).at F).post enc Tryd.prog Tryd.f4 false true false false) := by
  obtain ⟨x, hx⟩ := keysTexts_reads os enc
  refine returnsInHanded_of_row (C := Tryd.checked) (s := OpenSpec.ofChange Rows.keysTextsSpec) own started (by kernel_rfl) Tryd.func4
    (witness_row_at (enc := enc) (C := Tryd.checked) false (laidWorld os) #[.slice none 0 0] (World.laidAll_os _ _ _) (by kernel_rfl) (by kernel_rfl) (by kernel_rfl)
      (OpenSpec.preRow_of_cond 8 hx rfl (fun k hk => by cases hk) (by kernel_rfl) (laid_met os _))) ?_
  intro W base args ds gs before hval hW _ _ hsz hL _ _
  exact keysTexts_contract H enc W base args ds gs before hval hW hsz hL
theorem keysTexts_said : Rows.KeysTextsSaid :=
  OpenClaim.holds_of_cond 4 Tryd.f4 rfl rfl rfl rfl rfl rfl rfl ⟨rfl, rfl, rfl, rfl, rfl⟩ rfl rfl rfl rfl rfl (by kernel_rfl) Tryd.func4 (by kernel_rfl)
    (of_decide_eq_true (by kernel_rfl)) (by unfold Func.isWrapper; first | (rw [if_pos (by decide +kernel)]; kernel_rfl) | (rw [if_neg (by decide +kernel)]; exact ⟨rfl, rfl⟩))
    (fun os started H enc _ F => by rw [OpenClaim.pre_eq_preRow]; exact keysTexts_lifted os started H enc F)
theorem keysTexts_plain (f : FuncId) (fn : Func) (hf : Tryd.pinned.checked.prog.funcNamed Rows.keysTextsRow.func = some f) (hfn : Tryd.pinned.checked.prog.funcs[f]? = some fn) :
    false = Tryd.pinned.checked.prog.looks [] ∧ ∀ (j : Nat) t, fn.params[j]? = some t → Tryd.pinned.checked.prog.wantsStandIn t = false := by
  obtain rfl : f = 4 := Option.some.inj ((show Tryd.prog.funcNamed Rows.keysTextsRow.func = some 4 by kernel_rfl).symm.trans hf) |>.symm
  obtain rfl : fn = Tryd.f4 := (Option.some.inj (Tryd.func4.symm.trans hfn)).symm
  refine ⟨by kernel_rfl, fun j t ht => ?_⟩
  rw [Tryd.params4] at ht
  have hm : t ∈ [23] := by simpa using Array.mem_of_getElem? ht
  have hall : ([23].all fun u => !Tryd.prog.wantsStandIn u) = true := by kernel_rfl
  exact (show Tryd.prog.wantsStandIn t = false by simpa using List.all_eq_true.1 hall t hm)
/-- The statement. -/
theorem KeysTexts_proved : Rows.KeysTextsCardSaid :=
  Claim7.holds_tied_plain_at .later [] _ _ _ _ keysTexts_said (fun _ h => by cases h) (by kernel_rfl) (fun _ h => by cases h) keysTexts_row_tie rfl ⟨rfl, rfl⟩ (by kernel_rfl) rfl keysTexts_plain (by kernel_rfl)
#print axioms KeysTexts_proved
end Go.Proofs.YtgbhhofmghgpbaaDoor
