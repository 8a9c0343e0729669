/- Proved: StatsTexts, for every input that the card ties: any sum has the text that the document says (printed by gen_args.py). -/
import Derived.Test.YtlddpdlebdjniaaDoorArgsC
namespace Go.Proofs.YtlddpdlebdjniaaDoor
open Go.ChangeShapes Go.WideShapes Go.ChangeAt Go.RowKit Go.Deep Go.Joins
open Go.Maps Go.ChangeMaps
set_option linter.unusedVariables false
set_option linter.unusedSimpArgs false
theorem gTab : Tryd.prog.globalNamed "internal/strconv.uint64pow10" = some 0 := by kernel_rfl
theorem gTabType : (Tryd.prog.globals[0]?).map (·.type) = some 110 := by kernel_rfl
theorem cellsTab : Tryd.prog.cellsOf 110 = 20 := by kernel_rfl
theorem cellsU : Tryd.prog.cellsOf 99 = 1 := by kernel_rfl
/-- The list of the row. -/
def laid3 {H : Type} : List (String × DataW H) := [("math/bits.deBruijn32tab", Rows.laid_math_bits_deBruijn32tab), ("math/bits.deBruijn64tab", Rows.laid_math_bits_deBruijn64tab), ("internal/strconv.uint64pow10", Rows.laid_internal_strconv_uint64pow10)]
theorem tab_of {W : World} (h : laidMetH Tryd.prog laid3 W) : Tab W := by
  rw [MakeChecks.laidMetH_plain _ _ _ (by kernel_rfl)] at h
  obtain ⟨ps, ⟨g0, t0, cs0, f0, p0, q0, hg0, ht0, hv0, hd0, ⟨g1, t1, cs1, f1, p1, q1, hg1, ht1, hv1, hd1, ⟨g2, t2, cs2, f2, p2, q2, hg2, ht2, hv2, hd2, _, _⟩, _⟩, _⟩, _, _⟩ := h
  obtain rfl := Option.some.inj (gTab.symm.trans hg2)
  obtain rfl := Option.some.inj (gTabType.symm.trans ht2)
  have e := Lib.cells_of_tab (k := .u64) (zs := Lib.pow10Tab) Tryd.underlying110 Tryd.underlying99 cellsU cellsTab hd2
  unfold Tab Lib.TabIs
  rw [hv2, ← e]
noncomputable def laidWorld (os : Os) : World := World.laidAll Tryd.prog os laid3
theorem laid_met (os : Os) (args : Array Value) : laidMetH Tryd.prog laid3 ((laidWorld os).forCall (fun _ _ => 0) ⟨#[], args, []⟩).memory := by
  rw [MakeChecks.laidMetH_plain _ _ _ (by kernel_rfl)]
  exact laidMet_laidAll _ (by kernel_rfl) (by kernel_rfl)
theorem str_eql (W : World) (x y : List UInt8) : (binOp .eql 9 (.string ⟨x.toArray⟩) (.string ⟨y.toArray⟩)).run Tryd.prog W = .ok (.bool (decide (x = y))) W := by
  have : (x == y) = decide (x = y) := by rw [Bool.eq_iff_iff]; simp
  simp [go_sem, Tryd.underlying9, this]
theorem sizeS : (Tryd.prog.info? 23).map (·.size) = some 12 := by kernel_rfl
theorem run_exec_load12 {W : World} {o : Oper} {a : Act} {x : Operand} (ho : o.op = .load 23 x) {g : Nat} (hx : a.eval x = .pointer (some ⟨g, 0, none⟩)) {cs : Array Value} (h : W.heap[g]? = some (.cells cs 23 (0, 0))) (hs : cs.size = 12) : (execOp a.eval o).run Tryd.prog W = .ok (.value (.agg cs)) W := by
  unfold execOp
  simp only [ho, hx, Instr.loadAt, Instr.sureAddr, Sem.run_bind, Sem.run_pure, Result.andThen_ok, run_loadVar_row W g 23 23 cs (0, 0) _ h Tryd.underlying23 rfl (by rw [sizeS, hs])]
/-- In a region that draws its order: the sum, read. -/
theorem wpQuiet_get {ops : Array Oper} {C : World → Prop} {Q : Act → Prop} {a : Act} {o : Oper} {rest : List Oper} (hw : Region.wanted o (yielded ops a.tmps) = true) (x : Operand) (ho : o.op = .load 23 x)
    (g : Nat) (hx : a.eval x = .pointer (some ⟨g, 0, none⟩)) (cs : Array Value) (hg : ∀ W, C W → W.heap[g]? = some (.cells cs 23 (0, 0))) (hs : cs.size = 12)
    (h : wpQuiet Tryd.prog ops C Q rest (a.put o.dst (.agg cs))) : wpQuiet Tryd.prog ops C Q (o :: rest) a :=
  BigFrame.wpQuiet_want hw fun K hK => ⟨.agg cs, fun W hW => by unfold Oper.quietAt; rw [run_exec_load12 ho hx (hg W hW) hs]; exact ⟨rfl, rfl⟩, hK _ h⟩
set_option maxRecDepth 100000 in
set_option maxHeartbeats 4000000 in
theorem texts_walk (a0 a1 a2 a3 a4 a5 a6 a7 a8 a9 a10 a11 : Int) (h0 : -9223372036854775808 ≤ a0 ∧ a0 ≤ 9223372036854775807) (h1 : -9223372036854775808 ≤ a1 ∧ a1 ≤ 9223372036854775807) (h2 : -9223372036854775808 ≤ a2 ∧ a2 ≤ 9223372036854775807) (h3 : -9223372036854775808 ≤ a3 ∧ a3 ≤ 9223372036854775807) (h4 : -9223372036854775808 ≤ a4 ∧ a4 ≤ 9223372036854775807) (h5 : -9223372036854775808 ≤ a5 ∧ a5 ≤ 9223372036854775807) (h6 : -9223372036854775808 ≤ a6 ∧ a6 ≤ 9223372036854775807) (h7 : -9223372036854775808 ≤ a7 ∧ a7 ≤ 9223372036854775807) (h8 : -9223372036854775808 ≤ a8 ∧ a8 ≤ 9223372036854775807) (h9 : -9223372036854775808 ≤ a9 ∧ a9 ≤ 9223372036854775807) (h10 : -9223372036854775808 ≤ a10 ∧ a10 ≤ 9223372036854775807) (h11 : -9223372036854775808 ≤ a11 ∧ a11 ≤ 9223372036854775807) {w : World} (hT : Tab w) : Calls Tryd.prog 3 #[.agg #[.int .i64 a0, .int .i64 a1, .int .i64 a2, .int .i64 a3, .int .i64 a4, .int .i64 a5, .int .i64 a6, .int .i64 a7, .int .i64 a8, .int .i64 a9, .int .i64 a10, .int .i64 a11]] w fun e w' => e = .returned (.bool true) ∧ Ext w w' := by
  obtain ⟨W, hW⟩ : ∃ W, W = w.alloc (.cells #[.int .i64 a0, .int .i64 a1, .int .i64 a2, .int .i64 a3, .int .i64 a4, .int .i64 a5, .int .i64 a6, .int .i64 a7, .int .i64 a8, .int .i64 a9, .int .i64 a10, .int .i64 a11] 23) := ⟨_, rfl⟩
  have hx : Ext w W := by rw [hW]; exact alloc_ext _ _
  have hb : W.heap[w.heap.size]? = some (.cells #[.int .i64 a0, .int .i64 a1, .int .i64 a2, .int .i64 a3, .int .i64 a4, .int .i64 a5, .int .i64 a6, .int .i64 a7, .int .i64 a8, .int .i64 a9, .int .i64 a10, .int .i64 a11] 23 (0, 0)) := by rw [hW]; exact World.alloc_heap_new _ _
  have HW := Lib.hid hW; have HX := Lib.hid hx; have HB := Lib.hid hb; have HT := Lib.hid hT
  have HH := Lib.hid (And.intro h0 (And.intro h1 (And.intro h2 (And.intro h3 (And.intro h4 (And.intro h5 (And.intro h6 (And.intro h7 (And.intro h8 (And.intro h9 (And.intro h10 h11)))))))))))
  clear hW hx hb hT h0 h1 h2 h3 h4 h5 h6 h7 h8 h9 h10 h11
  go_enter Tryd.func3, Tryd.ntmps3
  go_wp2_with (go_at_call 4; rw [← HW.out]; refine (wakes_any _).mono ?_; rintro e w1 ⟨rfl, x1⟩; refine stop_of ?_)
  unfold Stop
  have HB1 := Lib.hid (x1.heap HB.out); have HX1 := Lib.hid (HX.out.trans x1)
  clear x1
  go_wp2_with fail
  refine wp_region_segs [] [.inl [0, 3], .inr (.inl 1), .inr (.inl 2), .inr (.inl 4), .inl [5, 6]] (by kernel_rfl) (by kernel_rfl) (fun c a d v w h => by cases d <;> exact h) ?_
  (rw [wpSegs_inl]; simp only [pickOps, List.map_cons, List.map_nil, List.getD_cons_succ, List.getD_cons_zero]; (repeat (go_big_quiet_step (fail))); (refine wpQuiet_get rfl _ rfl w.heap.size rfl #[.int .i64 a0, .int .i64 a1, .int .i64 a2, .int .i64 a3, .int .i64 a4, .int .i64 a5, .int .i64 a6, .int .i64 a7, .int .i64 a8, .int .i64 a9, .int .i64 a10, .int .i64 a11] (fun W hW => by obtain ⟨y, rfl⟩ := hW; exact y.ext.ext.heap (show w1.drew.heap[w.heap.size]? = _ from HB1.out)) rfl ?_; simp only [Act.put, List.setIfInBounds_toArray, List.set_cons_succ, List.set_cons_zero]); (repeat (go_big_quiet_step (fail))); (refine wpQuiet_get rfl _ rfl w.heap.size rfl #[.int .i64 a0, .int .i64 a1, .int .i64 a2, .int .i64 a3, .int .i64 a4, .int .i64 a5, .int .i64 a6, .int .i64 a7, .int .i64 a8, .int .i64 a9, .int .i64 a10, .int .i64 a11] (fun W hW => by obtain ⟨y, rfl⟩ := hW; exact y.ext.ext.heap (show w1.drew.heap[w.heap.size]? = _ from HB1.out)) rfl ?_; simp only [Act.put, List.setIfInBounds_toArray, List.set_cons_succ, List.set_cons_zero]); (repeat (go_big_quiet_step (fail))); refine wpQuiet_nil ?_)
  (rw [wpSegs_grow]; simp only [pickOps, List.map_cons, List.map_nil, List.getD_cons_succ, List.getD_cons_zero]; go_wp2_with ((go_at_call 6; refine (of_any a0 a1 a2 a3 a4 a5 a6 a7 a8 a9 a10 a11 _).mono ?_; rintro e u1 ⟨rfl, xu1⟩)))
  refine ⟨.of xu1 _, ?_⟩
  have T1 : Tab u1 := HT.out.same (((HX1.out.trans (Ext.drew (Ext.refl w1))).trans xu1).block 0 HT.out.lt)
  (rw [wpSegs_grow]; simp only [pickOps, List.map_cons, List.map_nil, List.getD_cons_succ, List.getD_cons_zero]; go_wp2_with ((go_at_call 5; refine (text_any a0 a1 a2 a3 a4 a5 a6 a7 a8 a9 a10 a11 HH.out.1 HH.out.2.1 HH.out.2.2.1 HH.out.2.2.2.1 HH.out.2.2.2.2.1 HH.out.2.2.2.2.2.1 HH.out.2.2.2.2.2.2.1 HH.out.2.2.2.2.2.2.2.1 HH.out.2.2.2.2.2.2.2.2.1 HH.out.2.2.2.2.2.2.2.2.2.1 HH.out.2.2.2.2.2.2.2.2.2.2.1 HH.out.2.2.2.2.2.2.2.2.2.2.2 _ T1).mono ?_; rintro e u2 ⟨rfl, xu2⟩)))
  refine ⟨.of xu2 _, ?_⟩
  (rw [wpSegs_grow]; simp only [pickOps, List.map_cons, List.map_nil, List.getD_cons_succ, List.getD_cons_zero]; go_wp2_with ((go_at_call 7; refine (rtext_walk a0 a1 a2 a3 a4 a5 a6 a7 a8 a9 a10 a11 HH.out.1 HH.out.2.1 HH.out.2.2.1 HH.out.2.2.2.1 HH.out.2.2.2.2.1 HH.out.2.2.2.2.2.1 HH.out.2.2.2.2.2.2.1 HH.out.2.2.2.2.2.2.2.1 HH.out.2.2.2.2.2.2.2.2.1 HH.out.2.2.2.2.2.2.2.2.2.1 HH.out.2.2.2.2.2.2.2.2.2.2.1 HH.out.2.2.2.2.2.2.2.2.2.2.2 _).mono ?_; rintro e u3 ⟨rfl, xu3⟩)))
  refine ⟨.of xu3 _, ?_⟩
  obtain ⟨tx, htx⟩ : ∃ tx, tx = textL a0 a1 a2 a3 a4 a5 a6 a7 a8 a9 a10 a11 := ⟨_, rfl⟩
  rw [← htx]
  have q1 : ∀ W : World, (binOp .eql 9 (.string ⟨tx.toArray⟩) (.string ⟨tx.toArray⟩)).run Tryd.prog W = .ok (.bool true) W := fun W => by rw [str_eql]; simp
  (rw [wpSegs_inl]; simp only [pickOps, List.map_cons, List.map_nil, List.getD_cons_succ, List.getD_cons_zero]; (repeat (go_big_quiet_step (fail))); refine wpQuiet_nil ?_)
  rw [wpSegs_nil]
  go_wp2
  go_ret
  exact ⟨rfl, (HX1.out.trans (Ext.drew (Ext.refl w1))).trans (xu1.trans (xu2.trans xu3))⟩
set_option maxRecDepth 100000 in
theorem statsTexts_contract (H : Type) (enc : TypeId × Value → H) (W : World) (base : Nat) (args : Array Value) (ds gs : List (DataW H)) (before : List MemPlace)
    (hval : ∀ (j : Nat) t v, Tryd.f3.params[j]? = some t → args[j]? = some v → Value.okWide Tryd.prog W .any base t v)
    (hW : DataW.Whole enc Tryd.prog Tryd.f3.params.toList Rows.statsTextsSpec.vars false W args.toList ds gs before)
    (hsz : (DataW.weightsEach Tryd.prog (Tryd.f3.params.toList ++ (OpenSpec.ofChange Rows.statsTextsSpec).bare.plain.varTypes Tryd.prog) (ds ++ gs)).all (· ≤ reachBytes) = true) (hL : laidMetH Tryd.prog laid3 W) :
    Calls Tryd.prog 3 args W fun e W' => ∃ v, e = .returned v ∧ Rows.statsTextsSpec.post enc Tryd.prog Tryd.f3 false true false false W args v W' := by
  have hW' := hW
  have hT := tab_of hL
  obtain ⟨p, q, hA0, hV, rfl, hfz, hnd⟩ := hW
  have hA : DataW.TrodAll enc Tryd.prog W 0 (fun _ => true) true Tryd.f3.params.toList args.toList ds p := hA0
  rw [Tryd.params3] at hA hval
  obtain ⟨v0, vs0, d0, ds0, p0, q0, hargs, rfl, rfl, h0, r0⟩ := trodAll_cons hA
  obtain ⟨rfl, rfl, rfl⟩ := trodAll_nil r0
  obtain rfl : args = #[v0] := by cases args; simp_all
  obtain ⟨rfl, rfl⟩ := trodVars_none hV
  have lt0 : ∀ x ∈ p0, x.block < W.heap.size := by obtain ⟨m, hm⟩ := h0; exact DataW.trod_lt m _ _ _ hm
  have t0 := fun W' (bel : Below W.heap.size W W') => Below.trod laidOut (by kernel_rfl) (of_decide_eq_true (by kernel_rfl)) h0 bel lt0
  obtain ⟨a0_0, a0_1, a0_2, a0_3, a0_4, a0_5, a0_6, a0_7, a0_8, a0_9, a0_10, a0_11, rfl, h0_0, h0_1, h0_2, h0_3, h0_4, h0_5, h0_6, h0_7, h0_8, h0_9, h0_10, h0_11⟩ := sum_open (hval 0 23 v0 rfl rfl) h0
  clear hA0
  refine (texts_walk a0_0 a0_1 a0_2 a0_3 a0_4 a0_5 a0_6 a0_7 a0_8 a0_9 a0_10 a0_11 h0_0 h0_1 h0_2 h0_3 h0_4 h0_5 h0_6 h0_7 h0_8 h0_9 h0_10 h0_11 hT ).mono fun e W' ⟨he, hx⟩ => ?_
  have bel : Below W.heap.size W W' := hx
  subst he
  exact ⟨_, rfl, _, _, _, [], _, [], hW', trodAll_mk1 (shut_bool Tryd.underlying4 _), (trodAll_cons_mk (t0 W' bel) trodAll_mk0), rfl, bel.frame _, fun h => by cases h⟩

set_option maxRecDepth 100000 in
theorem statsTexts_reads (os : Os) {H : Type} (enc : TypeId × Value → H) : ∃ x, DataW.whole enc Tryd.prog ((laidWorld os).forCall (fun _ _ => 0) ⟨#[], #[.agg #[.int .i64 0, .int .i64 0, .int .i64 0, .int .i64 0, .int .i64 0, .int .i64 0, .int .i64 0, .int .i64 0, .int .i64 0, .int .i64 0, .int .i64 0, .int .i64 0]], []⟩).memory Tryd.f3.params.toList Rows.statsTextsSpec.vars false (#[.agg #[.int .i64 0, .int .i64 0, .int .i64 0, .int .i64 0, .int .i64 0, .int .i64 0, .int .i64 0, .int .i64 0, .int .i64 0, .int .i64 0, .int .i64 0, .int .i64 0]] : Array Value).toList 8 = some x :=
  Option.isSome_iff_exists.1 (by kernel_rfl)
set_option maxRecDepth 100000 in
theorem statsTexts_lifted (os : Os) (started : os.Started) (H : Type) (enc : TypeId × Value → H) (F : Stop.Interp) :
    ReturnsInHanded {} Tryd.checked os 3 .any ((OpenSpec.ofChange Rows.statsTextsSpec).preRow enc Tryd.prog Tryd.f3 Rows.statsTextsRow.domain false Rows.statsTextsRow.laid) (((OpenSpec.ofChange Rows.statsTextsSpec).at F).post enc Tryd.prog Tryd.f3 false true false false) := by
  obtain ⟨x, hx⟩ := statsTexts_reads os enc
  refine returnsInHanded_of_row (C := Tryd.checked) (s := OpenSpec.ofChange Rows.statsTextsSpec) own started (by kernel_rfl) Tryd.func3
    (witness_row_at (enc := enc) (C := Tryd.checked) false (laidWorld os) #[.agg #[.int .i64 0, .int .i64 0, .int .i64 0, .int .i64 0, .int .i64 0, .int .i64 0, .int .i64 0, .int .i64 0, .int .i64 0, .int .i64 0, .int .i64 0, .int .i64 0]] (World.laidAll_os _ _ _) (by kernel_rfl) (by kernel_rfl) (by kernel_rfl)
      (OpenSpec.preRow_of_cond 8 hx rfl (fun k hk => by cases hk) (by kernel_rfl) (laid_met os _))) ?_
  intro W base args ds gs before hval hW _ _ hsz hL _ _
  exact statsTexts_contract H enc W base args ds gs before hval hW hsz hL
theorem statsTexts_said : Rows.StatsTextsSaid :=
  OpenClaim.holds_of_cond 3 Tryd.f3 rfl rfl rfl rfl rfl rfl rfl ⟨rfl, rfl, rfl, rfl, rfl⟩ rfl rfl rfl rfl rfl (by kernel_rfl) Tryd.func3 (by kernel_rfl)
    (of_decide_eq_true (by kernel_rfl)) (by unfold Func.isWrapper; first | (rw [if_pos (by decide +kernel)]; kernel_rfl) | (rw [if_neg (by decide +kernel)]; exact ⟨rfl, rfl⟩))
    (fun os started H enc _ F => by rw [OpenClaim.pre_eq_preRow]; exact statsTexts_lifted os started H enc F)
theorem statsTexts_plain (f : FuncId) (fn : Func) (hf : Tryd.pinned.checked.prog.funcNamed Rows.statsTextsRow.func = some f) (hfn : Tryd.pinned.checked.prog.funcs[f]? = some fn) :
    false = Tryd.pinned.checked.prog.looks [] ∧ ∀ (j : Nat) t, fn.params[j]? = some t → Tryd.pinned.checked.prog.wantsStandIn t = false := by
  obtain rfl : f = 3 := Option.some.inj ((show Tryd.prog.funcNamed Rows.statsTextsRow.func = some 3 by kernel_rfl).symm.trans hf) |>.symm
  obtain rfl : fn = Tryd.f3 := (Option.some.inj (Tryd.func3.symm.trans hfn)).symm
  refine ⟨by kernel_rfl, fun j t ht => ?_⟩
  rw [Tryd.params3] at ht
  have hm : t ∈ [23] := by simpa using Array.mem_of_getElem? ht
  have hall : ([23].all fun u => !Tryd.prog.wantsStandIn u) = true := by kernel_rfl
  exact (show Tryd.prog.wantsStandIn t = false by simpa using List.all_eq_true.1 hall t hm)
/-- The statement. -/
theorem StatsTexts_proved : Rows.StatsTextsCardSaid :=
  Claim7.holds_tied_plain_at .later [] _ _ _ _ statsTexts_said (fun _ h => by cases h) (by kernel_rfl) (fun _ h => by cases h) statsTexts_row_tie rfl ⟨rfl, rfl⟩ (by kernel_rfl) rfl statsTexts_plain (by kernel_rfl)
#print axioms StatsTexts_proved
end Go.Proofs.YtlddpdlebdjniaaDoor

