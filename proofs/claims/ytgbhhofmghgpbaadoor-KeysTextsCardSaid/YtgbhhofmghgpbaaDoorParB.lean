/- keys.Parse, walked (printed by gen_parse.py). -/
import Derived.Test.YtgbhhofmghgpbaaDoorParA
namespace Go.Proofs.YtgbhhofmghgpbaaDoor
open Go.RowKit Go.Sort Go.Shelf Go.Maps Go.ChangeMaps
set_option linter.unusedVariables false
set_option linter.unusedSimpArgs false
attribute [local go_sem] Oper.semAt_some
theorem heap_new5 (w : World) (A B C D E : Obj) : (((((w.alloc A).alloc B).alloc C).alloc D).alloc E).heap.size = w.heap.size + 5 ∧ (((((w.alloc A).alloc B).alloc C).alloc D).alloc E).heap[w.heap.size]? = some A ∧ (((((w.alloc A).alloc B).alloc C).alloc D).alloc E).heap[w.heap.size + 1]? = some B ∧ (((((w.alloc A).alloc B).alloc C).alloc D).alloc E).heap[w.heap.size + 2]? = some C ∧ (((((w.alloc A).alloc B).alloc C).alloc D).alloc E).heap[w.heap.size + 3]? = some D ∧ (((((w.alloc A).alloc B).alloc C).alloc D).alloc E).heap[w.heap.size + 4]? = some E := by
  obtain ⟨a, b, c⟩ := heap_new3 w A B C
  obtain ⟨d, e⟩ := heap_new2 (((w.alloc A).alloc B).alloc C) D E
  have hs : (((w.alloc A).alloc B).alloc C).heap.size = w.heap.size + 3 := by simp
  rw [hs] at d e
  have up : ∀ k, k < w.heap.size + 3 → (((((w.alloc A).alloc B).alloc C).alloc D).alloc E).heap[k]? = (((w.alloc A).alloc B).alloc C).heap[k]? := fun k hk =>
    (Below.heap_alloc _ E k (by simp; omega)).trans (Below.heap_alloc _ D k (by rw [hs]; exact hk))
  exact ⟨by simp, (up _ (by omega)).trans a, (up _ (by omega)).trans b, (up _ (by omega)).trans c, d, e⟩
theorem str_nil (W : World) (x : Bs) (h : x ≠ []) : (binOp .eql 9 (.string ⟨x.toArray⟩) (.string ⟨#[]⟩)).run Tryd.prog W = .ok (.bool false) W := by
  cases x with
  | nil => exact absurd rfl h
  | cons c r => simp [go_sem, Tryd.underlying9]
/-- The world as it stands when the loop begins. -/
theorem par_start {w W0 w5 : World} {s : Bs} (h0 : W0 = ((((w.alloc (.cells #[.slice none 0 0] 23)).alloc (.cells #[.int .i64 0] 24)).alloc (.cells #[.slice none 0 0] 23)).alloc (.map #[] 0)).alloc (.cells #[.map (some (w.heap.size + 3))] 40)) (hB : Boxes W0.heap.size s w5) (hx : Ext W0 w5) :
    Boxes (w.heap.size + 5) s w5 ∧ w.heap.size + 5 + 2 < w5.heap.size ∧ ParI w w.heap.size (w.heap.size + 5) w5.heap.size [] w5 := by
  obtain ⟨hs, a, b, c, d, e⟩ := heap_new5 w (.cells #[.slice none 0 0] 23) (.cells #[.int .i64 0] 24) (.cells #[.slice none 0 0] 23) (.map #[] 0) (.cells #[.map (some (w.heap.size + 3))] 40)
  rw [← h0] at hs a b c d e
  have hset : SSet W0 (w.heap.size + 3) 0 [] := by
    have h := SSet.made (((w.alloc (.cells #[.slice none 0 0] 23)).alloc (.cells #[.int .i64 0] 24)).alloc (.cells #[.slice none 0 0] 23))
    have hz : (((w.alloc (.cells #[.slice none 0 0] 23)).alloc (.cells #[.int .i64 0] 24)).alloc (.cells #[.slice none 0 0] 23)).heap.size = w.heap.size + 3 := by simp
    rw [hz] at h
    rw [h0]
    exact h.same (Below.heap_alloc _ _ _ (by simp))
  have hw0 : Ext w W0 := by rw [h0]; exact Ext.alloc (Ext.alloc (Ext.alloc (Ext.alloc (Ext.alloc (Ext.refl _) _) _) _) _) _
  rw [hs] at hB
  have hlt := blk_lt hB.save
  exact ⟨hB, hlt, Nat.le_refl _, hx.heap a, hx.heap b, ⟨_, hx.heap c, World.ownsRow_nil _ _ _ _⟩, hset.same (hx.block _ (blk_lt d)), hx.heap e, hw0.trans hx⟩

theorem results_two {tmps : Array Value} {w : World} {p q : Nat} {u v : Value} (hp : tmps.getD 2 undef = .pointer (some ⟨p, 0, none⟩)) (hq : tmps.getD 3 undef = .pointer (some ⟨q, 0, none⟩)) (hu : w.cell? ⟨p, 0, none⟩ = some u) (hv : w.cell? ⟨q, 0, none⟩ = some v) :
    (results Tryd.f6 tmps).run Tryd.prog w = .ok (.tuple #[u, v]) w := by
  have h : Tryd.f6.results = #[.cell 2 23, .cell 3 24] := rfl
  have hp' : tmps[2]?.getD undef = .pointer (some ⟨p, 0, none⟩) := by simpa using hp
  have hq' : tmps[3]?.getD undef = .pointer (some ⟨q, 0, none⟩) := by simpa using hq
  simp [results, h, hp', hq', go_sem, hu, hv, Tryd.underlying23, Tryd.underlying24, Tryd.isAgg23, Tryd.isAgg24]
theorem par_end {n : Nat} {w W : World} {D : Nat} {tmps : Array Value} {s : Bs} {u : Value} {k : Int} (rD : W.heap[D]? = some (.deferred (some []))) (r0 : W.heap[w.heap.size]? = some (.cells #[u] 23 (0, 0))) (r1 : W.heap[w.heap.size + 1]? = some (.cells #[.int .i64 k] 24 (0, 0))) (hD : w.heap.size + 1 < D) (bel : Below w.heap.size w W)
    (h2 : tmps.getD 2 undef = .pointer (some ⟨w.heap.size, 0, none⟩)) (h3 : tmps.getD 3 undef = .pointer (some ⟨w.heap.size + 1, 0, none⟩)) (hres : k = (parseP rightB s).2 ∧ SRow W w.heap.size u (parseP rightB s).1) :
    bodyPostM Fence.wide n Tryd.prog Tryd.f6 (fun e W' => ∃ sv, e = .returned (.tuple #[sv, .int .i64 (parseP rightB s).2]) ∧ SRow W' w.heap.size sv (parseP rightB s).1 ∧ Below w.heap.size w W') .ret { tmps := tmps, defers := [{ target := .collected D, args := #[] }] } W := by
  refine ⟨by simp, .inl ⟨_, _, rfl, run_takeDeferred rD, ?_⟩⟩
  have hg : W.grownBy (W.putObj D (.deferred none)) (some D) := grownBy_putObj' W D _
  have q0 := (World.putObj_heap_other (w := W) (o := .deferred none) (show w.heap.size ≠ D by omega)).trans r0
  have q1 := (World.putObj_heap_other (w := W) (o := .deferred none) (show w.heap.size + 1 ≠ D by omega)).trans r1
  refine ⟨_, results_two (u := u) (v := .int .i64 k) h2 h3 (blk_cell q0 0) (blk_cell q1 0), u, by rw [← hres.1], ?_, bel.trans ⟨hg.os, hg.tape, hg.output, hg.size, fun i hi => hg.block i (Nat.lt_of_lt_of_le hi bel.size) (fun e => by injection e with e; omega)⟩⟩
  refine World.ownsRow.kept hres.2 hg ?_
  rcases hres.2.2 with ⟨rfl, _⟩ | ⟨g, cap, cur, rfl, hb, hgg, _⟩
  · exact .inl rfl
  · refine .inr fun e => ?_
    injection e with e
    have e : g = D := e
    rw [e, rD] at hgg
    cases hgg
set_option maxRecDepth 100000 in
set_option maxHeartbeats 8000000 in
theorem parse_in (n : Nat) (hn : 6 ≤ n) (s : Bs) (hl : s.length ≤ 10000) (w : World) :
    CallsIn Fence.wide n Tryd.prog 6 #[.string ⟨s.toArray⟩] w fun e W' => ∃ sv, e = .returned (.tuple #[sv, .int .i64 (parseP rightB s).2]) ∧ SRow W' w.heap.size sv (parseP rightB s).1 ∧ Below w.heap.size w W' := by
  have h1 : 1 ≤ n := by omega
  have hw : ∀ f, Fence.wide.fn f := fun _ => trivial
  have hmm := @run_makeMap Tryd.prog
  have hsl : (s.length : Int) ≤ 65536 := by omega
  have hsz : (⟨s.toArray⟩ : ByteArray).size = s.length := rfl
  obtain ⟨W0, hW0⟩ : ∃ W0, W0 = ((((w.alloc (.cells #[.slice none 0 0] 23)).alloc (.cells #[.int .i64 0] 24)).alloc (.cells #[.slice none 0 0] 23)).alloc (.map #[] 0)).alloc (.cells #[.map (some (w.heap.size + 3))] 40) := ⟨_, rfl⟩
  have HW0 := Lib.hid hW0
  have hs5 : W0.heap.size = w.heap.size + 5 := by rw [hW0]; exact (heap_new5 w _ _ _ _ _).1
  have HS5 := Lib.hid hs5
  clear hW0 hs5
  refine callsIn_of_wp_marks Tryd.func6 rfl trivial ?_ rfl
  simp only [Tryd.ntmps6, List.size_toArray, List.length_cons, List.length_nil, Nat.reduceAdd, Nat.reduceSub, Array.replicate_succ, Array.replicate_zero, List.push_toArray, List.append_toArray, List.nil_append, List.cons_append]
  gi_wp2
  simp only [Nat.add_assoc, Nat.reduceAdd]
  rw [← HW0.out]
  refine (callsIn_wide.2 (split_calls s W0)).mono ?_
  rintro e w5 ⟨rfl, b5, x5⟩
  obtain ⟨hB, hb, hI0⟩ := par_start HW0.out b5 x5
  rw [HS5.out]
  have HI0 := Lib.hid hI0; have HB := Lib.hid hB
  clear hI0 hB b5 x5 hmm
  gi_wp2
  refine wpIn_range_split (n := n) (by omega) (w.heap.size + 5) s (by omega) hb rfl rfl
    (fun pre W => ∃ L, parseL rightB [] pre = some L ∧ ParI w w.heap.size (w.heap.size + 5) w5.heap.size L W)
    (fun c pre W => c = .ret ∧ parseL rightB [] pre = none ∧ ParX w w.heap.size w5.heap.size W)
    (fun pre A B row ⟨L, hp, h⟩ hg ht => ⟨L, hp, ParI.bears (by omega) (by omega) A B row h hg ht⟩)
    (fun c pre A B row ⟨hc, hp, h⟩ hg ht => ⟨hc, hp, ParX.bears (b := w.heap.size + 5) (by omega) (by omega) A B row h hg ht⟩)
    HB.out ⟨[], rfl, HI0.out⟩
    (fun x => { tmps := #[.string ⟨s.toArray⟩, undef, .pointer (some ⟨w.heap.size, 0, none⟩), .pointer (some ⟨w.heap.size + 1, 0, none⟩), .pointer (some ⟨w.heap.size + 2, 0, none⟩), .pointer (some ⟨w.heap.size + 4, 0, none⟩), .string ⟨x.toArray⟩, .string ⟨s.toArray⟩, .int .i64 (s.length : Int), .bool (decide (65536 < (s.length : Int))), .map (some (w.heap.size + 3)), .string ⟨s.toArray⟩, .func (.func 42) #[] #[.pointer (some ⟨w.heap.size + 5 + 1, 0, none⟩), .pointer (some ⟨w.heap.size + 5, 0, none⟩), .pointer (some ⟨w.heap.size + 5 + 2, 0, none⟩)], .string ⟨x.toArray⟩, undef, undef, undef, undef, undef, undef, undef, undef, undef, undef, undef, undef, undef, undef, undef, undef, undef, undef, undef], defers := [] }) ?assign ?body ?done ?stop
  case assign =>
    intro l x W K hK
    gi_wp2
    exact hK
  case body =>
    rintro l pre x W ⟨L, hp, h⟩ hpre hSW
    obtain ⟨i0, hi, hz0, hz1, hz2⟩ := info_parts info9
    have hstep := parseL_step hp x
    have hxl : x.length ≤ 10000 := Nat.le_trans (splitW_mem s x (hpre.subset (by simp))) hl
    have hLl : L.length ≤ 10000 := by
      have e1 := parseL_len hp
      have e2 := hpre.length_le
      have e3 := splitW_len s
      simp at e1 e2; omega
    have H := Lib.hid h
    clear hpre hp
    by_cases hx : x = []
    · subst hx
      rw [if_pos rfl] at hstep
      have HS := Lib.hid hstep
      have q : ∀ W : World, (binOp .eql 9 (.string ⟨([] : Bs).toArray⟩) (.string ⟨#[]⟩)).run Tryd.prog W = .ok (.bool true) W := fun W => by simp [go_sem, Tryd.underlying9]
      clear h hstep
      gi_wp2
      exact ⟨KeepsFrom.refl _ _, Kb.refl _ _, L, HS.out, H.out⟩
    · have hxe : List.isEmpty x = false := by cases x with
        | nil => exact absurd rfl hx
        | cons c r => rfl
      have h2 : 1 ≤ n - 1 - 1 := by omega
      rw [if_neg hx] at hstep
      have hrt := right_any x W (by omega)
      cases hr : rightB x
      · rw [hr] at hstep hrt
        have HS := Lib.hid (show parseL rightB [] (pre ++ [x]) = none by simpa using hstep)
        have HRT := Lib.hid hrt
        have c0 : W.cell? ⟨w.heap.size, 0, none⟩ = some (.slice none 0 0) := blk_cell h.r0 0
        have f0 := blk_free h.r0 0
        have c1 : W.cell? ⟨w.heap.size + 1, 0, none⟩ = some (.int .i64 0) := blk_cell h.r1 0
        have f1 := blk_free h.r1 0
        have HX : Hid (ParX w w.heap.size w5.heap.size ((W.setCell ⟨w.heap.size, 0, none⟩ (.slice none 0 0)).setCell ⟨w.heap.size + 1, 0, none⟩ (.int .i64 2))) := Lib.hid
          ⟨Nat.le_trans h.size (Nat.le_trans (KeepsOthers.setCell W _ _).size (KeepsOthers.setCell _ _ _).size), blk_far (blk_set h.r0 0 _) (by simp) _, blk_set (blk_far h.r1 (by simp) _) 0 _, (h.below.setCell (p := ⟨w.heap.size, 0, none⟩) (Nat.le_refl _) _).setCell (p := ⟨w.heap.size + 1, 0, none⟩) (by simp) _⟩
        clear h hstep hrt hr hx
        gi_wp2_with (gi_at_call 18; refine (CallsIn.inRound l (callsIn_wide.2 HRT.out)).mono ?_; rintro e w' ⟨rfl, rfl⟩)
        exact ⟨((KeepsOthers.setCell _ _ _).trans (KeepsOthers.setCell _ _ _)).from _, rfl, HS.out, HX.out⟩
      · rw [hr] at hstep hrt
        have HRT := Lib.hid hrt
        have hlook := h.set.look (k := x) (by omega)
        have c4 : W.cell? ⟨w.heap.size + 4, 0, none⟩ = some (.map (some (w.heap.size + 3))) := blk_cell h.seen 0
        by_cases hin : x ∈ L
        · rw [decide_eq_true hin] at hlook
          have HS := Lib.hid (show parseL rightB [] (pre ++ [x]) = some L by rw [hstep]; simp [hin])
          clear h hstep hrt hr hx hin
          gi_wp2_with (gi_at_call 18; refine (CallsIn.inRound l (callsIn_wide.2 HRT.out)).mono ?_; rintro e w' ⟨rfl, rfl⟩)
          exact ⟨KeepsFrom.refl _ _, Kb.refl _ _, L, HS.out, H.out⟩
        · rw [decide_eq_false hin] at hlook
          have HS := Lib.hid (show parseL rightB [] (pre ++ [x]) = some (L ++ [x]) by rw [hstep]; simp [hin])
          obtain ⟨v, hv, hro⟩ := h.box
          obtain ⟨A, c, hvv⟩ := own_slice hro
          obtain ⟨m, hm⟩ : ∃ m, m = L.length := ⟨_, rfl⟩
          rw [← hm] at hvv hro hLl
          subst hvv
          have HM := Lib.hid hm; have HOWN := Lib.hid hro; have HV := Lib.hid hv
          have cv : W.cell? ⟨w.heap.size + 2, 0, none⟩ = some (.slice A m c) := blk_cell hv 0
          clear h hstep hrt hr hx hin hm hro hv
          gi_wp2_with (first | (gi_at_call 18; refine (CallsIn.inRound l (callsIn_wide.2 HRT.out)).mono ?_; rintro e w' ⟨rfl, rfl⟩) | (gi_at_builtin; refine wpListIn_append_own _ rfl _ _ 23 rfl w5.heap.size 9 i0 (.string ⟨#[]⟩) 1 16 Tryd.underlying23 hi hz0 hz1 hz2 rfl (by decide) _ _ _ rfl (HOWN.out.alloc _) ⟨_, 0, none⟩ 1 1 [encStr x] rfl rfl (cell_one_new _ _ _) (by simp [Value.oneCell', encStr]) ?c1 ?c2 ?c3 ?_))
          case c1 => unfold maxLen; omega
          case c2 => omega
          case c3 => simp; omega
          intro v' w' hown' hg' _
          obtain ⟨A', c', hvv'⟩ := own_slice hown'
          subst hvv'
          obtain ⟨cv', fv', w3, c4', hput, hI3, hk3, hb3⟩ := par_add (by omega) hb H.out HM.out (by rw [← HM.out]; exact hLl) hxl HV.out HOWN.out hown' hg'
          have HI3 := Lib.hid hI3; have HK3 := Lib.hid hk3; have HB3 := Lib.hid hb3
          clear hown' hg' hI3 hk3 hb3 cv c4
          gi_wp2
          exact ⟨HK3.out, HB3.out, L ++ [x], HS.out, HI3.out⟩
  case done =>
    rintro D W hD ⟨L, hp, h⟩ hK
    have hP : parseP rightB s = if 32 < L.length then ([], 4) else (L, 0) := by unfold parseP; rw [hp]
    obtain ⟨v, hv, hro⟩ := h.box
    obtain ⟨A, c, hvv⟩ := own_slice hro
    obtain ⟨m, hm⟩ : ∃ m, m = L.length := ⟨_, rfl⟩
    rw [← hm] at hvv hro hP
    subst hvv
    have c0 : W.cell? ⟨w.heap.size, 0, none⟩ = some (.slice none 0 0) := blk_cell h.r0 0
    have f0 := blk_free h.r0 0
    have c1 : W.cell? ⟨w.heap.size + 1, 0, none⟩ = some (.int .i64 0) := blk_cell h.r1 0
    have f1 := blk_free h.r1 0
    have c2 : W.cell? ⟨w.heap.size + 2, 0, none⟩ = some (.slice A m c) := blk_cell hv 0
    have HV := Lib.hid hv; have HRO := Lib.hid hro; have HM := Lib.hid hm; have HK := Lib.hid hK; have H := Lib.hid h
    clear hv hro hm hK h hp
    by_cases h32 : 32 < m
    · rw [if_pos h32] at hP
      have HP := Lib.hid hP
      clear hP
      gi_wp2
      have r0 : ((W.setCell ⟨w.heap.size, 0, none⟩ (.slice none 0 0)).setCell ⟨w.heap.size + 1, 0, none⟩ (.int .i64 4)).heap[w.heap.size]? = some (.cells #[.slice none 0 0] 23 (0, 0)) := blk_far (blk_set H.out.r0 0 _) (by simp) _
      have r1 : ((W.setCell ⟨w.heap.size, 0, none⟩ (.slice none 0 0)).setCell ⟨w.heap.size + 1, 0, none⟩ (.int .i64 4)).heap[w.heap.size + 1]? = some (.cells #[.int .i64 4] 24 (0, 0)) := blk_set (blk_far H.out.r1 (by simp) _) 0 _
      have rD : ((W.setCell ⟨w.heap.size, 0, none⟩ (.slice none 0 0)).setCell ⟨w.heap.size + 1, 0, none⟩ (.int .i64 4)).heap[D]? = some (.deferred (some [])) := blk_far (blk_far HK.out (by show D ≠ w.heap.size; omega) _) (by show D ≠ w.heap.size + 1; omega) _
      have bel := ((H.out.below.setCell (p := ⟨w.heap.size, 0, none⟩) (Nat.le_refl _) (.slice none 0 0)).setCell (p := ⟨w.heap.size + 1, 0, none⟩) (by simp) (.int .i64 4))
      exact par_end rD r0 r1 (by omega) bel rfl rfl ⟨by rw [HP.out], by rw [HP.out]; exact World.ownsRow_nil _ _ _ _⟩
    · rw [if_neg h32] at hP
      have HP := Lib.hid hP
      clear hP
      gi_wp2
      have r0 : ((W.setCell ⟨w.heap.size, 0, none⟩ (.slice A m c)).setCell ⟨w.heap.size + 1, 0, none⟩ (.int .i64 0)).heap[w.heap.size]? = some (.cells #[.slice A m c] 23 (0, 0)) := blk_far (blk_set H.out.r0 0 _) (by simp) _
      have r1 : ((W.setCell ⟨w.heap.size, 0, none⟩ (.slice A m c)).setCell ⟨w.heap.size + 1, 0, none⟩ (.int .i64 0)).heap[w.heap.size + 1]? = some (.cells #[.int .i64 0] 24 (0, 0)) := blk_set (blk_far H.out.r1 (by simp) _) 0 _
      have rD : ((W.setCell ⟨w.heap.size, 0, none⟩ (.slice A m c)).setCell ⟨w.heap.size + 1, 0, none⟩ (.int .i64 0)).heap[D]? = some (.deferred (some [])) := blk_far (blk_far HK.out (by show D ≠ w.heap.size; omega) _) (by show D ≠ w.heap.size + 1; omega) _
      have bel := ((H.out.below.setCell (p := ⟨w.heap.size, 0, none⟩) (Nat.le_refl _) (.slice A m c)).setCell (p := ⟨w.heap.size + 1, 0, none⟩) (by simp) (.int .i64 0))
      refine par_end rD r0 r1 (by omega) bel rfl rfl ⟨by rw [HP.out], ?_⟩
      rw [HP.out]
      have row2 := row_turn (b := w.heap.size + 1) (by omega) (grownBy_setCell' _ (w.heap.size + 1) (.int .i64 0)) (fun k e => .inl (by injection e with e; exact e.symm)) (row_turn (b := w.heap.size) (by omega) (grownBy_setCell' W w.heap.size (.slice A m c)) (fun k e => .inl (by injection e with e; exact e.symm)) HRO.out)
      rw [HM.out] at row2 ⊢
      exact ownsRow_base row2 (by omega)
  case stop =>
    rintro D c pre W hD hpre ⟨rfl, hp, h⟩ hK
    have hP : parseP rightB s = ([], 2) := by unfold parseP; rw [parseL_stop hp hpre]
    have HP := Lib.hid hP; have H := Lib.hid h; have HK := Lib.hid hK
    clear hP h hK hp
    gi_wp2
    exact par_end HK.out H.out.r0 H.out.r1 (by omega) H.out.below rfl rfl ⟨by rw [HP.out], by rw [HP.out]; exact World.ownsRow_nil _ _ _ _⟩
end Go.Proofs.YtgbhhofmghgpbaaDoor
