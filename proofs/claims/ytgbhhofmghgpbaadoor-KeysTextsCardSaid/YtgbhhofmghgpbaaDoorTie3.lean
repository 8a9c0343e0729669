/- Tie of right keys, walked. Printed by gen_tie3.py. -/
import Derived.Test.YtgbhhofmghgpbaaDoorTie2
namespace Go.Proofs.YtgbhhofmghgpbaaDoor
open Go.RowKit Go.Sort Go.Shelf Go.Maps Go.ChangeMaps
set_option linter.unusedVariables false

theorem vals_calls (a : Option Addr) (len cap : Nat) (w : World) : Calls Tryd.prog 26 #[.slice a len cap] w fun e w' => e = .returned (.func (.func 37) #[] #[.pointer (some ⟨w.heap.size, 0, none⟩)]) ∧ w' = w.alloc (.cells #[.slice a len cap] 23) :=
  (callsIn_wide (n := 3)).1 (values_in Fence.wide 3 trivial rfl a len cap w)
theorem texts_up {w w' : World} (hx : Ext w w') {sv : Value} {ss : List Bs} (h : Texts w.heap.size w sv ss) : Texts w'.heap.size w' sv ss := by
  obtain ⟨a, c, e, hc⟩ := h
  refine ⟨a, c, e, fun j hj => ?_⟩
  obtain ⟨b, off, e1, e2, e3⟩ := hc j hj
  exact ⟨b, off, e1, hx.lt e2, Ext.cell hx e3⟩
theorem texts_fk {w w' : World} {B b : Nat} {sv : Value} {ss : List Bs} (h : Texts w.heap.size w sv ss) (hf : Fk B b w w') (hb : ∃ x y, w.heap[b]? = some (.cells #[.map x, .map y] 50 (0, 0))) : Texts w.heap.size w' sv ss := by
  obtain ⟨x, y, hb⟩ := hb
  obtain ⟨a, c, e, hc⟩ := h
  refine ⟨a, c, e, fun j hj => ?_⟩
  obtain ⟨b', off, e1, e2, e3⟩ := hc j hj
  refine ⟨b', off, e1, e2, hf.cell e3 (fun e => ?_)⟩
  have e : b' = b := e
  subst e
  rw [blk_cell hb] at e3
  match hoff : off + j, e3 with
  | 0, e3 => simp [encStr] at e3
  | 1, e3 => simp [encStr] at e3
  | n + 2, e3 => simp at e3
theorem texts_mono {n0 n1 : Nat} {W : World} {sv : Value} {ss : List Bs} (h : Texts n0 W sv ss) (hn : n0 ≤ n1) : Texts n1 W sv ss := by
  obtain ⟨a, c, e, hc⟩ := h
  refine ⟨a, c, e, fun j hj => ?_⟩
  obtain ⟨b, off, e1, e2, e3⟩ := hc j hj
  exact ⟨b, off, e1, by omega, e3⟩
def TieEnd (w : World) (B b N : Nat) (L0 : List Pr) (id : Int) (ss : List Bs) (w' : World) : Prop :=
  ∃ mo mw G' Q g c G, KAt w' B b (some mo) (some mw) G' Q N ∧ G' = updG G id (some (g, c, sortS ss)) ∧ (∀ k, QOk (Q k) (tiePart L0 id ss) k) ∧ (∀ i, GOk (G i) L0 i) ∧ Fk B b w w'

theorem KI.ext {w w' : World} {B b N : Nat} {L : List Pr} (h : KI w B b N L) (hx : Ext w w') : KI w' B b N L := by
  obtain ⟨mo, mw, G, Q, h1, h2⟩ := h
  exact ⟨mo, mw, G, Q, h1.ext hx, h2⟩
theorem KI.blk {w : World} {B b N : Nat} {L : List Pr} (h : KI w B b N L) : ∃ x y, w.heap[b]? = some (.cells #[.map x, .map y] 50 (0, 0)) := by
  obtain ⟨mo, mw, G, Q, h1, _⟩ := h
  exact ⟨_, _, h1.blk⟩
set_option maxRecDepth 100000 in
set_option maxHeartbeats 16000000 in
theorem tie_ok (w : World) (B b N : Nat) (L : List Pr) (id : Int) (sv : Value) (ss : List Bs) (hKI : KI w B b N L) (hid1 : 1 ≤ id) (hid : (Lit.int .i64 id).wf = true) (hT : Texts w.heap.size w sv ss) (hl : ss.length ≤ 100000) (hk : ∀ k ∈ ss, k.length ≤ 1000000) (hc : checkN ss = 0) (hne : 0 < ss.length) (hN : N ≤ 100000) :
    Calls Tryd.prog 13 #[.pointer (some ⟨b, 0, none⟩), .int .i64 id, sv] w fun e w' => e = .returned (.int .i64 0) ∧ TieEnd w B b (N + 1 + 2 * ss.length) (untieL L id) id ss w' := by
  have hch := check_any w sv ss hT hl hk
  rw [hc] at hch
  have HT := Lib.hid hT
  obtain ⟨A, c, rfl, _⟩ := hT
  obtain ⟨m, hm⟩ : ∃ m, m = ss.length := ⟨_, rfl⟩
  rw [← hm] at hch HT hl hne ⊢
  have hne1 : (m == 0) = false := by simp; omega
  have hne2 : decide ((m : Int) = 0) = false := by simp; omega
  have HCH := Lib.hid hch; have HM := Lib.hid hm; have HKL := Lib.hid hk; have HKI0 := Lib.hid hKI
  have HBW := Lib.hid hKI.blk
  obtain ⟨L0, hL0⟩ : ∃ L0, L0 = untieL L id := ⟨_, rfl⟩
  rw [← hL0]
  have HL0 := Lib.hid hL0
  clear hch hm hk hc hKI hL0
  go_enter Tryd.func13, Tryd.ntmps13
  go_wp2_with fail
  refine HCH.out.mono ?_
  rintro e w1 ⟨rfl, x1⟩
  have HU := Lib.hid (ki_untie w1 B b N L id (HKI0.out.ext x1) hid)
  have X1 := Lib.hid x1
  clear x1
  go_wp2_with fail
  refine HU.out.mono ?_
  rintro e w2 ⟨rfl, hK2, fk2⟩
  rw [← HL0.out] at hK2
  obtain ⟨mo, mw, GI, QI, k1, k2, k3, k4, k5⟩ := hK2
  have HGI := Lib.hid k3; have HQI := Lib.hid k4
  have c0 : w2.cell? ⟨b, 0, none⟩ = some (.map mo) := blk_cell k1.blk 0
  have qT : ∀ (w : World) (r : Option Nat), (binOp .eql 47 (.map r) (.map none)).run Tryd.prog w = .ok (.bool r.isNone) w := fun w r => run_eql_map_nil w _ _ _ r Tryd.underlying47
  have qT9 : ∀ (w : World) (r : Option Nat), (binOp .eql 54 (.map r) (.map none)).run Tryd.prog w = .ok (.bool r.isNone) w := fun w r => run_eql_map_nil w _ _ _ r Tryd.underlying54
  cases mo with
  | some mo =>
    obtain ⟨mw, rfl⟩ : ∃ x, mw = some x := by
      cases mw with
      | none => exact absurd (k2.2 rfl) (by simp)
      | some x => exact ⟨x, rfl⟩
    obtain ⟨WI, hWI⟩ : ∃ WI, WI = w2 := ⟨_, rfl⟩
    rw [← hWI] at c0 k1 fk2 ⊢
    have HKI := Lib.hid k1; have HFKI := Lib.hid ((Fk.of_ext X1.out B b).trans fk2)
    have HT3 : Hid (Texts WI.heap.size WI (.slice A m c) ss) := Lib.hid (texts_mono (texts_fk HT.out HFKI.out HBW.out) HFKI.out.size)
    clear k1 k2 k3 k4 k5 fk2 hWI
    go_wp2_with fail
    refine wp_region_segs [] [.inl [0, 1, 2, 3, 4, 5], .inr (.inl 6), .inr (.inl 7), .inr (.inr 8)] (by kernel_rfl) (by kernel_rfl) (fun c a d v w h => by cases d <;> exact h) ?_
    have hT6 : Texts WI.drew.heap.size WI.drew (.slice A m c) ss := HT3.out
    have low6 : B ≤ WI.heap.size := HKI.out.low
    have G0 : ∀ x : Grow [] WI.drew, x.v.cell? ⟨b, 0, none⟩ = some (.map (some mo)) := fun x => x.ext.cell (a := WI.drew) (blk_cell HKI.out.blk 0) (by simp)
    (rw [wpSegs_inl]; simp only [pickOps, List.map_cons, List.map_nil, List.getD_cons_succ, List.getD_cons_zero]; (repeat (go_big_quiet_step (fail))); refine wpQuiet_nil ?_)
    clear G0
    (rw [wpSegs_grow]; simp only [pickOps, List.map_cons, List.map_nil, List.getD_cons_succ, List.getD_cons_zero]; go_wp2_with ((go_at_call 26; refine (vals_calls _ _ _ _).mono ?_; rintro e w' ⟨rfl, rfl⟩)))
    refine ⟨.of (Ext.alloc (Ext.refl _) _) _, ?_⟩
    have xv : Ext WI.drew (WI.drew.alloc (.cells #[.slice A m c] 23)) := Ext.alloc (Ext.refl _) _
    have hsv := sorted_vals WI.drew.heap.size (.slice A m c) ss (by rw [← HM.out]; omega) (WI.drew.alloc (.cells #[.slice A m c] 23)) (by simp) (blk_cell (heap_alloc_new WI.drew _) 0) (texts_up xv hT6)
    have HSV := Lib.hid hsv
    clear hsv hT6
    (rw [wpSegs_grow]; simp only [pickOps, List.map_cons, List.map_nil, List.getD_cons_succ, List.getD_cons_zero]; go_wp2_with ((go_at_call 25; refine HSV.out.mono ?_; rintro e w5 ⟨v5, rfl, r5, x5⟩)))
    refine ⟨.of x5 _, ?_⟩
    have x6 : Ext WI w5 := (Ext.drew (Ext.refl WI)).trans (xv.trans x5)
    obtain ⟨g5, c5, hv5⟩ : ∃ g5 c5, v5 = .slice (some ⟨g5, 0, none⟩) (sortS ss).length c5 := by
      rcases r5.2 with ⟨_, e⟩ | ⟨g, cap, cur, e, _⟩
      · rw [sortS_len, ← HM.out] at e; omega
      · exact ⟨g, cap, e⟩
    subst hv5
    have hrow5 : SRow w5 B (.slice (some ⟨g5, 0, none⟩) (sortS ss).length c5) (sortS ss) := ownsRow_base r5 (by simp; omega)
    have hK5 := HKI.out.ext x6
    obtain ⟨w7, hup, hK7, fk7⟩ := hK5.putO (by omega) hid hrow5
    obtain ⟨n5, hn5⟩ : ∃ n5, n5 = (sortS ss).length := ⟨_, rfl⟩
    rw [← hn5] at hup ⊢
    have HK7 := Lib.hid hK7; have FK7 := Lib.hid ((HFKI.out.trans (.of_ext x6 B b)).trans fk7)
    have hQ7 : ∀ k, QOk (QI k) (tiePart L0 id (ss.take 0)) k := by simpa [tiePart] using HQI.out
    have RI : Hid (TiRel w B b (some mo) (some mw) (updG GI id (some (g5, c5, sortS ss))) (N + 1) L0 id ss 0 w7) := Lib.hid ⟨⟨QI, by simpa using hK7, hQ7⟩, FK7.out⟩
    have HT7 : Hid (Texts w.heap.size w7 (.slice A m c) ss) := Lib.hid (texts_fk HT.out FK7.out HBW.out)
    clear x6 hrow5 hK5 hK7 fk7 r5 x5 xv hQ7 hn5 HSV
    (rw [wpSegs_last]; simp only [pickOps, List.map_cons, List.map_nil, List.getD_cons_succ, List.getD_cons_zero]; go_wp2_with (fail))
    rw [wpSegs_nil]
    clear hup
    go_wp2
    go_loopw [46, 9] (fun i _ wr => ∃ j : Nat, j ≤ m ∧ i = .int .i64 j ∧ TiRel w B b (some mo) (some mw) (updG GI id (some (g5, c5, sortS ss))) (N + 1) L0 id ss j wr) (fun i _ _ => m - (intOf i).toNat)
    case atStart => exact ⟨0, by omega, rfl, RI.out⟩
    case round =>
      clear RI
      obtain ⟨j, hj, rfl, hr⟩ := hrel
      have R := Lib.hid hr
      by_cases hlt : j < m
      · have hjs : j < ss.length := by rw [← HM.out]; exact hlt
        obtain ⟨A', c', hAc, hcc⟩ := texts_fk HT.out R.out.fk HBW.out
        injection hAc with q1 q2 q3
        subst q1
        obtain ⟨ba, off, rfl, hba, hcell⟩ := hcc j hjs
        have htk : ss.take (j + 1) = ss.take j ++ [ss[j]] := List.take_succ_eq_append_getElem hjs
        have hkl := HKL.out ss[j] (by simp)
        obtain ⟨k, hkk⟩ : ∃ k, k = ss[j] := ⟨_, rfl⟩
        rw [← hkk] at hcell htk hkl
        have hcl : wr.cell? ⟨ba, off + j, none⟩ = some (.string ⟨k.toArray⟩) := hcell
        have hrd := ti_round hr (by omega) hid hkl htk
        clear hr hcell htk hkk hcc q2 q3
        rcases hrd with ⟨g1, w3, r1, r2, r3, r4⟩ | ⟨w2, w3, r1, r2, r3, r4, r5, r6, r7⟩
        · have HN := Lib.hid r4
          clear r4
          go_wp2
          go_roundw
          case rel => exact ⟨j + 1, by omega, by go_num, HN.out⟩
          case measure => simp [intOf]; omega
        · have HN := Lib.hid r7
          clear r7
          have hmm := @run_makeMap Tryd.prog
          go_wp2
          go_roundw
          case rel => exact ⟨j + 1, by omega, by go_num, HN.out⟩
          case measure => simp [intOf]; omega
      · have hjs : ss.take j = ss := List.take_of_length_le (by rw [← HM.out]; omega)
        obtain ⟨⟨Q9, hK9, hQ9⟩, fk9⟩ := hr
        rw [hjs] at hQ9
        have HE : Hid (TieEnd w B b (N + 1 + 2 * m) L0 id ss wr) := Lib.hid ⟨mo, mw, _, Q9, g5, c5, GI, hK9.more (by omega), rfl, hQ9, HGI.out, fk9⟩
        clear hK9 hQ9 fk9 hjs
        go_wp2
        go_ret
        exact ⟨rfl, HE.out⟩
  | none =>
    obtain rfl : mw = none := k2.1 rfl
    obtain ⟨mo, hmo⟩ : ∃ mo, mo = w2.heap.size := ⟨_, rfl⟩
    obtain ⟨mw, hmw⟩ : ∃ mw, mw = w2.heap.size + 1 := ⟨_, rfl⟩
    obtain ⟨WI, hWI⟩ : ∃ WI, WI = (((w2.setCell ⟨b, 0, none⟩ (.map (some w2.heap.size))).setCell ⟨b, 1, none⟩ (.map (some (w2.heap.size + 1)))).alloc (.map #[] 0)).alloc (.map #[] 0) := ⟨_, rfl⟩
    have low2 : B ≤ w2.heap.size := k1.low
    have kI := k1.init low2
    rw [← hWI, ← hmw, ← hmo] at kI
    have d1 : w2.cell? ⟨b, 1, none⟩ = some (.map none) := blk_cell k1.blk 1
    have z0 := blk_free k1.blk 0
    have z1 := blk_free k1.blk 1
    have lb2 := blk_lt k1.blk
    have fkI : Fk B b w2 WI := by
      rw [hWI]
      refine Fk.trans ?_ (.of_ext (Ext.alloc (Ext.alloc (Ext.refl _) _) _) B b)
      refine ⟨rfl, rfl, rfl, by simp, fun i hi hib hc => ?_⟩
      rw [Below.heap_setCell _ _ _ i hib, Below.heap_setCell _ _ _ i hib]
    have HKI := Lib.hid kI; have HFKI := Lib.hid (((Fk.of_ext X1.out B b).trans fk2).trans fkI)
    have HT3 : Hid (Texts WI.heap.size WI (.slice A m c) ss) := Lib.hid (texts_mono (texts_fk HT.out HFKI.out HBW.out) HFKI.out.size)
    have HWI := Lib.hid hWI
    clear k1 k2 k3 k4 k5 fk2 hWI kI fkI low2 hmo hmw
    have hmm := @run_makeMap Tryd.prog
    go_wp2_with (rw [← HWI.out])
    clear hmm
    refine wp_region_segs [] [.inl [0, 1, 2, 3, 4, 5], .inr (.inl 6), .inr (.inl 7), .inr (.inr 8)] (by kernel_rfl) (by kernel_rfl) (fun c a d v w h => by cases d <;> exact h) ?_
    have hT6 : Texts WI.drew.heap.size WI.drew (.slice A m c) ss := HT3.out
    have low6 : B ≤ WI.heap.size := HKI.out.low
    have G0 : ∀ x : Grow [] WI.drew, x.v.cell? ⟨b, 0, none⟩ = some (.map (some mo)) := fun x => x.ext.cell (a := WI.drew) (blk_cell HKI.out.blk 0) (by simp)
    (rw [wpSegs_inl]; simp only [pickOps, List.map_cons, List.map_nil, List.getD_cons_succ, List.getD_cons_zero]; (repeat (go_big_quiet_step (fail))); refine wpQuiet_nil ?_)
    clear G0
    (rw [wpSegs_grow]; simp only [pickOps, List.map_cons, List.map_nil, List.getD_cons_succ, List.getD_cons_zero]; go_wp2_with ((go_at_call 26; refine (vals_calls _ _ _ _).mono ?_; rintro e w' ⟨rfl, rfl⟩)))
    refine ⟨.of (Ext.alloc (Ext.refl _) _) _, ?_⟩
    have xv : Ext WI.drew (WI.drew.alloc (.cells #[.slice A m c] 23)) := Ext.alloc (Ext.refl _) _
    have hsv := sorted_vals WI.drew.heap.size (.slice A m c) ss (by rw [← HM.out]; omega) (WI.drew.alloc (.cells #[.slice A m c] 23)) (by simp) (blk_cell (heap_alloc_new WI.drew _) 0) (texts_up xv hT6)
    have HSV := Lib.hid hsv
    clear hsv hT6
    (rw [wpSegs_grow]; simp only [pickOps, List.map_cons, List.map_nil, List.getD_cons_succ, List.getD_cons_zero]; go_wp2_with ((go_at_call 25; refine HSV.out.mono ?_; rintro e w5 ⟨v5, rfl, r5, x5⟩)))
    refine ⟨.of x5 _, ?_⟩
    have x6 : Ext WI w5 := (Ext.drew (Ext.refl WI)).trans (xv.trans x5)
    obtain ⟨g5, c5, hv5⟩ : ∃ g5 c5, v5 = .slice (some ⟨g5, 0, none⟩) (sortS ss).length c5 := by
      rcases r5.2 with ⟨_, e⟩ | ⟨g, cap, cur, e, _⟩
      · rw [sortS_len, ← HM.out] at e; omega
      · exact ⟨g, cap, e⟩
    subst hv5
    have hrow5 : SRow w5 B (.slice (some ⟨g5, 0, none⟩) (sortS ss).length c5) (sortS ss) := ownsRow_base r5 (by simp; omega)
    have hK5 := HKI.out.ext x6
    obtain ⟨w7, hup, hK7, fk7⟩ := hK5.putO (by omega) hid hrow5
    obtain ⟨n5, hn5⟩ : ∃ n5, n5 = (sortS ss).length := ⟨_, rfl⟩
    rw [← hn5] at hup ⊢
    have HK7 := Lib.hid hK7; have FK7 := Lib.hid ((HFKI.out.trans (.of_ext x6 B b)).trans fk7)
    have hQ7 : ∀ k, QOk (QI k) (tiePart L0 id (ss.take 0)) k := by simpa [tiePart] using HQI.out
    have RI : Hid (TiRel w B b (some mo) (some mw) (updG GI id (some (g5, c5, sortS ss))) (N + 1) L0 id ss 0 w7) := Lib.hid ⟨⟨QI, by simpa using hK7, hQ7⟩, FK7.out⟩
    have HT7 : Hid (Texts w.heap.size w7 (.slice A m c) ss) := Lib.hid (texts_fk HT.out FK7.out HBW.out)
    clear x6 hrow5 hK5 hK7 fk7 r5 x5 xv hQ7 hn5 HSV
    (rw [wpSegs_last]; simp only [pickOps, List.map_cons, List.map_nil, List.getD_cons_succ, List.getD_cons_zero]; go_wp2_with (fail))
    rw [wpSegs_nil]
    clear hup
    go_wp2
    go_loopw [46, 9] (fun i _ wr => ∃ j : Nat, j ≤ m ∧ i = .int .i64 j ∧ TiRel w B b (some mo) (some mw) (updG GI id (some (g5, c5, sortS ss))) (N + 1) L0 id ss j wr) (fun i _ _ => m - (intOf i).toNat)
    case atStart => exact ⟨0, by omega, rfl, RI.out⟩
    case round =>
      clear RI
      obtain ⟨j, hj, rfl, hr⟩ := hrel
      have R := Lib.hid hr
      by_cases hlt : j < m
      · have hjs : j < ss.length := by rw [← HM.out]; exact hlt
        obtain ⟨A', c', hAc, hcc⟩ := texts_fk HT.out R.out.fk HBW.out
        injection hAc with q1 q2 q3
        subst q1
        obtain ⟨ba, off, rfl, hba, hcell⟩ := hcc j hjs
        have htk : ss.take (j + 1) = ss.take j ++ [ss[j]] := List.take_succ_eq_append_getElem hjs
        have hkl := HKL.out ss[j] (by simp)
        obtain ⟨k, hkk⟩ : ∃ k, k = ss[j] := ⟨_, rfl⟩
        rw [← hkk] at hcell htk hkl
        have hcl : wr.cell? ⟨ba, off + j, none⟩ = some (.string ⟨k.toArray⟩) := hcell
        have hrd := ti_round hr (by omega) hid hkl htk
        clear hr hcell htk hkk hcc q2 q3
        rcases hrd with ⟨g1, w3, r1, r2, r3, r4⟩ | ⟨w2, w3, r1, r2, r3, r4, r5, r6, r7⟩
        · have HN := Lib.hid r4
          clear r4
          go_wp2
          go_roundw
          case rel => exact ⟨j + 1, by omega, by go_num, HN.out⟩
          case measure => simp [intOf]; omega
        · have HN := Lib.hid r7
          clear r7
          have hmm := @run_makeMap Tryd.prog
          go_wp2
          go_roundw
          case rel => exact ⟨j + 1, by omega, by go_num, HN.out⟩
          case measure => simp [intOf]; omega
      · have hjs : ss.take j = ss := List.take_of_length_le (by rw [← HM.out]; omega)
        obtain ⟨⟨Q9, hK9, hQ9⟩, fk9⟩ := hr
        rw [hjs] at hQ9
        have HE : Hid (TieEnd w B b (N + 1 + 2 * m) L0 id ss wr) := Lib.hid ⟨mo, mw, _, Q9, g5, c5, GI, hK9.more (by omega), rfl, hQ9, HGI.out, fk9⟩
        clear hK9 hQ9 fk9 hjs
        go_wp2
        go_ret
        exact ⟨rfl, HE.out⟩
end Go.Proofs.YtgbhhofmghgpbaaDoor
