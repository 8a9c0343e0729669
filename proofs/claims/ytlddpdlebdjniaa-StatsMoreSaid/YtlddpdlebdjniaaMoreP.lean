/- Proved: StatsMore, for every input: with an event more a sum's numbers are no less, but for bytes that turn out not to be wasted (printed by gen_more.py from MoreP.head). -/
import Derived.Test.YtlddpdlebdjniaaMoreA
namespace Go.Proofs.Ytlddpdlebdjniaa
open Go.ChangeShapes Go.WideShapes Go.ChangeAt Go.RowKit Go.Deep Go.Joins
open Go.Maps Go.ChangeMaps
set_option linter.unusedVariables false

set_option maxRecDepth 100000 in
theorem events_weight {H : Type} {enc : TypeId × Value → H} {w : World} {base : Nat} {held : Bool} {A : Option Addr} {n c : Nat} {d : DataW H} {p : List MemPlace} (hwk : WOk Try.prog 22 d) (h : DataW.Trod enc Try.prog w base (fun _ => true) held 22 (.slice A n c) d p) : n * 664 ≤ 140737488351232 := by
  obtain ⟨fuel, hf⟩ := h
  have hrb : reachBytes = 140737488351232 := rfl
  rcases open_slice Try.underlying22 hf with ⟨hcs, _⟩ | ⟨a, len', cap', m, n', D, Pl, hcs, _, hl, hm, hmm, hx, hi⟩
  · simp [Value.cells] at hcs
    obtain ⟨rfl, rfl, rfl⟩ := hcs
    omega
  · simp [Value.cells] at hcs
    obtain ⟨rfl, rfl, rfl⟩ := hcs
    simp only [Prod.mk.injEq] at hx
    rw [hx.1] at hwk
    obtain ⟨hb, he⟩ := hwk.slice Try.underlying22
    simp only [List.length_map, List.length_range, bytes46_is] at hb
    rw [hrb] at hb; omega
theorem SmallF.init {xs : List EvF} {e : EvF} (h : SmallF (xs ++ [e])) : SmallF xs :=
  ⟨by have := h.len; simp at this; omega, by have := h.nb; rw [nbF_append] at this; omega, fun x hx => h.obj x (by simp [hx]), fun x hx => h.fld x (by simp [hx])⟩
theorem wpList_build1a {ops : Array Oper} {rest : List Oper} {o : Oper} {a : Act} {w : World} {Q : Exit → Act → World → Prop} (hg : o.guard = none) (p0 : Operand) (ho : o.op = .buildSlice 22 1 #[(0, p0)])
    (l0 : List Value) (h0 : a.eval p0 = .agg l0.toArray) (hl : l0.length = 57)
    (h : ∀ N W', N = w.heap.size → W' = w.alloc (.cells l0.toArray 46) → wpList Try.prog ops Q rest (a.put o.dst (.slice (some ⟨N, 0, none⟩) 1 1)) W') : wpList Try.prog ops Q (o :: rest) a w :=
  wpList_build1 hg p0 ho l0 h0 hl _ rfl (h _ _ rfl rfl)
theorem run_build0 (w : World) : (Instr.buildSlice 22 0 #[]).run Try.prog w = .ok (.slice (some ⟨w.heap.size, 0, none⟩) 0 0) (w.alloc (.cells #[] 46)) := by
  obtain ⟨i46, hi, hz, hs, _⟩ := info_parts info46
  simp [Instr.buildSlice, run_underlying Try.underlying22, sizeOf, typeInfo, zeroValue, hi, hz, hs, newRow, Instr.fill]
  have e0 : Array.map (fun _ : Nat => (default : Value)) (Array.range 0) = #[] := by first | rfl | decide | (apply Array.eq_empty_of_size_eq_zero; simp)
  rw [e0]
theorem wpList_build0 {ops : Array Oper} {rest : List Oper} {o : Oper} {a : Act} {w : World} {Q : Exit → Act → World → Prop} (hg : o.guard = none) (ho : o.op = .buildSlice 22 0 #[])
    (h : ∀ N W', N = w.heap.size → W' = w.alloc (.cells #[] 46) → wpList Try.prog ops Q rest (a.put o.dst (.slice (some ⟨N, 0, none⟩) 0 0)) W') : wpList Try.prog ops Q (o :: rest) a w :=
  wpList_plain hg fun K hK => by
    unfold Oper.wp execOp
    have : (#[] : Array (Nat × Operand)).map (fun (i, x) => (i, a.eval x)) = #[] := by simp
    simp only [ho, this, Sem.run_bind, run_build0, Result.andThen_ok]
    exact hK _ _ (h _ _ rfl rfl)
set_option maxRecDepth 100000 in
set_option maxHeartbeats 8000000 in
theorem more_walk (xs : List EvF) (A : Option Addr) (c : Nat) (cs : Array Value) (e : EvF) (node : Int) (w : World) (hO : EvFAt w A xs) (hl : xs.length ≤ 140737488351232) (hnil : A = none → c = 0) (hb : xs.length * 664 ≤ 140737488351232) (hE : EvC cs e.ev) (hF : FldC w cs e.fs) (hn : (Lit.int .i64 node).wf = true) :
    Calls Try.prog 3 #[.slice A xs.length c, .agg cs, .int .i64 node] w fun e w' => e = .returned (.bool true) ∧ Ext w w' := by
  obtain ⟨W0, hW0⟩ : ∃ W, W = w.alloc (.cells cs 46) := ⟨_, rfl⟩
  have x0 : Ext w W0 := by rw [hW0]; exact alloc_ext _ _
  have b0 : W0.heap[w.heap.size]? = some (.cells cs 46 (0, 0)) := by rw [hW0]; exact heap_alloc_new w _
  obtain ⟨m, hm⟩ : ∃ m, m = xs.length := ⟨_, rfl⟩
  have hm0 : A = none → m = 0 := fun h => by
    cases xs with
    | nil => simpa using hm
    | cons x r =>
      obtain ⟨b1, o1, c1, ea, _⟩ := hO 0 (by simp)
      rw [h] at ea; cases ea
  have hnil2 : A = none → m = 0 ∧ c = 0 := fun h => ⟨hm0 h, hnil h⟩
  have hsp : ∀ ad, A = some ad → m ≠ 0 → ad.spot = none := fun ad h hm' => by
    obtain ⟨b1, o1, c1, ea, _⟩ := hO 0 (by omega)
    rw [h] at ea; cases ea; rfl
  rw [← hm] at hl hb ⊢
  obtain ⟨L, hL, hLA⟩ := rowL_of hO
  obtain ⟨cl, hcl⟩ : ∃ cl : List Value, cs = cl.toArray := ⟨cs.toList, by simp⟩
  subst hcl
  have h57 : cl.length = 57 := by simpa using hE.size
  have hone : ∀ u ∈ cl, u.oneCell' = true := fun u hu => by
    have := hE.one
    rw [Array.all_eq_true'] at this
    exact this u (by simpa using hu)
  have hfl : L.flatten.length = m * 57 := by rw [flat_len L hL.l57, hL.len, hm]
  have HONE := Lib.hid hone; have FL := Lib.hid hfl; have HSP := Lib.hid hsp
  clear hone hfl hsp hm0
  have HO := Lib.hid hO; have HM := Lib.hid hm; have HL := Lib.hid hL; have HLA := Lib.hid hLA; have HE := Lib.hid hE; have HF := Lib.hid hF; have HW0 := Lib.hid hW0; have X0 := Lib.hid x0; have B0 := Lib.hid b0; have HNIL := Lib.hid hnil2; have HN := Lib.hid hn
  clear hO hm hL hLA hE hF hW0 x0 b0 hnil hnil2 hn
  go_enter Try.func3, Try.ntmps3
  go_wp2_with (go_at_call 7; rw [← HW0.out]; refine (wakes_any _).mono ?_; rintro x w1 ⟨rfl, x1⟩; refine stop_of ?_)
  unfold Stop
  have X1 := Lib.hid (X0.out.trans x1)
  have B1 := Lib.hid (x1.heap B0.out)
  clear x1 X0 B0 HW0
  go_wp2_with fail
  refine wp_region_tr [] [1, 3] (.fork 0 (.fork 2 (.one 4 (.one 5 (.one 6 .done))) 4 (.one 2 (.one 5 (.one 6 .done)))) 4 (.one 0 (.one 2 (.one 5 (.one 6 .done))))) (by kernel_rfl) (by kernel_rfl) (fun c a d v w h => by cases d <;> exact h) ?_
  (simp only [pickOps, List.map_cons, List.map_nil, List.getD_cons_succ, List.getD_cons_zero]; (repeat (first | (refine wpQuiet_load46 rfl _ rfl w.heap.size rfl cl.toArray (fun W hW => by obtain ⟨y, rfl⟩ := hW; exact y.ext.heap B1.out (by simp)) (by simp [h57]) ?_) | go_big_quiet_step (fail))); refine wpQuiet_nil ?_)
  rw [wpTr_fork]
  refine ⟨?_, ?_⟩
  · simp only [pickOps, List.map_cons, List.map_nil, List.getD_cons_succ, List.getD_cons_zero]
    refine wpList_build0 rfl rfl ?_
    intro N0 u0 hN0 hu0
    have E0 := Lib.hid (show Ext w1 u0 by rw [hu0]; exact ((Ext.drew (Ext.refl w1))).alloc _)
    have O0 := Lib.hid (show u0.ownsRow w1.heap.size 46 57 (.slice (some ⟨N0, 0, none⟩) 0 0) 0 [] by rw [hu0, hN0]; exact World.ownsRow_made (e := 46) (size := 57) w1.drew #[] 0 ((Ext.drew (Ext.refl w1))).size (by simp) rfl)
    clear hN0 hu0
    go_wp2_with fail
    refine ⟨E0.out.fromDrew, ?_⟩
    rw [wpTr_fork]
    refine ⟨?_, ?_⟩
    · simp only [pickOps, List.map_cons, List.map_nil, List.getD_cons_succ, List.getD_cons_zero]
      refine append_evs rfl (.tmp 12) (.tmp 13) rfl w1.heap.size _ 0 [] A m c L.flatten O0.out rfl rfl FL.out (fun b off ea j u hj => Ext.cell (X1.out.trans E0.out) (HLA.out b off ea j u hj)) HSP.out HL.out.one (by omega) HNIL.out (E0.out).size ?_
      intro v2 u2 hO2 hg2
      rw [List.nil_append, Nat.zero_add] at hO2
      have E2 := Lib.hid (show Ext w1 u2 from RowKit.Below.trans E0.out (own_below O0.out hg2 (E0.out).size))
      have O2 := Lib.hid hO2
      clear hO2 hg2
      go_wp2_with fail
      refine ⟨E2.out.fromDrew, ?_⟩
      rw [wpTr_one]
      simp only [pickOps, List.map_cons, List.map_nil, List.getD_cons_succ, List.getD_cons_zero]
      refine wpList_build1a rfl _ rfl cl rfl h57 ?_
      intro N4 u4 hN4 hu4
      have E4 := Lib.hid (show Ext w1 u4 by rw [hu4]; exact (E2.out).alloc _)
      have C4 := Lib.hid (show u4.heap[N4]? = some (.cells cl.toArray 46 (0, 0)) by rw [hu4, hN4]; exact heap_alloc_new _ _)
      have O2' := Lib.hid (show u4.ownsRow w1.heap.size 46 57 v2 m L.flatten by rw [hu4]; exact O2.out.alloc _)
      clear hN4 hu4
      go_wp2_with fail
      refine ⟨E4.out.fromDrew, ?_⟩
      rw [wpTr_one]
      simp only [pickOps, List.map_cons, List.map_nil, List.getD_cons_succ, List.getD_cons_zero]
      refine append_evs rfl (.tmp 14) (.tmp 16) rfl w1.heap.size v2 m L.flatten (some ⟨N4, 0, none⟩) 1 1 cl O2'.out rfl rfl (by rw [h57]) (fun b off ea j u hj => by
        simp only [Option.some.injEq, Addr.mk.injEq, and_true] at ea
        obtain ⟨rfl, rfl⟩ := ea
        rw [Nat.zero_add, blk_cell C4.out j]; simpa using hj) (fun ad h _ => by cases h; rfl) HONE.out (by omega) (by simp) (E4.out).size ?_
      intro v5 w5 hO5 hg5
      have hE5 : Ext w1 w5 := RowKit.Below.trans E4.out (own_below O2'.out hg5 (E4.out).size)
      obtain ⟨ys, hys⟩ : ∃ ys, ys = xs ++ [e] := ⟨_, rfl⟩
      have hR5 : RowL w5 (L ++ [cl]) ys := by rw [hys]; exact (HL.out.ext (X1.out.trans hE5)).snoc HE.out (HF.out.ext (X1.out.trans hE5))
      have hlen5 : ys.length = m + 1 := by rw [hys, List.length_append, ← HM.out]; rfl
      obtain ⟨A5, c5, rfl, hA5⟩ := evF_of_row hR5 (v := v5) (base := w1.heap.size) (by rw [hlen5, List.flatten_append]; simpa using hO5)
      rw [hlen5]
      have HYS := Lib.hid hys; have HA5 := Lib.hid hA5; have X5 := Lib.hid (X1.out.trans hE5); have HLEN5 := Lib.hid hlen5
      clear hys hA5 hR5 hlen5 hO5 hg5
      go_wp2_with fail
      refine ⟨hE5.fromDrew, ?_⟩
      rw [wpTr_one]
      simp only [pickOps, List.map_cons, List.map_nil, List.getD_cons_succ, List.getD_cons_zero]
      go_wp2_with fail
      refine ⟨hE5.fromDrew, ?_⟩
      rw [wpTr_done]
      clear hE5
      have hsm := small_any w5 A5 ys c5 HA5.out (by rw [HLEN5.out]; omega)
      rw [HLEN5.out] at hsm
      have HSM := Lib.hid hsm
      clear hsm
      go_wp2_with (go_at_call 8; refine HSM.out.mono ?_; rintro x w6 ⟨r, rfl, hr, x6⟩; refine stop_of ?_)
      unfold Stop
      have X6 := Lib.hid (X5.out.trans x6)
      have HA6 := Lib.hid (HA5.out.ext x6)
      clear x6 HSM HA5
      cases r with
      | false =>
        clear hr
        go_wp2
        go_ret
        exact ⟨rfl, X6.out⟩
      | true =>
        have hS := hr rfl
        have hS1 : SmallF xs := SmallF.init (e := e) (by rw [← HYS.out]; exact hS)
        have hlaw := more_law (evs xs) e.ev node
        have eys : evs xs ++ [e.ev] = evs ys := by rw [HYS.out]; simp [evs]
        rw [eys] at hlaw
        have of1 := fun W (x : Ext w W) => of_small (c := c) (node := node) (HO.out.ext x) hS1 HN.out
        have of2 := fun W (x : Ext w6 W) => of_small (c := c5) (node := node) (HA6.out.ext x) hS HN.out
        simp only [← HM.out] at of1
        simp only [HLEN5.out] at of2
        obtain ⟨s, hs⟩ : ∃ s, s = ofS (evs xs) node := ⟨_, rfl⟩
        obtain ⟨t, ht⟩ : ∃ t, t = ofS (evs ys) node := ⟨_, rfl⟩
        rw [← hs, ← ht] at hlaw
        simp only [← hs] at of1
        simp only [← ht] at of2
        have OF1 : Hid (∀ W, Ext w W → Calls Try.prog 9 #[.slice A m c, .int .i64 node] W fun e w' => e = .returned (.agg #[.int .i64 (s 0), .int .i64 (s 1), .int .i64 (s 2), .int .i64 (s 3), .int .i64 (s 4), .int .i64 (s 5), .int .i64 (s 6), .int .i64 (s 7), .int .i64 (s 8), .int .i64 (s 9), .int .i64 (s 10), .int .i64 (s 11)]) ∧ Ext W w') := Lib.hid of1
        have OF2 : Hid (∀ W, Ext w6 W → Calls Try.prog 9 #[.slice A5 (m + 1) c5, .int .i64 node] W fun e w' => e = .returned (.agg #[.int .i64 (t 0), .int .i64 (t 1), .int .i64 (t 2), .int .i64 (t 3), .int .i64 (t 4), .int .i64 (t 5), .int .i64 (t 6), .int .i64 (t 7), .int .i64 (t 8), .int .i64 (t 9), .int .i64 (t 10), .int .i64 (t 11)]) ∧ Ext W w') := Lib.hid of2
        have q0 : s 0 ≤ t 0 := hlaw.1 0
        have q1 : s 1 ≤ t 1 := hlaw.1 1
        have q2 : s 2 ≤ t 2 := hlaw.1 2
        have q3 : s 3 ≤ t 3 := hlaw.1 3
        have q4 : s 4 ≤ t 4 := hlaw.1 4
        have q5 : s 5 ≤ t 5 := hlaw.1 5
        have q6 : s 6 ≤ t 6 := hlaw.1 6
        have q7 : s 7 ≤ t 7 := hlaw.1 7
        have q8 : s 8 ≤ t 8 := hlaw.1 8
        have q9 : s 9 ≤ t 9 := hlaw.1 9
        have q10 : s 10 ≤ t 10 := hlaw.1 10
        have q11 : s 11 ≤ t 11 := hlaw.1 11
        have q12 : t 6 ≤ t 5 := hlaw.2
        clear of1 of2 hlaw hs ht eys hS hS1 hr HYS HA6
        go_wp2_with (first | (go_at_call 9; refine (OF1.out _ X6.out).mono ?_; rintro x w7 ⟨rfl, x7⟩; refine stop_of ?_))
        unfold Stop
        have X7 := Lib.hid x7
        clear x7 OF1
        go_wp2_with (first | (go_at_call 9; refine (OF2.out _ X7.out).mono ?_; rintro x w8 ⟨rfl, x8⟩; refine stop_of ?_))
        unfold Stop
        have X8 := Lib.hid (X6.out.trans (X7.out.trans x8))
        clear x8 X7 X6 OF2
        go_wp2
        go_ret
        exact ⟨rfl, X8.out.trans ((alloc_ext _ _).trans (alloc_ext _ _))⟩
    · simp only [pickOps, List.map_cons, List.map_nil, List.getD_cons_succ, List.getD_cons_zero]
      refine wpList_build1a rfl _ rfl cl rfl h57 ?_
      intro N4 u4 hN4 hu4
      have E4 := Lib.hid (show Ext w1 u4 by rw [hu4]; exact (E0.out).alloc _)
      have C4 := Lib.hid (show u4.heap[N4]? = some (.cells cl.toArray 46 (0, 0)) by rw [hu4, hN4]; exact heap_alloc_new _ _)
      have O0' := Lib.hid (show u4.ownsRow w1.heap.size 46 57 (.slice (some ⟨N0, 0, none⟩) 0 0) 0 [] by rw [hu4]; exact O0.out.alloc _)
      have NE : N0 ≠ N4 := by have := (O0.out.lt N0 rfl).2; omega
      clear hN4 hu4
      go_wp2_with fail
      refine ⟨E4.out.fromDrew, ?_⟩
      rw [wpTr_one]
      simp only [pickOps, List.map_cons, List.map_nil, List.getD_cons_succ, List.getD_cons_zero]
      refine append_evs rfl (.tmp 12) (.tmp 13) rfl w1.heap.size _ 0 [] A m c L.flatten O0'.out rfl rfl FL.out (fun b off ea j u hj => Ext.cell (X1.out.trans E4.out) (HLA.out b off ea j u hj)) HSP.out HL.out.one (by omega) HNIL.out (E4.out).size ?_
      intro v2 u2 hO2 hg2
      rw [List.nil_append, Nat.zero_add] at hO2
      have E2 := Lib.hid (show Ext w1 u2 from RowKit.Below.trans E4.out (own_below O0'.out hg2 (E4.out).size))
      have O2 := Lib.hid hO2
      have C2 := Lib.hid ((hg2.block N4 (blk_lt C4.out) (fun h => NE (by simpa [Value.ownBlock] using h.symm))).trans C4.out)
      clear hO2 hg2
      go_wp2_with fail
      refine ⟨E2.out.fromDrew, ?_⟩
      rw [wpTr_one]
      simp only [pickOps, List.map_cons, List.map_nil, List.getD_cons_succ, List.getD_cons_zero]
      refine append_evs rfl (.tmp 14) (.tmp 16) rfl w1.heap.size v2 m L.flatten (some ⟨N4, 0, none⟩) 1 1 cl O2.out rfl rfl (by rw [h57]) (fun b off ea j u hj => by
        simp only [Option.some.injEq, Addr.mk.injEq, and_true] at ea
        obtain ⟨rfl, rfl⟩ := ea
        rw [Nat.zero_add, blk_cell C2.out j]; simpa using hj) (fun ad h _ => by cases h; rfl) HONE.out (by omega) (by simp) (E2.out).size ?_
      intro v5 w5 hO5 hg5
      have hE5 : Ext w1 w5 := RowKit.Below.trans E2.out (own_below O2.out hg5 (E2.out).size)
      obtain ⟨ys, hys⟩ : ∃ ys, ys = xs ++ [e] := ⟨_, rfl⟩
      have hR5 : RowL w5 (L ++ [cl]) ys := by rw [hys]; exact (HL.out.ext (X1.out.trans hE5)).snoc HE.out (HF.out.ext (X1.out.trans hE5))
      have hlen5 : ys.length = m + 1 := by rw [hys, List.length_append, ← HM.out]; rfl
      obtain ⟨A5, c5, rfl, hA5⟩ := evF_of_row hR5 (v := v5) (base := w1.heap.size) (by rw [hlen5, List.flatten_append]; simpa using hO5)
      rw [hlen5]
      have HYS := Lib.hid hys; have HA5 := Lib.hid hA5; have X5 := Lib.hid (X1.out.trans hE5); have HLEN5 := Lib.hid hlen5
      clear hys hA5 hR5 hlen5 hO5 hg5
      go_wp2_with fail
      refine ⟨hE5.fromDrew, ?_⟩
      rw [wpTr_one]
      simp only [pickOps, List.map_cons, List.map_nil, List.getD_cons_succ, List.getD_cons_zero]
      go_wp2_with fail
      refine ⟨hE5.fromDrew, ?_⟩
      rw [wpTr_done]
      clear hE5
      have hsm := small_any w5 A5 ys c5 HA5.out (by rw [HLEN5.out]; omega)
      rw [HLEN5.out] at hsm
      have HSM := Lib.hid hsm
      clear hsm
      go_wp2_with (go_at_call 8; refine HSM.out.mono ?_; rintro x w6 ⟨r, rfl, hr, x6⟩; refine stop_of ?_)
      unfold Stop
      have X6 := Lib.hid (X5.out.trans x6)
      have HA6 := Lib.hid (HA5.out.ext x6)
      clear x6 HSM HA5
      cases r with
      | false =>
        clear hr
        go_wp2
        go_ret
        exact ⟨rfl, X6.out⟩
      | true =>
        have hS := hr rfl
        have hS1 : SmallF xs := SmallF.init (e := e) (by rw [← HYS.out]; exact hS)
        have hlaw := more_law (evs xs) e.ev node
        have eys : evs xs ++ [e.ev] = evs ys := by rw [HYS.out]; simp [evs]
        rw [eys] at hlaw
        have of1 := fun W (x : Ext w W) => of_small (c := c) (node := node) (HO.out.ext x) hS1 HN.out
        have of2 := fun W (x : Ext w6 W) => of_small (c := c5) (node := node) (HA6.out.ext x) hS HN.out
        simp only [← HM.out] at of1
        simp only [HLEN5.out] at of2
        obtain ⟨s, hs⟩ : ∃ s, s = ofS (evs xs) node := ⟨_, rfl⟩
        obtain ⟨t, ht⟩ : ∃ t, t = ofS (evs ys) node := ⟨_, rfl⟩
        rw [← hs, ← ht] at hlaw
        simp only [← hs] at of1
        simp only [← ht] at of2
        have OF1 : Hid (∀ W, Ext w W → Calls Try.prog 9 #[.slice A m c, .int .i64 node] W fun e w' => e = .returned (.agg #[.int .i64 (s 0), .int .i64 (s 1), .int .i64 (s 2), .int .i64 (s 3), .int .i64 (s 4), .int .i64 (s 5), .int .i64 (s 6), .int .i64 (s 7), .int .i64 (s 8), .int .i64 (s 9), .int .i64 (s 10), .int .i64 (s 11)]) ∧ Ext W w') := Lib.hid of1
        have OF2 : Hid (∀ W, Ext w6 W → Calls Try.prog 9 #[.slice A5 (m + 1) c5, .int .i64 node] W fun e w' => e = .returned (.agg #[.int .i64 (t 0), .int .i64 (t 1), .int .i64 (t 2), .int .i64 (t 3), .int .i64 (t 4), .int .i64 (t 5), .int .i64 (t 6), .int .i64 (t 7), .int .i64 (t 8), .int .i64 (t 9), .int .i64 (t 10), .int .i64 (t 11)]) ∧ Ext W w') := Lib.hid of2
        have q0 : s 0 ≤ t 0 := hlaw.1 0
        have q1 : s 1 ≤ t 1 := hlaw.1 1
        have q2 : s 2 ≤ t 2 := hlaw.1 2
        have q3 : s 3 ≤ t 3 := hlaw.1 3
        have q4 : s 4 ≤ t 4 := hlaw.1 4
        have q5 : s 5 ≤ t 5 := hlaw.1 5
        have q6 : s 6 ≤ t 6 := hlaw.1 6
        have q7 : s 7 ≤ t 7 := hlaw.1 7
        have q8 : s 8 ≤ t 8 := hlaw.1 8
        have q9 : s 9 ≤ t 9 := hlaw.1 9
        have q10 : s 10 ≤ t 10 := hlaw.1 10
        have q11 : s 11 ≤ t 11 := hlaw.1 11
        have q12 : t 6 ≤ t 5 := hlaw.2
        clear of1 of2 hlaw hs ht eys hS hS1 hr HYS HA6
        go_wp2_with (first | (go_at_call 9; refine (OF1.out _ X6.out).mono ?_; rintro x w7 ⟨rfl, x7⟩; refine stop_of ?_))
        unfold Stop
        have X7 := Lib.hid x7
        clear x7 OF1
        go_wp2_with (first | (go_at_call 9; refine (OF2.out _ X7.out).mono ?_; rintro x w8 ⟨rfl, x8⟩; refine stop_of ?_))
        unfold Stop
        have X8 := Lib.hid (X6.out.trans (X7.out.trans x8))
        clear x8 X7 X6 OF2
        go_wp2
        go_ret
        exact ⟨rfl, X8.out.trans ((alloc_ext _ _).trans (alloc_ext _ _))⟩
  · simp only [pickOps, List.map_cons, List.map_nil, List.getD_cons_succ, List.getD_cons_zero]
    refine wpList_build1a rfl _ rfl cl rfl h57 ?_
    intro N4 u4 hN4 hu4
    have E4 := Lib.hid (show Ext w1 u4 by rw [hu4]; exact ((Ext.drew (Ext.refl w1))).alloc _)
    have C4 := Lib.hid (show u4.heap[N4]? = some (.cells cl.toArray 46 (0, 0)) by rw [hu4, hN4]; exact heap_alloc_new _ _)
    clear hN4 hu4
    go_wp2_with fail
    refine ⟨E4.out.fromDrew, ?_⟩
    rw [wpTr_one]
    simp only [pickOps, List.map_cons, List.map_nil, List.getD_cons_succ, List.getD_cons_zero]
    refine wpList_build0 rfl rfl ?_
    intro N0 u0 hN0 hu0
    have E0 := Lib.hid (show Ext w1 u0 by rw [hu0]; exact (E4.out).alloc _)
    have O0 := Lib.hid (show u0.ownsRow w1.heap.size 46 57 (.slice (some ⟨N0, 0, none⟩) 0 0) 0 [] by rw [hu0, hN0]; exact World.ownsRow_made (e := 46) (size := 57) u4 #[] 0 (E4.out).size (by simp) rfl)
    have C0 := Lib.hid (show u0.heap[N4]? = some (.cells cl.toArray 46 (0, 0)) by rw [hu0]; exact (alloc_ext u4 _).heap C4.out)
    have NE : N0 ≠ N4 := by have := blk_lt C4.out; omega
    clear hN0 hu0
    go_wp2_with fail
    refine ⟨E0.out.fromDrew, ?_⟩
    rw [wpTr_one]
    simp only [pickOps, List.map_cons, List.map_nil, List.getD_cons_succ, List.getD_cons_zero]
    refine append_evs rfl (.tmp 12) (.tmp 13) rfl w1.heap.size _ 0 [] A m c L.flatten O0.out rfl rfl FL.out (fun b off ea j u hj => Ext.cell (X1.out.trans E0.out) (HLA.out b off ea j u hj)) HSP.out HL.out.one (by omega) HNIL.out (E0.out).size ?_
    intro v2 u2 hO2 hg2
    rw [List.nil_append, Nat.zero_add] at hO2
    have E2 := Lib.hid (show Ext w1 u2 from RowKit.Below.trans E0.out (own_below O0.out hg2 (E0.out).size))
    have O2 := Lib.hid hO2
    have C2 := Lib.hid ((hg2.block N4 (blk_lt C0.out) (fun h => NE (by simpa [Value.ownBlock] using h.symm))).trans C0.out)
    clear hO2 hg2
    go_wp2_with fail
    refine ⟨E2.out.fromDrew, ?_⟩
    rw [wpTr_one]
    simp only [pickOps, List.map_cons, List.map_nil, List.getD_cons_succ, List.getD_cons_zero]
    refine append_evs rfl (.tmp 14) (.tmp 16) rfl w1.heap.size v2 m L.flatten (some ⟨N4, 0, none⟩) 1 1 cl O2.out rfl rfl (by rw [h57]) (fun b off ea j u hj => by
      simp only [Option.some.injEq, Addr.mk.injEq, and_true] at ea
      obtain ⟨rfl, rfl⟩ := ea
      rw [Nat.zero_add, blk_cell C2.out j]; simpa using hj) (fun ad h _ => by cases h; rfl) HONE.out (by omega) (by simp) (E2.out).size ?_
    intro v5 w5 hO5 hg5
    have hE5 : Ext w1 w5 := RowKit.Below.trans E2.out (own_below O2.out hg5 (E2.out).size)
    obtain ⟨ys, hys⟩ : ∃ ys, ys = xs ++ [e] := ⟨_, rfl⟩
    have hR5 : RowL w5 (L ++ [cl]) ys := by rw [hys]; exact (HL.out.ext (X1.out.trans hE5)).snoc HE.out (HF.out.ext (X1.out.trans hE5))
    have hlen5 : ys.length = m + 1 := by rw [hys, List.length_append, ← HM.out]; rfl
    obtain ⟨A5, c5, rfl, hA5⟩ := evF_of_row hR5 (v := v5) (base := w1.heap.size) (by rw [hlen5, List.flatten_append]; simpa using hO5)
    rw [hlen5]
    have HYS := Lib.hid hys; have HA5 := Lib.hid hA5; have X5 := Lib.hid (X1.out.trans hE5); have HLEN5 := Lib.hid hlen5
    clear hys hA5 hR5 hlen5 hO5 hg5
    go_wp2_with fail
    refine ⟨hE5.fromDrew, ?_⟩
    rw [wpTr_one]
    simp only [pickOps, List.map_cons, List.map_nil, List.getD_cons_succ, List.getD_cons_zero]
    go_wp2_with fail
    refine ⟨hE5.fromDrew, ?_⟩
    rw [wpTr_done]
    clear hE5
    have hsm := small_any w5 A5 ys c5 HA5.out (by rw [HLEN5.out]; omega)
    rw [HLEN5.out] at hsm
    have HSM := Lib.hid hsm
    clear hsm
    go_wp2_with (go_at_call 8; refine HSM.out.mono ?_; rintro x w6 ⟨r, rfl, hr, x6⟩; refine stop_of ?_)
    unfold Stop
    have X6 := Lib.hid (X5.out.trans x6)
    have HA6 := Lib.hid (HA5.out.ext x6)
    clear x6 HSM HA5
    cases r with
    | false =>
      clear hr
      go_wp2
      go_ret
      exact ⟨rfl, X6.out⟩
    | true =>
      have hS := hr rfl
      have hS1 : SmallF xs := SmallF.init (e := e) (by rw [← HYS.out]; exact hS)
      have hlaw := more_law (evs xs) e.ev node
      have eys : evs xs ++ [e.ev] = evs ys := by rw [HYS.out]; simp [evs]
      rw [eys] at hlaw
      have of1 := fun W (x : Ext w W) => of_small (c := c) (node := node) (HO.out.ext x) hS1 HN.out
      have of2 := fun W (x : Ext w6 W) => of_small (c := c5) (node := node) (HA6.out.ext x) hS HN.out
      simp only [← HM.out] at of1
      simp only [HLEN5.out] at of2
      obtain ⟨s, hs⟩ : ∃ s, s = ofS (evs xs) node := ⟨_, rfl⟩
      obtain ⟨t, ht⟩ : ∃ t, t = ofS (evs ys) node := ⟨_, rfl⟩
      rw [← hs, ← ht] at hlaw
      simp only [← hs] at of1
      simp only [← ht] at of2
      have OF1 : Hid (∀ W, Ext w W → Calls Try.prog 9 #[.slice A m c, .int .i64 node] W fun e w' => e = .returned (.agg #[.int .i64 (s 0), .int .i64 (s 1), .int .i64 (s 2), .int .i64 (s 3), .int .i64 (s 4), .int .i64 (s 5), .int .i64 (s 6), .int .i64 (s 7), .int .i64 (s 8), .int .i64 (s 9), .int .i64 (s 10), .int .i64 (s 11)]) ∧ Ext W w') := Lib.hid of1
      have OF2 : Hid (∀ W, Ext w6 W → Calls Try.prog 9 #[.slice A5 (m + 1) c5, .int .i64 node] W fun e w' => e = .returned (.agg #[.int .i64 (t 0), .int .i64 (t 1), .int .i64 (t 2), .int .i64 (t 3), .int .i64 (t 4), .int .i64 (t 5), .int .i64 (t 6), .int .i64 (t 7), .int .i64 (t 8), .int .i64 (t 9), .int .i64 (t 10), .int .i64 (t 11)]) ∧ Ext W w') := Lib.hid of2
      have q0 : s 0 ≤ t 0 := hlaw.1 0
      have q1 : s 1 ≤ t 1 := hlaw.1 1
      have q2 : s 2 ≤ t 2 := hlaw.1 2
      have q3 : s 3 ≤ t 3 := hlaw.1 3
      have q4 : s 4 ≤ t 4 := hlaw.1 4
      have q5 : s 5 ≤ t 5 := hlaw.1 5
      have q6 : s 6 ≤ t 6 := hlaw.1 6
      have q7 : s 7 ≤ t 7 := hlaw.1 7
      have q8 : s 8 ≤ t 8 := hlaw.1 8
      have q9 : s 9 ≤ t 9 := hlaw.1 9
      have q10 : s 10 ≤ t 10 := hlaw.1 10
      have q11 : s 11 ≤ t 11 := hlaw.1 11
      have q12 : t 6 ≤ t 5 := hlaw.2
      clear of1 of2 hlaw hs ht eys hS hS1 hr HYS HA6
      go_wp2_with (first | (go_at_call 9; refine (OF1.out _ X6.out).mono ?_; rintro x w7 ⟨rfl, x7⟩; refine stop_of ?_))
      unfold Stop
      have X7 := Lib.hid x7
      clear x7 OF1
      go_wp2_with (first | (go_at_call 9; refine (OF2.out _ X7.out).mono ?_; rintro x w8 ⟨rfl, x8⟩; refine stop_of ?_))
      unfold Stop
      have X8 := Lib.hid (X6.out.trans (X7.out.trans x8))
      clear x8 X7 X6 OF2
      go_wp2
      go_ret
      exact ⟨rfl, X8.out.trans ((alloc_ext _ _).trans (alloc_ext _ _))⟩
set_option maxRecDepth 100000 in
theorem statsMore_lifted (os : Os) (started : os.Started) (H : Type) (enc : TypeId × Value → H) :
    ReturnsInHanded {} Try.checked os 3 .any (Rows.statsMoreSpec.pre6 enc Try.prog Try.f3 Rows.statsMoreRow.domain false) (Rows.statsMoreSpec.post enc Try.prog Try.f3 false true false false) := by
  refine returnsInHanded_of_change_sized (C := Try.checked) own started (by kernel_rfl) Try.func3
    (ChangeSpec.witness6 (enc := enc) (C := Try.checked) false ⟨#[], #[.slice none 0 0, .agg Z46, .int .i64 0], []⟩ 8 (by kernel_rfl) (by kernel_rfl) (by kernel_rfl) (by kernel_rfl)) ?_
  intro W base args ds gs before hval0 hW hcnd hsz _
  have hval : ∀ (j : Nat) t v, Try.f3.params[j]? = some t → args[j]? = some v → Value.okWide Try.prog W .any base t v := hval0
  have hW' := hW
  obtain ⟨p, q, hA0, hV, rfl, hfz, hnd⟩ := hW
  have hA : DataW.TrodAll enc Try.prog W 0 (fun _ => true) true Try.f3.params.toList args.toList ds p := hA0
  rw [Try.params3] at hA hval
  obtain ⟨v0, vs0, d0, ds0, p0, q0, hargs, rfl, rfl, h0, r0⟩ := trodAll_cons hA
  obtain ⟨v1, vs1, d1, ds1, p1, q1, rfl, rfl, rfl, h1, r1⟩ := trodAll_cons r0
  obtain ⟨v2, vs2, d2, ds2, p2, q2, rfl, rfl, rfl, h2, r2⟩ := trodAll_cons r1
  obtain ⟨rfl, rfl, rfl⟩ := trodAll_nil r2
  obtain rfl : args = #[v0, v1, v2] := by cases args; simp_all
  obtain ⟨rfl, rfl⟩ := trodVars_none hV
  have lt0 : ∀ x ∈ p0, x.block < W.heap.size := by obtain ⟨m, hm⟩ := h0; exact DataW.trod_lt m _ _ _ hm
  have t0 := fun W' (bel : Below W.heap.size W W') => Below.trod laidOut (by kernel_rfl) (of_decide_eq_true (by kernel_rfl)) h0 bel lt0
  have lt1 : ∀ x ∈ p1, x.block < W.heap.size := by obtain ⟨m, hm⟩ := h1; exact DataW.trod_lt m _ _ _ hm
  have t1 := fun W' (bel : Below W.heap.size W W') => Below.trod laidOut (by kernel_rfl) (of_decide_eq_true (by kernel_rfl)) h1 bel lt1
  have lt2 : ∀ x ∈ p2, x.block < W.heap.size := by obtain ⟨m, hm⟩ := h2; exact DataW.trod_lt m _ _ _ hm
  have t2 := fun W' (bel : Below W.heap.size W W') => Below.trod laidOut (by kernel_rfl) (of_decide_eq_true (by kernel_rfl)) h2 bel lt2
  have wk0 : WOk Try.prog 22 d0 := wok_arg hsz (j := 0) rfl rfl
  obtain ⟨A0, xs0, c0, rfl, ha0, hl0, hn0⟩ := events_open wk0 (hval 0 22 v0 rfl rfl) h0
  have hb0 := events_weight wk0 h0
  have wk1 : WOk Try.prog 46 d1 := wok_arg hsz (j := 1) rfl rfl
  obtain ⟨cs1, e1, rfl, he1, hf1⟩ := event_open wk1 (hval 1 46 v1 rfl rfl) h1
  have wk2 : WOk Try.prog 3 d2 := wok_arg hsz (j := 2) rfl rfl
  obtain ⟨i2, rfl, _, _, wf2⟩ := open_int Try.underlying3 (hval 2 3 v2 rfl rfl) h2
  clear hA0 hval0 hsz
  refine (more_walk xs0 A0 c0 cs1 e1 i2 W ha0 hl0 hn0 hb0 he1 hf1 wf2 ).mono fun e W' ⟨he, bel⟩ => ?_
  subst he
  exact ⟨_, rfl, _, _, _, [], _, [], hW', trodAll_mk1 (shut_bool Try.underlying4 _), (trodAll_cons_mk (t0 W' bel) (trodAll_cons_mk (t1 W' bel) (trodAll_cons_mk (t2 W' bel) trodAll_mk0))), rfl, bel.frame _, fun h => by cases h⟩

/-- The statement. -/
theorem StatsMore_proved : Rows.StatsMoreSaid :=
  OpenClaim.holds_of_wide 3 Try.f3 rfl rfl rfl rfl rfl rfl rfl ⟨rfl, rfl, rfl, rfl, rfl⟩ rfl rfl rfl rfl rfl (by kernel_rfl) Try.func3 (by kernel_rfl)
    (of_decide_eq_true (by kernel_rfl)) (by unfold Func.isWrapper; first | (rw [if_pos (by decide +kernel)]; kernel_rfl) | (rw [if_neg (by decide +kernel)]; exact ⟨rfl, rfl⟩))
    (fun os started H enc _ => statsMore_lifted os started H enc)
#print axioms StatsMore_proved
end Go.Proofs.Ytlddpdlebdjniaa
