/- The statements' example, walked. -/
import Derived.Test.YtlddpdlebdjniaaDoorWakes0
import Derived.Test.YtlddpdlebdjniaaDoorW1
namespace Go.Proofs.YtlddpdlebdjniaaDoor
set_option linter.unusedSimpArgs false
open Go.RowKit Go.Maps Go.ChangeMaps Go.Sort Go.Shelf
set_option linter.unusedVariables false

def abc : Array Value := #[.int .u8 97, .int .u8 98, .int .u8 99]
theorem top_ex (w : World) (g : Nat) (z : Nat × Nat) (b1 b2 : Nat) (hg : w.heap[g]? = some (.cells (exL b1 b2).flatten.toArray 53 z)) :
    Calls Tryd.prog 8 #[.slice (some ⟨g, 0, none⟩) 7 7, .int .i64 5] w fun e w' => ∃ (A1 A2 : Option Addr) (c1 c2 : Nat) (g1 o1 g2 o2 : Nat), e = .returned (.tuple #[.slice (some ⟨g1, o1, none⟩) 1 c1, .slice (some ⟨g2, o2, none⟩) 1 c2]) ∧ w'.cell? ⟨g1, o1, none⟩ = some (.string ⟨#[47, 97]⟩) ∧ w'.cell? ⟨g2, o2, none⟩ = some (.int .i64 3) ∧ Ext w w' := by
  have hE := events_lit hg rfl (exE_ok b1 b2)
  refine (top_any w (some ⟨g, 0, none⟩) exE 7 5 hE (by decide) (by decide) (by decide)).mono ?_
  rintro e w' ⟨v1, v2, ts, rfl, ⟨h1, h2, _⟩, h4, h5, h6⟩
  have hts : ts = [[47, 97]] := by
    have hm : ∀ t, t ∈ ts ↔ t ∈ [[47, 97]] := fun t => by
      rw [h2, ex_top]; simp
    have hp : ts.Perm [[47, 97]] := (List.perm_ext_iff_of_nodup h1 (by simp)).2 hm
    simpa using hp
  subst hts
  have e1 : (min (max (5 : Int) 0) (([[47, 97]] : List Bs).length : Int)).toNat = 1 := by decide
  rw [e1] at h4 h5
  simp only [List.take_succ_cons, List.take_zero] at h4 h5
  obtain ⟨A1, c1, rfl, hc1⟩ := h4
  obtain ⟨g1, o1, rfl, _, k1⟩ := hc1 0 (by decide)
  have hnn : ∃ g2 c2, v2 = .slice (some ⟨g2, 0, none⟩) 1 c2 ∧ w'.cell? ⟨g2, 0, none⟩ = some (.int .i64 3) := by
    rcases h5.2 with ⟨_, h0⟩ | ⟨g2, cap, cur, rfl, _, hgg, _⟩
    · simp at h0
    · refine ⟨g2, cap, rfl, ?_⟩
      have := World.ownsRow.cellAt h5 0 (by decide)
      rw [this]
      simp [ex_top]
  obtain ⟨g2, c2, rfl, k2⟩ := hnn
  exact ⟨none, none, c1, c2, g1, o1, g2, 0, rfl, by simpa using k1, k2, h6⟩
theorem wpList_build7W {ops : Array Oper} {rest : List Oper} {o : Oper} {a : Act} {w : World} {Q : Exit → Act → World → Prop} (hg : o.guard = none) (p0 p1 p2 p3 p4 p5 p6 : Operand) (ho : o.op = .buildSlice 54 7 #[(0, p0), (1, p1), (2, p2), (3, p3), (4, p4), (5, p5), (6, p6)])
    (l0 l1 l2 l3 l4 l5 l6 : List Value) (h0 : a.eval p0 = .agg l0.toArray) (h1 : a.eval p1 = .agg l1.toArray) (h2 : a.eval p2 = .agg l2.toArray) (h3 : a.eval p3 = .agg l3.toArray) (h4 : a.eval p4 = .agg l4.toArray) (h5 : a.eval p5 = .agg l5.toArray) (h6 : a.eval p6 = .agg l6.toArray)
    (hl : ∀ l ∈ [l0, l1, l2, l3, l4, l5, l6], l.length = 57) (N : Nat) (hN : w.heap.size = N) (W : World) (hW : w.alloc (.cells [l0, l1, l2, l3, l4, l5, l6].flatten.toArray 53) = W)
    (h : wpList Tryd.prog ops Q rest (a.put o.dst (.slice (some ⟨N, 0, none⟩) 7 7)) W) : wpList Tryd.prog ops Q (o :: rest) a w := by
  subst hW
  exact wpList_build7 hg p0 p1 p2 p3 p4 p5 p6 ho l0 l1 l2 l3 l4 l5 l6 h0 h1 h2 h3 h4 h5 h6 hl N hN h
set_option maxRecDepth 100000 in
set_option maxHeartbeats 8000000 in
theorem wakes_any (w : World) : Calls Tryd.prog 4 #[] w fun e w' => e = .returned (.bool true) ∧ Ext w w' := by
  have kc := Go.Lib.run_convert_bytes_const (P := Tryd.prog) w 51 5 abc 3 3 Tryd.underlying51 Tryd.underlying5
  have kc2 := Go.Lib.run_convert_bytes_const (P := Tryd.prog) (w.alloc (.cells abc 5 (3, 4))) 51 5 abc 3 3 Tryd.underlying51 Tryd.underlying5
  rw [World.size_alloc] at kc2
  obtain ⟨W, hW⟩ : ∃ W, W = ((w.alloc (.cells #[.int .u8 97, .int .u8 98, .int .u8 99] 5 (3, 4))).alloc (.cells #[.int .u8 97, .int .u8 98, .int .u8 99] 5 (3, 4))).alloc (.cells (exL w.heap.size (w.heap.size + 1)).flatten.toArray 53) := ⟨_, rfl⟩
  have hx : Ext w W := by rw [hW]; exact (alloc_ext _ _).trans ((alloc_ext _ _).trans (alloc_ext _ _))
  have hg : W.heap[w.heap.size + 2]? = some (.cells (exL w.heap.size (w.heap.size + 1)).flatten.toArray 53 (0, 0)) := by rw [hW]; exact heap_alloc3_new w _ _ _
  have HT := Lib.hid (top_ex W (w.heap.size + 2) (0, 0) _ _ hg)
  have HG := Lib.hid hg; have HX := Lib.hid hx
  have hW' : ((w.alloc (.cells #[.int .u8 97, .int .u8 98, .int .u8 99] 5 (3, 4))).alloc (.cells #[.int .u8 97, .int .u8 98, .int .u8 99] 5 (3, 4))).alloc (.cells ([evL 6 [47, 97] (.slice none 0 0) false, evL 11 [] (.slice none 0 0) false, evL 12 [] (.slice none 0 0) false, evL 13 [] (.slice (some ⟨w.heap.size, 0, none⟩) 3 3) false, evL 8 [] (.slice none 0 0) false, evL 9 [] (.slice (some ⟨w.heap.size + 1, 0, none⟩) 3 3) false, evL 10 [] (.slice none 0 0) true].flatten.toArray) 53) = W := by rw [hW]; rfl
  have HW := Lib.hid hW'
  clear hg hx hW hW'
  unfold abc at kc kc2
  go_enter Tryd.func4, Tryd.ntmps4
  go_wp2_with (first | (refine wpList_buildTo rfl 53 _ rfl (some 5) rfl (evL 6 [47, 97] (.slice none 0 0) false).toArray (by kernel_rfl) ?_) | (refine wpList_buildTo rfl 53 _ rfl (some 6) rfl (evL 11 [] (.slice none 0 0) false).toArray (by kernel_rfl) ?_) | (refine wpList_buildTo rfl 53 _ rfl (some 7) rfl (evL 12 [] (.slice none 0 0) false).toArray (by kernel_rfl) ?_) | (refine wpList_buildTo rfl 53 _ rfl (some 10) rfl (evL 13 [] (.slice (some ⟨w.heap.size, 0, none⟩) 3 3) false).toArray (by kernel_rfl) ?_) | (refine wpList_buildTo rfl 53 _ rfl (some 11) rfl (evL 8 [] (.slice none 0 0) false).toArray (by kernel_rfl) ?_) | (refine wpList_buildTo rfl 53 _ rfl (some 14) rfl (evL 9 [] (.slice (some ⟨w.heap.size + 1, 0, none⟩) 3 3) false).toArray (by kernel_rfl) ?_) | (refine wpList_buildTo rfl 53 _ rfl (some 15) rfl (evL 10 [] (.slice none 0 0) true).toArray (by kernel_rfl) ?_) | (refine wpList_build7W rfl _ _ _ _ _ _ _ rfl (evL 6 [47, 97] (.slice none 0 0) false) (evL 11 [] (.slice none 0 0) false) (evL 12 [] (.slice none 0 0) false) (evL 13 [] (.slice (some ⟨w.heap.size, 0, none⟩) 3 3) false) (evL 8 [] (.slice none 0 0) false) (evL 9 [] (.slice (some ⟨w.heap.size + 1, 0, none⟩) 3 3) false) (evL 10 [] (.slice none 0 0) true) rfl rfl rfl rfl rfl rfl rfl (by simp [evL_len]) (w.heap.size + 2) (by simp) W HW.out ?_; refine stop_of ?_))
  unfold Stop
  clear HW kc kc2
  go_wp2_with (go_at_call 8; refine HT.out.mono ?_; rintro e w1 ⟨A1, A2, c1, c2, g1, o1, g2, o2, rfl, k1, k2, x1⟩; refine stop_of ?_)
  unfold Stop
  have X1 := Lib.hid x1
  have hof := of_walk w1 (some ⟨w.heap.size + 2, 0, none⟩) exE 7 0 ((events_lit HG.out rfl (exE_ok _ _)).ext x1) (by decide) (by decide) (by decide)
  have esum : sumA (ofS exE 0) = #[.int .i64 1, .int .i64 1, .int .i64 0, .int .i64 0, .int .i64 3, .int .i64 3, .int .i64 0, .int .i64 1, .int .i64 0, .int .i64 0, .int .i64 0, .int .i64 0] := by rw [ex_of]; rfl
  rw [esum] at hof
  have HOF : Hid (Calls Tryd.prog 9 #[.slice (some ⟨w.heap.size + 2, 0, none⟩) 7 7, .int .i64 0] w1 fun e w' => e = .returned (.agg #[.int .i64 1, .int .i64 1, .int .i64 0, .int .i64 0, .int .i64 3, .int .i64 3, .int .i64 0, .int .i64 1, .int .i64 0, .int .i64 0, .int .i64 0, .int .i64 0]) ∧ Ext w1 w') := Lib.hid hof
  clear x1 hof esum HT HG
  go_wp2_with (go_at_call 9; refine HOF.out.mono ?_; rintro e w2 ⟨rfl, x2⟩; refine stop_of ?_)
  unfold Stop
  have d1 : w2.cell? ⟨g1, o1, none⟩ = some (.string ⟨#[47, 97]⟩) := Ext.cell x2 k1
  have d2 : w2.cell? ⟨g2, o2, none⟩ = some (.int .i64 3) := Ext.cell x2 k2
  have X2 := Lib.hid (HX.out.trans (X1.out.trans x2))
  clear x2 k1 k2 X1 HX HOF
  go_wp2
  go_ret
  exact ⟨rfl, X2.out⟩
end Go.Proofs.YtlddpdlebdjniaaDoor
