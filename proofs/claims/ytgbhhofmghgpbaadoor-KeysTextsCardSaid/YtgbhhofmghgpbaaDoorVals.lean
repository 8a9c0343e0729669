/- slices.Sorted(slices.Values(s)) at a list of texts: the iterator over a slice, what is collected of it, sorted. -/
import Derived.Test.YtgbhhofmghgpbaaDoorLay
import Derived.Test.YtgbhhofmghgpbaaDoorPar0
import Derived.Test.YtgbhhofmghgpbaaDoorKit
import Derived.Test.YtgbhhofmghgpbaaDoorSeg
import Derived.RangeFuncBox
import Derived.RangeFuncLeaves
import Derived.RangeFuncWrites
import Derived.Shelf.Abstract
import Derived.WalkKit
import Derived.OwnWalkIn
import Derived.TacticsInMore
import Derived.LoopNIn
import Derived.LoopIn
namespace Go.Proofs.YtgbhhofmghgpbaaDoor
open Go.RowKit Go.Sort Go.Shelf
set_option linter.unusedVariables false
attribute [local go_sem] Oper.semAt_some

/-- The slice value sv holds the texts ss, in a block below n0; or it is nil and there are none. -/
def Texts (n0 : Nat) (W : World) (sv : Value) (ss : List Bs) : Prop :=
  ∃ (A : Option Addr) (c : Nat), sv = .slice A ss.length c ∧ ∀ j (hj : j < ss.length), ∃ b off, A = some ⟨b, off, none⟩ ∧ b < n0 ∧ W.cell? ⟨b, off + j, none⟩ = some (encStr ss[j])
theorem Texts.below {n0 : Nat} {A B : World} (h : Below n0 A B) {sv : Value} {ss : List Bs} (ht : Texts n0 A sv ss) : Texts n0 B sv ss := by
  obtain ⟨a, c, e, hc⟩ := ht
  refine ⟨a, c, e, fun j hj => ?_⟩
  obtain ⟨b, off, e1, e2, e3⟩ := hc j hj
  exact ⟨b, off, e1, e2, (h.cell (p := ⟨b, off + j, none⟩) e2).trans e3⟩

set_option maxRecDepth 100000 in
set_option maxHeartbeats 2000000 in
/-- The closure of slices.Values, for every loop body that keeps what lay below n0. -/
theorem values1_in (F : Fence) (n : Nat) (h7 : F.fn 37) (hro : F.round = none) (hn : 1 ≤ n) (l Bx n0 : Nat) (sv : Value) (ss : List Bs) (hlen : ss.length ≤ 1000000) (J Jx : List Bs → World → Prop)
    (hY : ∀ pre x W, J pre W → pre.length < ss.length → YieldAt F (n - 1) Tryd.prog l #[encStr x] W fun e W' =>
      (e = .returned (.bool true) ∧ J (pre ++ [x]) W' ∧ Below n0 W W') ∨ (e = .returned (.bool false) ∧ Jx (pre ++ [x]) W'))
    (W : World) (hBs : W.cell? ⟨Bx, 0, none⟩ = some sv) (hT : Texts n0 W sv ss) (h0 : J [] W) :
    CallsIn F n Tryd.prog 37 #[.func (.yield l) #[] #[], .pointer (some ⟨Bx, 0, none⟩)] W fun e W' => (∃ v, e = .returned v) ∧
      ((∃ ys, ys = ss ∧ J ys W') ∨ (∃ pre, pre <+: ss ∧ Jx pre W')) := by
  obtain ⟨A, c, rfl, hc⟩ := hT
  obtain ⟨len, hle⟩ : ∃ len, len = ss.length := ⟨_, rfl⟩
  rw [← hle] at hBs hlen
  have HC := Lib.hid hc; have HLE := Lib.hid hle
  clear hc hle
  refine callsIn_of_wp Tryd.func37 rfl h7 ?_ hro
  simp only [Tryd.ntmps37, List.size_toArray, List.length_cons, List.length_nil, Nat.reduceAdd, Nat.reduceSub, Array.replicate_succ, Array.replicate_zero, List.push_toArray, List.append_toArray, List.nil_append, List.cons_append]
  gi_wp2
  gi_loopw [7] (fun i wr => ∃ k : Nat, k ≤ len ∧ i = .int .i64 k ∧ J (ss.take k) wr ∧ Below n0 W wr)
    (fun i _ => len - (intOf i).toNat)
  case atStart => exact ⟨0, Nat.zero_le _, rfl, h0, Below.refl _ _⟩
  case round =>
    obtain ⟨k, hk, rfl, hJs, hnx⟩ := hrel
    by_cases hlt : k < len
    · have hks : k < ss.length := by rw [← HLE.out]; exact hlt
      obtain ⟨b, off, rfl, hb, hcx⟩ := HC.out k hks
      have hcx' : wr.cell? ⟨b, off + k, none⟩ = some (encStr ss[k]) := (hnx.cell (p := ⟨b, off + k, none⟩) hb).trans hcx
      have htk : ss.take (k + 1) = ss.take k ++ [ss[k]] := List.take_succ_eq_append_getElem hks
      obtain ⟨fn, tmps, assign, body, hy, hR⟩ := hY _ ss[k] wr hJs (by rw [List.length_take]; omega)
      obtain ⟨x, hx⟩ : ∃ x, x = ss[k] := ⟨_, rfl⟩
      rw [← hx] at hcx' hy hR htk
      have HTK := Lib.hid htk
      clear htk hx hcx hks
      gi_wp2
      refine hR.mono ?_
      rintro e W3 (⟨rfl, hJ3, hk3⟩ | ⟨rfl, hJx3⟩)
      · gi_wp2
        go_roundw
        case rel => exact ⟨k + 1, by omega, by simp, by rw [HTK.out]; exact hJ3, hnx.trans hk3⟩
        case measure => simp [intOf]; omega
      · gi_wp2
        refine bodyPost_ret (results_none rfl _ _ _) rfl ?_
        exact ⟨⟨_, rfl⟩, .inr ⟨_, by rw [← HTK.out]; exact List.take_prefix _ _, hJx3⟩⟩
    · obtain rfl : k = len := by omega
      gi_wp2
      go_end0
      exact ⟨⟨_, rfl⟩, .inl ⟨_, List.take_of_length_le (by rw [← HLE.out]; exact Nat.le_refl _), hJs⟩⟩

set_option maxHeartbeats 1000000 in
theorem values_in (F : Fence) (n : Nat) (h5 : F.fn 26) (hro : F.round = none) (a : Option Addr) (len cap : Nat) (w : World) :
    CallsIn F n Tryd.prog 26 #[.slice a len cap] w fun e w' => e = .returned (.func (.func 37) #[] #[.pointer (some ⟨w.heap.size, 0, none⟩)]) ∧ w' = w.alloc (.cells #[.slice a len cap] 23) := by
  refine callsIn_of_wp Tryd.func26 rfl h5 ?_ hro
  simp only [Tryd.ntmps26, List.size_toArray, List.length_cons, List.length_nil, Nat.reduceAdd, Nat.reduceSub, Array.replicate_succ, Array.replicate_zero, List.push_toArray, List.append_toArray, List.nil_append, List.cons_append]
  gi_wp2
  go_ret
  exact ⟨rfl, rfl⟩

theorem values_stops (F : Fence) (n : Nat) (h7 : F.fn 37) (hro : F.round = none) (hn : 1 ≤ n) (Bx n0 : Nat) (sv : Value) (ss : List Bs) (hlen : ss.length ≤ 1000000) (w : World) (hBs : Bx < w.heap.size) (hn0 : n0 ≤ w.heap.size)
    (hc : w.cell? ⟨Bx, 0, none⟩ = some sv) (hT : Texts n0 w sv ss) :
    SeqStopsK F n Tryd.prog 37 #[.pointer (some ⟨Bx, 0, none⟩)] (fun x : Bs => #[encStr x]) (Below n0) (fun ys => ys = ss) (fun pre => pre <+: ss) ss.length w := fun l J Jx W hW _ _ hY h0 =>
  values1_in F n h7 hro hn l Bx n0 sv ss hlen J Jx hY W ((hW.cell (p := ⟨Bx, 0, none⟩) hBs).trans hc) (hT.below (hW.mono hn0)) h0

theorem info9 : (Tryd.prog.info? 9).map (fun i => (i.zero, i.size, i.bytes)) = some (some (.string ⟨#[]⟩), 1, 16) := by kernel_rfl
/-- What AppendSeq has collected. -/
structure Got (w0 : World) (Bx : Nat) (pre : List Bs) (W : World) : Prop where
  box : ∃ v, W.heap[Bx]? = some (.cells #[v] 23 (0, 0)) ∧ W.ownsRow (Bx + 1) 9 1 v pre.length (pre.map encStr)
  below : Below w0.heap.size w0 W
theorem Got.own {w0 : World} {Bx B : Nat} (hB : w0.heap.size ≤ B) : OwnFrom B (Got w0 Bx) := fun s W W' row h hg hr => by
  obtain ⟨v, h1, h2⟩ := h.box
  refine ⟨⟨v, ?_, h2.kept hg ?_⟩, h.below.trans ⟨hg.os, hg.tape, hg.output, hg.size, fun k hk => hg.block k (Nat.lt_of_lt_of_le hk h.below.size) (fun e => by have := (hr k e.symm).1; omega)⟩⟩
  · refine (hg.block Bx (blk_lt h1) (fun e => ?_)).trans h1
    obtain ⟨_, o, ho, hc⟩ := hr Bx e.symm
    rw [h1] at ho; injection ho with ho; subst ho; cases hc
  · rcases h2.2 with ⟨rfl, _⟩ | ⟨g, cap, cur, rfl, hb, hgg, _⟩
    · exact .inl rfl
    · refine .inr fun e => ?_
      obtain ⟨_, o, ho, hc⟩ := hr g e.symm
      rw [hgg] at ho; injection ho with ho; subst ho; cases hc

set_option maxRecDepth 100000 in
set_option maxHeartbeats 2000000 in
theorem appendSeq_in (F : Fence) (n : Nat) (h42 : F.fn 47) (h7 : F.fn 37) (hro : F.round = none) (hn : 3 ≤ n) (Bx : Nat) (sv : Value) (ss : List Bs) (hlen : ss.length ≤ 1000000) (w : World) (hBs : Bx < w.heap.size)
    (hc : w.cell? ⟨Bx, 0, none⟩ = some sv) (hT : Texts w.heap.size w sv ss) :
    CallsIn F n Tryd.prog 47 #[.slice none 0 0, .func (.func 37) #[] #[.pointer (some ⟨Bx, 0, none⟩)]] w fun e W' => ∃ v, e = .returned v ∧ W'.ownsRow w.heap.size 9 1 v ss.length (ss.map encStr) ∧ Below w.heap.size w W' := by
  have h1 : 1 ≤ n := by omega
  obtain ⟨i0, hi, hz0, hz1, hz2⟩ := info_parts info9
  refine callsIn_of_wp_marks Tryd.func47 rfl h42 ?_ hro
  simp only [Tryd.ntmps47, List.size_toArray, List.length_cons, List.length_nil, Nat.reduceAdd, Nat.reduceSub, Array.replicate_succ, Array.replicate_zero, List.push_toArray, List.append_toArray, List.nil_append, List.cons_append]
  gi_wp2
  have hx0 : Ext w (w.alloc (.cells #[.slice none 0 0] 23)) := Ext.alloc (Ext.refl _) _
  have hB0 : Below w.heap.size w (w.alloc (.cells #[.slice none 0 0] 23)) := hx0
  refine wpIn_rangeFunc_ownG hro h1 (gf := 37) (lb := #[.pointer (some ⟨Bx, 0, none⟩)]) rfl h7 (enters_of Tryd.func37 (by kernel_rfl) rfl)
    (values_stops F (n - 1) h7 hro (by omega) Bx w.heap.size sv ss hlen _ (by simp; omega) (by simp) (hx0.cell hc) (hT.below hB0)) belowK_t (belowK_b (by simp)) (Below.refl _ _) (fun _ => rfl)
    (Got w w.heap.size) (fun _ _ _ => False) (Got.own (by simp)) (fun _ _ _ _ _ hs _ _ => hs)
    ⟨⟨.slice none 0 0, heap_alloc_new _ _, World.ownsRow_nil _ _ _ _⟩, hB0⟩
    (fun x => { tmps := #[.slice none 0 0, .func (.func 37) #[] #[.pointer (some ⟨Bx, 0, none⟩)], .pointer (some ⟨w.heap.size, 0, none⟩), undef, .slice none 0 0, encStr x, .func (.func 37) #[] #[.pointer (some ⟨Bx, 0, none⟩)], encStr x, undef, undef, undef, undef, undef], defers := [] }) ?assign ?body ?done ?stop
  case assign =>
    intro l x W K hK
    gi_wp2
    exact hK
  case body =>
    rintro l pre x W ⟨⟨v, hbox, hown⟩, hB⟩ hpl
    have hcb : W.cell? ⟨w.heap.size, 0, none⟩ = some v := blk_cell hbox 0
    have hfb := blk_free hbox 0
    have hlw : w.heap.size < W.heap.size := blk_lt hbox
    obtain ⟨A, c, hvv⟩ := own_slice hown
    obtain ⟨m, hm⟩ : ∃ m, m = pre.length := ⟨_, rfl⟩
    rw [← hm] at hvv hown hpl
    subst hvv
    have HM := Lib.hid hm; have HOWN := Lib.hid hown; have HB := Lib.hid hB; have HBOX := Lib.hid hbox
    clear hm hown hB hbox
    gi_wp2_with (gi_at_builtin; refine wpListIn_append_own _ rfl _ _ 23 rfl (w.heap.size + 1) 9 i0 (.string ⟨#[]⟩) 1 16 Tryd.underlying23 hi hz0 hz1 hz2 rfl (by decide) _ _ _ rfl (HOWN.out.alloc _) ⟨W.heap.size, 0, none⟩ 1 1 [encStr x] rfl rfl (cell_one_new _ _ _) (by simp [Value.oneCell', encStr]) ?c1 ?c2 ?c3 ?_)
    case c1 => unfold maxLen; omega
    case c2 => omega
    case c3 => simp; omega
    intro v' w' hown' hg' _
    obtain ⟨A', c', hvv'⟩ := own_slice hown'
    subst hvv'
    have hg2 : W.grownBy w' (Value.slice A m c).ownBlock := grown_trans (World.grownBy_alloc W _ _) hg'
    have hbl : Below (w.heap.size + 1) W w' := own_below HOWN.out hg2 (by omega)
    have hbox' := (hbl.block w.heap.size (by omega)).trans HBOX.out
    have hcb' : w'.cell? ⟨w.heap.size, 0, none⟩ = some (.slice A m c) := blk_cell hbox' 0
    have hfb' := blk_free hbox' 0
    have hko : KeepsOthers W w' := KeepsOthers.of_grownBy hg2 (fun j o e ho => by
      rcases HOWN.out.2 with ⟨e1, _⟩ | ⟨g, cap, cur, e1, hb, hgg, _⟩
      · rw [e1] at e; cases e
      · rw [e1] at e
        injection e with e
        subst e
        rw [hgg] at ho; injection ho with ho; subst ho; rfl)
    have hend : KeepsFrom (w.alloc (.cells #[.slice none 0 0] 23)).heap.size W (w'.setCell ⟨w.heap.size, 0, none⟩ (.slice A' (m + 1) c')) := (hko.trans (KeepsOthers.setCell _ _ _)).from _
    have hbw : Below w.heap.size W w' := Below.mono hbl (Nat.le_succ _)
    have hbe : Below w.heap.size W (w'.setCell ⟨w.heap.size, 0, none⟩ (.slice A' (m + 1) c')) := hbw.setCell (p := ⟨w.heap.size, 0, none⟩) (Nat.le_refl _) _
    have hgot : Got w w.heap.size (pre ++ [x]) (w'.setCell ⟨w.heap.size, 0, none⟩ (.slice A' (m + 1) c')) := by
      refine ⟨⟨.slice A' (m + 1) c', by rw [blk_set hbox']; rfl, ?_⟩, HB.out.trans hbe⟩
      rw [List.map_append, List.length_append, ← HM.out]
      refine ⟨hown'.1, ?_⟩
      rcases hown'.2 with hn | ⟨g, cap, cur, e1, hb, hgg, rest⟩
      · exact .inl hn
      · exact .inr ⟨g, cap, cur, e1, hb, blk_far hgg (by simp; omega) _, rest⟩
    have HEND := Lib.hid hend; have HBE := Lib.hid hbe; have HGOT := Lib.hid hgot
    clear hown' hg' hg2 hbl hko hend hbe hgot hbox'
    gi_wp2
    exact ⟨HEND.out, HBE.out, HGOT.out⟩
  case done =>
    rintro D ys W hD rfl ⟨⟨v, hbox, hown⟩, hB⟩ hK
    have hcb : W.cell? ⟨w.heap.size, 0, none⟩ = some v := blk_cell hbox 0
    have HOWN := Lib.hid hown; have HB := Lib.hid hB
    clear hown hB hbox
    gi_wp2
    refine ⟨by simp, .inl ⟨_, _, rfl, run_takeDeferred hK, ?_⟩⟩
    have hg : W.grownBy (W.putObj D (.deferred none)) (some D) := grownBy_putObj' W D _
    refine ⟨_, results_tmp rfl _ _ _, v, rfl, ?_, HB.out.trans (belowK_b (w := w) (Nat.le_refl _) W D _ _ (by simp at hD; omega) hK rfl rfl)⟩
    refine ownsRow_base (base := w.heap.size + 1) (HOWN.out.kept hg ?_) (by omega)
    rcases HOWN.out.2 with ⟨e1, _⟩ | ⟨g, cap, cur, e1, hb, hgg, _⟩
    · rw [e1]; exact .inl rfl
    · rw [e1]
      refine .inr fun e => ?_
      injection e with e
      have e : g = D := e
      rw [e, hK] at hgg
      cases hgg
  case stop =>
    rintro D c pre W _ _ h _
    exact h.elim

set_option maxRecDepth 100000 in
set_option maxHeartbeats 2000000 in
theorem collect_vals (n : Nat) (hn : 4 ≤ n) (Bx : Nat) (sv : Value) (ss : List Bs) (hlen : ss.length ≤ 1000000) (w : World) (hBs : Bx < w.heap.size)
    (hc : w.cell? ⟨Bx, 0, none⟩ = some sv) (hT : Texts w.heap.size w sv ss) :
    CallsIn Fence.wide n Tryd.prog 35 #[.func (.func 37) #[] #[.pointer (some ⟨Bx, 0, none⟩)]] w fun e W' => ∃ v, e = .returned v ∧ W'.ownsRow w.heap.size 9 1 v ss.length (ss.map encStr) ∧ Below w.heap.size w W' := by
  have hca := appendSeq_in Fence.wide (n - 1) trivial trivial rfl (by omega) Bx sv ss hlen w hBs hc hT
  have h1 : 1 ≤ n := by omega
  have hf : Fence.wide.fn 47 := trivial
  refine callsIn_of_wp Tryd.func35 rfl trivial ?_ rfl
  simp only [Tryd.ntmps35, List.size_toArray, List.length_cons, List.length_nil, Nat.reduceAdd, Nat.reduceSub, Array.replicate_succ, Array.replicate_zero, List.push_toArray, List.append_toArray, List.nil_append, List.cons_append]
  gi_wp2_with (gi_at_call 47; refine hca.mono ?_; rintro e W ⟨v, rfl, hrow, hb⟩)
  go_ret
  exact ⟨v, rfl, hrow, hb⟩
end Go.Proofs.YtgbhhofmghgpbaaDoor
