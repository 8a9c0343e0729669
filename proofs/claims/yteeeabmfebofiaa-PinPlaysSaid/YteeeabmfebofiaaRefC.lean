/- The reference's functions, walked: Free, Shut. -/
import Derived.Test.YteeeabmfebofiaaRefB
namespace Go.Proofs.Yteeeabmfebofiaa
open Go.RowKit
set_option linter.unusedVariables false

theorem BRow.put {w : World} {B g n c : Nat} {zs : List Bool} (h : BRow w B (.slice (some ⟨g, 0, none⟩) n c) zs) (i : Nat) (b : Bool) : BRow (w.setCell ⟨g, i, none⟩ (.bool b)) B (.slice (some ⟨g, 0, none⟩) n c) (zs.set i b) := by
  rcases h.2 with ⟨e, _⟩ | ⟨g', cap, cur, e, hb, hgg, h1, h2, h3, h4⟩
  · cases e
  · injection e with e1 e2 e3
    injection e1 with e1
    injection e1 with e1
    subst e1 e2 e3
    refine ⟨by simp [bools], .inr ⟨g, c, cur.setIfInBounds i (.bool b), by simp, hb, blk_set hgg i _, by simpa using h1, h2, by simpa using h3, ?_⟩⟩
    have hs : bools (zs.set i b) = (bools zs).set i (.bool b) := by simp [bools, List.map_set]
    rw [hs, ← h4, Array.toList_setIfInBounds, List.length_set, List.take_set]

set_option maxRecDepth 100000 in
set_option maxHeartbeats 4000000 in
theorem rfree_again (w : World) (B : Nat) (vk vf vs : Value) (L : List Hold) (S : List Int) (i : Nat) (x : Hold) (h : RefAt w B vk vf vs L S) (hx : L[i]? = some x) (hf : x.freed = true) :
    Calls Try.prog 17 #[.agg #[vk, vf, vs], .int .i64 i] w fun e w' => e = .returned (.tuple #[.agg #[vk, vf, vs], .bool false]) ∧ Ext w w' := by
  obtain ⟨hi, hxe⟩ := List.getElem?_eq_some_iff.1 hx
  obtain ⟨A1, c1, hk1⟩ := h.keys.slice
  obtain ⟨g, c2, hk2, hc⟩ := h.freed.get (i := i) (by simpa using hi)
  obtain ⟨A3, c3, hk3⟩ := h.shut.slice
  rw [List.getElem_map, hxe, hf] at hc
  obtain ⟨n1, hn1⟩ : ∃ n, n = (L.map Hold.key).length := ⟨_, rfl⟩
  obtain ⟨n2, hn2⟩ : ∃ n, n = (L.map Hold.freed).length := ⟨_, rfl⟩
  obtain ⟨n3, hn3⟩ : ∃ n, n = S.length := ⟨_, rfl⟩
  have hi2 : i < n2 := by rw [hn2]; simpa using hi
  rw [← hn1] at hk1
  rw [← hn2] at hk2
  rw [← hn3] at hk3
  subst hk1 hk2 hk3
  have hg : g < w.heap.size := World.block_lt_of_cell? _ _ hc
  clear h hx hf hi hxe hn1 hn2 hn3
  go_enter Try.func17, Try.ntmps17
  go_wp2
  exact bodyPost_ret (v := .tuple #[.agg #[.slice A1 n1 c1, .slice (some ⟨g, 0, none⟩) n2 c2, .slice A3 n3 c3], .bool false]) (by simp [results, Try.results17, go_sem]) rfl ⟨rfl, Ext.alloc (Ext.alloc (Ext.refl _) _) _⟩

def RFreed (w : World) (B : Nat) (vk vs : Value) (L : List Hold) (S : List Int) (i : Nat) (e : Ending) (w' : World) : Prop :=
  ∃ vf', e = .returned (.tuple #[.agg #[vk, vf', vs], .bool true]) ∧ RefAt w' B vk vf' vs (endAt L i) S ∧ Ext w w'
theorem end_keys (L : List Hold) (i : Nat) : (endAt L i).map Hold.key = L.map Hold.key := by
  apply List.ext_getElem?
  intro j
  rw [List.getElem?_map, List.getElem?_map, end_get]
  split
  · cases L[j]? <;> rfl
  · rfl
theorem end_freeds (L : List Hold) (i : Nat) : (endAt L i).map Hold.freed = (L.map Hold.freed).set i true := by
  apply List.ext_getElem?
  intro j
  rw [List.getElem?_map, end_get, List.getElem?_set, List.getElem?_map]
  split
  · rename_i e; subst e
    split
    · rename_i hl; simp at hl; simp [hl]
    · rename_i hl; simp at hl; simp [hl]
  · rfl

set_option maxRecDepth 100000 in
set_option maxHeartbeats 4000000 in
theorem rfree_first (w : World) (B : Nat) (vk vf vs : Value) (L : List Hold) (S : List Int) (i : Nat) (x : Hold) (h : RefAt w B vk vf vs L S) (hx : L[i]? = some x) (hf : x.freed = false) (hL : L.length ≤ 100000) (hB : B ≤ w.heap.size) :
    Calls Try.prog 17 #[.agg #[vk, vf, vs], .int .i64 i] w (RFreed w B vk vs L S i) := by
  obtain ⟨hi, hxe⟩ := List.getElem?_eq_some_iff.1 hx
  obtain ⟨W, hW⟩ : ∃ W, W = (w.alloc (.cells #[vk, vf, vs] 40)).alloc (.cells #[.slice none 0 0, .slice none 0 0, .slice none 0 0] 40) := ⟨_, rfl⟩
  have x : Ext w W := by rw [hW]; exact Ext.alloc (Ext.alloc (Ext.refl _) _) _
  obtain ⟨y1, y2⟩ := heap_new2 w (.cells #[vk, vf, vs] 40) (.cells #[.slice none 0 0, .slice none 0 0, .slice none 0 0] 40)
  rw [← hW] at y1 y2
  have hsz : W.heap.size = w.heap.size + 1 + 1 := by rw [hW]; simp
  have a1 : W.cell? ⟨w.heap.size, 1, none⟩ = some vf := blk_cell y1 1
  have hxx := h.ext x
  obtain ⟨A1, c1, hk1⟩ := h.keys.slice
  obtain ⟨g, c2, hk2, hc⟩ := hxx.freed.get (i := i) (by simpa using hi)
  obtain ⟨A3, c3, hk3⟩ := h.shut.slice
  rw [List.getElem_map, hxe, hf] at hc
  obtain ⟨n1, hn1⟩ : ∃ n, n = (L.map Hold.key).length := ⟨_, rfl⟩
  obtain ⟨n2, hn2⟩ : ∃ n, n = (L.map Hold.freed).length := ⟨_, rfl⟩
  obtain ⟨n3, hn3⟩ : ∃ n, n = S.length := ⟨_, rfl⟩
  have hi2 : i < n2 := by rw [hn2]; simpa using hi
  have hn2L : n2 ≤ 100000 := by rw [hn2]; simpa using hL
  rw [← hn1] at hk1
  rw [← hn2] at hk2
  rw [← hn3] at hk3
  subst hk1 hk2 hk3
  have hlt1 : w.heap.size + 1 < W.heap.size := by omega
  have hlt0 : w.heap.size < W.heap.size := by omega
  have HW := Lib.hid hW; have X := Lib.hid x; have HX := Lib.hid hxx; have Y1 := Lib.hid y1; have Y2 := Lib.hid y2; have HI := Lib.hid hi
  have HN2 := Lib.hid hn2
  clear h hx hxe hf x hxx y1 y2 hW hsz hn1 hn2 hn3 hi
  go_enter Try.func17, Try.ntmps17
  go_wp2_with (first | (rw [← HW.out]) | (at_builtin; refine wpList_append_row 38 4 (.bool false) 1 Try.underlying38 info4 rfl (by decide) rfl _ _ rfl W.heap.size B (.slice (some ⟨W.heap.size, 0, none⟩) 0 0) (.slice (some ⟨g, 0, none⟩) n2 c2) [] (bools (L.map Hold.freed)) (World.ownsRow_made W #[] 0 (Nat.le_refl _) (by unfold maxLen; omega) rfl) ?c1 (bools_one _) rfl rfl ?c2 (by simp) ?_))
  case c1 => exact (HX.out.ext (Ext.alloc (Ext.refl W) _)).freed.to
  case c2 => simp [bools]; omega
  intro v1 w1 r1 g1
  have e1 : Ext W w1 := below_new rfl (own_below (own0 W W.heap.size 4 (Nat.le_refl _)) g1 (by simp))
  have i1 : BRow w1 W.heap.size v1 (L.map Hold.freed) := BRow.of r1
  obtain ⟨g4, c4, hv1, hc4⟩ := i1.get (i := i) (by simpa using HI.out)
  rw [← HN2.out] at hv1
  subst hv1
  obtain ⟨b4, hb4⟩ : ∃ b, b = (L.map Hold.freed)[i]'(by simpa using HI.out) := ⟨_, rfl⟩
  rw [← hb4] at hc4
  clear hb4
  have hg4 : W.heap.size ≤ g4 ∧ ∃ cur, w1.heap[g4]? = some (.cells cur 4 (0, 0)) := by
    rcases i1.2 with ⟨e, _⟩ | ⟨g', cap, cur, e, hb, hgg, _⟩
    · cases e
    · injection e with e1 e2 e3
      injection e1 with e1
      injection e1 with e1
      subst e1
      exact ⟨hb, cur, hgg⟩
  obtain ⟨hg4, cur4, hcur4⟩ := hg4
  have fz4 := blk_free hcur4 i
  obtain ⟨w2, hw2⟩ : ∃ w2, w2 = w1.setCell ⟨g4, i, none⟩ (.bool true) := ⟨_, rfl⟩
  have i2 : BRow w2 W.heap.size (.slice (some ⟨g4, 0, none⟩) n2 c4) ((L.map Hold.freed).set i true) := by rw [hw2]; exact i1.put i true
  have e2 : Ext W w2 := by rw [hw2]; exact Below.setCell e1 (p := ⟨g4, i, none⟩) hg4 _
  have z1 := e2.heap Y1.out; have z2 := e2.heap Y2.out
  have b1 : w2.cell? ⟨w.heap.size, 1, none⟩ = some (.slice (some ⟨g, 0, none⟩) n2 c2) := blk_cell z1 1
  have q1 := blk_free z1 1
  obtain ⟨w7, hw7⟩ : ∃ w7, w7 = w2.setCell ⟨w.heap.size, 1, none⟩ (.slice (some ⟨g4, 0, none⟩) n2 c4) := ⟨_, rfl⟩
  have y71 : w7.heap[w.heap.size]? = some (.cells #[.slice A1 n1 c1, .slice (some ⟨g4, 0, none⟩) n2 c4, .slice A3 n3 c3] 40 (0, 0)) := by rw [hw7, blk_set z1]; rfl
  have y72 : w7.heap[w.heap.size + 1]? = some (.cells #[.slice none 0 0, .slice none 0 0, .slice none 0 0] 40 (0, 0)) := by rw [hw7]; exact blk_far z2 (by simp) _
  have m0 : w7.cell? ⟨w.heap.size, 0, none⟩ = some (.slice A1 n1 c1) := blk_cell y71 0
  have m1 : w7.cell? ⟨w.heap.size, 1, none⟩ = some (.slice (some ⟨g4, 0, none⟩) n2 c4) := blk_cell y71 1
  have m2 : w7.cell? ⟨w.heap.size, 2, none⟩ = some (.slice A3 n3 c3) := blk_cell y71 2
  have o0 : w7.cell? ⟨w.heap.size + 1, 0, none⟩ = some (.slice none 0 0) := blk_cell y72 0
  have o1 : w7.cell? ⟨w.heap.size + 1, 1, none⟩ = some (.slice none 0 0) := blk_cell y72 1
  have o2 : w7.cell? ⟨w.heap.size + 1, 2, none⟩ = some (.slice none 0 0) := blk_cell y72 2
  have t0 := blk_free y72 0; have t1 := blk_free y72 1; have t2 := blk_free y72 2
  have I2 := Lib.hid i2; have E2 := Lib.hid e2; have W7 := Lib.hid hw7; have W2 := Lib.hid hw2; have Y71 := Lib.hid y71; have Y72 := Lib.hid y72; have Z1 := Lib.hid z1
  clear r1 g1 e1 i1 hcur4 i2 e2 z1 z2 hw7 y71 y72 hw2
  go_wp2_with (first | (rw [← W2.out]) | (rw [← W7.out]))
  obtain ⟨WE, hWE⟩ : ∃ WE, WE = ((w7.setCell ⟨w.heap.size + 1, 0, none⟩ (.slice A1 n1 c1)).setCell ⟨w.heap.size + 1, 1, none⟩ (.slice (some ⟨g4, 0, none⟩) n2 c4)).setCell ⟨w.heap.size + 1, 2, none⟩ (.slice A3 n3 c3) := ⟨_, rfl⟩
  rw [← hWE]
  obtain ⟨p1, p2, p3⟩ := set3 Y72.out (.slice A1 n1 c1) (.slice (some ⟨g4, 0, none⟩) n2 c4) (.slice A3 n3 c3)
  rw [← hWE] at p1 p2 p3
  have u0 : WE.cell? ⟨w.heap.size + 1, 0, none⟩ = some (.slice A1 n1 c1) := blk_cell p1 0
  have u1 : WE.cell? ⟨w.heap.size + 1, 1, none⟩ = some (.slice (some ⟨g4, 0, none⟩) n2 c4) := blk_cell p1 1
  have u2 : WE.cell? ⟨w.heap.size + 1, 2, none⟩ = some (.slice A3 n3 c3) := blk_cell p1 2
  have row1 : IRow w7 B (.slice A1 n1 c1) (L.map Hold.key) := by rw [W7.out]; exact (HX.out.ext E2.out).keys.set_other _ Z1.out (by decide)
  have row2 : BRow w7 W.heap.size (.slice (some ⟨g4, 0, none⟩) n2 c4) ((L.map Hold.freed).set i true) := by rw [W7.out]; exact I2.out.set_other _ Z1.out (by decide)
  have row3 : IRow w7 B (.slice A3 n3 c3) S := by rw [W7.out]; exact (HX.out.ext E2.out).shut.set_other _ Z1.out (by decide)
  have b7 : Below w.heap.size w w7 := by rw [W7.out]; exact (Below.trans X.out (Below.mono E2.out (by omega))).setCell (by simp) _
  have hBW : B ≤ W.heap.size := by omega
  refine bodyPost_ret (v := .tuple #[.agg #[.slice A1 n1 c1, .slice (some ⟨g4, 0, none⟩) n2 c4, .slice A3 n3 c3], .bool true]) (by simp [results, Try.results17, go_sem, u0, u1, u2]) rfl ⟨_, rfl, ⟨?_, ?_, p2 2 _ _ _ _ (by decide) row3⟩, b7.trans (p3 _ (by omega))⟩
  · rw [end_keys]; exact p2 2 _ _ _ _ (by decide) row1
  · rw [end_freeds]; exact ownsRow_base (p2 4 _ _ _ _ (by decide) row2) hBW

def RShut (w : World) (B : Nat) (vk vf : Value) (L : List Hold) (S : List Int) (e : Ending) (w' : World) : Prop :=
  ∃ vs', e = .returned (.tuple #[.agg #[vk, vf, vs'], .bool true]) ∧ RefAt w' B vk vf vs' L S ∧ Ext w w'

set_option maxRecDepth 100000 in
set_option maxHeartbeats 4000000 in
theorem rshut_held (w : World) (B : Nat) (vk vf vs : Value) (L : List Hold) (S : List Int) (k : Int) (h : RefAt w B vk vf vs L S) (hk : live L k ≠ 0) (hL : L.length ≤ 100000) :
    Calls Try.prog 18 #[.agg #[vk, vf, vs], .int .i64 k] w fun e w' => e = .returned (.tuple #[.agg #[vk, vf, vs], .bool false]) ∧ Ext w w' := by
  obtain ⟨A1, c1, hk1⟩ := h.keys.slice
  obtain ⟨A2, c2, hk2⟩ := h.freed.slice
  obtain ⟨A3, c3, hk3⟩ := h.shut.slice
  obtain ⟨n1, hn1⟩ : ∃ n, n = (L.map Hold.key).length := ⟨_, rfl⟩
  obtain ⟨n2, hn2⟩ : ∃ n, n = (L.map Hold.freed).length := ⟨_, rfl⟩
  obtain ⟨n3, hn3⟩ : ∃ n, n = S.length := ⟨_, rfl⟩
  rw [← hn1] at hk1
  rw [← hn2] at hk2
  rw [← hn3] at hk3
  subst hk1 hk2 hk3
  obtain ⟨W, hW⟩ : ∃ W, W = (w.alloc (.cells #[.slice A1 n1 c1, .slice A2 n2 c2, .slice A3 n3 c3] 40)).alloc (.cells #[.slice none 0 0, .slice none 0 0, .slice none 0 0] 40) := ⟨_, rfl⟩
  have x : Ext w W := by rw [hW]; exact Ext.alloc (Ext.alloc (Ext.refl _) _) _
  obtain ⟨y1, y2⟩ := heap_new2 w (.cells #[.slice A1 n1 c1, .slice A2 n2 c2, .slice A3 n3 c3] 40) (.cells #[.slice none 0 0, .slice none 0 0, .slice none 0 0] 40)
  rw [← hW] at y1 y2
  have hsz : W.heap.size = w.heap.size + 1 + 1 := by rw [hW]; simp
  have hr := rheld_any W B _ _ _ L S k (h.ext x) (by omega)
  obtain ⟨lv, hlv⟩ : ∃ lv, lv = live L k := ⟨_, rfl⟩
  rw [← hlv] at hr hk
  have hp : 0 < lv := by omega
  have hd : decide (0 < (lv : Int)) = true := by simp; omega
  have HR := Lib.hid hr; have HW := Lib.hid hW; have X := Lib.hid x; have Y1 := Lib.hid y1; have Y2 := Lib.hid y2; have SZ := Lib.hid hsz
  clear h hk hr x y1 y2 hW hsz hn1 hn2 hn3 hlv
  go_enter Try.func18, Try.ntmps18
  go_wp2_with fail
  rw [← HW.out]
  refine HR.out.mono ?_
  rintro e w1 ⟨rfl, x1⟩
  have z1 := x1.heap Y1.out; have z2 := x1.heap Y2.out
  have m0 : w1.cell? ⟨w.heap.size, 0, none⟩ = some (.slice A1 n1 c1) := blk_cell z1 0
  have m1 : w1.cell? ⟨w.heap.size, 1, none⟩ = some (.slice A2 n2 c2) := blk_cell z1 1
  have m2 : w1.cell? ⟨w.heap.size, 2, none⟩ = some (.slice A3 n3 c3) := blk_cell z1 2
  have o0 : w1.cell? ⟨w.heap.size + 1, 0, none⟩ = some (.slice none 0 0) := blk_cell z2 0
  have o1 : w1.cell? ⟨w.heap.size + 1, 1, none⟩ = some (.slice none 0 0) := blk_cell z2 1
  have o2 : w1.cell? ⟨w.heap.size + 1, 2, none⟩ = some (.slice none 0 0) := blk_cell z2 2
  have t0 := blk_free z2 0; have t1 := blk_free z2 1; have t2 := blk_free z2 2
  have X1 := Lib.hid x1; have Z2 := Lib.hid z2
  clear x1 z1 z2
  go_wp2
  obtain ⟨WE, hWE⟩ : ∃ WE, WE = ((w1.setCell ⟨w.heap.size + 1, 0, none⟩ (.slice A1 n1 c1)).setCell ⟨w.heap.size + 1, 1, none⟩ (.slice A2 n2 c2)).setCell ⟨w.heap.size + 1, 2, none⟩ (.slice A3 n3 c3) := ⟨_, rfl⟩
  rw [← hWE]
  obtain ⟨p1, p2, p3⟩ := set3 Z2.out (.slice A1 n1 c1) (.slice A2 n2 c2) (.slice A3 n3 c3)
  rw [← hWE] at p1 p2 p3
  have u0 : WE.cell? ⟨w.heap.size + 1, 0, none⟩ = some (.slice A1 n1 c1) := blk_cell p1 0
  have u1 : WE.cell? ⟨w.heap.size + 1, 1, none⟩ = some (.slice A2 n2 c2) := blk_cell p1 1
  have u2 : WE.cell? ⟨w.heap.size + 1, 2, none⟩ = some (.slice A3 n3 c3) := blk_cell p1 2
  exact bodyPost_ret (v := .tuple #[.agg #[.slice A1 n1 c1, .slice A2 n2 c2, .slice A3 n3 c3], .bool false]) (by simp [results, Try.results18, go_sem, u0, u1, u2]) rfl ⟨rfl, (Below.trans X.out (Below.mono X1.out (by have := SZ.out; omega))).trans (p3 _ (by omega))⟩

set_option maxRecDepth 100000 in
set_option maxHeartbeats 4000000 in
theorem rshut_again (w : World) (B : Nat) (vk vf vs : Value) (L : List Hold) (S : List Int) (k : Int) (h : RefAt w B vk vf vs L S) (hk : live L k = 0) (hS : k ∈ S) (hl : S.length ≤ 100000) (hL : L.length ≤ 100000) :
    Calls Try.prog 18 #[.agg #[vk, vf, vs], .int .i64 k] w fun e w' => e = .returned (.tuple #[.agg #[vk, vf, vs], .bool true]) ∧ Ext w w' := by
  obtain ⟨A1, c1, hk1⟩ := h.keys.slice
  obtain ⟨A2, c2, hk2⟩ := h.freed.slice
  obtain ⟨A3, c3, hk3⟩ := h.shut.slice
  obtain ⟨n1, hn1⟩ : ∃ n, n = (L.map Hold.key).length := ⟨_, rfl⟩
  obtain ⟨n2, hn2⟩ : ∃ n, n = (L.map Hold.freed).length := ⟨_, rfl⟩
  obtain ⟨n3, hn3⟩ : ∃ n, n = S.length := ⟨_, rfl⟩
  rw [← hn1] at hk1
  rw [← hn2] at hk2
  rw [← hn3] at hk3
  subst hk1 hk2 hk3
  obtain ⟨W, hW⟩ : ∃ W, W = (w.alloc (.cells #[.slice A1 n1 c1, .slice A2 n2 c2, .slice A3 n3 c3] 40)).alloc (.cells #[.slice none 0 0, .slice none 0 0, .slice none 0 0] 40) := ⟨_, rfl⟩
  have x : Ext w W := by rw [hW]; exact Ext.alloc (Ext.alloc (Ext.refl _) _) _
  obtain ⟨y1, y2⟩ := heap_new2 w (.cells #[.slice A1 n1 c1, .slice A2 n2 c2, .slice A3 n3 c3] 40) (.cells #[.slice none 0 0, .slice none 0 0, .slice none 0 0] 40)
  rw [← hW] at y1 y2
  have hsz : W.heap.size = w.heap.size + 1 + 1 := by rw [hW]; simp
  have hr := rheld_any W B _ _ _ L S k (h.ext x) (by omega)
  rw [hk] at hr
  have HX := Lib.hid (h.ext x)
  have HR := Lib.hid hr; have HW := Lib.hid hW; have X := Lib.hid x; have Y1 := Lib.hid y1; have Y2 := Lib.hid y2; have SZ := Lib.hid hsz
  clear h hk hr x y1 y2 hW hsz hn1 hn2 hn3
  go_enter Try.func18, Try.ntmps18
  go_wp2_with fail
  rw [← HW.out]
  refine HR.out.mono ?_
  rintro e w1 ⟨rfl, x1⟩
  have z1 := x1.heap Y1.out; have z2 := x1.heap Y2.out
  have m0 : w1.cell? ⟨w.heap.size, 0, none⟩ = some (.slice A1 n1 c1) := blk_cell z1 0
  have m1 : w1.cell? ⟨w.heap.size, 1, none⟩ = some (.slice A2 n2 c2) := blk_cell z1 1
  have m2 : w1.cell? ⟨w.heap.size, 2, none⟩ = some (.slice A3 n3 c3) := blk_cell z1 2
  have o0 : w1.cell? ⟨w.heap.size + 1, 0, none⟩ = some (.slice none 0 0) := blk_cell z2 0
  have o1 : w1.cell? ⟨w.heap.size + 1, 1, none⟩ = some (.slice none 0 0) := blk_cell z2 1
  have o2 : w1.cell? ⟨w.heap.size + 1, 2, none⟩ = some (.slice none 0 0) := blk_cell z2 2
  have t0 := blk_free z2 0; have t1 := blk_free z2 1; have t2 := blk_free z2 2
  have hin : Calls Try.prog 33 #[.slice A3 n3 c3, .int .i64 k] w1 fun e w' => e = .returned (.bool true) ∧ w1 = w' := by
    have := in_any w1 B _ S k (HX.out.ext x1).shut (by omega)
    rw [decide_eq_true hS] at this
    exact this
  have X1 := Lib.hid x1; have Z2 := Lib.hid z2; have HIN := Lib.hid hin
  clear x1 z1 z2 hin hS
  go_wp2_with (go_at_call 33; refine HIN.out.mono ?_; rintro e w' ⟨rfl, rfl⟩)
  obtain ⟨WE, hWE⟩ : ∃ WE, WE = ((w1.setCell ⟨w.heap.size + 1, 0, none⟩ (.slice A1 n1 c1)).setCell ⟨w.heap.size + 1, 1, none⟩ (.slice A2 n2 c2)).setCell ⟨w.heap.size + 1, 2, none⟩ (.slice A3 n3 c3) := ⟨_, rfl⟩
  rw [← hWE]
  obtain ⟨p1, p2, p3⟩ := set3 Z2.out (.slice A1 n1 c1) (.slice A2 n2 c2) (.slice A3 n3 c3)
  rw [← hWE] at p1 p2 p3
  have u0 : WE.cell? ⟨w.heap.size + 1, 0, none⟩ = some (.slice A1 n1 c1) := blk_cell p1 0
  have u1 : WE.cell? ⟨w.heap.size + 1, 1, none⟩ = some (.slice A2 n2 c2) := blk_cell p1 1
  have u2 : WE.cell? ⟨w.heap.size + 1, 2, none⟩ = some (.slice A3 n3 c3) := blk_cell p1 2
  exact bodyPost_ret (v := .tuple #[.agg #[.slice A1 n1 c1, .slice A2 n2 c2, .slice A3 n3 c3], .bool true]) (by simp [results, Try.results18, go_sem, u0, u1, u2]) rfl ⟨rfl, (Below.trans X.out (Below.mono X1.out (by have := SZ.out; omega))).trans (p3 _ (by omega))⟩

set_option maxRecDepth 100000 in
set_option maxHeartbeats 4000000 in
theorem rshut_new (w : World) (B : Nat) (vk vf vs : Value) (L : List Hold) (S : List Int) (k : Int) (h : RefAt w B vk vf vs L S) (hk : live L k = 0) (hS : k ∉ S) (hl : S.length ≤ 100000) (hL : L.length ≤ 100000) (hB : B ≤ w.heap.size) :
    Calls Try.prog 18 #[.agg #[vk, vf, vs], .int .i64 k] w (RShut w B vk vf L (S ++ [k])) := by
  obtain ⟨A1, c1, hk1⟩ := h.keys.slice
  obtain ⟨A2, c2, hk2⟩ := h.freed.slice
  obtain ⟨A3, c3, hk3⟩ := h.shut.slice
  obtain ⟨n1, hn1⟩ : ∃ n, n = (L.map Hold.key).length := ⟨_, rfl⟩
  obtain ⟨n2, hn2⟩ : ∃ n, n = (L.map Hold.freed).length := ⟨_, rfl⟩
  obtain ⟨n3, hn3⟩ : ∃ n, n = S.length := ⟨_, rfl⟩
  rw [← hn1] at hk1
  rw [← hn2] at hk2
  rw [← hn3] at hk3
  subst hk1 hk2 hk3
  obtain ⟨W, hW⟩ : ∃ W, W = (w.alloc (.cells #[.slice A1 n1 c1, .slice A2 n2 c2, .slice A3 n3 c3] 40)).alloc (.cells #[.slice none 0 0, .slice none 0 0, .slice none 0 0] 40) := ⟨_, rfl⟩
  have x : Ext w W := by rw [hW]; exact Ext.alloc (Ext.alloc (Ext.refl _) _) _
  obtain ⟨y1, y2⟩ := heap_new2 w (.cells #[.slice A1 n1 c1, .slice A2 n2 c2, .slice A3 n3 c3] 40) (.cells #[.slice none 0 0, .slice none 0 0, .slice none 0 0] 40)
  rw [← hW] at y1 y2
  have hsz : W.heap.size = w.heap.size + 1 + 1 := by rw [hW]; simp
  have hr := rheld_any W B _ _ _ L S k (h.ext x) (by omega)
  rw [hk] at hr
  have HX := Lib.hid (h.ext x)
  have HR := Lib.hid hr; have HW := Lib.hid hW; have X := Lib.hid x; have Y1 := Lib.hid y1; have Y2 := Lib.hid y2; have SZ := Lib.hid hsz
  clear h hr x y1 y2 hW hn1 hn2 hn3
  go_enter Try.func18, Try.ntmps18
  go_wp2_with fail
  rw [← HW.out]
  refine HR.out.mono ?_
  rintro e w1 ⟨rfl, x1⟩
  have z1 := x1.heap Y1.out; have z2 := x1.heap Y2.out
  have m0 : w1.cell? ⟨w.heap.size, 0, none⟩ = some (.slice A1 n1 c1) := blk_cell z1 0
  have m1 : w1.cell? ⟨w.heap.size, 1, none⟩ = some (.slice A2 n2 c2) := blk_cell z1 1
  have m2 : w1.cell? ⟨w.heap.size, 2, none⟩ = some (.slice A3 n3 c3) := blk_cell z1 2
  have o0 : w1.cell? ⟨w.heap.size + 1, 0, none⟩ = some (.slice none 0 0) := blk_cell z2 0
  have o1 : w1.cell? ⟨w.heap.size + 1, 1, none⟩ = some (.slice none 0 0) := blk_cell z2 1
  have o2 : w1.cell? ⟨w.heap.size + 1, 2, none⟩ = some (.slice none 0 0) := blk_cell z2 2
  have t0 := blk_free z2 0; have t1 := blk_free z2 1; have t2 := blk_free z2 2
  have hin : Calls Try.prog 33 #[.slice A3 n3 c3, .int .i64 k] w1 fun e w' => e = .returned (.bool false) ∧ w1 = w' := by
    have := in_any w1 B _ S k (HX.out.ext x1).shut (by omega)
    rw [decide_eq_false hS] at this
    exact this
  have hwW : w.heap.size + 1 < W.heap.size := by omega
  have hlt1 : w.heap.size + 1 < w1.heap.size := Nat.lt_of_lt_of_le hwW x1.size
  have hlt0 : w.heap.size < w1.heap.size := by omega
  have X1 := Lib.hid x1; have Z1 := Lib.hid z1; have Z2 := Lib.hid z2; have HIN := Lib.hid hin
  clear x1 z1 z2 hin hS hk
  go_wp2_with (first | (go_at_call 33; refine HIN.out.mono ?_; rintro e w' ⟨rfl, rfl⟩) | (at_builtin; refine wpList_append_row 37 2 (.int .i64 0) 8 Try.underlying37 info2 rfl (by decide) rfl _ _ rfl w1.heap.size B (.slice (some ⟨w1.heap.size, 0, none⟩) 0 0) (.slice A3 n3 c3) [] (ints S) (World.ownsRow_made w1 #[] 0 (Nat.le_refl _) (by unfold maxLen; omega) rfl) ?c1 (ints_one _) rfl rfl ?c2 (by simp) ?_))
  case c1 => exact ((HX.out.ext X1.out).ext (Ext.alloc (Ext.refl w1) _)).shut.to
  case c2 => simp [ints]; omega
  intro v1 w2 r1 g1
  have e1 : Ext w1 w2 := below_new rfl (own_below (own0 w1 w1.heap.size 2 (Nat.le_refl _)) g1 (by simp))
  have i1 : IRow w2 w1.heap.size v1 S := IRow.of r1
  have E1 := Lib.hid e1; have I1 := Lib.hid i1
  have s1 := e1.size
  clear r1 g1 e1 i1
  go_wp2_with (at_builtin; refine wpList_append_int rfl _ _ rfl w1.heap.size v1 S k I1.out rfl _ rfl ?c3 ?c4 s1 ?_)
  case c3 => simp
  case c4 => omega
  intro v2 w3 i2 g2
  obtain ⟨A4, c4, hv2⟩ := i2.slice
  obtain ⟨n4, hn4⟩ : ∃ n, n = (S ++ [k]).length := ⟨_, rfl⟩
  rw [← hn4] at hv2
  subst hv2
  have e2 : Ext w1 w3 := below_of E1.out rfl (own_below I1.out g2 s1)
  have z1 := e2.heap Z1.out; have z2 := e2.heap Z2.out
  have b2 : w3.cell? ⟨w.heap.size, 2, none⟩ = some (.slice A3 n3 c3) := blk_cell z1 2
  have q1 := blk_free z1 2
  obtain ⟨w7, hw7⟩ : ∃ w7, w7 = w3.setCell ⟨w.heap.size, 2, none⟩ (.slice A4 n4 c4) := ⟨_, rfl⟩
  have y71 : w7.heap[w.heap.size]? = some (.cells #[.slice A1 n1 c1, .slice A2 n2 c2, .slice A4 n4 c4] 40 (0, 0)) := by rw [hw7, blk_set z1]; rfl
  have y72 : w7.heap[w.heap.size + 1]? = some (.cells #[.slice none 0 0, .slice none 0 0, .slice none 0 0] 40 (0, 0)) := by rw [hw7]; exact blk_far z2 (by simp) _
  have v0 : w7.cell? ⟨w.heap.size, 0, none⟩ = some (.slice A1 n1 c1) := blk_cell y71 0
  have v1' : w7.cell? ⟨w.heap.size, 1, none⟩ = some (.slice A2 n2 c2) := blk_cell y71 1
  have v2' : w7.cell? ⟨w.heap.size, 2, none⟩ = some (.slice A4 n4 c4) := blk_cell y71 2
  have o0' : w7.cell? ⟨w.heap.size + 1, 0, none⟩ = some (.slice none 0 0) := blk_cell y72 0
  have o1' : w7.cell? ⟨w.heap.size + 1, 1, none⟩ = some (.slice none 0 0) := blk_cell y72 1
  have o2' : w7.cell? ⟨w.heap.size + 1, 2, none⟩ = some (.slice none 0 0) := blk_cell y72 2
  have t0' := blk_free y72 0; have t1' := blk_free y72 1; have t2' := blk_free y72 2
  have I2 := Lib.hid i2; have E2 := Lib.hid e2; have W7 := Lib.hid hw7; have Y72 := Lib.hid y72; have Y71 := Lib.hid y71; have ZZ1 := Lib.hid z1
  clear i2 g2 e2 z1 z2 hw7 y71 y72 hn4 E1 I1 s1
  go_wp2_with (rw [← W7.out])
  obtain ⟨WE, hWE⟩ : ∃ WE, WE = ((w7.setCell ⟨w.heap.size + 1, 0, none⟩ (.slice A1 n1 c1)).setCell ⟨w.heap.size + 1, 1, none⟩ (.slice A2 n2 c2)).setCell ⟨w.heap.size + 1, 2, none⟩ (.slice A4 n4 c4) := ⟨_, rfl⟩
  rw [← hWE]
  obtain ⟨p1, p2, p3⟩ := set3 Y72.out (.slice A1 n1 c1) (.slice A2 n2 c2) (.slice A4 n4 c4)
  rw [← hWE] at p1 p2 p3
  have u0 : WE.cell? ⟨w.heap.size + 1, 0, none⟩ = some (.slice A1 n1 c1) := blk_cell p1 0
  have u1 : WE.cell? ⟨w.heap.size + 1, 1, none⟩ = some (.slice A2 n2 c2) := blk_cell p1 1
  have u2 : WE.cell? ⟨w.heap.size + 1, 2, none⟩ = some (.slice A4 n4 c4) := blk_cell p1 2
  have hx3 := (HX.out.ext X1.out).ext E2.out
  have row1 : IRow w7 B (.slice A1 n1 c1) (L.map Hold.key) := by rw [W7.out]; exact hx3.keys.set_other _ ZZ1.out (by decide)
  have row2 : BRow w7 B (.slice A2 n2 c2) (L.map Hold.freed) := by rw [W7.out]; exact hx3.freed.set_other _ ZZ1.out (by decide)
  have row3 : IRow w7 w1.heap.size (.slice A4 n4 c4) (S ++ [k]) := by rw [W7.out]; exact I2.out.set_other _ ZZ1.out (by decide)
  have b7 : Below w.heap.size w w7 := by rw [W7.out]; exact ((Below.trans X.out (Below.mono X1.out (by omega))).trans (Below.mono E2.out (by omega))).setCell (by simp) _
  exact bodyPost_ret (v := .tuple #[.agg #[.slice A1 n1 c1, .slice A2 n2 c2, .slice A4 n4 c4], .bool true]) (by simp [results, Try.results18, go_sem, u0, u1, u2]) rfl ⟨_, rfl, ⟨p2 2 _ _ _ _ (by decide) row1, p2 4 _ _ _ _ (by decide) row2, ownsRow_base (p2 2 _ _ _ _ (by decide) row3) (by omega)⟩, b7.trans (p3 _ (by omega))⟩
end Go.Proofs.Yteeeabmfebofiaa
