/- The reference's own functions of the budget statements, walked: Of, Sum, number. -/
import Derived.Test.YtjcpmfioppopcaaProg
import Derived.Test.YtjcpmfioppopcaaPlain
import Derived.Test.YtjcpmfioppopcaaKit
import Derived.WalkKit
import Derived.WalkSpells
import Derived.WalkLawsBesides
import Derived.Deep.QuietTactic
import Derived.BigQuiet
import Derived.BigRegion
import Derived.Deep.RegionHeld3
import Derived.Lib.Hide
namespace Go.Proofs.Ytjcpmfioppopcaa
open Go.RowKit

def lcells (L : List Ln) : List Value := L.flatMap fun x => [.string ⟨x.1.toArray⟩, .int .i64 x.2]

theorem lcells_append (a b : List Ln) : lcells (a ++ b) = lcells a ++ lcells b := by simp [lcells]
theorem lcells_length (L : List Ln) : (lcells L).length = L.length * 2 := by
  induction L with
  | nil => rfl
  | cons x r ih => simp [lcells] at ih ⊢; omega
theorem lcells_at (L : List Ln) (k : Nat) (h : k < L.length) : (lcells L)[k * 2]? = some (.string ⟨L[k].1.toArray⟩) ∧ (lcells L)[k * 2 + 1]? = some (.int .i64 L[k].2) := by
  induction L generalizing k with
  | nil => simp at h
  | cons x r ih =>
    cases k with
    | zero => simp [lcells]
    | succ k =>
      have := ih k (by simpa using h)
      simp only [lcells, List.flatMap_cons, List.cons_append, List.nil_append] at this ⊢
      have e : (k + 1) * 2 = k * 2 + 1 + 1 := by omega
      rw [e, List.getElem?_cons_succ, List.getElem?_cons_succ, List.getElem?_cons_succ, List.getElem?_cons_succ]
      exact this

/-- A slice value reads as lines. -/
def LinesAt (w : World) (s : Value) (L : List Ln) : Prop := w.ownsRow 0 71 2 s L.length (lcells L)

theorem LinesAt.below {w w' : World} {s : Value} {L : List Ln} (h : LinesAt w s L) (hb : Below w.heap.size w w') : LinesAt w' s L :=
  World.ownsRow.kept h (row := none) ⟨hb.os, hb.tape, hb.output, hb.size, fun k hk _ => hb.block k hk⟩ (by cases hs : s.ownBlock <;> simp)

theorem LinesAt.form {w : World} {s : Value} {L : List Ln} (h : LinesAt w s L) : (s = .slice none 0 0 ∧ L = []) ∨ ∃ g cap, s = .slice (some ⟨g, 0, none⟩) L.length cap ∧ g < w.heap.size ∧
    ∀ k (hk : k < L.length), w.cell? ⟨g, k * 2, none⟩ = some (.string ⟨L[k].1.toArray⟩) ∧ w.cell? ⟨g, k * 2 + 1, none⟩ = some (.int .i64 L[k].2) := by
  have h' := h
  rcases h.2 with ⟨rfl, h0⟩ | ⟨g, cap, cur, rfl, _, hg, _⟩
  · exact .inl ⟨rfl, List.eq_nil_of_length_eq_zero h0⟩
  · refine .inr ⟨g, cap, rfl, (Array.getElem?_eq_some_iff.1 hg).1, fun k hk => ?_⟩
    have := lcells_at L k hk
    exact ⟨by rw [World.ownsRow.cellAt h' _ (by omega)]; exact this.1, by rw [World.ownsRow.cellAt h' _ (by omega)]; exact this.2⟩

set_option maxHeartbeats 400000 in
theorem number_any (n : Int) (w : World) : Calls Try.prog 31 #[.int .i64 n] w fun e w' => e = .returned (.bool (okN n)) ∧ w = w' := by
  by_cases h1 : 0 ≤ n <;> by_cases h2 : n ≤ 1125899906842624
  all_goals
    go_enter Try.func31, Try.ntmps31
    go_wp2
    go_ret
    exact ⟨by simp [okN, h1, h2], rfl⟩

theorem rOf_drop (L : List Ln) (t : Bs) (k : Nat) (h : k < L.length) : rOf (L.drop k) t = if L[k].1 = t then L[k].2 else rOf (L.drop (k + 1)) t := by
  rw [List.drop_eq_getElem_cons h, rOf_cons]

set_option maxHeartbeats 1000000 in
theorem rof_any (L : List Ln) (s : Value) (t : Bs) (all share : Int) (w : World) (hL : LinesAt w s L) (hlen : L.length ≤ 1000) :
    Calls Try.prog 32 #[.agg #[.int .i64 all, .int .i64 share, s], .string ⟨t.toArray⟩] w fun e w' => e = .returned (.int .i64 (rOf L t)) ∧ Below w.heap.size w w' := by
  have hb : Below w.heap.size w (w.alloc (.cells #[.int .i64 all, .int .i64 share, s] 32)) := (Below.refl _ _).alloc (Nat.le_refl _) _
  rcases hL.form with ⟨rfl, rfl⟩ | ⟨g, cap, rfl, hg, hc⟩
  · go_enter Try.func32, Try.ntmps32
    go_wp2
    refine wp_loop_rounds 1 ?_
    rw [rounds_succ]
    go_wp2
    go_ret
    exact ⟨rfl, hb⟩
  · have HC := Lib.hid hc; clear hc
    go_enter Try.func32, Try.ntmps32
    go_wp2
    go_loop [5] (fun i => ∃ k : Nat, k ≤ L.length ∧ i = .int .i64 k ∧ rOf L t = rOf (L.drop k) t) (fun i => L.length - (intOf i).toNat)
    case atStart => exact ⟨0, by omega, rfl, by simp⟩
    case round =>
      obtain ⟨k, hk, rfl, hr⟩ := hrel
      have HR := Lib.hid hr; clear hr
      by_cases hlt : k < L.length
      · obtain ⟨h0, h1⟩ := HC.out k hlt
        go_wp2
        · have h : (L[k].1 == t) = true := by assumption
          go_ret
          exact ⟨ret_int (by rw [HR.out, rOf_drop L t k hlt, if_pos (by simpa using h)]), hb⟩
        · have h : (L[k].1 == t) = false := by assumption
          go_round
          case rel => exact ⟨k + 1, by omega, by go_num, by rw [HR.out, rOf_drop L t k hlt, if_neg (by simpa using h)]⟩
          case measure => simp [intOf]; omega
      · go_wp2
        go_ret
        exact ⟨by rw [HR.out, List.drop_eq_nil_of_le (by omega)]; rfl, hb⟩

theorem rSum_take (L : List Ln) (k : Nat) (h : k < L.length) : rSum (L.take (k + 1)) = rSum (L.take k) + L[k].2 := by
  rw [List.take_succ_eq_append_getElem h, rSum_append]; simp [rSum]
theorem rSum_take_le {L : List Ln} (h : ∀ x ∈ L, 0 ≤ x.2) (k : Nat) : 0 ≤ rSum (L.take k) ∧ rSum (L.take k) ≤ rSum L := by
  have e : rSum L = rSum (L.take k) + rSum (L.drop k) := by rw [← rSum_append, List.take_append_drop]
  have h1 := rSum_nonneg (L := L.take k) fun x hx => h x (List.mem_of_mem_take hx)
  have h2 := rSum_nonneg (L := L.drop k) fun x hx => h x (List.mem_of_mem_drop hx)
  omega

set_option maxHeartbeats 1000000 in
theorem rsum_any (L : List Ln) (s : Value) (all share : Int) (w : World) (hL : LinesAt w s L) (hlen : L.length ≤ 1000) (hv : ∀ x ∈ L, 0 ≤ x.2) (hs : rSum L ≤ 1125899906842624) :
    Calls Try.prog 34 #[.agg #[.int .i64 all, .int .i64 share, s]] w fun e w' => e = .returned (.int .i64 (rSum L)) ∧ Below w.heap.size w w' := by
  have hb : Below w.heap.size w (w.alloc (.cells #[.int .i64 all, .int .i64 share, s] 32)) := (Below.refl _ _).alloc (Nat.le_refl _) _
  rcases hL.form with ⟨rfl, rfl⟩ | ⟨g, cap, rfl, hg, hc⟩
  · go_enter Try.func34, Try.ntmps34
    go_wp2
    refine wp_loop_rounds 1 ?_
    rw [rounds_succ]
    go_wp2
    go_ret
    exact ⟨rfl, hb⟩
  · have HC := Lib.hid hc; clear hc
    have HV := Lib.hid hv; clear hv
    go_enter Try.func34, Try.ntmps34
    go_wp2
    go_loop [3, 4] (fun n i => ∃ k : Nat, k ≤ L.length ∧ i = .int .i64 k ∧ n = .int .i64 (rSum (L.take k))) (fun _ i => L.length - (intOf i).toNat)
    case atStart => exact ⟨0, by omega, rfl, rfl⟩
    case round =>
      obtain ⟨k, hk, rfl, rfl⟩ := hrel
      obtain ⟨b0, b1⟩ := rSum_take_le HV.out k
      by_cases hlt : k < L.length
      · obtain ⟨h0, h1⟩ := HC.out k hlt
        obtain ⟨b2, b3⟩ := rSum_take_le HV.out (k + 1)
        have e := rSum_take L k hlt
        have b4 : 0 ≤ rSum (L.take k) + L[k].2 := by omega
        have b5 : rSum (L.take k) + L[k].2 ≤ 1125899906842624 := by omega
        have E := Lib.hid e; clear e
        go_wp2
        go_round
        case rel => exact ⟨k + 1, by omega, by go_num, by rw [E.out]⟩
        case measure => simp [intOf]; omega
      · go_wp2
        go_ret
        exact ⟨ret_int (by rw [List.take_of_length_le (by omega)]), hb⟩

theorem Try.info71 : (Try.prog.info? 71).map (fun i => (i.zero, i.size, i.bytes)) = some (some (.agg #[.string ⟨#[]⟩, .int .i64 0]), 2, 24) := by kernel_rfl

theorem rSet_take (L : List Ln) (t : Bs) (n : Int) (k : Nat) (h : k < L.length) : rSet (L.take (k + 1)) t n = rSet (L.take k) t n ++ [if L[k].1 = t then (L[k].1, n) else L[k]] := by
  simp only [rSet]; rw [List.take_succ_eq_append_getElem h, List.map_append]; rfl
theorem rHas_take (L : List Ln) (t : Bs) (k : Nat) (h : k < L.length) : rHas (L.take (k + 1)) t = (rHas (L.take k) t || L[k].1 == t) := by
  simp only [rHas]; rw [List.take_succ_eq_append_getElem h, List.any_append]; simp only [List.any_cons, List.any_nil, Bool.or_false]
theorem rSet_len (L : List Ln) (t : Bs) (n : Int) : (rSet L t n).length = L.length := by simp [rSet]

/-- What the loop of 'with' holds at a round's head. -/
def WithRel (L : List Ln) (s : Value) (t : Bs) (all share n : Int) (w : World) (k : Nat) (v : Value) (wr : World) : Prop :=
  wr.ownsRow (w.heap.size + 2) 71 2 v k (lcells (rSet (L.take k) t n)) ∧ Below w.heap.size w wr ∧
      wr.heap[w.heap.size]? = some (.cells #[.int .i64 all, .int .i64 share, s] 32 (0, 0)) ∧ wr.heap[w.heap.size + 1]? = some (.cells #[.int .i64 0, .int .i64 0, .slice none 0 0] 32 (0, 0)) ∧ w.heap.size + 2 ≤ wr.heap.size

theorem WithRel.step {L : List Ln} {s : Value} {t : Bs} {all share n : Int} {w wr w1 : World} {k : Nat} {v v' : Value} {o : Obj} (h : WithRel L s t all share n w k v wr) (hlt : k < L.length)
    (x : Ln) (hx : x = if L[k].1 = t then (L[k].1, n) else L[k])
    (hown : w1.ownsRow (w.heap.size + 2) 71 2 v' (k + 1) (lcells (rSet (L.take k) t n) ++ [.string ⟨x.1.toArray⟩, .int .i64 x.2])) (hg : (wr.alloc o).grownBy w1 v.ownBlock) : WithRel L s t all share n w (k + 1) v' w1 := by
  obtain ⟨h1, h2, h3, h4, h5⟩ := h
  have hb := own_below_alloc h1 hg h5
  refine ⟨?_, h2.trans (hb.mono (by omega)), (hb.block _ (by omega)).trans h3, (hb.block _ (by omega)).trans h4, Nat.le_trans h5 hb.size⟩
  rw [rSet_take L t n k hlt, lcells_append, ← hx]
  simpa [lcells] using hown

theorem with_own {w w1 : World} {v : Value} {n : Nat} {xs : List Value} (h : w1.ownsRow (w.heap.size + 2) 71 2 v n xs) {u0 u1 u2 u3 : Value} :
    ((((w1.setCell ⟨w.heap.size, 2, none⟩ u0).setCell ⟨w.heap.size + 1, 0, none⟩ u1).setCell ⟨w.heap.size + 1, 1, none⟩ u2).setCell ⟨w.heap.size + 1, 2, none⟩ u3).ownsRow 0 71 2 v n xs :=
  ownsRow_base (ownsRow_setCell_below (ownsRow_setCell_below (ownsRow_setCell_below (ownsRow_setCell_below h (by simp) _) (by simp) _) (by simp) _) (by simp) _) (Nat.zero_le _)
theorem with_below {w wr w1 : World} (h : Below w.heap.size w wr) (h1 : Below (w.heap.size + 2) wr w1) {u0 u1 u2 u3 : Value} :
    Below w.heap.size w ((((w1.setCell ⟨w.heap.size, 2, none⟩ u0).setCell ⟨w.heap.size + 1, 0, none⟩ u1).setCell ⟨w.heap.size + 1, 1, none⟩ u2).setCell ⟨w.heap.size + 1, 2, none⟩ u3) :=
  ((((h.trans (h1.mono (by omega))).setCell (by simp) _).setCell (by simp) _).setCell (by simp) _).setCell (by simp) _

set_option maxRecDepth 100000 in
set_option maxHeartbeats 2000000 in
theorem rwith_some (L : List Ln) (g cap : Nat) (t : Bs) (all share n : Int) (w : World) (hg : g < w.heap.size) (hc : ∀ k (hk : k < L.length), w.cell? ⟨g, k * 2, none⟩ = some (.string ⟨L[k].1.toArray⟩) ∧ w.cell? ⟨g, k * 2 + 1, none⟩ = some (.int .i64 L[k].2)) (hlen : L.length ≤ 1000) :
    Calls Try.prog 33 #[.agg #[.int .i64 all, .int .i64 share, .slice (some ⟨g, 0, none⟩) L.length cap], .string ⟨t.toArray⟩, .int .i64 n] w fun e w' => ∃ s', e = .returned (.agg #[.int .i64 all, .int .i64 share, s']) ∧ LinesAt w' s' (rWith L t n) ∧ Below w.heap.size w w' := by
  have HC := Lib.hid hc; clear hc
  obtain ⟨i0, hi, hz0, hz1, hz2⟩ := info_parts Try.info71
  go_enter Try.func33, Try.ntmps33
  go_wp2
  go_loopw [7, 8, 9] (fun v p i wr => ∃ k : Nat, k ≤ L.length ∧ i = .int .i64 k ∧ p = .bool (rHas (L.take k) t) ∧ WithRel L (.slice (some ⟨g, 0, none⟩) L.length cap) t all share n w k v wr) (fun _ _ i _ => L.length - (intOf i).toNat)
  case atStart => 
    have := heap_new2 w (.cells #[.int .i64 all, .int .i64 share, .slice (some ⟨g, 0, none⟩) L.length cap] 32) (.cells #[.int .i64 0, .int .i64 0, .slice none 0 0] 32)
    exact ⟨0, by omega, rfl, rfl, World.ownsRow_nil _ _ _ _, ((Below.refl _ _).alloc (Nat.le_refl _) _).alloc (by simp) _, this.1, this.2, by simp⟩
  case round =>
    obtain ⟨k, hk, rfl, rfl, hrel⟩ := hrel
    have hrel' := hrel
    obtain ⟨hown, hbel, hB0, hB1, hsz⟩ := hrel'
    have c0 : wr.cell? ⟨w.heap.size, 2, none⟩ = some (.slice (some ⟨g, 0, none⟩) L.length cap) := by rw [cell_of_row wr _ _ _ _ _ hB0]; rfl
    by_cases hlt : k < L.length
    · obtain ⟨h0, h1⟩ := HC.out k hlt
      have d0 : wr.cell? ⟨g, k * 2, none⟩ = some (.string ⟨L[k].1.toArray⟩) := by rw [hbel.cell (p := ⟨g, k * 2, none⟩) hg, h0]
      have d1 : wr.cell? ⟨g, k * 2 + 1, none⟩ = some (.int .i64 L[k].2) := by rw [hbel.cell (p := ⟨g, k * 2 + 1, none⟩) hg, h1]
      have hgr : g < wr.heap.size := by omega
      have E2 := Lib.hid (rHas_take L t k hlt)
      clear h0 h1 hB0 hB1
      cases he : (L[k].1 == t)
      · go_wp2_with (at_builtin; refine wpList_append_one rfl _ _ 30 rfl (w.heap.size + 2) 71 i0 _ 2 24 Try.underlying30 hi hz0 hz1 hz2 rfl (by decide) _ k _ rfl (hown.alloc _) #[.string ⟨L[k].1.toArray⟩, .int .i64 L[k].2] _ rfl ?c0 rfl ?c1 ?c2 ?c3 ?c4 ?_)
        case c0 => simp
        case c1 => simp [Value.oneCell']
        case c2 => unfold maxLen; omega
        case c3 => omega
        case c4 => simp; omega
        intro v' w1 hown1 hg1 hsz1
        have hst := hrel.step (w1 := w1) (v' := v') hlt (L[k].1, L[k].2) (by rw [if_neg (by simpa using he)]) hown1 hg1
        have hsm : g < w1.heap.size := by omega
        have HST := Lib.hid hst
        clear hst hown1 hg1 hown
        go_wp2
        go_roundw
        case rel => exact ⟨k + 1, by omega, by go_num, by rw [E2.out, he, Bool.or_false], HST.out⟩
        case measure => simp [intOf]; omega
      · go_wp2_with (at_builtin; refine wpList_append_one rfl _ _ 30 rfl (w.heap.size + 2) 71 i0 _ 2 24 Try.underlying30 hi hz0 hz1 hz2 rfl (by decide) _ k _ rfl (hown.alloc _) #[.string ⟨L[k].1.toArray⟩, .int .i64 n] _ rfl ?c0 rfl ?c1 ?c2 ?c3 ?c4 ?_)
        case c0 => simp
        case c1 => simp [Value.oneCell']
        case c2 => unfold maxLen; omega
        case c3 => omega
        case c4 => simp; omega
        intro v' w1 hown1 hg1 hsz1
        have hst := hrel.step (w1 := w1) (v' := v') hlt (L[k].1, n) (by rw [if_pos (by simpa using he)]) hown1 hg1
        have hsm : g < w1.heap.size := by omega
        have HST := Lib.hid hst
        clear hst hown1 hg1 hown
        go_wp2
        go_roundw
        case rel => exact ⟨k + 1, by omega, by go_num, by rw [E2.out, he, Bool.or_true], HST.out⟩
        case measure => simp [intOf]; omega
    · obtain rfl : k = L.length := by omega
      rw [List.take_of_length_le (Nat.le_refl _)] at hown ⊢
      cases hh : rHas L t
      · have hrw : rWith L t n = L ++ [(t, n)] := by unfold rWith; rw [hh]; rfl
        have hno : rSet L t n = L := by
          unfold rSet
          conv => rhs; rw [← List.map_id L]
          apply List.map_congr_left
          intro y hy
          have : y.1 ≠ t := fun e => by
            have := (has_iff L t).2 (List.mem_map.2 ⟨y, hy, e⟩)
            rw [hh] at this; cases this
          simp [this]
        rw [hno] at hown
        have HB0 := Lib.hid hB0
        have HB1 := Lib.hid hB1
        have HRW := Lib.hid hrw
        clear hB0 hB1 hrw hrel hno
        go_wp2_with (at_builtin; refine wpList_append_one rfl _ _ 30 rfl (w.heap.size + 2) 71 i0 _ 2 24 Try.underlying30 hi hz0 hz1 hz2 rfl (by decide) _ L.length _ rfl hown #[.string ⟨t.toArray⟩, .int .i64 n] _ rfl ?c0 rfl ?c1 ?c2 ?c3 ?c4 ?_)
        case c0 => simp
        case c1 => simp [Value.oneCell']
        case c2 => unfold maxLen; omega
        case c3 => omega
        case c4 => omega
        intro v' w1 hown1 hg1 hsz1
        obtain ⟨A1, c1, rfl⟩ := own_slice hown1
        have hb1 := own_below hown hg1 hsz
        have p0 := (hb1.block w.heap.size (by omega)).trans HB0.out
        have p1 := (hb1.block (w.heap.size + 1) (by omega)).trans HB1.out
        have a0 : w1.cell? ⟨w.heap.size, 0, none⟩ = some (.int .i64 all) := blk_cell p0 0
        have a1 : w1.cell? ⟨w.heap.size, 1, none⟩ = some (.int .i64 share) := blk_cell p0 1
        have a2 : w1.cell? ⟨w.heap.size, 2, none⟩ = some (.slice (some ⟨g, 0, none⟩) L.length cap) := blk_cell p0 2
        have f2 := blk_free p0 2
        have b0 : w1.cell? ⟨w.heap.size + 1, 0, none⟩ = some (.int .i64 0) := blk_cell p1 0
        have b1 : w1.cell? ⟨w.heap.size + 1, 1, none⟩ = some (.int .i64 0) := blk_cell p1 1
        have b2 : w1.cell? ⟨w.heap.size + 1, 2, none⟩ = some (.slice none 0 0) := blk_cell p1 2
        have g0 := blk_free p1 0
        have g1 := blk_free p1 1
        have g2 := blk_free p1 2
        clear p0 p1 c0
        have HO := Lib.hid hown1
        clear hown1 hown hg1
        go_wp2
        refine bodyPost_ret (v := .agg #[.int .i64 all, .int .i64 share, .slice A1 (L.length + 1) c1]) (by simp [results, Try.results33, go_sem, b0, b1, b2]) rfl ⟨_, rfl, ?_, with_below hbel hb1⟩
        unfold LinesAt
        rw [HRW.out, lcells_append, List.length_append]
        exact with_own HO.out
      · have hrw : rWith L t n = rSet L t n := by unfold rWith; rw [hh]; rfl
        obtain ⟨A1, c1, rfl⟩ := own_slice hown
        have HRW := Lib.hid hrw
        have a0 : wr.cell? ⟨w.heap.size, 0, none⟩ = some (.int .i64 all) := blk_cell hB0 0
        have a1 : wr.cell? ⟨w.heap.size, 1, none⟩ = some (.int .i64 share) := blk_cell hB0 1
        have f2 := blk_free hB0 2
        have b0 : wr.cell? ⟨w.heap.size + 1, 0, none⟩ = some (.int .i64 0) := blk_cell hB1 0
        have b1 : wr.cell? ⟨w.heap.size + 1, 1, none⟩ = some (.int .i64 0) := blk_cell hB1 1
        have b2 : wr.cell? ⟨w.heap.size + 1, 2, none⟩ = some (.slice none 0 0) := blk_cell hB1 2
        have g0 := blk_free hB1 0
        have g1 := blk_free hB1 1
        have g2 := blk_free hB1 2
        have HO := Lib.hid hown
        clear hown hB0 hB1 hrw hrel
        go_wp2
        refine bodyPost_ret (v := .agg #[.int .i64 all, .int .i64 share, .slice A1 L.length c1]) (by simp [results, Try.results33, go_sem, b0, b1, b2]) rfl ⟨_, rfl, ?_, with_below hbel (Below.refl _ _)⟩
        unfold LinesAt
        rw [HRW.out, rSet_len]
        exact with_own HO.out

set_option maxRecDepth 100000 in
set_option maxHeartbeats 2000000 in
theorem rwith_nil (t : Bs) (all share n : Int) (w : World) :
    Calls Try.prog 33 #[.agg #[.int .i64 all, .int .i64 share, .slice none 0 0], .string ⟨t.toArray⟩, .int .i64 n] w fun e w' => ∃ s', e = .returned (.agg #[.int .i64 all, .int .i64 share, s']) ∧ LinesAt w' s' [(t, n)] ∧ Below w.heap.size w w' := by
  obtain ⟨i0, hi, hz0, hz1, hz2⟩ := info_parts Try.info71
  have hw := heap_new2 w (.cells #[.int .i64 all, .int .i64 share, .slice none 0 0] 32) (.cells #[.int .i64 0, .int .i64 0, .slice none 0 0] 32)
  have hbel : Below w.heap.size w ((w.alloc (.cells #[.int .i64 all, .int .i64 share, .slice none 0 0] 32)).alloc (.cells #[.int .i64 0, .int .i64 0, .slice none 0 0] 32)) := ((Below.refl _ _).alloc (Nat.le_refl _) _).alloc (by simp) _
  have HW := Lib.hid hw; clear hw
  go_enter Try.func33, Try.ntmps33
  go_wp2
  refine wp_loop_rounds 1 ?_
  rw [rounds_succ]
  go_wp2_with (at_builtin; refine wpList_append_one rfl _ _ 30 rfl (w.heap.size + 2) 71 i0 _ 2 24 Try.underlying30 hi hz0 hz1 hz2 rfl (by decide) _ 0 _ rfl (World.ownsRow_nil _ _ _ _) #[.string ⟨t.toArray⟩, .int .i64 n] _ rfl ?c0 rfl ?c1 ?c2 ?c3 ?c4 ?_)
  case c0 => simp
  case c1 => simp [Value.oneCell']
  case c2 => unfold maxLen; omega
  case c3 => omega
  case c4 => simp
  intro v' w1 hown1 hg1 hsz1
  obtain ⟨A1, c1, rfl⟩ := own_slice hown1
  have hb1 := own_below (World.ownsRow_nil _ (w.heap.size + 2) 71 2) hg1 (by simp)
  have p0 := (hb1.block w.heap.size (by omega)).trans HW.out.1
  have p1 := (hb1.block (w.heap.size + 1) (by omega)).trans HW.out.2
  have a0 : w1.cell? ⟨w.heap.size, 0, none⟩ = some (.int .i64 all) := blk_cell p0 0
  have a1 : w1.cell? ⟨w.heap.size, 1, none⟩ = some (.int .i64 share) := blk_cell p0 1
  have a2 : w1.cell? ⟨w.heap.size, 2, none⟩ = some (.slice none 0 0) := blk_cell p0 2
  have f2 := blk_free p0 2
  have b0 : w1.cell? ⟨w.heap.size + 1, 0, none⟩ = some (.int .i64 0) := blk_cell p1 0
  have b1 : w1.cell? ⟨w.heap.size + 1, 1, none⟩ = some (.int .i64 0) := blk_cell p1 1
  have b2 : w1.cell? ⟨w.heap.size + 1, 2, none⟩ = some (.slice none 0 0) := blk_cell p1 2
  have g0 := blk_free p1 0
  have g1 := blk_free p1 1
  have g2 := blk_free p1 2
  have HO := Lib.hid hown1
  clear p0 p1 hown1 hg1
  go_wp2
  refine bodyPost_ret (v := .agg #[.int .i64 all, .int .i64 share, .slice A1 (0 + 1) c1]) (by simp [results, Try.results33, go_sem, b0, b1, b2]) rfl ⟨_, rfl, ?_, with_below hbel hb1⟩
  unfold LinesAt
  exact with_own (by simpa [lcells] using HO.out)

theorem rwith_any (L : List Ln) (s : Value) (t : Bs) (all share n : Int) (w : World) (hL : LinesAt w s L) (hlen : L.length ≤ 1000) :
    Calls Try.prog 33 #[.agg #[.int .i64 all, .int .i64 share, s], .string ⟨t.toArray⟩, .int .i64 n] w fun e w' => ∃ s', e = .returned (.agg #[.int .i64 all, .int .i64 share, s']) ∧ LinesAt w' s' (rWith L t n) ∧ Below w.heap.size w w' := by
  rcases hL.form with ⟨rfl, rfl⟩ | ⟨g, cap, rfl, hg, hc⟩
  · exact rwith_nil t all share n w
  · exact rwith_some L g cap t all share n w hg hc hlen

end Go.Proofs.Ytjcpmfioppopcaa
