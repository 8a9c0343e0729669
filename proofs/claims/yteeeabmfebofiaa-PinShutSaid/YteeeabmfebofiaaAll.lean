/- All of Pins. -/
import Derived.Test.YteeeabmfebofiaaIsort
import Derived.Maps.RangeWalk
import Derived.Laws.IdiomRangeMap
namespace Go.Proofs.Yteeeabmfebofiaa
open Go.RowKit Go.ChangeMaps Go.Maps
set_option linter.unusedVariables false

def pos (F : St) (k : Int) : Prop := ∃ g c, F k = some (g, c) ∧ 0 < c
/-- What has been collected. -/
structure Coll (F : St) (left : Lit → Bool) (zs : List Int) : Prop where
  nodup : zs.Nodup
  mem : ∀ k, k ∈ zs ↔ (pos F k ∧ left (.int .i64 k) = false)
  wf : ∀ k ∈ zs, (Lit.int .i64 k).wf = true
theorem sameKey_int (k x : Int) : (Lit.int .i64 k).sameKey (.int .i64 x) = decide (k = x) := by
  simp [Lit.sameKey]
theorem Coll.step {F : St} {left : Lit → Bool} {zs : List Int} (h : Coll F left zs) {x : Int} (hl : left (.int .i64 x) = true) (hw : (Lit.int .i64 x).wf = true) (hp : pos F x) : Coll F (fun z => left z && !z.sameKey (.int .i64 x)) (zs ++ [x]) := by
  have hx : x ∉ zs := fun e => by have := (h.mem x).1 e; rw [this.2] at hl; cases hl
  refine ⟨?_, fun k => ?_, fun k hk => ?_⟩
  · rw [List.nodup_append]
    refine ⟨h.nodup, by simp, ?_⟩
    intro a ha b hb
    simp at hb
    subst hb
    rintro rfl
    exact hx ha
  · rw [List.mem_append, h.mem, sameKey_int]
    by_cases e : k = x
    · subst e; simp [hp]
    · simp [e]
  · rcases List.mem_append.1 hk with hk | hk
    · exact h.wf k hk
    · simp at hk; subst hk; exact hw
theorem Coll.skip {F : St} {left : Lit → Bool} {zs : List Int} (h : Coll F left zs) {x : Int} (hp : ¬ pos F x) : Coll F (fun z => left z && !z.sameKey (.int .i64 x)) zs := by
  refine ⟨h.nodup, fun k => ?_, h.wf⟩
  rw [h.mem, sameKey_int]
  by_cases e : k = x
  · subst e; simp [hp]
  · simp [e]
theorem invK (key : Value) (kl : Lit) (h : keyOf Try.prog 2 key = some kl) : ∃ x, key = Value.int .i64 x := by
  obtain ⟨x, rfl, _⟩ := Maps.keyOf_int_inv Try.underlying2 h; exact ⟨x, rfl⟩
theorem invV (v : Value) (y : DataW Unit × List MemPlace) (h : ptrElem v = some y) : ∃ c, v = Value.pointer c := by
  unfold ptrElem at h
  split at h
  · exact ⟨_, rfl⟩
  · exact ⟨_, rfl⟩
  · cases h

def AllR (F : St) (W : World) (v : Value) (w' : World) : Prop := ∃ zs, IRow w' W.heap.size v zs ∧ zs.Pairwise (· < ·) ∧ (∀ k, k ∈ zs ↔ pos F k) ∧ (∀ k ∈ zs, (Lit.int .i64 k).wf = true) ∧ Ext W w'
structure AllRel (F : St) (W : World) (mb N : Nat) (D : DataW Unit) (left : Lit → Bool) (cnt : Nat) (zs : List Int) (v : Value) (wr : World) : Prop where
  rng : wr.ranges Try.prog 2 ptrElem mb W.heap.size N D left cnt
  sub : ∀ kl, left kl = true → Maps.has D kl = true
  coll : Coll F left zs
  room : zs.length + cnt ≤ N
  row : IRow wr W.heap.size v zs
  ext : Ext W wr
def Ended (w : World) (B b : Nat) (mo : Option Nat) (F : St) (N : Nat) (e : Ending) (w' : World) : Prop := ∃ v zs, e = .returned v ∧ IRow w' w.heap.size v zs ∧ zs.Pairwise (· < ·) ∧ (∀ k, k ∈ zs ↔ pos F k) ∧ (∀ k ∈ zs, (Lit.int .i64 k).wf = true) ∧ PinsAt w' B b mo F N 0 0 ∧ Fr B [] w w'

theorem ended_cast {w : World} {B b : Nat} {mo : Option Nat} {F : St} {N : Nat} {u v : Value} {w' : World} (e : u = v) (h : Ended w B b mo F N (.returned v) w') : Ended w B b mo F N (.returned u) w' := by rw [e]; exact h
theorem ended_of {w W wr : World} {B b : Nat} {mo : Option Nat} {F : St} {N : Nat} {v : Value} {zs : List Int} (h : PinsAt w B b mo F N 0 0) (hW : W = (w.setCell ⟨b, 0, none⟩ (.int .i32 1)).setCell ⟨b, 4, none⟩ (.int .i32 (-1073741824)))
    (hx : Ext W wr) (hr : IRow wr W.heap.size v zs) (h1 : zs.Pairwise (· < ·)) (h2 : ∀ k, k ∈ zs ↔ pos F k) (h3 : ∀ k ∈ zs, (Lit.int .i64 k).wf = true) :
    Ended w B b mo F N (.returned v) ((wr.setCell ⟨b, 4, none⟩ (.int .i32 0)).setCell ⟨b, 0, none⟩ (.int .i32 0)) := by
  have p1 : PinsAt W B b mo F N 1 (-1073741824) := by rw [hW]; exact (h.cell (pb_st _ _ 1 _)).cell (pb_rc _ _ _ _)
  have p2 := p1.ext hx
  have p3 := p2.cell (pb_rc _ _ 0 _)
  have f1 : Fr B [] w W := by
    rw [hW]
    exact ((Fr.refl B [] w).set _ (.inr ⟨h.low, _, 69, _, h.blk, .inl rfl⟩)).set _ (.inr ⟨h.low, _, 69, _, blk_set h.blk 0 _, .inl rfl⟩)
  have s : W.heap.size = w.heap.size := by rw [hW]; simp
  have f2 : Fr B [] wr ((wr.setCell ⟨b, 4, none⟩ (.int .i32 0)).setCell ⟨b, 0, none⟩ (.int .i32 0)) := ((Fr.refl B [] wr).set _ (.inr ⟨h.low, _, 69, _, p2.blk, .inl rfl⟩)).set _ (.inr ⟨h.low, _, 69, _, p3.blk, .inl rfl⟩)
  refine ⟨v, zs, rfl, ?_, h1, h2, h3, p3.cell (pb_st _ _ _ _), (f1.trans (.of_ext hx B [])).trans f2⟩
  rw [← s]
  exact hr.fz (Fz.of_fr (X := []) f2 (by simp))

set_option maxRecDepth 100000 in
set_option maxHeartbeats 4000000 in
theorem all_none (w : World) (B b : Nat) (F : St) (N : Nat) (h : PinsAt w B b none F N 0 0) : Calls Try.prog 21 #[.pointer (some ⟨b, 0, none⟩)] w (Ended w B b none F N) := by
  obtain ⟨W, hW⟩ : ∃ W, W = (w.setCell ⟨b, 0, none⟩ (.int .i32 1)).setCell ⟨b, 4, none⟩ (.int .i32 (-1073741824)) := ⟨_, rfl⟩
  have p1 : PinsAt W B b none F N 1 (-1073741824) := by rw [hW]; exact (h.cell (pb_st _ _ 1 _)).cell (pb_rc _ _ _ _)
  have h0 : ∀ k, F k = none := by
    rcases h.map with ⟨_, h0⟩ | ⟨mb, D, e, _⟩
    · exact h0
    · cases e
  have c6 : W.cell? ⟨b, 6, none⟩ = some (.map none) := blk_cell p1.blk 6
  have hx : Ext W (W.alloc (.mapIter none 0 #[] 0)) := Ext.alloc (Ext.refl _) _
  have hend := ended_of h hW hx (IRow.nil _ _) List.Pairwise.nil (fun k => ⟨(fun e => by cases e), (fun ⟨g, c, e, _⟩ => by rw [h0] at e; cases e)⟩) (by simp)
  have HP := Lib.hid h; have HP1 := Lib.hid (p1.ext hx); have HW := Lib.hid hW; have HE := Lib.hid hend
  clear h p1 hW h0 hx hend
  have hrg := run_range_nilMap (P := Try.prog) W 67 2 71 Try.underlying67
  have hnx : ∀ ty, (Instr.next (.pointer (some ⟨W.heap.size, 0, none⟩)) false ty).run Try.prog (W.alloc (.mapIter none 0 #[] 0)) = _ := fun ty => run_next_nilMap W ty 0 0 #[]
  go_enter_defers Try.func21, Try.ntmps21
  go_wp2_with (go_at_call 34; refine (lock_pins _ B b _ _ N HP.out).mono ?_; rintro e w' ⟨rfl, rfl⟩; rw [← HW.out])
  refine wp_loop_rounds 1 ?_
  rw [rounds_succ]
  go_wp2_with (go_at_call 36; refine (AnyM.slices_Sort_int_none Try.sort64 none 0 _).mono ?_; rintro e w' ⟨rfl, rfl⟩)
  refine leaves_cons (f := 35) (args := #[.pointer (some ⟨b, 0, none⟩)]) (by simp) (by simp [go_sem]) ?_
  refine (unlock_pinsD _ B b _ _ _ .returning HP1.out).mono ?_
  rintro e u' w'' ⟨rfl, rfl, rfl⟩
  exact ⟨_, results_tmp rfl _ _ _, ended_cast (v := .slice none 0 0) rfl HE.out⟩

theorem cells_ne {w : World} {i j : Nat} {cs : Array Value} {t : TypeId} {z : Nat × Nat} {o : Obj} (hi : w.heap[i]? = some (.cells cs t z)) (hj : w.heap[j]? = some o) (ho : ∀ cs t z, o ≠ .cells cs t z) : i ≠ j := by
  rintro rfl
  rw [hi] at hj
  injection hj with hj
  exact ho _ _ _ hj.symm
theorem ranges_blocks {w : World} {b r n : Nat} {D : DataW Unit} {left : Lit → Bool} {cnt : Nat} (h : w.ranges Try.prog 2 ptrElem b r n D left cnt) : (∃ es cl, w.heap[b]? = some (.map es cl)) ∧ ∃ m s q c, w.heap[r]? = some (.mapIter m s q c) := by
  obtain ⟨es, clock, since, seen, c0, h1, _, _, _, h2, _⟩ := h
  exact ⟨⟨_, _, h1⟩, _, _, _, _, h2⟩
theorem IRow.block {w : World} {B : Nat} {v : Value} {zs : List Int} (h : IRow w B v zs) : v.ownBlock = none ∨ ∃ g cur, v.ownBlock = some g ∧ B ≤ g ∧ w.heap[g]? = some (.cells cur 2 (0, 0)) := by
  rcases h.2 with ⟨rfl, _⟩ | ⟨g, cap, cur, rfl, hb, hgg, _⟩
  · exact .inl rfl
  · exact .inr ⟨g, cur, rfl, hb, hgg⟩
section
variable {F : St} {W : World} {mb N : Nat} {D : DataW Unit} {left : Lit → Bool} {cnt : Nat} {zs : List Int} {v : Value} {wr : World}
/-- The iterator goes on. -/
theorem AllRel.next (h : AllRel F W mb N D left cnt zs v wr) {w1 : World} (hg : wr.grownBy w1 (some W.heap.size)) : IRow w1 W.heap.size v zs ∧ Ext W w1 := by
  have hr := (ranges_blocks h.rng).2
  obtain ⟨m, s, q, c, hr⟩ := hr
  refine ⟨h.row.kept hg ?_, Below.trans h.ext ⟨hg.os, hg.tape, hg.output, hg.size, fun k hk => hg.block k (Nat.lt_of_lt_of_le hk h.ext.size) (by simp; omega)⟩⟩
  rcases h.row.block with e | ⟨g, cur, e, _, hgg⟩
  · exact .inl e
  · rw [e]
    refine .inr fun e' => ?_
    injection e' with e'
    exact cells_ne hgg hr (by simp) e'
/-- The list grows. -/
theorem grow_list {w1 w2 : World} {left1 : Lit → Bool} {cnt1 : Nat} (hrg : w1.ranges Try.prog 2 ptrElem mb W.heap.size N D left1 cnt1) (hx : Ext W w1) (hrow : IRow w1 W.heap.size v zs) (hg : w1.grownBy w2 v.ownBlock) :
    w2.ranges Try.prog 2 ptrElem mb W.heap.size N D left1 cnt1 ∧ Ext W w2 := by
  obtain ⟨⟨es, cl, hb⟩, m, s, q, c, hr⟩ := ranges_blocks hrg
  rcases hrow.block with e | ⟨g, cur, e, hB, hgg⟩
  · rw [e] at hg
    exact ⟨hrg.kept hg (by simp) (by simp), ⟨hg.os.trans hx.os, hg.tape.trans hx.tape, hg.output.trans hx.output, Nat.le_trans hx.size hg.size, fun k hk => (hg.block k (Nat.lt_of_lt_of_le hk hx.size) (by simp)).trans (hx.block k hk)⟩⟩
  · rw [e] at hg
    exact ⟨hrg.kept hg (fun e' => by injection e' with e'; exact cells_ne hgg hb (by simp) e'.symm) (fun e' => by injection e' with e'; exact cells_ne hgg hr (by simp) e'.symm), ⟨hg.os.trans hx.os, hg.tape.trans hx.tape, hg.output.trans hx.output, Nat.le_trans hx.size hg.size, fun k hk => (hg.block k (Nat.lt_of_lt_of_le hk hx.size) (by simp; omega)).trans (hx.block k hk)⟩⟩
theorem ext_list {w1 w2 : World} (hx : Ext W w1) (hrow : IRow w1 W.heap.size v zs) (hg : w1.grownBy w2 v.ownBlock) : Ext W w2 := by
  rcases hrow.block with e | ⟨g, cur, e, hB, hgg⟩
  · rw [e] at hg
    exact ⟨hg.os.trans hx.os, hg.tape.trans hx.tape, hg.output.trans hx.output, Nat.le_trans hx.size hg.size, fun k hk => (hg.block k (Nat.lt_of_lt_of_le hk hx.size) (by simp)).trans (hx.block k hk)⟩
  · rw [e] at hg
    exact ⟨hg.os.trans hx.os, hg.tape.trans hx.tape, hg.output.trans hx.output, Nat.le_trans hx.size hg.size, fun k hk => (hg.block k (Nat.lt_of_lt_of_le hk hx.size) (by simp; omega)).trans (hx.block k hk)⟩
end
theorem sortI_lt {zs : List Int} (h : zs.Nodup) : (sortI zs).Pairwise (· < ·) := by
  have h1 : (sortI zs).Pairwise (fun x y => decide (x ≤ y) = true) := List.pairwise_mergeSort (by intro a b c h1 h2; simp at *; omega) (by intro a b; simp; omega) zs
  have h2 : (sortI zs).Nodup := ((List.mergeSort_perm zs _).nodup_iff).2 h
  exact (h1.and h2).imp fun ⟨a, b⟩ => by simp at a; omega
theorem sortI_mem (zs : List Int) (k : Int) : k ∈ sortI zs ↔ k ∈ zs := (List.mergeSort_perm zs _).mem_iff

set_option maxRecDepth 100000 in
set_option maxHeartbeats 4000000 in
theorem all_some (w : World) (B b mb : Nat) (F : St) (N : Nat) (hN : N ≤ 100001) (h : PinsAt w B b (some mb) F N 0 0) : Calls Try.prog 21 #[.pointer (some ⟨b, 0, none⟩)] w (Ended w B b (some mb) F N) := by
  obtain ⟨W, hW⟩ : ∃ W, W = (w.setCell ⟨b, 0, none⟩ (.int .i32 1)).setCell ⟨b, 4, none⟩ (.int .i32 (-1073741824)) := ⟨_, rfl⟩
  have p1 : PinsAt W B b (some mb) F N 1 (-1073741824) := by rw [hW]; exact (h.cell (pb_st _ _ 1 _)).cell (pb_rc _ _ _ _)
  have c6 : W.cell? ⟨b, 6, none⟩ = some (.map (some mb)) := blk_cell p1.blk 6
  obtain ⟨D, hown, ht, _⟩ := p1.mapAt
  have HP := Lib.hid h; have HP1 := Lib.hid p1; have HW := Lib.hid hW; have HT := Lib.hid ht
  clear h p1 hW ht
  go_enter_defers Try.func21, Try.ntmps21
  go_wp2_with (first | (go_at_call 34; refine (lock_pins _ B b _ _ N HP.out).mono ?_; rintro e w' ⟨rfl, rfl⟩; rw [← HW.out]) | (at_range; refine wpList_range_own _ rfl _ 67 rfl 2 71 law2 Try.underlying67 ptrElem mb N D rfl hown ?_; intro w0 hrg0 hg0 hs0))
  go_frame
  go_loopw [3, 4] (fun v _ wr => ∃ (left : Lit → Bool) (cnt : Nat) (zs : List Int), AllRel F W mb N D left cnt zs v wr) (fun _ _ wr => wr.rangeLeft mb W.heap.size)
  case atStart =>
    have hxt : Ext W w0 := ⟨hg0.os, hg0.tape, hg0.output, hg0.size, fun k hk => hg0.block k hk (by simp)⟩
    refine ⟨_, _, [], hrg0, fun kl e => e, ⟨List.nodup_nil, fun k => ?_, by simp⟩, ?_, IRow.nil _ _, hxt⟩
    · constructor
      · intro e; cases e
      · rintro ⟨⟨g, c, e, _⟩, hf⟩
        have := HT.out k
        rw [e] at this
        rw [this.1] at hf
        cases hf
    · have := hown.size_le
      simpa using this
  case round =>
    clear hrg0 hg0 hs0
    obtain ⟨left, cnt, zs, hr⟩ := hrel
    have R := Lib.hid hr
    go_wp2_with (at_next; refine wpList_next_ranges _ rfl _ rfl 2 law2 ptrElem (Value.int .i64) Value.pointer invK invV mb W.heap.size N D left cnt rfl hr.rng ?_ ?_)
    · intro _ hl0
      clear hr
      have hs := isort_any wr W.heap.size _ zs R.out.row (by have := R.out.room; omega)
      have HS := Lib.hid hs
      have HL := Lib.hid hl0
      clear hs hl0
      go_wp2_with (go_at_call 36; refine HS.out.mono ?_; rintro e w5 ⟨rfl, q1, q2⟩; have Q1 := Lib.hid q1; have Q2 := Lib.hid q2; clear q1 q2)
      have hx5 := ext_list R.out.ext R.out.row Q2.out
      refine leaves_cons (f := 35) (args := #[.pointer (some ⟨b, 0, none⟩)]) (by simp) (by simp [go_sem]) ?_
      refine (unlock_pinsD _ B b _ _ _ .returning (HP1.out.ext hx5)).mono ?_
      rintro e u' w'' ⟨rfl, rfl, rfl⟩
      have hcl := R.out.coll
      exact ⟨_, results_tmp rfl _ _ _, ended_cast (v := u3) rfl <| ended_of HP.out HW.out hx5 Q1.out (sortI_lt hcl.nodup) (fun k => by rw [sortI_mem, hcl.mem]; exact ⟨fun e => e.1, fun e => ⟨e, HL.out _⟩⟩) (fun k hk => hcl.wf k ((sortI_mem _ _).1 hk))⟩
    · intro x c kl y1 y2 w1 cnt1 hkey hlk hv hat hrg1 hlt hg1 hs1 hen
      obtain ⟨x', ex, rfl, hwx⟩ := Maps.keyOf_int_inv Try.underlying2 hkey
      cases ex
      have hhas := hr.sub _ hlk
      obtain ⟨hrow1, hx1⟩ := hr.next hg1
      cases hF : F x with
      | none => have := HT.out x; rw [hF] at this; rw [this] at hhas; cases hhas
      | some gc =>
        obtain ⟨g, cc⟩ := gc
        have hti := HT.out x
        rw [hF] at hti
        have hy1 : y1 = .lit (.int .i64 g) := by have := hat (.lit (.int .i64 (-1))); rw [hti.2] at this; exact this.symm
        subst hy1
        have hc := ptrElem_int hv
        injection hc with hc
        subst hc
        have hcell : w1.cell? ⟨g, 0, none⟩ = some (.int .i64 cc) := blk_cell ((HP1.out.ext hx1).cnt x g cc hF).1 0
        have hsub1 : ∀ kl, (left kl && !kl.sameKey (.int .i64 x)) = true → Maps.has D kl = true := fun kl e => hr.sub kl (by simp at e; exact e.1)
        have hroom := hr.room
        have hm0 : wr.rangeLeft mb W.heap.size = cnt := hr.rng.left_eq
        by_cases hpos : 0 < cc
        · have hcol := hr.coll.step hlk hwx ⟨g, cc, hF, hpos⟩
          have RG := Lib.hid hrg1; have X1 := Lib.hid hx1; have ROW := Lib.hid hrow1; have SUB := Lib.hid hsub1; have COL := Lib.hid hcol; have M0 := Lib.hid hm0
          clear hrg1 hx1 hsub1 hcol hm0 hr hlk hv hat hg1 hs1 hhas hti hF hkey
          have hd : decide (0 < cc) = true := by simpa using hpos
          go_wp2_with (first | (go_at_call 25; refine (aload _ _ _ hcell).mono ?_; rintro e w' ⟨rfl, rfl⟩) | (at_builtin; refine wpList_append_int rfl _ _ rfl W.heap.size _ zs x ROW.out rfl _ rfl ?c0 ?c1 ?c2 ?_))
          case c0 => simp
          case c1 => omega
          case c2 => exact X1.out.size
          intro v' w2 hrow2 hg2
          obtain ⟨hrg2, hx2⟩ := grow_list RG.out X1.out ROW.out hg2
          have HN : Hid (AllRel F W mb N D (fun z => left z && !z.sameKey (.int .i64 x)) cnt1 (zs ++ [x]) v' w2) := Lib.hid ⟨hrg2, SUB.out, COL.out, by simp; omega, hrow2, hx2⟩
          have HM : Hid (w2.rangeLeft mb W.heap.size = cnt1) := Lib.hid hrg2.left_eq
          clear hrow2 hg2 hrg2 hx2 hen hcell
          go_wp2
          go_roundw
          case rel => exact ⟨_, cnt1, _, HN.out⟩
          case measure => rw [HM.out, M0.out]; omega
        · have hcol := hr.coll.skip (x := x) (fun ⟨g', c', e, hp⟩ => by rw [hF] at e; injection e with e; injection e with e1 e2; omega)
          have HN : Hid (AllRel F W mb N D (fun z => left z && !z.sameKey (.int .i64 x)) cnt1 zs _ w1) := Lib.hid ⟨hrg1, hsub1, hcol, by omega, hrow1, hx1⟩
          have HM : Hid (w1.rangeLeft mb W.heap.size = cnt1) := Lib.hid hrg1.left_eq
          have M0 := Lib.hid hm0
          clear hrg1 hx1 hsub1 hcol hm0 hr hlk hv hat hg1 hs1 hhas hti hF hkey hrow1
          have hd : decide (0 < cc) = false := by simpa using hpos
          go_wp2_with (go_at_call 25; refine (aload _ _ _ hcell).mono ?_; rintro e w' ⟨rfl, rfl⟩)
          go_roundw
          case rel => exact ⟨_, cnt1, _, HN.out⟩
          case measure => rw [HM.out, M0.out]; omega

def AllP (w : World) (B b N : Nat) (L : List Hold) (S : List Int) (e : Ending) (w' : World) : Prop :=
  ∃ v zs, e = .returned v ∧ IRow w' w.heap.size v zs ∧ zs.Pairwise (· < ·) ∧ (∀ k, k ∈ zs ↔ 1 ≤ live L k) ∧ (∀ k ∈ zs, (Lit.int .i64 k).wf = true) ∧ PI w' B b N L S ∧ Fz B w w'
theorem pi_all (w : World) (B b N : Nat) (L : List Hold) (S : List Int) (hN : N ≤ 100001) (h : PI w B b N L S) : Calls Try.prog 21 #[.pointer (some ⟨b, 0, none⟩)] w (AllP w B b N L S) := by
  obtain ⟨mo, F, h1, h2, h3, h4⟩ := h
  have hall : Calls Try.prog 21 #[.pointer (some ⟨b, 0, none⟩)] w (Ended w B b mo F N) := by
    cases mo with
    | none => exact all_none w B b F N h1
    | some mb => exact all_some w B b mb F N hN h1
  refine hall.mono ?_
  rintro e w' ⟨v, zs, rfl, q1, q2, q3, q4, q5, q6⟩
  refine ⟨v, zs, rfl, q1, q2, fun k => ?_, q4, ⟨mo, F, q5, h2.fr q6 (by simp), h3, h4⟩, Fz.of_fr q6 (by simp)⟩
  rw [q3]
  have h4k := h4 k
  unfold pos
  revert h4k
  cases F k with
  | none =>
    intro h4k
    have := h4k.1
    constructor
    · rintro ⟨g, c, e, _⟩; cases e
    · intro e; omega
  | some gc =>
    obtain ⟨g, c⟩ := gc
    intro h4k
    constructor
    · rintro ⟨g', c', e, hp⟩
      injection e with e; injection e with e1 e2
      rcases h4k with ⟨_, h, _⟩ | ⟨_, h, h', _⟩ <;> omega
    · intro e
      rcases h4k with ⟨_, _, h⟩ | ⟨_, h, h', _⟩
      · omega
      · exact ⟨g, c, rfl, by omega⟩
end Go.Proofs.Yteeeabmfebofiaa
