/- The program's book in memory, and its methods set, Add, Less, Of, All, walked. -/
import Derived.Test.YtjcpmfioppopcaaRefC
import Derived.Maps.OwnSet
import Derived.Maps.OwnOps
import Derived.Maps.Ext
namespace Go.Proofs.Ytjcpmfioppopcaa
open Go.RowKit Go.Maps
set_option linter.unusedVariables false

theorem law9 : Keyed Try.prog 9 := string_keyed Try.underlying9
theorem zero2 (w : World) : (zeroValue 2).run Try.prog w = .ok (.int .i64 0) w := by kernel_rfl
theorem key9 {t : Bs} (h : t.length ≤ 1000000) : keyOf Try.prog 9 (.string ⟨t.toArray⟩) = some (.string t) := by
  have := Go.WideMaps.keyOf_string_mk (P := Try.prog) Try.underlying9 (s := ⟨t.toArray⟩) (by simp [ByteArray.size, maxLen]; omega)
  simpa using this
theorem isKey (t : Bs) : WideAt.IsKeyLit (.string t) := by trivial

/-- The map's datum tells each tenant's bytes, and has just the tenants that have some. -/
def Ties (D : DataW Unit) (L : List Ln) : Prop := ∀ t : Bs, D.atKey (.string t) (.lit (.int .i64 0)) = .lit (.int .i64 (rOf L t)) ∧ Maps.has D (.string t) = decide (rOf L t ≠ 0)

structure BookAt (w : World) (b : Nat) (mo : Option Nat) (room share : Int) (L : List Ln) (N : Nat) : Prop where
  blk : w.heap[b]? = some (.cells #[.int .i64 room, .int .i64 share, .int .i64 (rSum L), .map mo] 57 (0, 0))
  map : (mo = none ∧ ∀ t, rOf L t = 0) ∨ ∃ mb D, mo = some mb ∧ w.ownsMap Try.prog 9 (plainElem Try.prog 2) mb N D ∧ Ties D L

theorem BookAt.ext {X : List Nat} {w w' : World} {b : Nat} {mo : Option Nat} {room share : Int} {L : List Ln} {N : Nat} (h : BookAt w b mo room share L N) (hx : ExtB X w w') (hb : b ∉ X) (hm : ∀ mb, mo = some mb → mb ∉ X) : BookAt w' b mo room share L N := by
  refine ⟨hx.heap h.blk hb, ?_⟩
  rcases h.map with h0 | ⟨mb, D, rfl, hown, ht⟩
  · exact .inl h0
  · refine .inr ⟨mb, D, rfl, ?_, ht⟩
    obtain ⟨es, clock, he, F, hs, hD⟩ := hown
    exact ⟨es, clock, hx.heap he (hm mb rfl), F, hs, hD⟩

theorem BookAt.drew {w : World} {b : Nat} {mo : Option Nat} {room share : Int} {L : List Ln} {N : Nat} (h : BookAt w b mo room share L N) : BookAt w.drew b mo room share L N := ⟨h.blk, h.map⟩

theorem BookAt.look {w : World} {b : Nat} {mo : Option Nat} {room share : Int} {L : List Ln} {N : Nat} (h : BookAt w b mo room share L N) {t : Bs} (ht : t.length ≤ 1000000) :
    (Instr.lookup 55 (.map mo) (.string ⟨t.toArray⟩) false).run Try.prog w = .ok (.int .i64 (rOf L t)) w := by
  rcases h.map with ⟨rfl, h0⟩ | ⟨mb, D, rfl, hown, hti⟩
  · have := Maps.look_nil (w := w) false law9 Try.underlying55 (zero2 w) (key9 ht)
    rw [h0 t]; simpa using this
  · obtain ⟨c, hrun, hat, _⟩ := hown.lookup_int law9 Try.underlying55 Try.underlying2 (zero2 _) (key9 ht)
    rw [(hti t).1] at hat
    injection hat with hat
    injection hat with _ hat
    rw [hrun, hat]

/-- The blocks of a book. -/
def bks (b : Nat) (mo : Option Nat) : List Nat := b :: mo.toList

theorem wf_i64 {n : Int} (h : -1125899906842624 ≤ n ∧ n ≤ 1125899906842624) : (Lit.int .i64 n).wf = true := WalkArith.wf_i64 (by omega)

theorem Ties.put {D : DataW Unit} {L : List Ln} (h : Ties D L) (hD : IsMap D) {t : Bs} {n : Int} (hn : n ≠ 0) : Ties (D.put (.string t) (.lit (.int .i64 n))) (rWith L t n) := by
  intro u
  rw [rOf_with]
  by_cases e : u = t
  · subst e
    rw [if_pos rfl, atKey_put_same hD (isKey u), has_put_same hD (isKey u)]
    exact ⟨rfl, by simp [hn]⟩
  · rw [if_neg e, atKey_put_other (by simpa using e), has_put_other (by simpa using e)]
    exact h u
theorem Ties.drop {D : DataW Unit} {L : List Ln} (h : Ties D L) (hD : IsMap D) {t : Bs} (d : DataW Unit) : Ties ((D.put (.string t) d).del (.string t)) (rWith L t 0) := by
  intro u
  rw [rOf_with]
  by_cases e : u = t
  · subst e
    rw [if_pos rfl, atKey_del_same, has_del_same]
    exact ⟨rfl, by simp⟩
  · rw [if_neg e, atKey_del_other (by simpa using e), has_del_other (by simpa using e), atKey_put_other (by simpa using e), has_put_other (by simpa using e)]
    exact h u
theorem Ties.nil {L : List Ln} (h : ∀ t, rOf L t = 0) : Ties (.map []) L := fun u => ⟨by rw [h u]; rfl, by rw [h u]; rfl⟩

theorem turned_ext {w w' : World} {mb : Nat} (h : w.mapTurned w' mb) : ExtB [mb] w w' :=
  ⟨h.grown.os, h.grown.tape, h.grown.output, h.grown.size, fun k hk hx => h.grown.block k hk (by simpa using hx)⟩

theorem q55 (w : World) (r : Option Nat) : (binOp .eql 55 (.map r) (.map none)).run Try.prog w = .ok (.bool r.isNone) w := run_eql_map_nil w _ _ _ r Try.underlying55

set_option maxRecDepth 100000 in
set_option maxHeartbeats 4000000 in
theorem set_some (b mb N : Nat) (D : DataW Unit) (L : List Ln) (room share n : Int) (t : Bs) (w : World) (ht : t.length ≤ 200)
    (hblk : w.heap[b]? = some (.cells #[.int .i64 room, .int .i64 share, .int .i64 (rSum L), .map (some mb)] 57 (0, 0)))
    (hown : w.ownsMap Try.prog 9 (plainElem Try.prog 2) mb N D) (hti : Ties D L) (hN : N ≤ 100000) (hI : Inv room share L) (h0 : 0 ≤ n) (h1 : n ≤ 1125899906842624) :
    Calls Try.prog 27 #[.pointer (some ⟨b, 0, none⟩), .string ⟨t.toArray⟩, .int .i64 n] w fun e w' => e = .returned (.tuple #[]) ∧ BookAt w' b (some mb) room share (rWith L t n) (N + 1) ∧ ExtB [b, mb] w w' := by
  have b1 := hI.of0 t; have b2 := hI.of_sum t; have b3 := hI.sum0; have b4 := hI.sum; have b7 := hI.r1; have b8 := hI.ofs t; have b9 := hI.s1
  have hBA : BookAt w b (some mb) room share L N := ⟨hblk, .inr ⟨mb, D, rfl, hown, hti⟩⟩
  have hkey := key9 (t := t) (by omega)
  have hne : mb ≠ b := by
    rintro rfl
    obtain ⟨es, clock, he, _⟩ := hown
    rw [hblk] at he; cases he
  have c2 : w.cell? ⟨b, 2, none⟩ = some (.int .i64 (rSum L)) := blk_cell hblk 2
  have c3 : w.cell? ⟨b, 3, none⟩ = some (.map (some mb)) := blk_cell hblk 3
  have f2 := blk_free hblk 2
  have hsum := rSum_with L t n hI.one
  have HS := Lib.hid hsum; have HBA := Lib.hid hBA; have HB := Lib.hid hblk
  have hD := hown.isMap
  have qq := q55
  clear hsum hBA hblk
  go_enter Try.func27, Try.ntmps27
  go_wp2
  refine wp_region_segs [] [.inl [0, 1, 2, 3, 4, 5, 6, 7, 8, 9, 10, 11, 12, 13, 14], .inr (.inr 15)] (by kernel_rfl) (by kernel_rfl) (fun c a d v w h => by cases d <;> exact h) ?_
  have G2 : ∀ x : Grow [] w.drew, x.v.cell? ⟨b, 2, none⟩ = some (.int .i64 (rSum L)) := fun x => x.ext.cell c2 (by simp)
  have G3 : ∀ x : Grow [] w.drew, x.v.cell? ⟨b, 3, none⟩ = some (.map (some mb)) := fun x => x.ext.cell c3 (by simp)
  have GL : ∀ x : Grow [] w.drew, (Instr.lookup 55 (.map (some mb)) (.string ⟨t.toArray⟩) false).run Try.prog x.v = .ok (.int .i64 (rOf L t)) x.v := fun x => BookAt.look (BookAt.ext HBA.out.drew x.ext (by simp) (by simp)) (by omega)
  have e9 : IntKind.i64.wrap (n - rOf L t) = n - rOf L t := IntWalk.i64_in _ (by omega)
  have e8 : IntKind.i64.wrap (rSum L + (n - rOf L t)) = rSum L + (n - rOf L t) := IntWalk.i64_in _ (by omega)
  (rw [wpSegs_inl]; simp only [pickOps, List.map_cons, List.map_nil, List.getD_cons_succ, List.getD_cons_zero]; (repeat (go_big_quiet_step (fail))); refine wpQuiet_nil ?_)
  clear G2 G3 GL e8 e9
  (rw [wpSegs_last]; simp only [pickOps, List.map_cons, List.map_nil, List.getD_cons_succ, List.getD_cons_zero]; go_wp2_with (fail))
  rw [wpSegs_nil]
  have hB2 := blk_set (w := w.drew) HB.out 2 (.int .i64 (rSum L + (n - rOf L t)))
  obtain ⟨w1, hw1⟩ : ∃ w1, w1 = (w.setCell ⟨b, 2, none⟩ (.int .i64 (rSum L + (n - rOf L t)))).drew := ⟨_, rfl⟩
  have hB1 : w1.heap[b]? = some (.cells #[.int .i64 room, .int .i64 share, .int .i64 (rSum L + (n - rOf L t)), .map (some mb)] 57 (0, 0)) := by rw [hw1]; exact hB2
  have hx1 : ExtB [b] w w1 := by rw [hw1]; exact ((ExtB.refl [b] w).setCell (.inl (by simp)) _).drew
  have hown1 : w1.ownsMap Try.prog 9 (plainElem Try.prog 2) mb N D := by rw [hw1]; exact (hown.setCell (by simpa using hne) _).drew
  have d3 : w1.cell? ⟨b, 3, none⟩ = some (.map (some mb)) := blk_cell hB1 3
  rw [← hw1]
  have HB1 := Lib.hid hB1
  clear hB2 hw1 c2 c3 f2 hB1 hown
  cases hn0 : (n == 0)
  · have hn : n ≠ 0 := by simpa using hn0
    go_wp2_with (at_mapUpdate; refine wpList_mapUpdate_in _ rfl _ _ _ 55 rfl 9 2 law9 Try.underlying55 _ mb N D rfl hown1 ?c0 _ _ _ rfl rfl hkey _ [] (plainElem_int Try.underlying2 ?c1) ?_; rotate_left; rotate_left; intro w2 hown2 hturn2)
    case c0 => unfold maxLen; omega
    case c1 => exact wf_i64 (by omega)
    go_end0
    have hx2 := turned_ext hturn2
    refine ⟨rfl, ⟨?_, .inr ⟨mb, _, rfl, hown2, hti.put hD hn⟩⟩, (hx1.mono (by simp)).trans (hx2.mono (by simp))⟩
    rw [HS.out]; exact hx2.heap HB1.out (by simpa using hne.symm)
  · obtain rfl : n = 0 := by simpa using hn0
    go_wp2_with (first
      | (at_mapUpdate; refine wpList_mapUpdate_in _ rfl _ _ _ 55 rfl 9 2 law9 Try.underlying55 _ mb N D rfl hown1 ?c0 _ _ _ rfl rfl hkey _ [] (plainElem_int Try.underlying2 ?c1) ?_; rotate_left; rotate_left; intro w2 hown2 hturn2; have hx2 := turned_ext hturn2; have d4 := ExtB.cell hx2 d3 (by simpa using hne.symm))
      | (at_delete; refine wpList_delete_own _ rfl _ _ 55 9 rfl 2 law9 Try.underlying55 _ mb (N + 1) _ rfl hown2 _ _ rfl hkey ?_; intro w3 hown3 hturn3))
    case c0 => unfold maxLen; omega
    case c1 => exact wf_i64 (by omega)
    go_end0
    have hx3 := turned_ext hturn3
    refine ⟨rfl, ⟨?_, .inr ⟨mb, _, rfl, hown3, hti.drop hD _⟩⟩, ((hx1.mono (by simp)).trans (hx2.mono (by simp))).trans (hx3.mono (by simp))⟩
    rw [HS.out]; exact hx3.heap (hx2.heap HB1.out (by simpa using hne.symm)) (by simpa using hne.symm)

theorem none_ext {b : Nat} {w wb w1 w2 : World} (h0 : ExtB [b] w wb) (h1 : ExtB [b] wb w1) (h2 : ExtB [w.heap.size] w1 w2) : ExtB [b] w w2 := by
  have h3 : ExtB [b] w w1 := h0.trans h1
  exact ⟨h2.os.trans h3.os, h2.tape.trans h3.tape, h2.output.trans h3.output, Nat.le_trans h3.size h2.size, fun k hk hx => (h2.block k (Nat.lt_of_lt_of_le hk h3.size) (by simp; omega)).trans (h3.block k hk hx)⟩
theorem none_ext3 {b : Nat} {w wb w1 w2 w3 : World} (h0 : ExtB [b] w wb) (h1 : ExtB [b] wb w1) (h2 : ExtB [w.heap.size] w1 w2) (h3 : ExtB [w.heap.size] w2 w3) : ExtB [b] w w3 :=
  none_ext h0 h1 (h2.trans h3)

set_option maxRecDepth 100000 in
set_option maxHeartbeats 4000000 in
theorem set_none (b : Nat) (L : List Ln) (room share n : Int) (t : Bs) (w : World) (ht : t.length ≤ 200)
    (hblk : w.heap[b]? = some (.cells #[.int .i64 room, .int .i64 share, .int .i64 (rSum L), .map none] 57 (0, 0)))
    (h00 : ∀ t, rOf L t = 0) (hI : Inv room share L) (h0 : 0 ≤ n) (h1 : n ≤ 1125899906842624) :
    Calls Try.prog 27 #[.pointer (some ⟨b, 0, none⟩), .string ⟨t.toArray⟩, .int .i64 n] w fun e w' => e = .returned (.tuple #[]) ∧ BookAt w' b (some w.heap.size) room share (rWith L t n) (0 + 1) ∧ ExtB [b] w w' := by
  have b1 := hI.of0 t; have b2 := hI.of_sum t; have b3 := hI.sum0; have b4 := hI.sum; have b7 := hI.r1; have b8 := hI.ofs t; have b9 := hI.s1
  have hlt := blk_lt hblk
  have hne : w.heap.size ≠ b := by omega
  obtain ⟨wb, hwb⟩ : ∃ wb, wb = (w.setCell ⟨b, 3, none⟩ (.map (some w.heap.size))).alloc (.map #[] 0) := ⟨_, rfl⟩
  have hxb : ExtB [b] w wb := by rw [hwb]; exact ((ExtB.refl [b] w).setCell (.inl (by simp)) _).alloc _
  have hss : (w.setCell ⟨b, 3, none⟩ (.map (some w.heap.size))).heap.size = w.heap.size := by simp [World.setCell]
  have hblkb : wb.heap[b]? = some (.cells #[.int .i64 room, .int .i64 share, .int .i64 (rSum L), .map (some w.heap.size)] 57 (0, 0)) := by
    rw [hwb]; exact (Below.heap_alloc _ _ b (by omega)).trans (blk_set hblk 3 _)
  have hown : wb.ownsMap Try.prog 9 (plainElem Try.prog 2) w.heap.size 0 (.map [] : DataW Unit) := by
    have := World.ownsMap_made (H := Unit) (w.setCell ⟨b, 3, none⟩ (.map (some w.heap.size))) Try.prog 9 (plainElem Try.prog 2)
    rw [hss] at this; rw [hwb]; exact this
  have hti : Ties (.map []) L := Ties.nil h00
  have hBA : BookAt wb b (some w.heap.size) room share L 0 := ⟨hblkb, .inr ⟨w.heap.size, _, rfl, hown, hti⟩⟩
  have hkey := key9 (t := t) (by omega)
  have x3 : w.cell? ⟨b, 3, none⟩ = some (.map none) := blk_cell hblk 3
  have g3 := blk_free hblk 3
  have c2 : wb.cell? ⟨b, 2, none⟩ = some (.int .i64 (rSum L)) := blk_cell hblkb 2
  have c3 : wb.cell? ⟨b, 3, none⟩ = some (.map (some w.heap.size)) := blk_cell hblkb 3
  have f2 := blk_free hblkb 2
  have hsum := rSum_with L t n hI.one
  have HS := Lib.hid hsum; have HBA := Lib.hid hBA; have HB := Lib.hid hblkb; have HWB := Lib.hid hwb
  have hD : IsMap (.map [] : DataW Unit) := isMap_empty
  have qq := q55
  have hmm := @run_makeMap Try.prog
  clear hsum hBA hblk hblkb hwb h00
  go_enter Try.func27, Try.ntmps27
  go_wp2
  rw [← HWB.out]
  clear x3 g3
  refine wp_region_segs [] [.inl [0, 1, 2, 3, 4, 5, 6, 7, 8, 9, 10, 11, 12, 13, 14], .inr (.inr 15)] (by kernel_rfl) (by kernel_rfl) (fun c a d v w h => by cases d <;> exact h) ?_
  have G2 : ∀ x : Grow [] wb.drew, x.v.cell? ⟨b, 2, none⟩ = some (.int .i64 (rSum L)) := fun x => x.ext.cell c2 (by simp)
  have G3 : ∀ x : Grow [] wb.drew, x.v.cell? ⟨b, 3, none⟩ = some (.map (some w.heap.size)) := fun x => x.ext.cell c3 (by simp)
  have GL : ∀ x : Grow [] wb.drew, (Instr.lookup 55 (.map (some w.heap.size)) (.string ⟨t.toArray⟩) false).run Try.prog x.v = .ok (.int .i64 (rOf L t)) x.v := fun x => BookAt.look (BookAt.ext HBA.out.drew x.ext (by simp) (by simp)) (by omega)
  have e9 : IntKind.i64.wrap (n - rOf L t) = n - rOf L t := IntWalk.i64_in _ (by omega)
  have e8 : IntKind.i64.wrap (rSum L + (n - rOf L t)) = rSum L + (n - rOf L t) := IntWalk.i64_in _ (by omega)
  (rw [wpSegs_inl]; simp only [pickOps, List.map_cons, List.map_nil, List.getD_cons_succ, List.getD_cons_zero]; (repeat (go_big_quiet_step (fail))); refine wpQuiet_nil ?_)
  clear G2 G3 GL e8 e9
  (rw [wpSegs_last]; simp only [pickOps, List.map_cons, List.map_nil, List.getD_cons_succ, List.getD_cons_zero]; go_wp2_with (fail))
  rw [wpSegs_nil]
  have hB2 := blk_set (w := wb.drew) HB.out 2 (.int .i64 (rSum L + (n - rOf L t)))
  obtain ⟨w1, hw1⟩ : ∃ w1, w1 = (wb.setCell ⟨b, 2, none⟩ (.int .i64 (rSum L + (n - rOf L t)))).drew := ⟨_, rfl⟩
  have hB1 : w1.heap[b]? = some (.cells #[.int .i64 room, .int .i64 share, .int .i64 (rSum L + (n - rOf L t)), .map (some w.heap.size)] 57 (0, 0)) := by rw [hw1]; exact hB2
  have hx1 : ExtB [b] wb w1 := by rw [hw1]; exact ((ExtB.refl [b] wb).setCell (.inl (by simp)) _).drew
  have hown1 : w1.ownsMap Try.prog 9 (plainElem Try.prog 2) w.heap.size 0 (.map [] : DataW Unit) := by rw [hw1]; exact (hown.setCell (by simpa using hne) _).drew
  have d3 : w1.cell? ⟨b, 3, none⟩ = some (.map (some w.heap.size)) := blk_cell hB1 3
  rw [← hw1]
  have HB1 := Lib.hid hB1
  clear hB2 hw1 c2 c3 f2 hB1 hown
  cases hn0 : (n == 0)
  · have hn : n ≠ 0 := by simpa using hn0
    go_wp2_with (at_mapUpdate; refine wpList_mapUpdate_in _ rfl _ _ _ 55 rfl 9 2 law9 Try.underlying55 _ w.heap.size 0 (.map [] : DataW Unit) rfl hown1 ?c0 _ _ _ rfl rfl hkey _ [] (plainElem_int Try.underlying2 ?c1) ?_; rotate_left; rotate_left; intro w2 hown2 hturn2)
    case c0 => unfold maxLen; omega
    case c1 => exact wf_i64 (by omega)
    go_end0
    have hx2 := turned_ext hturn2
    refine ⟨rfl, ⟨?_, .inr ⟨w.heap.size, _, rfl, hown2, hti.put hD hn⟩⟩, none_ext hxb hx1 hx2⟩
    rw [HS.out]; exact hx2.heap HB1.out (by simpa using hne.symm)
  · obtain rfl : n = 0 := by simpa using hn0
    go_wp2_with (first
      | (at_mapUpdate; refine wpList_mapUpdate_in _ rfl _ _ _ 55 rfl 9 2 law9 Try.underlying55 _ w.heap.size 0 (.map [] : DataW Unit) rfl hown1 ?c0 _ _ _ rfl rfl hkey _ [] (plainElem_int Try.underlying2 ?c1) ?_; rotate_left; rotate_left; intro w2 hown2 hturn2; have hx2 := turned_ext hturn2; have d4 := ExtB.cell hx2 d3 (by simpa using hne.symm))
      | (at_delete; refine wpList_delete_own _ rfl _ _ 55 9 rfl 2 law9 Try.underlying55 _ w.heap.size (0 + 1) _ rfl hown2 _ _ rfl hkey ?_; intro w3 hown3 hturn3))
    case c0 => unfold maxLen; omega
    case c1 => exact wf_i64 (by omega)
    go_end0
    have hx3 := turned_ext hturn3
    refine ⟨rfl, ⟨?_, .inr ⟨w.heap.size, _, rfl, hown3, hti.drop hD _⟩⟩, none_ext3 hxb hx1 hx2 hx3⟩
    rw [HS.out]; exact hx3.heap (hx2.heap HB1.out (by simpa using hne.symm)) (by simpa using hne.symm)

end Go.Proofs.Ytjcpmfioppopcaa
