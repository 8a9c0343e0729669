/- The reference's Of and Keys, walked. -/
import Derived.Test.YtgbhhofmghgpbaaRefP
namespace Go.Proofs.Ytgbhhofmghgpbaa
open Go.RowKit Go.Sort Go.Shelf Go.Maps Go.ChangeMaps
set_option linter.unusedVariables false

/-- A strictly rising list of the same members as a sorted one is that one. -/
theorem sortS_put {zs ys : List Bs} (h1 : zs.Nodup) (hy : ys.Pairwise (· < ·)) (hm : ∀ x, x ∈ ys ↔ x ∈ zs) : sortS zs = ys :=
  sortS_of h1 (hy.imp fun h e => by subst e; exact List.lt_irrefl _ h) (fun x => (hm x).symm) (hy.imp fun h => List.le_of_lt h)
structure OfRel (w : World) (T : List Bs) (out : Value) (wr : World) : Prop where
  row : ∃ ys, SRow wr w.heap.size out ys ∧ ys.Pairwise (· < ·) ∧ (∀ x, x ∈ ys ↔ x ∈ T)
  ext : Ext w wr
theorem OfRel.len {w : World} {T : List Bs} {ys : List Bs} (h : ys.Pairwise (· < ·)) (hm : ∀ x, x ∈ ys ↔ x ∈ T) : ys.length ≤ T.length :=
  nodup_len (h.imp fun h e => by subst e; exact List.lt_irrefl _ h) fun x hx => (hm x).1 hx
set_option maxRecDepth 100000 in
set_option maxHeartbeats 2000000 in
theorem rof_any (w : World) (B x : Nat) (L : List Pr) (id : Int) (h : RAt w B x L) (hl : L.length ≤ 1000) :
    Calls Try.prog 20 #[.pointer (some ⟨x, 0, none⟩), .int .i64 id] w fun e w' => ∃ v ys, e = .returned v ∧ SRow w' w.heap.size v ys ∧ (ys.Pairwise (· < ·)) ∧ (∀ t, t ∈ ys ↔ (id, t) ∈ L) ∧ Ext w w' := by
  obtain ⟨hBx, v, hblk, hrow⟩ := h
  obtain ⟨A, c, rfl, hc⟩ := hrow.form
  obtain ⟨m, hm⟩ : ∃ m, m = L.length := ⟨_, rfl⟩
  rw [← hm] at hl hblk
  have hc0 : w.cell? ⟨x, 0, none⟩ = some (.slice A m c) := blk_cell hblk 0
  have HC := Lib.hid hc; have HM := Lib.hid hm; have HBLK := Lib.hid hblk
  clear hc hm hblk hrow
  go_enter Try.func20, Try.ntmps20
  go_wp2
  go_loopw [13, 5, 7] (fun i out _ wr => ∃ j : Nat, j ≤ m ∧ i = .int .i64 j ∧ OfRel w (keysL (L.take j) id) out wr) (fun i _ _ _ => m - (intOf i).toNat)
  case atStart => exact ⟨0, by omega, rfl, ⟨⟨[], World.ownsRow_nil _ _ _ _, List.Pairwise.nil, by simp [keysL]⟩, Ext.refl _⟩⟩
  case round =>
    obtain ⟨j, hj, rfl, hr⟩ := hrel
    have R := Lib.hid hr
    clear hr
    by_cases hlt : j < m
    · have hjs : j < L.length := by rw [← HM.out]; exact hlt
      obtain ⟨g, rfl, hg, c1, c2⟩ := HC.out j hjs
      replace c1 := Ext.cell R.out.ext c1
      replace c2 := Ext.cell R.out.ext c2
      have htk : L.take (j + 1) = L.take j ++ [L[j]] := List.take_succ_eq_append_getElem hjs
      obtain ⟨p, hp⟩ : ∃ p, p = L[j] := ⟨_, rfl⟩
      rw [← hp] at c1 c2 htk
      obtain ⟨i2, k⟩ := p
      dsimp only at c1 c2
      have hmem : ∀ t, t ∈ keysL (L.take (j + 1)) id ↔ t ∈ keysL (L.take j) id ∨ (i2 = id ∧ t = k) := fun t => by
        rw [keysL_mem, keysL_mem, htk, List.mem_append, List.mem_singleton, Prod.mk.injEq]
        exact ⟨fun h => h.imp_right fun h => ⟨h.1.symm, h.2⟩, fun h => h.imp_right fun h => ⟨h.1.symm, h.2⟩⟩
      have HMEM := Lib.hid hmem
      clear hmem hp hjs htk
      by_cases he : i2 = id
      · subst he
        obtain ⟨ys, y1, y2, y3⟩ := R.out.row
        have hyl : ys.length ≤ 1000 := by
          have h1 := OfRel.len (w := w) y2 y3; have h2 := keysL_len (L.take j) i2
          rw [List.length_take] at h2; omega
        have hpu := put_any (wr.alloc (.cells #[.int .i64 i2, .string ⟨k.toArray⟩] 66)) w.heap.size u5 ys k (ownsRow_below y1 (alloc_ext _ _)) (Nat.le_trans R.out.ext.size (by simp)) hyl y2
        have HPU : Hid (Calls Try.prog 31 #[u5, .string ⟨k.toArray⟩] (wr.alloc (.cells #[.int .i64 i2, .string ⟨k.toArray⟩] 66)) fun e w' => ∃ v', e = .returned v' ∧ OfRel w (keysL (L.take (j + 1)) i2) v' w') :=
          Lib.hid (hpu.mono fun e w' ⟨v', h1, h2, h3⟩ => ⟨v', h1, ⟨_, h2, put_up k y2, fun t => by rw [put_mem, HMEM.out, y3]; simp⟩, R.out.ext.trans ((alloc_ext _ _).trans h3)⟩)
        clear hpu y1 y2 y3 hyl R HMEM
        go_wp2_with fail
        refine HPU.out.mono ?_
        rintro e w2 ⟨v2, rfl, r2⟩
        have R2 := Lib.hid r2
        clear r2 HPU
        go_wp2
        go_roundw
        case rel => exact ⟨j + 1, by omega, by go_num, R2.out⟩
        case measure => simp [intOf]; omega
      · have e1 : (i2 == id) = false := by simpa using he
        have R2 : Hid (OfRel w (keysL (L.take (j + 1)) id) u5 (wr.alloc (.cells #[.int .i64 i2, .string ⟨k.toArray⟩] 66))) := Lib.hid (by
          obtain ⟨ys, y1, y2, y3⟩ := R.out.row
          exact ⟨⟨ys, ownsRow_below y1 (alloc_ext _ _), y2, fun t => by rw [HMEM.out, y3]; simp [he]⟩, R.out.ext.trans (alloc_ext _ _)⟩)
        clear R HMEM he
        go_wp2
        go_roundw
        case rel => exact ⟨j + 1, by omega, by go_num, R2.out⟩
        case measure => simp [intOf]; omega
    · have hjn : L.take j = L := List.take_of_length_le (by have := HM.out; omega)
      rw [hjn] at R
      clear hjn
      go_wp2
      go_ret
      obtain ⟨ys, y1, y2, y3⟩ := R.out.row
      exact ⟨_, ys, rfl, y1, y2, fun t => (y3 t).trans (keysL_mem L id t), R.out.ext⟩
set_option maxRecDepth 100000 in
set_option maxHeartbeats 2000000 in
theorem rkeys_any (w : World) (B x : Nat) (L : List Pr) (h : RAt w B x L) (hl : L.length ≤ 1000) :
    Calls Try.prog 22 #[.pointer (some ⟨x, 0, none⟩)] w fun e w' => ∃ v ys, e = .returned v ∧ SRow w' w.heap.size v ys ∧ (ys.Pairwise (· < ·)) ∧ (∀ t, t ∈ ys ↔ ∃ id, (id, t) ∈ L) ∧ Ext w w' := by
  obtain ⟨hBx, v, hblk, hrow⟩ := h
  obtain ⟨A, c, rfl, hc⟩ := hrow.form
  obtain ⟨m, hm⟩ : ∃ m, m = L.length := ⟨_, rfl⟩
  rw [← hm] at hl hblk
  have hc0 : w.cell? ⟨x, 0, none⟩ = some (.slice A m c) := blk_cell hblk 0
  have HC := Lib.hid hc; have HM := Lib.hid hm; have HBLK := Lib.hid hblk
  clear hc hm hblk hrow
  go_enter Try.func22, Try.ntmps22
  go_wp2
  go_loopw [11, 3, 5] (fun i out _ wr => ∃ j : Nat, j ≤ m ∧ i = .int .i64 j ∧ OfRel w ((L.take j).map (·.2)) out wr) (fun i _ _ _ => m - (intOf i).toNat)
  case atStart => exact ⟨0, by omega, rfl, ⟨⟨[], World.ownsRow_nil _ _ _ _, List.Pairwise.nil, by simp⟩, Ext.refl _⟩⟩
  case round =>
    obtain ⟨j, hj, rfl, hr⟩ := hrel
    have R := Lib.hid hr
    clear hr
    by_cases hlt : j < m
    · have hjs : j < L.length := by rw [← HM.out]; exact hlt
      obtain ⟨g, rfl, hg, c1, c2⟩ := HC.out j hjs
      replace c1 := Ext.cell R.out.ext c1
      replace c2 := Ext.cell R.out.ext c2
      have htk : L.take (j + 1) = L.take j ++ [L[j]] := List.take_succ_eq_append_getElem hjs
      obtain ⟨p, hp⟩ : ∃ p, p = L[j] := ⟨_, rfl⟩
      rw [← hp] at c1 c2 htk
      obtain ⟨i2, k⟩ := p
      dsimp only at c1 c2
      have hmem : ∀ t, t ∈ (L.take (j + 1)).map (·.2) ↔ t ∈ (L.take j).map (·.2) ∨ t = k := fun t => by
        rw [htk, List.map_append, List.mem_append]; simp
      have HMEM := Lib.hid hmem
      clear hmem hp hjs htk
      obtain ⟨ys, y1, y2, y3⟩ := R.out.row
      have hyl : ys.length ≤ 1000 := by
        have h1 := OfRel.len (w := w) y2 y3
        rw [List.length_map, List.length_take] at h1; omega
      have hpu := put_any (wr.alloc (.cells #[.int .i64 i2, .string ⟨k.toArray⟩] 66)) w.heap.size u3 ys k (ownsRow_below y1 (alloc_ext _ _)) (Nat.le_trans R.out.ext.size (by simp)) hyl y2
      have HPU : Hid (Calls Try.prog 31 #[u3, .string ⟨k.toArray⟩] (wr.alloc (.cells #[.int .i64 i2, .string ⟨k.toArray⟩] 66)) fun e w' => ∃ v', e = .returned v' ∧ OfRel w ((L.take (j + 1)).map (·.2)) v' w') :=
        Lib.hid (hpu.mono fun e w' ⟨v', h1, h2, h3⟩ => ⟨v', h1, ⟨_, h2, put_up k y2, fun t => by rw [put_mem, HMEM.out, y3]⟩, R.out.ext.trans ((alloc_ext _ _).trans h3)⟩)
      clear hpu y1 y2 y3 hyl R HMEM
      go_wp2_with fail
      refine HPU.out.mono ?_
      rintro e w2 ⟨v2, rfl, r2⟩
      have R2 := Lib.hid r2
      clear r2 HPU
      go_wp2
      go_roundw
      case rel => exact ⟨j + 1, by omega, by go_num, R2.out⟩
      case measure => simp [intOf]; omega
    · have hjn : L.take j = L := List.take_of_length_le (by have := HM.out; omega)
      rw [hjn] at R
      clear hjn
      go_wp2
      go_ret
      obtain ⟨ys, y1, y2, y3⟩ := R.out.row
      exact ⟨_, ys, rfl, y1, y2, fun t => (y3 t).trans (by simp), R.out.ext⟩
end Go.Proofs.Ytgbhhofmghgpbaa
