/- A list of integers in memory: appended to, sorted. -/
import Derived.Test.YteeeabmfebofiaaRowz
import Derived.Test.YteeeabmfebofiaaSort
namespace Go.Proofs.Yteeeabmfebofiaa
open Go.RowKit Go.Sort
set_option linter.unusedVariables false

def ints (zs : List Int) : List Value := zs.map fun z => .int .i64 z
def IRow (w : World) (B : Nat) (v : Value) (zs : List Int) : Prop := w.ownsRow B 2 1 v zs.length (ints zs)
theorem info2 : (Try.prog.info? 2).map (fun i => (i.zero, i.size, i.bytes)) = some (some (.int .i64 0), 1, 8) := by kernel_rfl
theorem IRow.nil (w : World) (B : Nat) : IRow w B (.slice none 0 0) [] := World.ownsRow_nil _ _ _ _
theorem IRow.slice {w : World} {B : Nat} {v : Value} {zs : List Int} (h : IRow w B v zs) : ∃ A c, v = .slice A zs.length c := own_slice h
theorem IRow.fz {w w' : World} {B B' : Nat} {v : Value} {hs : List Int} (h : IRow w B v hs) (hf : Fz B' w w') : IRow w' B v hs := hf.owns h (by decide) (by decide) (by decide)
theorem IRow.ext {w w' : World} {B : Nat} {v : Value} {zs : List Int} (h : IRow w B v zs) (hf : Ext w w') : IRow w' B v zs := ownsRow_below h hf
theorem IRow.get {w : World} {B : Nat} {v : Value} {zs : List Int} (h : IRow w B v zs) {i : Nat} (hi : i < zs.length) : ∃ g c, v = .slice (some ⟨g, 0, none⟩) zs.length c ∧ w.cell? ⟨g, i, none⟩ = some (.int .i64 zs[i]) := by
  rcases h.2 with ⟨_, h0⟩ | ⟨g, cap, cur, rfl, hb, hgg, _, _, _, ht⟩
  · omega
  · refine ⟨g, cap, rfl, ?_⟩
    rw [blk_cell hgg]
    have : (ints zs)[i]? = some (.int .i64 zs[i]) := by simp [ints, hi]
    rw [← ht, List.getElem?_take] at this
    split at this
    · simpa using this
    · cases this
theorem wpList_append_int {W : World} {ops : Array Oper} {rest : List Oper} {o : Oper} {a : Act} {Q : Exit → Act → World → Prop}
    (hgd : o.guard = none) (s x : Operand) (ho : o.op = .call { callee := .builtin .append, args := #[s, x], argTypes := #[37, 37] })
    (B : Nat) (v : Value) (zs : List Int) (z : Int) (hown : IRow W B v zs) (hs' : a.eval s = v) (gN : Nat) (hx : a.eval x = .slice (some ⟨gN, 0, none⟩) 1 1) (hgN : W.heap.size = gN)
    (hl : zs.length ≤ 1000000) (hB : B ≤ W.heap.size)
    (hK : ∀ v' w', IRow w' B v' (zs ++ [z]) → W.grownBy w' v.ownBlock → wpList Try.prog ops Q rest (a.put o.dst v') w') :
    wpList Try.prog ops Q (o :: rest) a (W.alloc (.cells #[.int .i64 z] 2)) := by
  obtain ⟨i0, hi, hz0, hz1, hz2⟩ := info_parts info2
  refine wpList_append_one hgd s x 37 ho B 2 i0 _ 1 8 Try.underlying37 hi hz0 hz1 hz2 rfl (by decide) v _ _ hs' hown #[.int .i64 z] gN hx hgN rfl (by simp [Value.oneCell']) (by unfold maxLen; omega) (by omega) hB ?_
  intro v' w' h1 h2 h3
  refine hK v' w' ?_ h2
  unfold IRow ints
  rw [List.map_append, List.length_append]
  exact h1
def sortI (zs : List Int) : List Int := zs.mergeSort fun x y => decide (x ≤ y)
theorem sortI_len (zs : List Int) : (sortI zs).length = zs.length := by unfold sortI; simp
theorem size_putCells {α : Type} [Inhabited α] (enc : α → Value) (off : Nat) (d : Array α) (c : Array Value) : (putCells enc off d c).size = c.size := by
  unfold putCells; simp
theorem isort_any (w : World) (B : Nat) (v : Value) (zs : List Int) (h : IRow w B v zs) (hl : zs.length ≤ 1000000) :
    Calls Try.prog 36 #[v] w fun e w' => e = .returned (.tuple #[]) ∧ (IRow w' B v (sortI zs) ∧ w.grownBy w' v.ownBlock) := by
  rcases h.2 with ⟨rfl, h0⟩ | ⟨g, cap, cur, rfl, hb, hgg, h1, h2, h3, h4⟩
  · have : zs = [] := List.length_eq_zero_iff.1 h0
    subst this
    refine (AnyM.slices_Sort_int_none Try.sort64 none 0 w).mono ?_
    rintro e w' ⟨rfl, rfl⟩
    have hs0 : sortI [] = [] := by unfold sortI; simp
    rw [hs0]
    exact ⟨rfl, IRow.nil _ _, ⟨rfl, rfl, rfl, Nat.le_refl _, fun _ _ _ => rfl⟩⟩
  · have hcell : ∀ j (hj : j < zs.length), w.cell? ⟨g, j, none⟩ = some (.int .i64 zs[j]) := fun j hj => by
      obtain ⟨g', c', e, hc⟩ := h.get hj
      injection e with e1 e2 e3
      injection e1 with e1
      injection e1 with e1
      subst e1
      exact hc
    have hH : Holds (Value.int .i64) w g 0 zs.toArray := by
      intro j hj
      have hj' : j < zs.length := by simpa using hj
      refine ⟨?_, blk_free hgg _⟩
      rw [Nat.zero_add, hcell j hj']
      simp [hj']
    refine (AnyM.slices_Sort_int Try.sort64 g 0 cap zs w hH (blk_lt hgg) (by omega)).mono ?_
    rintro e w' ⟨rfl, n, os, rfl⟩
    have hlt : g < w.heap.size := blk_lt hgg
    have hsz : (zs.mergeSort fun x y => decide (x ≤ y)).toArray.size = zs.toArray.size := by simp
    have hheap : (grow (putRow (Value.int .i64) (Sort.ahead w n) g 0 (zs.mergeSort fun x y => decide (x ≤ y)).toArray) os).heap[g]? = some (.cells (putCells (Value.int .i64) 0 (zs.mergeSort fun x y => decide (x ≤ y)).toArray cur) 2 (0, 0)) := by
      have h1 : (putRow (Value.int .i64) (Sort.ahead w n) g 0 (zs.mergeSort fun x y => decide (x ≤ y)).toArray).heap[g]? = some (.cells (putCells (Value.int .i64) 0 (zs.mergeSort fun x y => decide (x ≤ y)).toArray cur) 2 (0, 0)) := by
        simp [putRow, mapBlock, Array.getElem?_modify, Sort.ahead, hgg, onCells]
      rw [show (grow (putRow (Value.int .i64) (Sort.ahead w n) g 0 (zs.mergeSort fun x y => decide (x ≤ y)).toArray) os).heap = (putRow (Value.int .i64) (Sort.ahead w n) g 0 (zs.mergeSort fun x y => decide (x ≤ y)).toArray).heap ++ os from rfl]
      rw [Array.getElem?_append_left (by rw [size_putRow]; exact hlt)]
      exact h1
    refine ⟨rfl, ⟨by simp [ints], .inr ⟨g, cap, _, by rw [sortI_len], hb, hheap, by rw [sortI_len]; exact h1, h2, by rw [size_putCells]; exact h3, ?_⟩⟩, ⟨rfl, rfl, rfl, ?_, fun i hi hne => ?_⟩⟩
    · rw [sortI_len]
      have hp := holds_putRow (Value.int .i64) w g 0 zs.toArray (zs.mergeSort fun x y => decide (x ≤ y)).toArray hH hsz
      apply List.ext_getElem?
      intro j
      rw [List.getElem?_take]
      by_cases hj : j < zs.length
      · rw [if_pos (by simpa using hj)]
        have hh := (hp j (by simpa using hj)).1
        have hb' : (putRow (Value.int .i64) w g 0 (zs.mergeSort fun x y => decide (x ≤ y)).toArray).heap[g]? = some (.cells (putCells (Value.int .i64) 0 (zs.mergeSort fun x y => decide (x ≤ y)).toArray cur) 2 (0, 0)) := by
          simp [putRow, mapBlock, Array.getElem?_modify, hgg, onCells]
        rw [Nat.zero_add, blk_cell hb'] at hh
        have hj2 : j < (zs.mergeSort fun x y => decide (x ≤ y)).length := by simpa using hj
        rw [Array.getElem?_toList, hh]
        simp [ints, sortI, hj2, hj]
      · rw [if_neg (by simpa using hj)]
        symm
        rw [List.getElem?_eq_none_iff]
        simp [ints, sortI]
        omega
    · simp [grow]
    · show ((putRow (Value.int .i64) (Sort.ahead w n) g 0 (zs.mergeSort fun x y => decide (x ≤ y)).toArray).heap ++ os)[i]? = w.heap[i]?
      rw [Array.getElem?_append_left (by rw [size_putRow]; exact hi)]
      have hgi : g ≠ i := fun e => hne (by rw [e]; rfl)
      simp [putRow, mapBlock, Array.getElem?_modify, hgi, Sort.ahead]
end Go.Proofs.Yteeeabmfebofiaa
