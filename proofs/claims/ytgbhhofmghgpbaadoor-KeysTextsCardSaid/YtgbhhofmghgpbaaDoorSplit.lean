/- strings.SplitSeq at one space: the iterator over the words of a text; its state lies in a box that it writes. -/
import Derived.Test.YtgbhhofmghgpbaaDoorPar0
import Derived.Test.YtgbhhofmghgpbaaDoorLayI
import Derived.Test.YtgbhhofmghgpbaaDoorKit
import Derived.Test.YtgbhhofmghgpbaaDoorSeg
import Derived.RangeFuncBox
import Derived.RangeFuncLeaves
import Derived.RangeFuncWrites
import Derived.Shelf.Abstract
import Derived.WalkKit
import Derived.OwnWalkIn
import Derived.TacticsInMore
import Derived.LoopNIn
import Derived.LoopIn
import Derived.Lib.Hide
import Derived.Laws.Strings2
import Derived.Laws.Slices
namespace Go.Proofs.YtgbhhofmghgpbaaDoor
open Go.RowKit Go.Shelf
set_option linter.unusedVariables false
set_option linter.unusedSimpArgs false
attribute [local go_sem] Oper.semAt_some

theorem index_any (r : Bs) (w : World) : Calls Tryd.prog 44 #[.string ⟨r.toArray⟩, .string ⟨#[32]⟩] w fun e w' => e = .returned (.int .i64 (Lib.indexByte r 32)) ∧ w' = w :=
  Any.strings_Index_one Tryd.index44 ⟨r.toArray⟩ 32 w
theorem str_to (W : World) (x : Bs) (j : Nat) (h2 : j ≤ x.length) : (Instr.slice 9 (.string ⟨x.toArray⟩) none (some (.int .i64 (j : Int))) none).run Tryd.prog W = .ok (.string ⟨(x.take j).toArray⟩) W := by
  have hs : (⟨x.toArray⟩ : ByteArray).size = x.length := rfl
  rw [run_slice_string_h W 9 ⟨x.toArray⟩ Tryd.underlying9 .i64 (j : Int) (by omega) (by rw [hs]; omega), ByteArray.extract_mk]
  simp
theorem str_from (W : World) (x : Bs) (j : Nat) (h2 : j ≤ x.length) : (Instr.slice 9 (.string ⟨x.toArray⟩) (some (.int .i64 (j : Int))) none none).run Tryd.prog W = .ok (.string ⟨(x.drop j).toArray⟩) W := by
  have hs : (⟨x.toArray⟩ : ByteArray).size = x.length := rfl
  rw [run_slice_string_l W 9 ⟨x.toArray⟩ Tryd.underlying9 .i64 (j : Int) (by omega) (by rw [hs]; omega), hs, ByteArray.extract_mk]
  simp [List.take_of_length_le]
theorem heap_new3 (w : World) (A B C : Obj) : (((w.alloc A).alloc B).alloc C).heap[w.heap.size]? = some A ∧ (((w.alloc A).alloc B).alloc C).heap[w.heap.size + 1]? = some B ∧ (((w.alloc A).alloc B).alloc C).heap[w.heap.size + 2]? = some C := by
  obtain ⟨h1, h2⟩ := heap_new2 w A B
  have hs : ((w.alloc A).alloc B).heap.size = w.heap.size + 2 := by simp
  refine ⟨(Below.heap_alloc _ C _ (by rw [hs]; omega)).trans h1, (Below.heap_alloc _ C _ (by rw [hs]; omega)).trans h2, ?_⟩
  have := World.alloc_heap_new ((w.alloc A).alloc B) C
  rw [hs] at this; exact this
/-- The iterator's boxes from b on: what is left of the text; one space; 0. -/
structure Boxes (b : Nat) (r : Bs) (W : World) : Prop where
  s : W.heap[b]? = some (.cells #[.string ⟨r.toArray⟩] 9 (0, 0))
  sep : W.heap[b + 1]? = some (.cells #[.string ⟨#[32]⟩] 9 (0, 0))
  save : W.heap[b + 2]? = some (.cells #[.int .i64 0] 3 (0, 0))
/-- The boxes lie as they lay. -/
structure Kb (b : Nat) (W W' : World) : Prop where
  s : W'.heap[b]? = W.heap[b]?
  sep : W'.heap[b + 1]? = W.heap[b + 1]?
  save : W'.heap[b + 2]? = W.heap[b + 2]?
theorem Kb.refl (b : Nat) (W : World) : Kb b W W := ⟨rfl, rfl, rfl⟩
theorem Kb.trans {b : Nat} {A B C : World} (h : Kb b A B) (k : Kb b B C) : Kb b A C := ⟨k.s.trans h.s, k.sep.trans h.sep, k.save.trans h.save⟩
theorem Boxes.kept {b : Nat} {r : Bs} {W W' : World} (h : Boxes b r W) (k : Kb b W W') : Boxes b r W' := ⟨k.s.trans h.s, k.sep.trans h.sep, k.save.trans h.save⟩
theorem split_calls (s : Bs) (w : World) : Calls Tryd.prog 17 #[.string ⟨s.toArray⟩, .string ⟨#[32]⟩] w fun e w' => e = .returned (.func (.func 42) #[] #[.pointer (some ⟨w.heap.size + 1, 0, none⟩), .pointer (some ⟨w.heap.size, 0, none⟩), .pointer (some ⟨w.heap.size + 2, 0, none⟩)]) ∧ Boxes w.heap.size s w' ∧ Ext w w' := by
  have h1 : Calls Tryd.prog 31 #[.string ⟨s.toArray⟩, .string ⟨#[32]⟩, .int .i64 0] w fun e w' => e = .returned (.func (.func 42) #[] #[.pointer (some ⟨w.heap.size + 1, 0, none⟩), .pointer (some ⟨w.heap.size, 0, none⟩), .pointer (some ⟨w.heap.size + 2, 0, none⟩)]) ∧ Boxes w.heap.size s w' ∧ Ext w w' := by
    have hB : Boxes w.heap.size s (((w.alloc (.cells #[.string ⟨s.toArray⟩] 9)).alloc (.cells #[.string ⟨#[32]⟩] 9)).alloc (.cells #[.int .i64 0] 3)) := ⟨(heap_new3 w _ _ _).1, (heap_new3 w _ _ _).2.1, (heap_new3 w _ _ _).2.2⟩
    have hx : Ext w (((w.alloc (.cells #[.string ⟨s.toArray⟩] 9)).alloc (.cells #[.string ⟨#[32]⟩] 9)).alloc (.cells #[.int .i64 0] 3)) := Ext.alloc (Ext.alloc (Ext.alloc (Ext.refl _) _) _) _
    have HB := Lib.hid hB; have HX := Lib.hid hx
    clear hB hx
    go_enter Tryd.func31, Tryd.ntmps31
    go_wp2
    go_ret
    exact ⟨rfl, HB.out, HX.out⟩
  go_enter Tryd.func17, Tryd.ntmps17
  go_wp2_with (go_at_call 31; refine h1.mono ?_; rintro e w1 ⟨rfl, b1, x1⟩)
  go_ret
  exact ⟨rfl, b1, x1⟩
end Go.Proofs.YtgbhhofmghgpbaaDoor
