/- The sorts of this dump: texts and numbers; slices.Sorted of a list, of a map's keys. -/
import Derived.Test.YtgbhhofmghgpbaaDoorVals
import Derived.Sort.OwnSorted
import Derived.Sort.OwnSortedInts
namespace Go.Proofs.YtgbhhofmghgpbaaDoor
open Go.RowKit Go.Sort Go.Shelf Go.Maps
set_option linter.unusedVariables false

def leS (x y : Bs) : Bool := decide (x ≤ y)
def sortS (ss : List Bs) : List Bs := ss.mergeSort fun x y => decide (x ≤ y)
def sortI (zs : List Int) : List Int := zs.mergeSort fun x y => decide (x ≤ y)
def SRow (w : World) (B : Nat) (v : Value) (ss : List Bs) : Prop := w.ownsRow B 9 1 v ss.length (ss.map encStr)
def IRow (w : World) (B : Nat) (v : Value) (zs : List Int) : Prop := w.ownsRow B 2 1 v zs.length (zs.map (Value.int .i64))
theorem sortS_len (ss : List Bs) : (sortS ss).length = ss.length := by unfold sortS; simp
theorem sortI_len (ss : List Int) : (sortI ss).length = ss.length := by unfold sortI; simp

theorem ssort_any (w : World) (B : Nat) (v : Value) (ss : List Bs) (h : SRow w B v ss) (hl : ss.length ≤ 1000000) :
    Calls Tryd.prog 36 #[v] w fun e w' => e = .returned (.tuple #[]) ∧ (SRow w' B v (sortS ss) ∧ w.grownBy w' v.ownBlock) := by
  rcases h.2 with ⟨rfl, h0⟩ | ⟨g, cap, cur, rfl, hb, hgg, h1, h2, h3, h4⟩
  · have : ss = [] := List.length_eq_zero_iff.1 h0
    subst this
    refine (AnyM.slices_Sort_string_none Tryd.sort36 none 0 w).mono ?_
    rintro e w' ⟨rfl, rfl⟩
    have hs0 : sortS [] = [] := by unfold sortS; simp
    rw [hs0]
    exact ⟨rfl, World.ownsRow_nil _ _ _ _, ⟨rfl, rfl, rfl, Nat.le_refl _, fun _ _ _ => rfl⟩⟩
  · have hH : Holds encStr w g 0 ss.toArray := holds_of_block hgg (by simpa using h4)
    refine (AnyM.slices_Sort_string Tryd.sort36 g 0 cap ss w hH (blk_lt hgg) (by omega)).mono ?_
    rintro e w' ⟨rfl, nn, os, rfl⟩
    refine ⟨rfl, ?_, grownBy_sorted _⟩
    unfold SRow
    rw [sortS_len]
    exact ownsRow_sorted (by simp) hb hgg h1 h2 h3

set_option maxRecDepth 100000 in
set_option maxHeartbeats 2000000 in
/-- slices.Sorted(slices.Values(s)). -/
theorem sorted_vals (Bx : Nat) (sv : Value) (ss : List Bs) (hlen : ss.length ≤ 1000000) (w : World) (hBs : Bx < w.heap.size) (hc : w.cell? ⟨Bx, 0, none⟩ = some sv) (hT : Texts w.heap.size w sv ss) :
    Calls Tryd.prog 25 #[.func (.func 37) #[] #[.pointer (some ⟨Bx, 0, none⟩)]] w fun e w' => ∃ v, e = .returned v ∧ SRow w' w.heap.size v (sortS ss) ∧ Ext w w' := by
  have hcol : Calls Tryd.prog 35 #[.func (.func 37) #[] #[.pointer (some ⟨Bx, 0, none⟩)]] w fun e W' => ∃ v, e = .returned v ∧ W'.ownsRow w.heap.size 9 1 v ss.length (ss.map encStr) ∧ Below w.heap.size w W' :=
    (callsIn_wide (n := 4)).1 (collect_vals 4 (by omega) Bx sv ss hlen w hBs hc hT)
  have HC := Lib.hid hcol
  clear hcol hc hT
  go_enter Tryd.func25, Tryd.ntmps25
  go_wp2_with (go_at_call 35; refine HC.out.mono ?_; rintro e w1 ⟨v, rfl, h1, h2⟩; have H1 := Lib.hid (ssort_any w1 w.heap.size v ss h1 hlen); have R1 := Lib.hid h1; have B1 := Lib.hid h2; clear h1 h2)
  refine H1.out.mono ?_
  rintro e w2 ⟨rfl, h3, h4⟩
  have H3 := Lib.hid h3; have H4 := Lib.hid h4
  clear h3 h4
  go_wp2
  go_ret
  exact ⟨v, rfl, H3.out, B1.out.trans (own_below R1.out H4.out B1.out.size)⟩

theorem sorts26 (m : Nat) : AnyZ.SortsIn Tryd.prog Tryd.sorted26_ren Fence.wide m :=
  ⟨fun blk off cap ss W hH hblk hsz => callsIn_wide.2 (AnyM.slices_Sort_string Tryd.sort36 blk off cap ss W hH hblk hsz),
   fun p cap W => callsIn_wide.2 (AnyM.slices_Sort_string_none Tryd.sort36 p cap W)⟩
theorem mkeys_s (mb : Option Nat) (W : World) : Calls Tryd.prog 30 #[.map mb] W fun e w' => e = .returned (.func (.func 41) #[] #[.pointer (some ⟨W.heap.size, 0, none⟩)]) ∧ w' = W.alloc (.cells #[.map mb] 48) :=
  (callsIn_wide (n := 5)).1 (AnyZ.keys_in Tryd.keys32 Fence.wide 5 trivial rfl mb W)
set_option maxHeartbeats 1000000 in
theorem sorted_keys_s {H : Type} (b nn : Nat) (D0 : DataW H) (R : Value → Option (DataW H × List MemPlace)) (w : World) (hown : w.ownsMap Tryd.prog 9 R b nn D0) (hmax : Maps.size D0 ≤ 1000000) :
    Calls Tryd.prog 25 #[.func (.func 41) #[] #[.pointer (some ⟨w.heap.size, 0, none⟩)]] (w.alloc (.cells #[.map (some b)] 48)) fun e w' => ∃ (v : Value) (ss : List Bs), e = .returned v ∧ ss.Perm (strKeys D0) ∧
      SRow w' w.heap.size v (sortS ss) ∧ Ext w w' := by
  have hbl := hown.lt
  have hseq : SeqGives Fence.wide 2 Tryd.prog 41 #[.pointer (some ⟨w.heap.size, 0, none⟩)] encStr (fun ss => ss.Perm (strKeys D0)) (Maps.size D0) (w.alloc (.cells #[.map (some b)] 48)) :=
    AnyZ.keys_gives (ρ := Tryd.keys32_ren) { Tryd.keys32 with } Fence.wide _ trivial rfl (by omega) w.heap.size b nn D0 _ (by simp) (by simp) (by
      obtain ⟨es, clock, hb, Ft, hs, hD⟩ := hown
      exact ⟨es, clock, (Below.heap_alloc _ _ b hbl).trans hb, Ft, hs, hD⟩)
  refine ((callsIn_wide (n := 5)).1 (AnyZ.sorted_in Tryd.sorted26 Fence.wide 5 trivial trivial trivial trivial rfl (by omega) (sorts26 _) (enters_of Tryd.func36 (by kernel_rfl) rfl) 41 #[.pointer (some ⟨w.heap.size, 0, none⟩)] trivial (enters_of Tryd.func41 (by kernel_rfl) rfl) _ _ (by unfold maxLen; omega) (by omega) _ hseq)).mono ?_
  rintro e w' ⟨v, ss, rfl, h1, h2, _, h4⟩
  refine ⟨v, ss, rfl, h1, ?_, Below.trans (Ext.alloc (Ext.refl w) _) (Below.mono h4 (by simp))⟩
  unfold SRow
  rw [sortS_len]
  exact ownsRow_base h2 (by simp)
set_option maxHeartbeats 1000000 in
theorem sorted_keys_nil_s (w : World) :
    Calls Tryd.prog 25 #[.func (.func 41) #[] #[.pointer (some ⟨w.heap.size, 0, none⟩)]] (w.alloc (.cells #[.map none] 48)) fun e w' => ∃ (v : Value), e = .returned v ∧ SRow w' w.heap.size v [] ∧ Ext w w' := by
  have hseq : SeqGives Fence.wide 2 Tryd.prog 41 #[.pointer (some ⟨w.heap.size, 0, none⟩)] encStr (fun ss : List Bs => ss = []) 0 (w.alloc (.cells #[.map none] 48)) :=
    AnyZ.keys_gives_nil (ρ := Tryd.keys32_ren) { Tryd.keys32 with } Fence.wide _ trivial rfl w.heap.size _ (by simp) (by simp)
  refine ((callsIn_wide (n := 5)).1 (AnyZ.sorted_in Tryd.sorted26 Fence.wide 5 trivial trivial trivial trivial rfl (by omega) (sorts26 _) (enters_of Tryd.func36 (by kernel_rfl) rfl) 41 #[.pointer (some ⟨w.heap.size, 0, none⟩)] trivial (enters_of Tryd.func41 (by kernel_rfl) rfl) _ 0 (Nat.zero_le _) (by omega) _ hseq)).mono ?_
  rintro e w' ⟨v, ss, rfl, h1, h2, _, h4⟩
  subst h1
  refine ⟨v, rfl, ?_, Below.trans (Ext.alloc (Ext.refl w) _) (Below.mono h4 (by simp))⟩
  have h3 : w'.ownsRow w.heap.size 9 1 v 0 [] := by
    have := ownsRow_base (base' := w.heap.size) h2 (by simp)
    simp at this
    exact this
  exact h3

theorem sorts29 (m : Nat) : AnyZI.SortsIn Tryd.prog Tryd.sorted29_ren Fence.wide m :=
  ⟨fun blk off cap ss W hH hblk hsz => callsIn_wide.2 (AnyM.slices_Sort_int Tryd.sort39 blk off cap ss W hH hblk hsz),
   fun p cap W => callsIn_wide.2 (AnyM.slices_Sort_int_none Tryd.sort39 p cap W)⟩
theorem mkeys_i (mb : Option Nat) (W : World) : Calls Tryd.prog 29 #[.map mb] W fun e w' => e = .returned (.func (.func 40) #[] #[.pointer (some ⟨W.heap.size, 0, none⟩)]) ∧ w' = W.alloc (.cells #[.map mb] 54) :=
  (callsIn_wide (n := 5)).1 (AnyZI.keys_in Tryd.keys30 Fence.wide 5 trivial rfl mb W)
set_option maxHeartbeats 1000000 in
theorem sorted_keys_i {H : Type} (b nn : Nat) (D0 : DataW H) (R : Value → Option (DataW H × List MemPlace)) (w : World) (hown : w.ownsMap Tryd.prog 2 R b nn D0) (hmax : Maps.size D0 ≤ 1000000) :
    Calls Tryd.prog 28 #[.func (.func 40) #[] #[.pointer (some ⟨w.heap.size, 0, none⟩)]] (w.alloc (.cells #[.map (some b)] 54)) fun e w' => ∃ (v : Value) (ss : List Int), e = .returned v ∧ ss.Perm (intKeys D0) ∧
      IRow w' w.heap.size v (sortI ss) ∧ Ext w w' := by
  have hbl := hown.lt
  have hseq : SeqGives Fence.wide 2 Tryd.prog 40 #[.pointer (some ⟨w.heap.size, 0, none⟩)] encZ (fun ss => ss.Perm (intKeys D0)) (Maps.size D0) (w.alloc (.cells #[.map (some b)] 54)) :=
    AnyZI.keys_gives (ρ := Tryd.keys30_ren) { Tryd.keys30 with } Fence.wide _ trivial rfl (by omega) w.heap.size b nn D0 _ (by simp) (by simp) (by
      obtain ⟨es, clock, hb, Ft, hs, hD⟩ := hown
      exact ⟨es, clock, (Below.heap_alloc _ _ b hbl).trans hb, Ft, hs, hD⟩)
  refine ((callsIn_wide (n := 5)).1 (AnyZI.sorted_in Tryd.sorted29 Fence.wide 5 trivial trivial trivial trivial rfl (by omega) (sorts29 _) (enters_of Tryd.func39 (by kernel_rfl) rfl) 40 #[.pointer (some ⟨w.heap.size, 0, none⟩)] trivial (enters_of Tryd.func40 (by kernel_rfl) rfl) _ _ (by unfold maxLen; omega) (by omega) _ hseq)).mono ?_
  rintro e w' ⟨v, ss, rfl, h1, h2, _, h4⟩
  refine ⟨v, ss, rfl, h1, ?_, Below.trans (Ext.alloc (Ext.refl w) _) (Below.mono h4 (by simp))⟩
  unfold IRow
  rw [sortI_len]
  exact ownsRow_base h2 (by simp)
set_option maxHeartbeats 1000000 in
theorem sorted_keys_nil_i (w : World) :
    Calls Tryd.prog 28 #[.func (.func 40) #[] #[.pointer (some ⟨w.heap.size, 0, none⟩)]] (w.alloc (.cells #[.map none] 54)) fun e w' => ∃ (v : Value), e = .returned v ∧ IRow w' w.heap.size v [] ∧ Ext w w' := by
  have hseq : SeqGives Fence.wide 2 Tryd.prog 40 #[.pointer (some ⟨w.heap.size, 0, none⟩)] encZ (fun ss : List Int => ss = []) 0 (w.alloc (.cells #[.map none] 54)) :=
    AnyZI.keys_gives_nil (ρ := Tryd.keys30_ren) { Tryd.keys30 with } Fence.wide _ trivial rfl w.heap.size _ (by simp) (by simp)
  refine ((callsIn_wide (n := 5)).1 (AnyZI.sorted_in Tryd.sorted29 Fence.wide 5 trivial trivial trivial trivial rfl (by omega) (sorts29 _) (enters_of Tryd.func39 (by kernel_rfl) rfl) 40 #[.pointer (some ⟨w.heap.size, 0, none⟩)] trivial (enters_of Tryd.func40 (by kernel_rfl) rfl) _ 0 (Nat.zero_le _) (by omega) _ hseq)).mono ?_
  rintro e w' ⟨v, ss, rfl, h1, h2, _, h4⟩
  subst h1
  refine ⟨v, rfl, ?_, Below.trans (Ext.alloc (Ext.refl w) _) (Below.mono h4 (by simp))⟩
  have h3 : w'.ownsRow w.heap.size 2 1 v 0 [] := by
    have := ownsRow_base (base' := w.heap.size) h2 (by simp)
    simp at this
    exact this
  exact h3
end Go.Proofs.YtgbhhofmghgpbaaDoor
