/- The statements' arguments, opened; the tables that the rows list; a world that holds them. -/
import Derived.Test.YtgbhhofmghgpbaaDoorParC
import Derived.Test.YtgbhhofmghgpbaaDoorRows
import Derived.Test.YtgbhhofmghgpbaaDoorCards
import Derived.Test.YtgbhhofmghgpbaaDoorTie
import Derived.ProofKit
import Derived.OpenShut
import Derived.ShutString
import Derived.ChangeOld
import Derived.Deep.Slices
import Derived.Lib.SmallJoins
import Derived.Deep.DeepHandedRow
import Derived.Lib.LaidTab
import Derived.MakeChecks
import Derived.Lay
namespace Go.Proofs.YtgbhhofmghgpbaaDoor
open Go.ChangeShapes Go.WideShapes Go.ChangeAt Go.RowKit Go.Deep Go.Joins
set_option linter.unusedVariables false
set_option linter.unusedSimpArgs false
theorem own : ownKnob Tryd.prog.godebug = none := by kernel_rfl
theorem laidOut : laidOutB Tryd.prog = true := by kernel_rfl
theorem cells9 : Tryd.prog.cellsOf 9 = 1 := by kernel_rfl
theorem add_plain (b off n : Nat) : (⟨b, off, none⟩ : Addr).add n = ⟨b, off + n, none⟩ := by unfold Addr.add; split <;> simp_all

/-- A given list of texts. -/
def TextsA (w : World) (sv : Value) (ss : List Bs) : Prop := Texts w.heap.size w sv ss ∧ (Capd sv ∧ ∀ n c, sv = .slice none n c → c = 0) ∧ ss.length ≤ 9223372036854775807 ∧ ∀ k ∈ ss, k.length ≤ 9223372036854775807
section
variable {H : Type} {enc : TypeId × Value → H} {w : World} {base : Nat} {spare : Nat → Bool} {held : Bool}
set_option maxRecDepth 100000 in
theorem texts_cells {fuel : Nat} {cs : List Value} {x : DataW H × List MemPlace} (h : DataW.trod enc Tryd.prog w base (fun _ => true) held fuel 23 cs = some x) :
    ∃ (v : Value) (ss : List Bs), cs = [v] ∧ TextsA w v ss := by
  rcases open_slice Tryd.underlying23 h with ⟨hcs, _⟩ | ⟨a, len, cap, m, n, D, Pl, hcs, _, hl, hm, hmm, _, hi⟩
  · exact ⟨_, [], hcs, ⟨none, 0, rfl, fun k hk => by simp at hk⟩, ⟨fun A n c e => by cases e; omega, fun n c e => by cases e; rfl⟩, by simp, by simp⟩
  · have hm' : m = cap := by simpa using hmm
    subst hm'
    have key : ∀ q, q ≤ len → ∃ xs : List Bs, xs.length = q ∧ (∀ k (hk : k < xs.length), w.cell? (a.add k) = some (.string ⟨xs[k].toArray⟩)) ∧ ∀ k ∈ xs, k.length ≤ maxLen := by
      intro q
      induction q with
      | zero => intro _; exact ⟨[], rfl, fun k hk => by simp at hk, by simp⟩
      | succ q ih =>
        intro hq
        obtain ⟨xs, hxl, hx, hx2⟩ := ih (by omega)
        obtain ⟨cs', hc, ht⟩ := hi q (by omega)
        rw [cells9] at hc
        obtain ⟨s, rfl, _, hs⟩ := DataW.trod_string Tryd.underlying9 ht
        obtain ⟨_, _, hat⟩ := World.cells?_some hc
        have g0 := hat 0 (by omega)
        refine ⟨xs ++ [s.data.toList], by simp [hxl], fun k hk => ?_, fun k hk => ?_⟩
        · by_cases hkq : k < xs.length
          · rw [List.getElem_append_left hkq]; exact hx k hkq
          · obtain rfl : k = xs.length := by simp at hk; omega
            rw [List.getElem_append_right (Nat.le_refl _)]
            simp only [Nat.sub_self, List.getElem_cons_zero]
            rw [hxl]
            have : (a.add (q * 1)).add 0 = a.add q := by simp [Addr.add]
            rw [this] at g0; simpa using g0
        · rcases List.mem_append.mp hk with h | h
          · exact hx2 k h
          · simp at h; subst h; simpa using hs
    obtain ⟨xs, hxl, hx, hx2⟩ := key len (Nat.le_refl _)
    refine ⟨_, xs, hcs, ⟨some a, m, by rw [hxl], fun k hk => ?_⟩, ⟨fun A n c e => by cases e; omega, fun n c e => by cases e⟩, by rw [hxl]; exact Nat.le_trans hl hm, fun k hk => hx2 k hk⟩
    have e0 := hx k hk
    have hz := hx 0 (by omega)
    obtain ⟨b, off, spot⟩ := a
    have hspot : spot = none := by simpa [Addr.add] using World.cell?_spot hz
    subst hspot
    rw [add_plain] at e0
    exact ⟨b, off, rfl, World.block_lt_of_cell? _ _ e0, e0⟩
set_option maxRecDepth 100000 in
theorem texts_open {v : Value} {d : DataW H} {p : List MemPlace} {r : Reach} {b0 : Nat} (hv : Value.okWide Tryd.prog w r b0 23 v) (h : DataW.Trod enc Tryd.prog w base (fun _ => true) held 23 v d p) :
    ∃ (ss : List Bs), TextsA w v ss := by
  obtain ⟨a0, len, cap, rfl⟩ := okWide_slice Tryd.underlying23 hv
  obtain ⟨fuel, hf⟩ := h
  obtain ⟨v, ss, e, hT⟩ := texts_cells hf
  simp [Value.cells] at e
  subst e
  exact ⟨ss, hT⟩
end
/-- The list of the rows. -/
def laid3 : List (String × DataW Unit) := [("unicode/utf8.acceptRanges", Rows.laid_unicode_utf8_acceptRanges), ("unicode/utf8.first", Rows.laid_unicode_utf8_first)]
theorem tab_of {W : World} (h : laidMetH Tryd.prog laid3 W) : True := trivial
noncomputable def laidWorld (os : Os) : World := World.laidAll Tryd.prog os laid3
theorem laid_met (os : Os) (args : Array Value) : laidMetH Tryd.prog laid3 ((laidWorld os).forCall (fun _ _ => 0) ⟨#[], args, []⟩).memory := by
  rw [MakeChecks.laidMetH_plain _ _ _ (by kernel_rfl)]
  exact laidMet_laidAll _ (by kernel_rfl) (by kernel_rfl)
section
variable {H : Type} {enc : TypeId × Value → H} {w : World} {base : Nat} {spare : Nat → Bool} {held : Bool} {r : Reach} {b0 : Nat} {v : Value} {d : DataW H} {p : List MemPlace}
set_option maxRecDepth 100000 in
theorem str_of (hv : Value.okWide Tryd.prog w r b0 9 v) (h : DataW.Trod enc Tryd.prog w base spare held 9 v d p) : ∃ s : Bs, v = .string ⟨s.toArray⟩ := by
  obtain ⟨s, rfl, _⟩ := Go.ChangeMaps.open_string Tryd.underlying9 hv h
  exact ⟨s.data.toList, by simp⟩
end
end Go.Proofs.YtgbhhofmghgpbaaDoor
