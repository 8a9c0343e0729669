/- A line of the program's text. -/
import Derived.Test.YtlddpdlebdjniaaDoorTxtB
import Derived.Test.YtlddpdlebdjniaaDoorLayT
import Derived.Lib.LaidTab
namespace Go.Proofs.YtlddpdlebdjniaaDoor
open Go.RowKit Go.Maps Go.ChangeMaps Go.Sort Go.Shelf
set_option linter.unusedVariables false
set_option linter.unusedSimpArgs false
theorem decL_eq : ∀ (k u : Nat), u ≤ k → Lib.decDigits u = decL u
  | k, u, hk => by
    by_cases h : u < 10
    · rw [decL_small h, Lib.decDigits, dif_pos h]
    · rw [decL_big h, Lib.decDigits, dif_neg h, decL_eq (k - 1) (u / 10) (by omega)]
termination_by k => k
decreasing_by omega
theorem itoa_eq (n : Int) : Lib.itoa n = itoaZ n := by
  unfold Lib.itoa itoaZ
  rw [decL_eq _ _ (Nat.le_refl _), decL_eq _ _ (Nat.le_refl _)]
theorem ext_grow (w : World) (k : Nat) (os : Array Obj) : Ext w (grow (w.drewN k) os) := ⟨rfl, rfl, rfl, by simp [grow, World.drewN], fun i hi => by
  rw [heap_grow_old _ _ (by simpa [World.drewN] using hi)]; rfl⟩
def Tab (w : World) : Prop := Lib.TabIs Tryd.prog w "internal/strconv.uint64pow10" .u64 Lib.pow10Tab
/-- strconv.FormatInt at 10. -/
theorem fmt_any (n : Int) (h0 : -9223372036854775808 ≤ n) (h1 : n ≤ 9223372036854775807) (w : World) (hT : Tab w) : Calls Tryd.prog 12 #[.int .i64 n, .int .i64 10] w fun e w' => e = .returned (.string ⟨(itoaZ n).toArray⟩) ∧ Ext w w' := by
  have h := Any.strconv_FormatInt_10 Tryd.fmt12 n h0 h1 w hT
  refine Calls.mono h ?_
  rintro e w' ⟨rfl, k, os, rfl⟩
  exact ⟨by rw [itoa_eq], ext_grow _ _ _⟩
def Bd (B b : Nat) (l : Bs) (w : World) : Prop := Lib.IsBuilderF 61 5 B b (Lib.byteCells l) w
theorem Bd.ext {B b : Nat} {l : Bs} {w w' : World} (h : Bd B b l w) (hx : Ext w w') : Bd B b l w' := by
  have key : ∀ p, Lib.BuilderAtF 61 5 B b p (Lib.byteCells l) w → Lib.BuilderAtF 61 5 B b p (Lib.byteCells l) w' := by
    rintro p ⟨hB, v, hb, hown, hne⟩
    exact ⟨hB, v, hx.heap hb, hown.kept (row := none) (Below.grownNone hx none) (by cases v.ownBlock <;> simp), hne⟩
  exact h.elim (fun x => .inl (key _ x)) (fun x => .inr (key _ x))
theorem Tab.same {w w' : World} (h : Tab w) (hs : w'.heap[0]? = w.heap[0]?) : Tab w' := by
  have g : Tryd.prog.globalNamed "internal/strconv.uint64pow10" = some 0 := by kernel_rfl
  unfold Tab Lib.TabIs World.var? at *
  rw [g, Option.bind_some] at *
  rw [hs]; exact h
/-- (*strings.Builder).WriteString. -/
theorem write_any (B b : Nat) (l s : Bs) (w : World) (h : Bd B b l w) (hl : l.length ≤ 1000000) (hs : s.length ≤ 1000000) (hB : B ≤ w.heap.size) : Calls Tryd.prog 11 #[.pointer (some ⟨b, 0, none⟩), .string ⟨s.toArray⟩] w fun e w' => e = .returned (.tuple #[.int .i64 s.length, .nilIface]) ∧ Bd B b (l ++ s) w' ∧ Below B w w' := by
  have hsz : (⟨s.toArray⟩ : ByteArray).size = s.length := by simp [ByteArray.size]
  have hbl : (Lib.byteCells l).length = l.length := by simp [Lib.byteCells]
  refine Calls.mono (Any.Builder_WriteString_k Tryd.write11 Tryd.extra11 B b (Lib.byteCells l) ⟨s.toArray⟩ w h (by rw [hbl, hsz]; omega) hB) ?_
  rintro e w' ⟨rfl, h2, h3, _⟩
  refine ⟨by rw [hsz], .inr ?_, h3⟩
  have e2 : Lib.byteCells l ++ Lib.strCells ⟨s.toArray⟩ = Lib.byteCells (l ++ s) := by simp [Lib.byteCells, Lib.strCells]
  rw [← e2]; exact h2
/-- (*strings.Builder).String. -/
theorem string_any (B b : Nat) (l : Bs) (w : World) (h : Bd B b l w) (hB : B ≤ w.heap.size) : Calls Tryd.prog 13 #[.pointer (some ⟨b, 0, none⟩)] w fun e w' => e = .returned (.string ⟨l.toArray⟩) ∧ Below B w w' := by
  refine Calls.mono (Any.Builder_String_any_k Tryd.string13 Tryd.extra13 B b l w h hB) ?_
  rintro e w' ⟨rfl, _, h3, _⟩
  exact ⟨rfl, h3⟩
end Go.Proofs.YtlddpdlebdjniaaDoor
