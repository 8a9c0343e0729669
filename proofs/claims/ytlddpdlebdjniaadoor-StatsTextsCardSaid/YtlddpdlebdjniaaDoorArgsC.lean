/- A sum as an argument, opened; the tables that the row lists; a world that holds them (printed by gen_args.py). -/
import Derived.Test.YtlddpdlebdjniaaDoorTxtF
import Derived.Test.YtlddpdlebdjniaaDoorRows
import Derived.Test.YtlddpdlebdjniaaDoorCards
import Derived.Test.YtlddpdlebdjniaaDoorTie
import Derived.ProofKit
import Derived.OpenShut
import Derived.ShutString
import Derived.ChangeOld
import Derived.Deep.Slices
import Derived.Lib.SmallJoins
import Derived.Deep.DeepHandedRow
import Derived.Lib.LaidTab
import Derived.MakeChecks
import Derived.Lay
namespace Go.Proofs.YtlddpdlebdjniaaDoor
open Go.ChangeShapes Go.WideShapes Go.ChangeAt Go.RowKit Go.Deep Go.Joins
set_option linter.unusedVariables false
set_option linter.unusedSimpArgs false
theorem own : ownKnob Tryd.prog.godebug = none := by kernel_rfl
theorem cells23 : Tryd.prog.cellsOf 23 = 12 := by kernel_rfl
theorem cellsI2 : Tryd.prog.cellsOf 2 = 1 := by kernel_rfl
theorem cellsI3 : Tryd.prog.cellsOf 3 = 1 := by kernel_rfl
section
variable {H : Type} {enc : TypeId × Value → H} {w : World} {base : Nat} {spare : Nat → Bool} {held : Bool}
theorem cell3 {m : Nat} {c : Value} {y : DataW H × List MemPlace} (f : DataW.trod enc Tryd.prog w base spare held m 3 [c] = some y) : ∃ a : Int, c = .int .i64 a ∧ -9223372036854775808 ≤ a ∧ a ≤ 9223372036854775807 := by
  obtain ⟨a, e, _, wf⟩ := DataW.trod_int Tryd.underlying3 f
  simp at e
  simp [Lit.wf, IntKind.min, IntKind.max, IntKind.signed, IntKind.bits] at wf
  exact ⟨a, e, by omega, by omega⟩
theorem cell2 {m : Nat} {c : Value} {y : DataW H × List MemPlace} (f : DataW.trod enc Tryd.prog w base spare held m 2 [c] = some y) : ∃ a : Int, c = .int .i64 a ∧ -9223372036854775808 ≤ a ∧ a ≤ 9223372036854775807 := by
  obtain ⟨a, e, _, wf⟩ := DataW.trod_int Tryd.underlying2 f
  simp at e
  simp [Lit.wf, IntKind.min, IntKind.max, IntKind.signed, IntKind.bits] at wf
  exact ⟨a, e, by omega, by omega⟩
set_option maxRecDepth 100000 in
theorem sum_open {v : Value} {d : DataW H} {p : List MemPlace} {r : Reach} {b0 : Nat} (hv : Value.okWide Tryd.prog w r b0 23 v) (h : DataW.Trod enc Tryd.prog w base (fun _ => true) held 23 v d p) :
    ∃ a0 a1 a2 a3 a4 a5 a6 a7 a8 a9 a10 a11 : Int, v = .agg #[.int .i64 a0, .int .i64 a1, .int .i64 a2, .int .i64 a3, .int .i64 a4, .int .i64 a5, .int .i64 a6, .int .i64 a7, .int .i64 a8, .int .i64 a9, .int .i64 a10, .int .i64 a11] ∧ (-9223372036854775808 ≤ a0 ∧ a0 ≤ 9223372036854775807) ∧ (-9223372036854775808 ≤ a1 ∧ a1 ≤ 9223372036854775807) ∧ (-9223372036854775808 ≤ a2 ∧ a2 ≤ 9223372036854775807) ∧ (-9223372036854775808 ≤ a3 ∧ a3 ≤ 9223372036854775807) ∧ (-9223372036854775808 ≤ a4 ∧ a4 ≤ 9223372036854775807) ∧ (-9223372036854775808 ≤ a5 ∧ a5 ≤ 9223372036854775807) ∧ (-9223372036854775808 ≤ a6 ∧ a6 ≤ 9223372036854775807) ∧ (-9223372036854775808 ≤ a7 ∧ a7 ≤ 9223372036854775807) ∧ (-9223372036854775808 ≤ a8 ∧ a8 ≤ 9223372036854775807) ∧ (-9223372036854775808 ≤ a9 ∧ a9 ≤ 9223372036854775807) ∧ (-9223372036854775808 ≤ a10 ∧ a10 ≤ 9223372036854775807) ∧ (-9223372036854775808 ≤ a11 ∧ a11 ≤ 9223372036854775807) := by
  simp only [Value.okWide, Tryd.underlying23] at hv
  obtain ⟨cs, rfl, hsz, _⟩ := hv
  rw [cells23] at hsz
  obtain ⟨l⟩ := cs
  obtain ⟨fuel, hf0⟩ := h
  obtain ⟨ys, m, _, _, hlen, hyl, hf⟩ := DataW.trod_struct Tryd.underlying23 hf0
  match l, hsz with
  | [c0, c1, c2, c3, c4, c5, c6, c7, c8, c9, c10, c11], _ =>
    have f0 : DataW.trod enc Tryd.prog w base (fun _ => true) held m 3 (([c0, c1, c2, c3, c4, c5, c6, c7, c8, c9, c10, c11].drop 0).take (Tryd.prog.cellsOf 3)) = ys[0]? := hf 0 _ rfl
    rw [cellsI3] at f0
    have f1 : DataW.trod enc Tryd.prog w base (fun _ => true) held m 3 (([c0, c1, c2, c3, c4, c5, c6, c7, c8, c9, c10, c11].drop 1).take (Tryd.prog.cellsOf 3)) = ys[1]? := hf 1 _ rfl
    rw [cellsI3] at f1
    have f2 : DataW.trod enc Tryd.prog w base (fun _ => true) held m 3 (([c0, c1, c2, c3, c4, c5, c6, c7, c8, c9, c10, c11].drop 2).take (Tryd.prog.cellsOf 3)) = ys[2]? := hf 2 _ rfl
    rw [cellsI3] at f2
    have f3 : DataW.trod enc Tryd.prog w base (fun _ => true) held m 3 (([c0, c1, c2, c3, c4, c5, c6, c7, c8, c9, c10, c11].drop 3).take (Tryd.prog.cellsOf 3)) = ys[3]? := hf 3 _ rfl
    rw [cellsI3] at f3
    have f4 : DataW.trod enc Tryd.prog w base (fun _ => true) held m 2 (([c0, c1, c2, c3, c4, c5, c6, c7, c8, c9, c10, c11].drop 4).take (Tryd.prog.cellsOf 2)) = ys[4]? := hf 4 _ rfl
    rw [cellsI2] at f4
    have f5 : DataW.trod enc Tryd.prog w base (fun _ => true) held m 2 (([c0, c1, c2, c3, c4, c5, c6, c7, c8, c9, c10, c11].drop 5).take (Tryd.prog.cellsOf 2)) = ys[5]? := hf 5 _ rfl
    rw [cellsI2] at f5
    have f6 : DataW.trod enc Tryd.prog w base (fun _ => true) held m 2 (([c0, c1, c2, c3, c4, c5, c6, c7, c8, c9, c10, c11].drop 6).take (Tryd.prog.cellsOf 2)) = ys[6]? := hf 6 _ rfl
    rw [cellsI2] at f6
    have f7 : DataW.trod enc Tryd.prog w base (fun _ => true) held m 3 (([c0, c1, c2, c3, c4, c5, c6, c7, c8, c9, c10, c11].drop 7).take (Tryd.prog.cellsOf 3)) = ys[7]? := hf 7 _ rfl
    rw [cellsI3] at f7
    have f8 : DataW.trod enc Tryd.prog w base (fun _ => true) held m 3 (([c0, c1, c2, c3, c4, c5, c6, c7, c8, c9, c10, c11].drop 8).take (Tryd.prog.cellsOf 3)) = ys[8]? := hf 8 _ rfl
    rw [cellsI3] at f8
    have f9 : DataW.trod enc Tryd.prog w base (fun _ => true) held m 3 (([c0, c1, c2, c3, c4, c5, c6, c7, c8, c9, c10, c11].drop 9).take (Tryd.prog.cellsOf 3)) = ys[9]? := hf 9 _ rfl
    rw [cellsI3] at f9
    have f10 : DataW.trod enc Tryd.prog w base (fun _ => true) held m 3 (([c0, c1, c2, c3, c4, c5, c6, c7, c8, c9, c10, c11].drop 10).take (Tryd.prog.cellsOf 3)) = ys[10]? := hf 10 _ rfl
    rw [cellsI3] at f10
    have f11 : DataW.trod enc Tryd.prog w base (fun _ => true) held m 3 (([c0, c1, c2, c3, c4, c5, c6, c7, c8, c9, c10, c11].drop 11).take (Tryd.prog.cellsOf 3)) = ys[11]? := hf 11 _ rfl
    rw [cellsI3] at f11
    have hy : ys.length = 12 := hyl
    match ys, hy with
    | [y0, y1, y2, y3, y4, y5, y6, y7, y8, y9, y10, y11], _ =>
      obtain ⟨a0, e0, h0⟩ := cell3 (y := y0) f0
      obtain ⟨a1, e1, h1⟩ := cell3 (y := y1) f1
      obtain ⟨a2, e2, h2⟩ := cell3 (y := y2) f2
      obtain ⟨a3, e3, h3⟩ := cell3 (y := y3) f3
      obtain ⟨a4, e4, h4⟩ := cell2 (y := y4) f4
      obtain ⟨a5, e5, h5⟩ := cell2 (y := y5) f5
      obtain ⟨a6, e6, h6⟩ := cell2 (y := y6) f6
      obtain ⟨a7, e7, h7⟩ := cell3 (y := y7) f7
      obtain ⟨a8, e8, h8⟩ := cell3 (y := y8) f8
      obtain ⟨a9, e9, h9⟩ := cell3 (y := y9) f9
      obtain ⟨a10, e10, h10⟩ := cell3 (y := y10) f10
      obtain ⟨a11, e11, h11⟩ := cell3 (y := y11) f11
      exact ⟨a0, a1, a2, a3, a4, a5, a6, a7, a8, a9, a10, a11, by rw [e0, e1, e2, e3, e4, e5, e6, e7, e8, e9, e10, e11], h0, h1, h2, h3, h4, h5, h6, h7, h8, h9, h10, h11⟩
end
end Go.Proofs.YtlddpdlebdjniaaDoor
