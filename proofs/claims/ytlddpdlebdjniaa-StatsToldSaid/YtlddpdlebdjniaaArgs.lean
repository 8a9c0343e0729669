/- A sum as an argument, opened. -/
import Derived.Test.YtlddpdlebdjniaaWakes
import Derived.Test.YtlddpdlebdjniaaRows
import Derived.ProofKit
import Derived.OpenShut
import Derived.ShutString
import Derived.ChangeOld
import Derived.Deep.Slices
import Derived.Lib.SmallJoins
namespace Go.Proofs.Ytlddpdlebdjniaa
open Go.ChangeShapes Go.WideShapes Go.ChangeAt Go.RowKit Go.Deep Go.Joins
set_option linter.unusedVariables false
theorem own : ownKnob Try.prog.godebug = none := by kernel_rfl
theorem cells53 : Try.prog.cellsOf 53 = 12 := by kernel_rfl
theorem cells2 : Try.prog.cellsOf 2 = 1 := by kernel_rfl
section
variable {H : Type} {enc : TypeId × Value → H} {w : World} {base : Nat} {spare : Nat → Bool} {held : Bool}
set_option maxRecDepth 100000 in
theorem sum_open {v : Value} {d : DataW H} {p : List MemPlace} {r : Reach} {b0 : Nat} (hv : Value.okWide Try.prog w r b0 53 v) (h : DataW.Trod enc Try.prog w base (fun _ => true) held 53 v d p) :
    ∃ a0 a1 a2 a3 a4 a5 a6 a7 a8 a9 a10 a11 : Int, v = .agg #[.int .i64 a0, .int .i64 a1, .int .i64 a2, .int .i64 a3, .int .i64 a4, .int .i64 a5, .int .i64 a6, .int .i64 a7, .int .i64 a8, .int .i64 a9, .int .i64 a10, .int .i64 a11] := by
  simp only [Value.okWide, Try.underlying53] at hv
  obtain ⟨cs, rfl, hsz, _⟩ := hv
  rw [cells53] at hsz
  obtain ⟨l⟩ := cs
  obtain ⟨fuel, hf0⟩ := h
  obtain ⟨ys, m, _, _, hlen, hyl, hf⟩ := DataW.trod_struct Try.underlying53 hf0
  match l, hsz with
  | [c0, c1, c2, c3, c4, c5, c6, c7, c8, c9, c10, c11], _ =>
    have f0 : DataW.trod enc Try.prog w base (fun _ => true) held m 3 (([c0, c1, c2, c3, c4, c5, c6, c7, c8, c9, c10, c11].drop 0).take (Try.prog.cellsOf 3)) = ys[0]? := hf 0 _ rfl
    rw [cells3] at f0
    have f1 : DataW.trod enc Try.prog w base (fun _ => true) held m 3 (([c0, c1, c2, c3, c4, c5, c6, c7, c8, c9, c10, c11].drop 1).take (Try.prog.cellsOf 3)) = ys[1]? := hf 1 _ rfl
    rw [cells3] at f1
    have f2 : DataW.trod enc Try.prog w base (fun _ => true) held m 3 (([c0, c1, c2, c3, c4, c5, c6, c7, c8, c9, c10, c11].drop 2).take (Try.prog.cellsOf 3)) = ys[2]? := hf 2 _ rfl
    rw [cells3] at f2
    have f3 : DataW.trod enc Try.prog w base (fun _ => true) held m 3 (([c0, c1, c2, c3, c4, c5, c6, c7, c8, c9, c10, c11].drop 3).take (Try.prog.cellsOf 3)) = ys[3]? := hf 3 _ rfl
    rw [cells3] at f3
    have f4 : DataW.trod enc Try.prog w base (fun _ => true) held m 2 (([c0, c1, c2, c3, c4, c5, c6, c7, c8, c9, c10, c11].drop 4).take (Try.prog.cellsOf 2)) = ys[4]? := hf 4 _ rfl
    rw [cells2] at f4
    have f5 : DataW.trod enc Try.prog w base (fun _ => true) held m 2 (([c0, c1, c2, c3, c4, c5, c6, c7, c8, c9, c10, c11].drop 5).take (Try.prog.cellsOf 2)) = ys[5]? := hf 5 _ rfl
    rw [cells2] at f5
    have f6 : DataW.trod enc Try.prog w base (fun _ => true) held m 2 (([c0, c1, c2, c3, c4, c5, c6, c7, c8, c9, c10, c11].drop 6).take (Try.prog.cellsOf 2)) = ys[6]? := hf 6 _ rfl
    rw [cells2] at f6
    have f7 : DataW.trod enc Try.prog w base (fun _ => true) held m 3 (([c0, c1, c2, c3, c4, c5, c6, c7, c8, c9, c10, c11].drop 7).take (Try.prog.cellsOf 3)) = ys[7]? := hf 7 _ rfl
    rw [cells3] at f7
    have f8 : DataW.trod enc Try.prog w base (fun _ => true) held m 3 (([c0, c1, c2, c3, c4, c5, c6, c7, c8, c9, c10, c11].drop 8).take (Try.prog.cellsOf 3)) = ys[8]? := hf 8 _ rfl
    rw [cells3] at f8
    have f9 : DataW.trod enc Try.prog w base (fun _ => true) held m 3 (([c0, c1, c2, c3, c4, c5, c6, c7, c8, c9, c10, c11].drop 9).take (Try.prog.cellsOf 3)) = ys[9]? := hf 9 _ rfl
    rw [cells3] at f9
    have f10 : DataW.trod enc Try.prog w base (fun _ => true) held m 3 (([c0, c1, c2, c3, c4, c5, c6, c7, c8, c9, c10, c11].drop 10).take (Try.prog.cellsOf 3)) = ys[10]? := hf 10 _ rfl
    rw [cells3] at f10
    have f11 : DataW.trod enc Try.prog w base (fun _ => true) held m 3 (([c0, c1, c2, c3, c4, c5, c6, c7, c8, c9, c10, c11].drop 11).take (Try.prog.cellsOf 3)) = ys[11]? := hf 11 _ rfl
    rw [cells3] at f11
    have hy : ys.length = 12 := hyl
    match ys, hy with
    | [y0, y1, y2, y3, y4, y5, y6, y7, y8, y9, y10, y11], _ =>
      obtain ⟨a0, e0, _, _⟩ := DataW.trod_int Try.underlying3 f0
      obtain ⟨a1, e1, _, _⟩ := DataW.trod_int Try.underlying3 f1
      obtain ⟨a2, e2, _, _⟩ := DataW.trod_int Try.underlying3 f2
      obtain ⟨a3, e3, _, _⟩ := DataW.trod_int Try.underlying3 f3
      obtain ⟨a4, e4, _, _⟩ := DataW.trod_int Try.underlying2 f4
      obtain ⟨a5, e5, _, _⟩ := DataW.trod_int Try.underlying2 f5
      obtain ⟨a6, e6, _, _⟩ := DataW.trod_int Try.underlying2 f6
      obtain ⟨a7, e7, _, _⟩ := DataW.trod_int Try.underlying3 f7
      obtain ⟨a8, e8, _, _⟩ := DataW.trod_int Try.underlying3 f8
      obtain ⟨a9, e9, _, _⟩ := DataW.trod_int Try.underlying3 f9
      obtain ⟨a10, e10, _, _⟩ := DataW.trod_int Try.underlying3 f10
      obtain ⟨a11, e11, _, _⟩ := DataW.trod_int Try.underlying3 f11
      simp at e0 e1 e2 e3 e4 e5 e6 e7 e8 e9 e10 e11
      exact ⟨a0, a1, a2, a3, a4, a5, a6, a7, a8, a9, a10, a11, by simp [e0, e1, e2, e3, e4, e5, e6, e7, e8, e9, e10, e11]⟩
end
end Go.Proofs.Ytlddpdlebdjniaa
