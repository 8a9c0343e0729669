/- The statements' arguments, opened: numbers, a list of acts. -/
import Derived.Test.YteeeabmfebofiaaRowz
import Derived.ProofKit
import Derived.OpenShut
import Derived.ShutString
import Derived.ChangeOld
import Derived.Deep.Slices
import Derived.Lib.SmallJoins
namespace Go.Proofs.Yteeeabmfebofiaa
open Go.ChangeShapes Go.WideShapes Go.ChangeAt Go.RowKit Go.Deep Go.Joins
set_option linter.unusedVariables false

theorem own : ownKnob Try.prog.godebug = none := by kernel_rfl
theorem laidOut : laidOutB Try.prog = true := by kernel_rfl
theorem cells35 : Try.prog.cellsOf 35 = 3 := by kernel_rfl
theorem cells2 : Try.prog.cellsOf 2 = 1 := by kernel_rfl
theorem cells5 : Try.prog.cellsOf 5 = 1 := by kernel_rfl
theorem add_plain (b off n : Nat) : (⟨b, off, none⟩ : Addr).add n = ⟨b, off + n, none⟩ := by unfold Addr.add; split <;> simp_all
theorem u8_nat {z : Int} (h : (Lit.int .u8 z).wf = true) : ∃ n : Nat, z = n ∧ n ≤ 255 := by
  have : 0 ≤ z ∧ z ≤ 255 := by
    simp [Lit.wf] at h
    have e1 : IntKind.u8.min = 0 := rfl
    have e2 : IntKind.u8.max = 255 := rfl
    omega
  exact ⟨z.toNat, by omega, by omega⟩

/-- An act: its kind, its key, its hold's number. -/
structure ActV where
  kind : Nat
  key : Int
  hold : Nat
def ActsAt (w : World) (A : Option Addr) (xs : List ActV) : Prop := ∀ k (hk : k < xs.length), ∃ b off, A = some ⟨b, off, none⟩ ∧
  w.cell? ⟨b, off + k * 3, none⟩ = some (.int .u8 xs[k].kind) ∧ w.cell? ⟨b, off + k * 3 + 1, none⟩ = some (.int .i64 xs[k].key) ∧ w.cell? ⟨b, off + k * 3 + 2, none⟩ = some (.int .u8 xs[k].hold) ∧ xs[k].kind ≤ 255 ∧ (Lit.int .i64 xs[k].key).wf = true ∧ xs[k].hold ≤ 255
theorem ActsAt.below {w w' : World} {B : Nat} {A : Option Addr} {xs : List ActV} (h : ActsAt w A xs) (hb : Below B w w') (hB : B = w.heap.size) : ActsAt w' A xs := fun k hk => by
  obtain ⟨b, off, e, h0, h1, h2, r⟩ := h k hk
  subst hB
  exact ⟨b, off, e, Ext.cell hb h0, Ext.cell hb h1, Ext.cell hb h2, r⟩

section
variable {H : Type} {enc : TypeId × Value → H} {w : World} {base : Nat} {spare : Nat → Bool} {held : Bool}
set_option maxRecDepth 100000 in
theorem act_cells {fuel : Nat} {cs : List Value} {x : DataW H × List MemPlace} (h : DataW.trod enc Try.prog w base spare held fuel 35 cs = some x) :
    ∃ a : ActV, cs = [.int .u8 a.kind, .int .i64 a.key, .int .u8 a.hold] ∧ a.kind ≤ 255 ∧ (Lit.int .i64 a.key).wf = true ∧ a.hold ≤ 255 := by
  obtain ⟨ys, m, _, _, hlen, hyl, hf⟩ := DataW.trod_struct Try.underlying35 h
  rw [cells35] at hlen
  match cs, hlen with
  | [c0, c1, c2], _ =>
    have f0' : DataW.trod enc Try.prog w base spare held m 5 (([c0, c1, c2].drop 0).take (Try.prog.cellsOf 5)) = ys[0]? := hf 0 _ rfl
    have f1' : DataW.trod enc Try.prog w base spare held m 2 (([c0, c1, c2].drop 1).take (Try.prog.cellsOf 2)) = ys[1]? := hf 1 _ rfl
    have f2' : DataW.trod enc Try.prog w base spare held m 5 (([c0, c1, c2].drop 2).take (Try.prog.cellsOf 5)) = ys[2]? := hf 2 _ rfl
    rw [cells5] at f0' f2'
    rw [cells2] at f1'
    have hy : ys.length = 3 := hyl
    match ys, hy with
    | [y0, y1, y2], _ =>
      obtain ⟨n0, e0, _, w0⟩ := DataW.trod_int Try.underlying5 f0'
      obtain ⟨n1, e1, _, w1⟩ := DataW.trod_int Try.underlying2 f1'
      obtain ⟨n2, e2, _, w2⟩ := DataW.trod_int Try.underlying5 f2'
      obtain ⟨k0, rfl, b0⟩ := u8_nat w0
      obtain ⟨k2, rfl, b2⟩ := u8_nat w2
      simp at e0 e1 e2
      exact ⟨⟨k0, n1, k2⟩, by simp [e0, e1, e2], b0, w1, b2⟩

set_option maxRecDepth 100000 in
theorem acts_open {v : Value} {d : DataW H} {p : List MemPlace} {r : Reach} {b0 : Nat} (hv : Value.okWide Try.prog w r b0 33 v) (h : DataW.Trod enc Try.prog w base (fun _ => true) held 33 v d p) :
    ∃ (A : Option Addr) (xs : List ActV) (c : Nat), v = .slice A xs.length c ∧ ActsAt w A xs ∧ xs.length ≤ maxLen := by
  obtain ⟨a0, len, cap, rfl⟩ := okWide_slice Try.underlying33 hv
  obtain ⟨fuel, hf⟩ := h
  rcases open_slice Try.underlying33 hf with ⟨hcs, _⟩ | ⟨a, len', cap', m, n, D, Pl, hcs, _, hl, hm, hmm, _, hi⟩
  · simp [Value.cells] at hcs
    obtain ⟨rfl, rfl, rfl⟩ := hcs
    exact ⟨none, [], 0, rfl, fun k hk => by simp at hk, by simp⟩
  · simp [Value.cells] at hcs
    obtain ⟨rfl, rfl, rfl⟩ := hcs
    have hm' : m = cap := by simpa using hmm
    subst hm'
    have key : ∀ q, q ≤ len → ∃ xs : List ActV, xs.length = q ∧ ∀ k (hk : k < xs.length), w.cell? (a.add (k * 3)) = some (.int .u8 xs[k].kind) ∧ w.cell? ((a.add (k * 3)).add 1) = some (.int .i64 xs[k].key) ∧ w.cell? ((a.add (k * 3)).add 2) = some (.int .u8 xs[k].hold) ∧ xs[k].kind ≤ 255 ∧ (Lit.int .i64 xs[k].key).wf = true ∧ xs[k].hold ≤ 255 := by
      intro q
      induction q with
      | zero => intro _; exact ⟨[], rfl, fun k hk => by simp at hk⟩
      | succ q ih =>
        intro hq
        obtain ⟨xs, hxl, hx⟩ := ih (by omega)
        obtain ⟨cs', hc, ht⟩ := hi q (by omega)
        rw [cells35] at hc
        obtain ⟨av, rfl, hr⟩ := act_cells ht
        obtain ⟨_, _, hat⟩ := World.cells?_some hc
        have g0 := hat 0 (by omega); have g1 := hat 1 (by omega); have g2 := hat 2 (by omega)
        refine ⟨xs ++ [av], by simp [hxl], fun k hk => ?_⟩
        by_cases hkq : k < xs.length
        · rw [List.getElem_append_left hkq]; exact hx k hkq
        · obtain rfl : k = xs.length := by simp at hk; omega
          rw [List.getElem_append_right (Nat.le_refl _)]
          simp only [Nat.sub_self, List.getElem_cons_zero]
          rw [hxl]
          refine ⟨?_, g1, g2, hr⟩
          have : (a.add (q * 3)).add 0 = a.add (q * 3) := by simp [Addr.add]
          rw [this] at g0; exact g0
    obtain ⟨xs, hxl, hx⟩ := key len (Nat.le_refl _)
    refine ⟨some a, xs, m, by rw [hxl], fun k hk => ?_, by omega⟩
    obtain ⟨e0, e1, e2, e3⟩ := hx k hk
    have hz := (hx 0 (by omega)).1
    obtain ⟨b, off, spot⟩ := a
    have hspot : spot = none := by simpa [Addr.add] using World.cell?_spot hz
    subst hspot
    rw [add_plain] at e0 e1 e2
    rw [add_plain] at e1 e2
    exact ⟨b, off, rfl, e0, e1, e2, e3⟩
end
end Go.Proofs.Yteeeabmfebofiaa
