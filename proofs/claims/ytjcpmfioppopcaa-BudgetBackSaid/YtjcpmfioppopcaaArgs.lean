/- The statements' arguments, opened: a list of acts, an act, a room. -/
import Derived.Test.YtjcpmfioppopcaaPlay
import Derived.Test.YtjcpmfioppopcaaRows
import Derived.ProofKit
import Derived.OpenShut
import Derived.ShutString
import Derived.ChangeOld
import Derived.Deep.Slices
import Derived.Lib.SmallJoins
namespace Go.Proofs.Ytjcpmfioppopcaa
open Go.ChangeShapes Go.WideShapes Go.ChangeAt Go.RowKit Go.Deep Go.Joins
open Go.ChangeMaps (open_string shut_string)
set_option linter.unusedVariables false

theorem own : ownKnob Try.prog.godebug = none := by kernel_rfl
theorem laidOut : laidOutB Try.prog = true := by kernel_rfl
theorem cells26 : Try.prog.cellsOf 26 = 3 := by kernel_rfl
theorem cells23 : Try.prog.cellsOf 23 = 2 := by kernel_rfl
theorem cells9 : Try.prog.cellsOf 9 = 1 := by kernel_rfl
theorem cells2 : Try.prog.cellsOf 2 = 1 := by kernel_rfl
theorem cells4 : Try.prog.cellsOf 4 = 1 := by kernel_rfl

theorem add_plain (b off n : Nat) : (⟨b, off, none⟩ : Addr).add n = ⟨b, off + n, none⟩ := by unfold Addr.add; split <;> simp_all

section
variable {H : Type} {enc : TypeId × Value → H} {w : World} {base : Nat} {spare : Nat → Bool} {held : Bool}

/-- One act, cell by cell. -/
theorem act_cells {fuel : Nat} {cs : List Value} {x : DataW H × List MemPlace} (h : DataW.trod enc Try.prog w base spare held fuel 26 cs = some x) :
    ∃ (t : Bs) (n : Int) (l : Bool), cs = [.string ⟨t.toArray⟩, .int .i64 n, .bool l] := by
  obtain ⟨ys, m, _, _, hlen, hyl, hf⟩ := DataW.trod_struct Try.underlying26 h
  rw [cells26] at hlen
  match cs, hlen with
  | [c0, c1, c2], _ =>
    have f0 := hf 0 _ rfl
    have f1 := hf 1 _ rfl
    have f2 := hf 2 _ rfl
    have f0' : DataW.trod enc Try.prog w base spare held m 9 (([c0, c1, c2].drop 0).take (Try.prog.cellsOf 9)) = ys[0]? := f0
    have f1' : DataW.trod enc Try.prog w base spare held m 2 (([c0, c1, c2].drop 1).take (Try.prog.cellsOf 2)) = ys[1]? := f1
    have f2' : DataW.trod enc Try.prog w base spare held m 4 (([c0, c1, c2].drop 2).take (Try.prog.cellsOf 4)) = ys[2]? := f2
    clear f0 f1 f2
    rw [cells9] at f0'
    rw [cells2] at f1'
    rw [cells4] at f2'
    have hy : ys.length = 3 := hyl
    match ys, hy with
    | [y0, y1, y2], _ =>
      obtain ⟨s, e0, _, _⟩ := DataW.trod_string Try.underlying9 f0'
      obtain ⟨n, e1, _, _⟩ := DataW.trod_int Try.underlying2 f1'
      obtain ⟨l, e2, _⟩ := DataW.trod_bool Try.underlying4 f2'
      simp at e0 e1 e2
      exact ⟨s.data.toList, n, l, by simp [e0, e1, e2]⟩

theorem acts_open {v : Value} {d : DataW H} {p : List MemPlace} {r : Reach} {b0 : Nat} (hv : Value.okWide Try.prog w r b0 24 v) (h : DataW.Trod enc Try.prog w base (fun _ => true) held 24 v d p) :
    ∃ (A : Option Addr) (xs : List AR) (c : Nat), v = .slice A xs.length c ∧ ActsAt w A xs ∧ xs.length ≤ maxLen := by
  obtain ⟨a0, len, cap, rfl⟩ := okWide_slice Try.underlying24 hv
  obtain ⟨fuel, hf⟩ := h
  rcases open_slice Try.underlying24 hf with ⟨hcs, _⟩ | ⟨a, len', cap', m, n, D, Pl, hcs, _, hl, hm, hmm, _, hi⟩
  · simp [Value.cells] at hcs
    obtain ⟨rfl, rfl, rfl⟩ := hcs
    exact ⟨none, [], 0, rfl, fun k hk => by simp at hk, by simp⟩
  · simp [Value.cells] at hcs
    obtain ⟨rfl, rfl, rfl⟩ := hcs
    have hm' : m = cap := by simpa using hmm
    subst hm'
    have key : ∀ q, q ≤ len → ∃ xs : List AR, xs.length = q ∧ ∀ k (hk : k < xs.length), w.cell? (a.add (k * 3)) = some (.string ⟨xs[k].1.toArray⟩) ∧ w.cell? ((a.add (k * 3)).add 1) = some (.int .i64 xs[k].2.1) ∧ w.cell? ((a.add (k * 3)).add 2) = some (.bool xs[k].2.2) := by
      intro q
      induction q with
      | zero => intro _; exact ⟨[], rfl, fun k hk => by simp at hk⟩
      | succ q ih =>
        intro hq
        obtain ⟨xs, hxl, hx⟩ := ih (by omega)
        obtain ⟨cs', hc, ht⟩ := hi q (by omega)
        rw [cells26] at hc
        obtain ⟨t, n', l, rfl⟩ := act_cells ht
        obtain ⟨_, _, hat⟩ := World.cells?_some hc
        have g0 := hat 0 (by omega); have g1 := hat 1 (by omega); have g2 := hat 2 (by omega)
        refine ⟨xs ++ [(t, n', l)], by simp [hxl], fun k hk => ?_⟩
        by_cases hkq : k < xs.length
        · rw [List.getElem_append_left hkq]; exact hx k hkq
        · obtain rfl : k = xs.length := by simp at hk; omega
          rw [List.getElem_append_right (Nat.le_refl _)]
          simp only [Nat.sub_self, List.getElem_cons_zero]
          rw [hxl]
          refine ⟨?_, g1, g2⟩
          have : (a.add (q * 3)).add 0 = a.add (q * 3) := by simp [Addr.add]
          rw [this] at g0; exact g0
    obtain ⟨xs, hxl, hx⟩ := key len (Nat.le_refl _)
    refine ⟨some a, xs, m, by rw [hxl], fun k hk => ?_, by omega⟩
    obtain ⟨e0, e1, e2⟩ := hx k hk
    have hz := (hx 0 (by omega)).1
    obtain ⟨b, off, spot⟩ := a
    have hspot : spot = none := by simpa [Addr.add] using World.cell?_spot hz
    subst hspot
    rw [add_plain] at e0 e1 e2
    rw [add_plain] at e1 e2
    exact ⟨b, off, rfl, e0, e1, e2⟩

theorem act_open {v : Value} {d : DataW H} {p : List MemPlace} {r : Reach} {b0 : Nat} (hv : Value.okWide Try.prog w r b0 26 v) (h : DataW.Trod enc Try.prog w base spare held 26 v d p) :
    ∃ (t : Bs) (n : Int) (l : Bool), v = .agg #[.string ⟨t.toArray⟩, .int .i64 n, .bool l] := by
  obtain ⟨v0, v1, v2, y0, y1, y2, n, rfl, _, _, h0, h1, h2⟩ := open_agg3 Try.underlying26 (by kernel_rfl) cells26 hv h
  obtain ⟨s, e0, _, _⟩ := DataW.trod_string Try.underlying9 h0
  obtain ⟨n, e1, _, _⟩ := DataW.trod_int Try.underlying2 h1
  obtain ⟨l, e2, _⟩ := DataW.trod_bool Try.underlying4 h2
  simp at e0 e1 e2
  exact ⟨s.data.toList, n, l, by simp [e0, e1, e2]⟩

theorem room_open {v : Value} {d : DataW H} {p : List MemPlace} {r : Reach} {b0 : Nat} (hv : Value.okWide Try.prog w r b0 23 v) (h : DataW.Trod enc Try.prog w base spare held 23 v d p) :
    ∃ (a s : Int), v = .agg #[.int .i64 a, .int .i64 s] := by
  obtain ⟨v0, v1, y0, y1, n, rfl, _, _, h0, h1⟩ := open_agg2 Try.underlying23 (by kernel_rfl) cells23 hv h
  obtain ⟨n0, e0, _, _⟩ := DataW.trod_int Try.underlying2 h0
  obtain ⟨n1, e1, _, _⟩ := DataW.trod_int Try.underlying2 h1
  simp at e0 e1
  exact ⟨n0, n1, by simp [e0, e1]⟩
end
end Go.Proofs.Ytjcpmfioppopcaa
