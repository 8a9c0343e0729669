/- The statements' arguments, opened: a list of texts, a list of calls. -/
import Derived.Test.YtgbhhofmghgpbaaAwake
import Derived.Test.YtgbhhofmghgpbaaRows
import Derived.ProofKit
import Derived.OpenShut
import Derived.ShutString
import Derived.ChangeOld
import Derived.Deep.Slices
import Derived.Lib.SmallJoins
namespace Go.Proofs.Ytgbhhofmghgpbaa
open Go.ChangeShapes Go.WideShapes Go.ChangeAt Go.RowKit Go.Deep Go.Joins
set_option linter.unusedVariables false

theorem own : ownKnob Try.prog.godebug = none := by kernel_rfl
theorem laidOut : laidOutB Try.prog = true := by kernel_rfl
theorem cells30 : Try.prog.cellsOf 30 = 3 := by kernel_rfl
theorem cells2 : Try.prog.cellsOf 2 = 1 := by kernel_rfl
theorem cells5 : Try.prog.cellsOf 5 = 1 := by kernel_rfl
theorem cells9 : Try.prog.cellsOf 9 = 1 := by kernel_rfl
theorem cells23 : Try.prog.cellsOf 23 = 1 := by kernel_rfl
theorem add_plain (b off n : Nat) : (⟨b, off, none⟩ : Addr).add n = ⟨b, off + n, none⟩ := by unfold Addr.add; split <;> simp_all
theorem u8_nat {z : Int} (h : (Lit.int .u8 z).wf = true) : ∃ n : Nat, z = n ∧ n ≤ 255 := by
  have : 0 ≤ z ∧ z ≤ 255 := by
    simp [Lit.wf] at h
    have e1 : IntKind.u8.min = 0 := rfl
    have e2 : IntKind.u8.max = 255 := rfl
    omega
  exact ⟨z.toNat, by omega, by omega⟩

/-- A given list of texts. -/
def TextsA (w : World) (sv : Value) (ss : List Bs) : Prop := Texts w.heap.size w sv ss ∧ (Capd sv ∧ ∀ n c, sv = .slice none n c → c = 0) ∧ ss.length ≤ 9223372036854775807 ∧ ∀ k ∈ ss, k.length ≤ 9223372036854775807
/-- A call: its kind, its number, its keys. -/
structure OpV where
  kind : Nat
  id : Int
  kv : Value
  ks : List Bs
def OpsAt (w : World) (A : Option Addr) (xs : List OpV) : Prop := ∀ k (hk : k < xs.length), ∃ b off, A = some ⟨b, off, none⟩ ∧ b < w.heap.size ∧
  w.cell? ⟨b, off + k * 3, none⟩ = some (.int .u8 xs[k].kind) ∧ w.cell? ⟨b, off + k * 3 + 1, none⟩ = some (.int .i64 xs[k].id) ∧ w.cell? ⟨b, off + k * 3 + 2, none⟩ = some xs[k].kv ∧ xs[k].kind ≤ 255 ∧ (Lit.int .i64 xs[k].id).wf = true ∧ TextsA w xs[k].kv xs[k].ks

section
variable {H : Type} {enc : TypeId × Value → H} {w : World} {base : Nat} {spare : Nat → Bool} {held : Bool}
set_option maxRecDepth 100000 in
theorem texts_cells {fuel : Nat} {cs : List Value} {x : DataW H × List MemPlace} (h : DataW.trod enc Try.prog w base (fun _ => true) held fuel 23 cs = some x) :
    ∃ (v : Value) (ss : List Bs), cs = [v] ∧ TextsA w v ss := by
  rcases open_slice Try.underlying23 h with ⟨hcs, _⟩ | ⟨a, len, cap, m, n, D, Pl, hcs, _, hl, hm, hmm, _, hi⟩
  · exact ⟨_, [], hcs, ⟨none, 0, rfl, fun k hk => by simp at hk⟩, ⟨fun A n c e => by cases e; omega, fun n c e => by cases e; rfl⟩, by simp, by simp⟩
  · have hm' : m = cap := by simpa using hmm
    subst hm'
    have key : ∀ q, q ≤ len → ∃ xs : List Bs, xs.length = q ∧ (∀ k (hk : k < xs.length), w.cell? (a.add k) = some (.string ⟨xs[k].toArray⟩)) ∧ ∀ k ∈ xs, k.length ≤ maxLen := by
      intro q
      induction q with
      | zero => intro _; exact ⟨[], rfl, fun k hk => by simp at hk, by simp⟩
      | succ q ih =>
        intro hq
        obtain ⟨xs, hxl, hx, hx2⟩ := ih (by omega)
        obtain ⟨cs', hc, ht⟩ := hi q (by omega)
        rw [cells9] at hc
        obtain ⟨s, rfl, _, hs⟩ := DataW.trod_string Try.underlying9 ht
        obtain ⟨_, _, hat⟩ := World.cells?_some hc
        have g0 := hat 0 (by omega)
        refine ⟨xs ++ [s.data.toList], by simp [hxl], fun k hk => ?_, fun k hk => ?_⟩
        · by_cases hkq : k < xs.length
          · rw [List.getElem_append_left hkq]; exact hx k hkq
          · obtain rfl : k = xs.length := by simp at hk; omega
            rw [List.getElem_append_right (Nat.le_refl _)]
            simp only [Nat.sub_self, List.getElem_cons_zero]
            rw [hxl]
            have : (a.add (q * 1)).add 0 = a.add q := by simp [Addr.add]
            rw [this] at g0; simpa using g0
        · rcases List.mem_append.mp hk with h | h
          · exact hx2 k h
          · simp at h; subst h; simpa using hs
    obtain ⟨xs, hxl, hx, hx2⟩ := key len (Nat.le_refl _)
    refine ⟨_, xs, hcs, ⟨some a, m, by rw [hxl], fun k hk => ?_⟩, ⟨fun A n c e => by cases e; omega, fun n c e => by cases e⟩, by rw [hxl]; exact Nat.le_trans hl hm, fun k hk => hx2 k hk⟩
    have e0 := hx k hk
    have hz := hx 0 (by omega)
    obtain ⟨b, off, spot⟩ := a
    have hspot : spot = none := by simpa [Addr.add] using World.cell?_spot hz
    subst hspot
    rw [add_plain] at e0
    exact ⟨b, off, rfl, World.block_lt_of_cell? _ _ e0, e0⟩

set_option maxRecDepth 100000 in
theorem op_cells {fuel : Nat} {cs : List Value} {x : DataW H × List MemPlace} (h : DataW.trod enc Try.prog w base (fun _ => true) held fuel 30 cs = some x) :
    ∃ a : OpV, cs = [.int .u8 a.kind, .int .i64 a.id, a.kv] ∧ a.kind ≤ 255 ∧ (Lit.int .i64 a.id).wf = true ∧ TextsA w a.kv a.ks := by
  obtain ⟨ys, m, _, _, hlen, hyl, hf⟩ := DataW.trod_struct Try.underlying30 h
  rw [cells30] at hlen
  match cs, hlen with
  | [c0, c1, c2], _ =>
    have f0' : DataW.trod enc Try.prog w base (fun _ => true) held m 5 (([c0, c1, c2].drop 0).take (Try.prog.cellsOf 5)) = ys[0]? := hf 0 _ rfl
    have f1' : DataW.trod enc Try.prog w base (fun _ => true) held m 2 (([c0, c1, c2].drop 1).take (Try.prog.cellsOf 2)) = ys[1]? := hf 1 _ rfl
    have f2' : DataW.trod enc Try.prog w base (fun _ => true) held m 23 (([c0, c1, c2].drop 2).take (Try.prog.cellsOf 23)) = ys[2]? := hf 2 _ rfl
    rw [cells5] at f0'
    rw [cells2] at f1'
    rw [cells23] at f2'
    have hy : ys.length = 3 := hyl
    match ys, hy with
    | [y0, y1, y2], _ =>
      obtain ⟨n0, e0, _, w0⟩ := DataW.trod_int Try.underlying5 f0'
      obtain ⟨n1, e1, _, w1⟩ := DataW.trod_int Try.underlying2 f1'
      obtain ⟨v, ss, e2, hT⟩ := texts_cells f2'
      obtain ⟨k0, rfl, b0⟩ := u8_nat w0
      simp at e0 e1 e2
      exact ⟨⟨k0, n1, v, ss⟩, by simp [e0, e1, e2], b0, w1, hT⟩

set_option maxRecDepth 100000 in
theorem texts_open {v : Value} {d : DataW H} {p : List MemPlace} {r : Reach} {b0 : Nat} (hv : Value.okWide Try.prog w r b0 23 v) (h : DataW.Trod enc Try.prog w base (fun _ => true) held 23 v d p) :
    ∃ (ss : List Bs), TextsA w v ss := by
  obtain ⟨a0, len, cap, rfl⟩ := okWide_slice Try.underlying23 hv
  obtain ⟨fuel, hf⟩ := h
  obtain ⟨v, ss, e, hT⟩ := texts_cells hf
  simp [Value.cells] at e
  subst e
  exact ⟨ss, hT⟩

set_option maxRecDepth 100000 in
theorem ops_open {v : Value} {d : DataW H} {p : List MemPlace} {r : Reach} {b0 : Nat} (hv : Value.okWide Try.prog w r b0 22 v) (h : DataW.Trod enc Try.prog w base (fun _ => true) held 22 v d p) :
    ∃ (A : Option Addr) (xs : List OpV) (c : Nat), v = .slice A xs.length c ∧ OpsAt w A xs ∧ xs.length ≤ 9223372036854775807 := by
  obtain ⟨a0, len, cap, rfl⟩ := okWide_slice Try.underlying22 hv
  obtain ⟨fuel, hf⟩ := h
  rcases open_slice Try.underlying22 hf with ⟨hcs, _⟩ | ⟨a, len', cap', m, n, D, Pl, hcs, _, hl, hm, hmm, _, hi⟩
  · simp [Value.cells] at hcs
    obtain ⟨rfl, rfl, rfl⟩ := hcs
    exact ⟨none, [], 0, rfl, fun k hk => by simp at hk, by simp⟩
  · simp [Value.cells] at hcs
    obtain ⟨rfl, rfl, rfl⟩ := hcs
    have hm' : m = cap := by simpa using hmm
    subst hm'
    have key : ∀ q, q ≤ len → ∃ xs : List OpV, xs.length = q ∧ ∀ k (hk : k < xs.length), w.cell? (a.add (k * 3)) = some (.int .u8 xs[k].kind) ∧ w.cell? ((a.add (k * 3)).add 1) = some (.int .i64 xs[k].id) ∧ w.cell? ((a.add (k * 3)).add 2) = some xs[k].kv ∧ xs[k].kind ≤ 255 ∧ (Lit.int .i64 xs[k].id).wf = true ∧ TextsA w xs[k].kv xs[k].ks := by
      intro q
      induction q with
      | zero => intro _; exact ⟨[], rfl, fun k hk => by simp at hk⟩
      | succ q ih =>
        intro hq
        obtain ⟨xs, hxl, hx⟩ := ih (by omega)
        obtain ⟨cs', hc, ht⟩ := hi q (by omega)
        rw [cells30] at hc
        obtain ⟨av, rfl, hr⟩ := op_cells ht
        obtain ⟨_, _, hat⟩ := World.cells?_some hc
        have g0 := hat 0 (by omega); have g1 := hat 1 (by omega); have g2 := hat 2 (by omega)
        refine ⟨xs ++ [av], by simp [hxl], fun k hk => ?_⟩
        by_cases hkq : k < xs.length
        · rw [List.getElem_append_left hkq]; exact hx k hkq
        · obtain rfl : k = xs.length := by simp at hk; omega
          rw [List.getElem_append_right (Nat.le_refl _)]
          simp only [Nat.sub_self, List.getElem_cons_zero]
          rw [hxl]
          refine ⟨?_, g1, g2, hr⟩
          have : (a.add (q * 3)).add 0 = a.add (q * 3) := by simp [Addr.add]
          rw [this] at g0; exact g0
    obtain ⟨xs, hxl, hx⟩ := key len (Nat.le_refl _)
    refine ⟨some a, xs, m, by rw [hxl], fun k hk => ?_, by rw [hxl]; exact Nat.le_trans hl hm⟩
    obtain ⟨e0, e1, e2, e3⟩ := hx k hk
    have hz := (hx 0 (by omega)).1
    obtain ⟨b, off, spot⟩ := a
    have hspot : spot = none := by simpa [Addr.add] using World.cell?_spot hz
    subst hspot
    rw [add_plain] at e0 e1 e2
    rw [add_plain] at e1 e2
    exact ⟨b, off, rfl, World.block_lt_of_cell? _ _ e0, e0, e1, e2, e3⟩
end
end Go.Proofs.Ytgbhhofmghgpbaa
