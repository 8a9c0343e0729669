/- The statements' arguments, opened; the table that the rows list. -/
import Derived.Test.YtjphpblangeblaaDoorLawB
import Derived.Test.YtjphpblangeblaaDoorRows
import Derived.Test.YtjphpblangeblaaDoorCards
import Derived.Test.YtjphpblangeblaaDoorTie
import Derived.ProofKit
import Derived.OpenShut
import Derived.ShutString
import Derived.ChangeOld
import Derived.Deep.Slices
import Derived.Lib.SmallJoins
import Derived.Deep.DeepHandedRow
import Derived.Lib.LaidTab
namespace Go.Proofs.YtjphpblangeblaaDoor
open Go.ChangeShapes Go.WideShapes Go.ChangeAt Go.RowKit Go.Deep Go.Joins
open Go.ChangeMaps (open_string shut_string)
set_option linter.unusedVariables false
set_option linter.unusedSimpArgs false

theorem own : ownKnob Tryd.prog.godebug = none := by kernel_rfl
theorem laidOut : laidOutB Tryd.prog = true := by kernel_rfl
theorem cells38 : Tryd.prog.cellsOf 38 = 3 := by kernel_rfl
theorem cells24 : Tryd.prog.cellsOf 24 = 2 := by kernel_rfl
theorem cells22 : Tryd.prog.cellsOf 22 = 1 := by kernel_rfl
theorem cells9 : Tryd.prog.cellsOf 9 = 1 := by kernel_rfl
theorem cells3 : Tryd.prog.cellsOf 3 = 1 := by kernel_rfl
theorem cells5 : Tryd.prog.cellsOf 5 = 1 := by kernel_rfl
theorem len2 {α : Type} : ∀ {l : List α}, l.length = 2 → ∃ a b, l = [a, b]
  | [a, b], _ => ⟨a, b, rfl⟩
theorem len3 {α : Type} : ∀ {l : List α}, l.length = 3 → ∃ a b c, l = [a, b, c]
  | [a, b, c], _ => ⟨a, b, c, rfl⟩
section
variable {H : Type} {enc : TypeId × Value → H} {w : World} {base : Nat} {spare : Nat → Bool} {held : Bool}
theorem op_of {m : Nat} {c0 c1 c2 : Value} {y0 y1 y2 : DataW H × List MemPlace} (f0 : DataW.trod enc Tryd.prog w base spare held m 5 [c0] = some y0) (f1 : DataW.trod enc Tryd.prog w base spare held m 9 [c1] = some y1) (f2 : DataW.trod enc Tryd.prog w base spare held m 3 [c2] = some y2) : ∃ o : OpP, [c0, c1, c2] = encOp o := by
  obtain ⟨k, e0, _, wf⟩ := DataW.trod_int Tryd.underlying5 f0
  obtain ⟨s, e1, _, _⟩ := DataW.trod_string Tryd.underlying9 f1
  obtain ⟨n, e2, _, _⟩ := DataW.trod_int Tryd.underlying3 f2
  simp at e0 e1 e2
  obtain ⟨k', rfl⟩ : ∃ k' : Nat, k = k' := ⟨k.toNat, by
    have : 0 ≤ k := by simp [Lit.wf, IntKind.min, IntKind.max, IntKind.signed, IntKind.bits] at wf; omega
    omega⟩
  exact ⟨⟨k', s.data.toList, n⟩, by simp [encOp, e0, e1, e2]⟩
/-- One call, cell by cell. -/
theorem op_cells {fuel : Nat} {cs : List Value} {x : DataW H × List MemPlace} (h : DataW.trod enc Tryd.prog w base spare held fuel 38 cs = some x) : ∃ o : OpP, cs = encOp o := by
  obtain ⟨ys, m, _, _, hlen, hyl, hf⟩ := DataW.trod_struct Tryd.underlying38 h
  rw [cells38] at hlen
  obtain ⟨c0, c1, c2, rfl⟩ := len3 hlen
  · clear hlen
    have f0 := hf 0 _ rfl
    have f1 := hf 1 _ rfl
    have f2 := hf 2 _ rfl
    have f0' : DataW.trod enc Tryd.prog w base spare held m 5 (([c0, c1, c2].drop 0).take (Tryd.prog.cellsOf 5)) = ys[0]? := f0
    have f1' : DataW.trod enc Tryd.prog w base spare held m 9 (([c0, c1, c2].drop 1).take (Tryd.prog.cellsOf 9)) = ys[1]? := f1
    have f2' : DataW.trod enc Tryd.prog w base spare held m 3 (([c0, c1, c2].drop 2).take (Tryd.prog.cellsOf 3)) = ys[2]? := f2
    clear f0 f1 f2
    rw [cells5] at f0'
    rw [cells9] at f1'
    rw [cells3] at f2'
    have hy : ys.length = 3 := hyl
    obtain ⟨y0, y1, y2, rfl⟩ := len3 hy
    exact op_of f0' f1' f2'
/-- A slice of calls. -/
theorem ops_open {fuel : Nat} {v : Value} {x : DataW H × List MemPlace} (h : DataW.trod enc Tryd.prog w base (fun _ => true) held fuel 22 [v] = some x) : ∃ (A : Option Addr) (xs : List OpP) (c : Nat), v = .slice A xs.length c ∧ OpsAt w (.slice A xs.length c) xs ∧ xs.length ≤ 9223372036854775807 := by
  rcases open_slice Tryd.underlying22 h with ⟨hcs, _⟩ | ⟨a, len', cap', m, n, D, Pl, hcs, _, hl, hm, hmm, _, hi⟩
  · simp at hcs
    subst hcs
    exact ⟨none, [], 0, rfl, ⟨none, 0, rfl, Nat.le_refl _, fun _ => rfl, fun k hk => by simp at hk⟩, by simp⟩
  · simp at hcs
    subst hcs
    have hm' : m = cap' := by simpa using hmm
    subst hm'
    have key : ∀ q, q ≤ len' → ∃ xs : List OpP, xs.length = q ∧ ∀ k (hk : k < xs.length), ∀ t u, (encOp xs[k])[t]? = some u → w.cell? ((a.add (k * 3)).add t) = some u := by
      intro q
      induction q with
      | zero => intro _; exact ⟨[], rfl, fun k hk => by simp at hk⟩
      | succ q ih =>
        intro hq
        obtain ⟨xs, hxl, hx⟩ := ih (by omega)
        obtain ⟨cs', hc, ht⟩ := hi q (by omega)
        rw [cells38] at hc
        obtain ⟨o, rfl⟩ := op_cells ht
        obtain ⟨_, _, hat⟩ := World.cells?_some hc
        refine ⟨xs ++ [o], by simp [hxl], fun k hk t u hu => ?_⟩
        by_cases hkq : k < xs.length
        · rw [List.getElem_append_left hkq] at hu; exact hx k hkq t u hu
        · obtain rfl : k = xs.length := by simp at hk; omega
          rw [List.getElem_append_right (Nat.le_refl _)] at hu
          simp only [Nat.sub_self, List.getElem_cons_zero] at hu
          rw [hxl]
          have ht3 : t < 3 := by rw [← encOp_len o]; exact (List.getElem?_eq_some_iff.1 hu).1
          rw [hat t ht3]
          exact hu
    obtain ⟨xs, hxl, hx⟩ := key len' (Nat.le_refl _)
    refine ⟨some a, xs, m, by rw [hxl], ⟨some a, m, rfl, by omega, fun e => (by cases e), fun k hk => ?_⟩, by rw [hxl]; unfold maxLen at hm; omega⟩
    have hz := hx k hk 0 _ rfl
    obtain ⟨b, off, spot⟩ := a
    have hspot : spot = none := by
      have h7 := World.cell?_spot (hx 0 (by omega) 0 _ rfl)
      simpa [Addr.add] using h7
    subst hspot
    refine ⟨b, off, rfl, ?_, fun t u hu => ?_⟩
    · rw [add_plain, add_plain] at hz
      exact World.block_lt_of_cell? _ ⟨b, _, none⟩ hz
    · have := hx k hk t u hu
      rw [add_plain, add_plain] at this
      exact this
theorem make_cells {fuel : Nat} {cs : List Value} {x : DataW H × List MemPlace} (h : DataW.trod enc Tryd.prog w base (fun _ => true) held fuel 24 cs = some x) :
    ∃ (q : Int) (A : Option Addr) (xs : List OpP) (c : Nat), cs = [.int .i64 q, .slice A xs.length c] ∧ OpsAt w (.slice A xs.length c) xs ∧ xs.length ≤ 9223372036854775807 := by
  obtain ⟨ys, m, _, _, hlen, hyl, hf⟩ := DataW.trod_struct Tryd.underlying24 h
  rw [cells24] at hlen
  obtain ⟨c0, c1, rfl⟩ := len2 hlen
  clear hlen
  have hy : ys.length = 2 := hyl
  obtain ⟨y0, y1, rfl⟩ := len2 hy
  have f0 : DataW.trod enc Tryd.prog w base (fun _ => true) held m 3 (([c0, c1].drop 0).take (Tryd.prog.cellsOf 3)) = some y0 := hf 0 _ rfl
  have f1 : DataW.trod enc Tryd.prog w base (fun _ => true) held m 22 (([c0, c1].drop 1).take (Tryd.prog.cellsOf 22)) = some y1 := hf 1 _ rfl
  rw [cells3] at f0
  rw [cells22] at f1
  obtain ⟨q, e0, _, _⟩ := DataW.trod_int Tryd.underlying3 f0
  obtain ⟨A, xs, c, rfl, h2, h3⟩ := ops_open f1
  simp at e0
  exact ⟨q, A, xs, c, by simp [e0], h2, h3⟩
set_option maxRecDepth 100000 in
theorem make_open {v : Value} {d : DataW H} {p : List MemPlace} {r : Reach} {b0 : Nat} (hv : Value.okWide Tryd.prog w r b0 24 v) (h : DataW.Trod enc Tryd.prog w base (fun _ => true) held 24 v d p) :
    ∃ (q : Int) (A : Option Addr) (xs : List OpP) (c : Nat), v = .agg #[.int .i64 q, .slice A xs.length c] ∧ OpsAt w (.slice A xs.length c) xs ∧ xs.length ≤ 9223372036854775807 := by
  simp only [Value.okWide, Tryd.underlying24] at hv
  obtain ⟨cs, rfl, hsz, _⟩ := hv
  obtain ⟨fuel, hf⟩ := h
  obtain ⟨q, A, xs, c, ha, h2, h3⟩ := make_cells hf
  have h3' : cs.toList = [.int .i64 q, .slice A xs.length c] := ha
  have h4 : cs = #[.int .i64 q, .slice A xs.length c] := by rw [← Array.toList_inj, h3']
  exact ⟨q, A, xs, c, by rw [h4], h2, h3⟩
set_option maxRecDepth 100000 in
theorem op_open {v : Value} {d : DataW H} {p : List MemPlace} {r : Reach} {b0 : Nat} (hv : Value.okWide Tryd.prog w r b0 38 v) (h : DataW.Trod enc Tryd.prog w base spare held 38 v d p) : ∃ o : OpP, v = .agg #[.int .u8 o.kind, .string ⟨o.nm.toArray⟩, .int .i64 o.wgt] := by
  simp only [Value.okWide, Tryd.underlying38] at hv
  obtain ⟨cs, rfl, hsz, _⟩ := hv
  obtain ⟨fuel, hf⟩ := h
  obtain ⟨o, ha⟩ := op_cells hf
  have h3' : cs.toList = encOp o := ha
  have h4 : cs = (encOp o).toArray := by rw [← h3']
  exact ⟨o, by rw [h4]; simp [encOp]⟩
end
end Go.Proofs.YtjphpblangeblaaDoor
