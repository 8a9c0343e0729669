/- Events in a row; maps whose keys are places (a node, and who asks there). -/
import Derived.Test.YtlddpdlebdjniaaDoorCount
import Derived.Maps.OwnSet
import Derived.Maps.OwnOps
import Derived.Maps.Ext
import Derived.Maps.RangeWalk
import Derived.DeepKeys5
namespace Go.Proofs.YtlddpdlebdjniaaDoor
set_option linter.unusedSimpArgs false
open Go.RowKit Go.Maps Go.ChangeMaps
set_option linter.unusedVariables false

def EventsAt (w : World) (A : Option Addr) (xs : List Ev) : Prop := ∀ k (hk : k < xs.length), ∃ b off cs, A = some ⟨b, off, none⟩ ∧ b < w.heap.size ∧ EvC cs xs[k] ∧
  ∀ j u, cs[j]? = some u → w.cell? ⟨b, off + k * 57 + j, none⟩ = some u
theorem EventsAt.ext {w w' : World} {A : Option Addr} {xs : List Ev} (h : EventsAt w A xs) (hx : Ext w w') : EventsAt w' A xs := fun k hk => by
  obtain ⟨b, off, cs, e, hb, h1, h2⟩ := h k hk
  exact ⟨b, off, cs, e, hx.lt hb, h1, fun j u hj => Ext.cell hx (h2 j u hj)⟩
theorem laidOut : laidOutB Tryd.prog = true := by kernel_rfl
theorem law71 : Keyed Tryd.prog 73 := Keyed.of_law (deep_law_gate laidOut (of_decide_eq_true (by kernel_rfl)) (of_decide_eq_true (by kernel_rfl)) (by kernel_rfl) (by kernel_rfl))
def plV (n w : Int) : Value := .agg #[.int .i64 n, .int .i64 w]
def pkey (n w : Int) : Lit := .string (keyBytes [.int .i64 n, .int .i64 w])
theorem tsize : ∃ m, Tryd.prog.types.size = m + 1 := ⟨Tryd.prog.types.size - 1, by kernel_rfl⟩
theorem ktype71 : Tryd.prog.keyType 73 = true := by kernel_rfl
theorem pl71 : ∃ f0 f1, Tryd.prog.underlying 73 = some (.struct #[f0, f1]) ∧ f0.type = 3 ∧ f0.offset = 0 ∧ f1.type = 3 ∧ f1.offset = 1 ∧ f0.name ≠ "_" ∧ f1.name ≠ "_" := ⟨_, _, Tryd.underlying73, rfl, rfl, rfl, rfl, by decide, by decide⟩
theorem cells71 : Tryd.prog.cellsOf 73 = 2 := by kernel_rfl
theorem cells3 : Tryd.prog.cellsOf 3 = 1 := by kernel_rfl
theorem key71 {n w : Int} (hn : (Lit.int .i64 n).wf = true) (hw : (Lit.int .i64 w).wf = true) : keyOf Tryd.prog 73 (plV n w) = some (pkey n w) := by
  obtain ⟨f0, f1, hu, t0, o0, t1, o1, n0, n1⟩ := pl71
  obtain ⟨m, hm⟩ := tsize
  unfold keyOf plV pkey
  simp only [hu]
  rw [if_pos (by simp [ktype71, Value.formed, hu, cells71]), hm]
  unfold Program.keyLits
  simp only [hu, Value.cells]
  rw [if_pos (by simp [cells71, n0, n1])]
  simp [t0, o0, t1, o1, cells3, Program.keyLits, Tryd.underlying3, hn, hw]
set_option maxRecDepth 100000 in
theorem key71_inv {key : Value} {kl : Lit} (h : keyOf Tryd.prog 73 key = some kl) : ∃ n w, key = plV n w ∧ kl = pkey n w ∧ (Lit.int .i64 n).wf = true ∧ (Lit.int .i64 w).wf = true := by
  obtain ⟨f0, f1, hu, t0, o0, t1, o1, n0, n1⟩ := pl71
  obtain ⟨m, hm⟩ := tsize
  have h' := h
  unfold keyOf at h
  simp only [hu] at h
  split at h
  · rename_i hc
    simp only [Bool.and_eq_true] at hc
    obtain ⟨_, hf⟩ := hc
    have hk : ∃ c0 c1, key = .agg #[c0, c1] := by
      cases key <;> simp [Value.formed, hu] at hf
      rename_i cs
      have hs : cs.size = 2 := by simpa [cells71] using hf
      obtain ⟨l⟩ := cs
      match l, hs with
      | [c0, c1], _ => exact ⟨c0, c1, rfl⟩
    obtain ⟨c0, c1, rfl⟩ := hk
    rw [hm] at h
    unfold Program.keyLits at h
    simp only [hu, Value.cells] at h
    rw [if_pos (by simp [cells71, n0, n1])] at h
    have inv : ∀ (c : Value) (l : List Lit), Tryd.prog.keyLits (m + 1) 3 [c] = some l → ∃ n, c = .int .i64 n ∧ l = [.int .i64 n] ∧ (Lit.int .i64 n).wf = true := by
      intro c l hl
      unfold Program.keyLits at hl
      rw [Tryd.underlying3] at hl
      cases c <;> simp at hl
      rename_i q n
      obtain ⟨⟨rfl, hw⟩, rfl⟩ := hl
      exact ⟨n, rfl, rfl, hw⟩
    cases h0 : Tryd.prog.keyLits (m + 1) 3 [c0] with
    | none => simp [t0, o0, t1, o1, cells3, h0] at h
    | some l0 =>
      cases h1 : Tryd.prog.keyLits (m + 1) 3 [c1] with
      | none => simp [t0, o0, t1, o1, cells3, h0, h1] at h
      | some l1 =>
        obtain ⟨a, rfl, rfl, ha⟩ := inv c0 l0 h0
        obtain ⟨b, rfl, rfl, hb⟩ := inv c1 l1 h1
        exact ⟨a, b, rfl, (Option.some.inj (h'.symm.trans (key71 ha hb))), ha, hb⟩
  · cases h
theorem pkey_inj {n w n' w' : Int} (hn : (Lit.int .i64 n).wf = true) (hw : (Lit.int .i64 w).wf = true) (hn' : (Lit.int .i64 n').wf = true) (hw' : (Lit.int .i64 w').wf = true) (h : pkey n w = pkey n' w') : n = n' ∧ w = w' := by
  have h1 := key71 hn hw
  have h2 := key71 hn' hw'
  rw [← h] at h2
  have := law71.inj h1 h2
  simp [plV] at this
  exact this
theorem pkey_isKey (n w : Int) : WideAt.IsKeyLit (pkey n w) := by unfold pkey; trivial
end Go.Proofs.YtlddpdlebdjniaaDoor
