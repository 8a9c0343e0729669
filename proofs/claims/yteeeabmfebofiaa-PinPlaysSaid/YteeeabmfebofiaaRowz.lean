/- The statements' list of holds in memory. -/
import Derived.Test.YteeeabmfebofiaaWakes
namespace Go.Proofs.Yteeeabmfebofiaa
open Go.RowKit Go.ChangeMaps Go.Maps
set_option linter.unusedVariables false

def ptrs (hs : List Nat) : List Value := hs.map fun h => .pointer (some ⟨h, 0, none⟩)
def HRow (w : World) (B : Nat) (v : Value) (hs : List Nat) : Prop := w.ownsRow B 26 1 v hs.length (ptrs hs)
theorem info26 : (Try.prog.info? 26).map (fun i => (i.zero, i.size, i.bytes)) = some (some (.pointer none), 1, 8) := by kernel_rfl
theorem HRow.nil (w : World) (B : Nat) : HRow w B (.slice none 0 0) [] := World.ownsRow_nil _ _ _ _
theorem HRow.fz {w w' : World} {B B' : Nat} {v : Value} {hs : List Nat} (h : HRow w B v hs) (hf : Fz B' w w') : HRow w' B v hs := hf.owns h (by decide) (by decide) (by decide)
theorem HRow.ext {w w' : World} {B : Nat} {v : Value} {hs : List Nat} (h : HRow w B v hs) (hf : Ext w w') : HRow w' B v hs := ownsRow_below h hf
theorem HRow.slice {w : World} {B : Nat} {v : Value} {hs : List Nat} (h : HRow w B v hs) : ∃ A c, v = .slice A hs.length c := own_slice h
/-- One hold of the list. -/
theorem HRow.get {w : World} {B : Nat} {v : Value} {hs : List Nat} (h : HRow w B v hs) {i : Nat} (hi : i < hs.length) : ∃ g c, v = .slice (some ⟨g, 0, none⟩) hs.length c ∧ w.cell? ⟨g, i, none⟩ = some (.pointer (some ⟨hs[i], 0, none⟩)) := by
  rcases h.2 with ⟨_, h0⟩ | ⟨g, cap, cur, rfl, hb, hgg, _, _, _, ht⟩
  · omega
  · refine ⟨g, cap, rfl, ?_⟩
    rw [blk_cell hgg]
    have : (ptrs hs)[i]? = some (.pointer (some ⟨hs[i], 0, none⟩)) := by simp [ptrs, hi]
    rw [← ht, List.getElem?_take] at this
    split at this
    · simpa using this
    · cases this
theorem PI.appended {w w' : World} {B b N : Nat} {L : List Hold} {S : List Int} {v : Value} {hs : List Nat} (h : PI w B b N L S) (ho : HRow w B v hs) (hg : w.grownBy w' v.ownBlock) : PI w' B b N L S :=
  h.keeps (Keeps.of_grown ho (by decide) (by decide) (by decide) hg)
theorem wpList_append_hold {W : World} {ops : Array Oper} {rest : List Oper} {o : Oper} {a : Act} {Q : Exit → Act → World → Prop}
    (hgd : o.guard = none) (s x : Operand) (ho : o.op = .call { callee := .builtin .append, args := #[s, x], argTypes := #[25, 25] })
    (B b N : Nat) (L : List Hold) (S : List Int) (v : Value) (hs : List Nat) (h : Nat) (hown : HRow W B v hs) (hp : PI W B b N L S) (hs' : a.eval s = v) (gN : Nat) (hx : a.eval x = .slice (some ⟨gN, 0, none⟩) 1 1) (hgN : W.heap.size = gN)
    (hl : hs.length ≤ 100000)
    (hK : ∀ v' w', HRow w' B v' (hs ++ [h]) → PI w' B b N L S → Below B W w' → W.grownBy w' v.ownBlock → wpList Try.prog ops Q rest (a.put o.dst v') w') :
    wpList Try.prog ops Q (o :: rest) a (W.alloc (.cells #[.pointer (some ⟨h, 0, none⟩)] 26)) := by
  obtain ⟨i0, hi, hz0, hz1, hz2⟩ := info_parts info26
  refine wpList_append_one hgd s x 25 ho B 26 i0 _ 1 8 Try.underlying25 hi hz0 hz1 hz2 rfl (by decide) v _ _ hs' hown #[.pointer (some ⟨h, 0, none⟩)] gN hx hgN rfl (by simp [Value.oneCell']) (by unfold maxLen; omega) (by omega) hp.low ?_
  intro v' w' h1 h2 h3
  refine hK v' w' ?_ (hp.appended hown h2) (own_below hown h2 hp.low) h2
  unfold HRow ptrs
  rw [List.map_append, List.length_append]
  exact h1
end Go.Proofs.Yteeeabmfebofiaa
