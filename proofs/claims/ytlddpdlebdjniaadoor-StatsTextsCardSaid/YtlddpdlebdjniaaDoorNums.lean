/- stats.numbers, walked. -/
import Derived.Test.YtlddpdlebdjniaaDoorSortF
namespace Go.Proofs.YtlddpdlebdjniaaDoor
set_option linter.unusedSimpArgs false
open Go.RowKit Go.Maps Go.ChangeMaps Go.Sort Go.Shelf
set_option linter.unusedVariables false

def IRow (w : World) (B : Nat) (v : Value) (zs : List Int) : Prop := w.ownsRow B 2 1 v zs.length (zs.map (Value.int .i64))
/-- The slice value sv holds the texts ss. -/
def Texts (n0 : Nat) (W : World) (sv : Value) (ss : List Bs) : Prop :=
  ∃ (A : Option Addr) (c : Nat), sv = .slice A ss.length c ∧ ∀ j (hj : j < ss.length), ∃ b off, A = some ⟨b, off, none⟩ ∧ b < n0 ∧ W.cell? ⟨b, off + j, none⟩ = some (encStr ss[j])
theorem SRow.texts {w : World} {B : Nat} {v : Value} {ss : List Bs} (h : SRow w B v ss) : Texts w.heap.size w v ss := by
  have h' := h
  rcases h.2 with ⟨rfl, h0⟩ | ⟨g, cap, cur, rfl, hb, hg, _⟩
  · exact ⟨none, 0, by rw [h0], fun j hj => by omega⟩
  · refine ⟨_, cap, rfl, fun j hj => ⟨g, 0, rfl, blk_lt hg, ?_⟩⟩
    rw [Nat.zero_add, World.ownsRow.cellAt h' j (by omega)]
    simp [hj]
theorem texts_up {w w' : World} (hx : Ext w w') {sv : Value} {ss : List Bs} (h : Texts w.heap.size w sv ss) : Texts w'.heap.size w' sv ss := by
  obtain ⟨a, c, e, hc⟩ := h
  refine ⟨a, c, e, fun j hj => ?_⟩
  obtain ⟨b, off, e1, e2, e3⟩ := hc j hj
  exact ⟨b, off, e1, hx.lt e2, Ext.cell hx e3⟩
theorem info2 : (Tryd.prog.info? 2).map (fun i => (i.zero, i.size, i.bytes)) = some (some (.int .i64 0), 1, 8) := by kernel_rfl
theorem wpList_append_int {W : World} {ops : Array Oper} {rest : List Oper} {o : Oper} {a : Act} {Q : Exit → Act → World → Prop}
    (hgd : o.guard = none) (s x : Operand) (ho : o.op = .call { callee := .builtin .append, args := #[s, x], argTypes := #[55, 55] })
    (B : Nat) (v : Value) (zs : List Int) (z : Int) (hown : IRow W B v zs) (hs' : a.eval s = v) (gN : Nat) (hx : a.eval x = .slice (some ⟨gN, 0, none⟩) 1 1) (hgN : W.heap.size = gN)
    (hl : zs.length ≤ 1000000) (hB : B ≤ W.heap.size)
    (hK : ∀ v' w', IRow w' B v' (zs ++ [z]) → W.grownBy w' v.ownBlock → wpList Tryd.prog ops Q rest (a.put o.dst v') w') :
    wpList Tryd.prog ops Q (o :: rest) a (W.alloc (.cells #[.int .i64 z] 2)) := by
  obtain ⟨i0, hi, hz0, hz1, hz2⟩ := info_parts info2
  refine wpList_append_one hgd s x 55 ho B 2 i0 _ 1 8 Tryd.underlying55 hi hz0 hz1 hz2 rfl (by decide) v _ _ hs' hown #[.int .i64 z] gN hx hgN rfl (by simp [Value.oneCell']) (by unfold maxLen; omega) (by omega) hB ?_
  intro v' w' h1 h2 h3
  refine hK v' w' ?_ h2
  unfold IRow
  rw [List.map_append, List.length_append]
  exact h1
set_option maxRecDepth 100000 in
set_option maxHeartbeats 2000000 in
theorem numbers_any (w : World) (sv : Value) (ts : List Bs) (m N : Nat) (M : Bs → Int) (hT : Texts w.heap.size w sv ts) (hl : ts.length ≤ 1000000) (hs : ∀ t ∈ ts, t.length ≤ 1000000) (hM : ByAt w m N M) :
    Calls Tryd.prog 22 #[sv, .map (some m)] w fun e w' => ∃ v, e = .returned v ∧ IRow w' w.heap.size v (ts.map M) ∧ Ext w w' := by
  obtain ⟨A, c, rfl, hc⟩ := hT
  obtain ⟨n, hn⟩ : ∃ n, n = ts.length := ⟨_, rfl⟩
  rw [← hn] at hl ⊢
  have HC := Lib.hid hc; have HN := Lib.hid hn; have HS := Lib.hid hs; have HM := Lib.hid hM
  clear hc hn hs hM
  go_enter Tryd.func22, Tryd.ntmps22
  go_wp2
  go_loopw [10, 5, 7] (fun i out _ wr => ∃ j : Nat, j ≤ n ∧ i = .int .i64 j ∧ IRow wr w.heap.size out ((ts.take j).map M) ∧ Ext w wr) (fun i _ _ _ => n - (intOf i).toNat)
  case atStart => exact ⟨0, by omega, rfl, World.ownsRow_nil _ _ _ _, Ext.refl _⟩
  case round =>
    obtain ⟨j, hj, rfl, hrow, hx⟩ := hrel
    have HR := Lib.hid hrow; have HX := Lib.hid hx
    clear hrow hx
    by_cases hlt : j < n
    · have hjs : j < ts.length := by rw [← HN.out]; exact hlt
      obtain ⟨b, off, rfl, hb, hcell⟩ := HC.out j hjs
      have htk : ts.take (j + 1) = ts.take j ++ [ts[j]] := List.take_succ_eq_append_getElem hjs
      have hkl := HS.out ts[j] (by simp)
      obtain ⟨k, hkk⟩ : ∃ k, k = ts[j] := ⟨_, rfl⟩
      rw [← hkk] at hcell htk hkl
      have hcl : wr.cell? ⟨b, off + j, none⟩ = some (.string ⟨k.toArray⟩) := Ext.cell HX.out hcell
      have hlk := (HM.out.ext HX.out).look hkl
      have HTK := Lib.hid htk
      have hlen : ((ts.take j).map M).length ≤ 1000000 := by rw [List.length_map, List.length_take]; omega
      clear htk hkk hcell hjs
      go_wp2_with (at_builtin; refine wpList_append_int rfl _ _ rfl w.heap.size _ _ (M k) HR.out rfl _ rfl ?c0 hlen ?c2 ?_)
      case c0 => simp
      case c2 => exact HX.out.size
      intro v' w' q1 g1
      have R2 : Hid (IRow w' w.heap.size v' ((ts.take (j + 1)).map M) ∧ Ext w w') := Lib.hid ⟨by rw [HTK.out, List.map_append, List.map_take]; exact q1, RowKit.Below.trans HX.out (own_below HR.out g1 HX.out.size)⟩
      clear q1 g1 HR
      go_wp2
      go_roundw
      case rel => exact ⟨j + 1, by omega, by go_num, R2.out.1, R2.out.2⟩
      case measure => first | (simp [intOf]; done) | (simp [intOf]; omega)
    · have hjn : ts.take j = ts := List.take_of_length_le (by have := HN.out; omega)
      rw [hjn] at HR
      go_wp2
      go_ret
      exact ⟨_, rfl, HR.out, HX.out⟩
end Go.Proofs.YtlddpdlebdjniaaDoor
