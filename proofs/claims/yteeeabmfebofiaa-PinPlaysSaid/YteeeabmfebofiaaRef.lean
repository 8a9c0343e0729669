/- The reference's functions, walked. -/
import Derived.Test.YteeeabmfebofiaaIsort
import Derived.Laws.AppendOwnNone
import Derived.Deep.QuietTactic
import Derived.BigQuiet
namespace Go.Proofs.Yteeeabmfebofiaa
open Go.RowKit
set_option linter.unusedVariables false

def VRow (e : TypeId) (w : World) (B : Nat) (v : Value) (xs : List Value) : Prop := w.ownsRow B e 1 v xs.length xs
def bools (bs : List Bool) : List Value := bs.map fun b => .bool b
def BRow (w : World) (B : Nat) (v : Value) (bs : List Bool) : Prop := w.ownsRow B 4 1 v bs.length (bools bs)
theorem info4 : (Try.prog.info? 4).map (fun i => (i.zero, i.size, i.bytes)) = some (some (.bool false), 1, 1) := by kernel_rfl
theorem BRow.nil (w : World) (B : Nat) : BRow w B (.slice none 0 0) [] := World.ownsRow_nil _ _ _ _
theorem BRow.slice {w : World} {B : Nat} {v : Value} {zs : List Bool} (h : BRow w B v zs) : ∃ A c, v = .slice A zs.length c := own_slice h
theorem BRow.fz {w w' : World} {B B' : Nat} {v : Value} {hs : List Bool} (h : BRow w B v hs) (hf : Fz B' w w') : BRow w' B v hs := hf.owns h (by decide) (by decide) (by decide)
theorem BRow.ext {w w' : World} {B : Nat} {v : Value} {zs : List Bool} (h : BRow w B v zs) (hf : Ext w w') : BRow w' B v zs := ownsRow_below h hf
theorem BRow.get {w : World} {B : Nat} {v : Value} {zs : List Bool} (h : BRow w B v zs) {i : Nat} (hi : i < zs.length) : ∃ g c, v = .slice (some ⟨g, 0, none⟩) zs.length c ∧ w.cell? ⟨g, i, none⟩ = some (.bool zs[i]) := by
  rcases h.2 with ⟨_, h0⟩ | ⟨g, cap, cur, rfl, hb, hgg, _, _, _, ht⟩
  · omega
  · refine ⟨g, cap, rfl, ?_⟩
    rw [blk_cell hgg]
    have : (bools zs)[i]? = some (.bool zs[i]) := by simp [bools, hi]
    rw [← ht, List.getElem?_take] at this
    split at this
    · simpa using this
    · cases this
theorem bools_len (bs : List Bool) : (bools bs).length = bs.length := by simp [bools]
theorem ints_len (bs : List Int) : (ints bs).length = bs.length := by simp [ints]

/-- 'append(v, u...)' of a row of one-cell elements, u any row of the call's own or nil. -/
theorem wpList_append_row {W : World} {ops : Array Oper} {rest : List Oper} {o : Oper} {a : Act} {Q : Exit → Act → World → Prop} (t e : TypeId) (z : Value) (bytes : Nat) (ht : Try.prog.underlying t = some (.slice e)) (hinfo : (Try.prog.info? e).map (fun i => (i.zero, i.size, i.bytes)) = some (some z, 1, bytes)) (hzs : z.cells.size = 1) (hby : bytes ≤ 8)
    (hgd : o.guard = none) (s x : Operand) (ho : o.op = .call { callee := .builtin .append, args := #[s, x], argTypes := #[t, t] })
    (base B : Nat) (v u : Value) (ys xs : List Value) (hown : W.ownsRow base e 1 v ys.length ys) (hsrc : W.ownsRow B e 1 u xs.length xs) (hone : ∀ q ∈ xs, q.oneCell' = true) (hs : a.eval s = v) (hx : a.eval x = u)
    (hlen : ys.length + xs.length ≤ 1000000) (hbase : base ≤ W.heap.size)
    (h : ∀ v' w', w'.ownsRow base e 1 v' (ys ++ xs).length (ys ++ xs) → W.grownBy w' v.ownBlock → wpList Try.prog ops Q rest (a.put o.dst v') w') : wpList Try.prog ops Q (o :: rest) a W := by
  obtain ⟨i0, hi, hz0, hz1, hz2⟩ := info_parts hinfo
  rcases hsrc.2 with ⟨rfl, h0⟩ | ⟨g, cap, cur, rfl, hb, hgg, h1, h2, h3, h4⟩
  · have hx0 : xs = [] := List.length_eq_zero_iff.1 h0
    subst hx0
    refine wpList_append_own_none hgd s x t ho base e i0 1 ht hi v _ _ hs hown hx ?_
    exact h v W (by simpa using hown) ⟨rfl, rfl, rfl, Nat.le_refl _, fun _ _ _ => rfl⟩
  · refine wpList_append_own _ hgd s x t ho base e i0 _ 1 bytes ht hi hz0 hz1 hz2 hzs (by decide) v _ _ hs hown ⟨g, 0, none⟩ xs.length cap xs hx (by simp) ?_ hone (by unfold maxLen; omega) ?_ hbase ?_
    · intro j q hq
      have : (⟨g, 0, none⟩ : Addr).add j = ⟨g, j, none⟩ := by unfold Addr.add; split <;> simp_all
      rw [this, blk_cell hgg]
      rw [← h4, List.getElem?_take] at hq
      split at hq
      · simpa using hq
      · cases hq
    · have : (ys.length + xs.length) * bytes ≤ 1000000 * 8 := Nat.mul_le_mul hlen hby
      omega
    · intro v' w' q1 q2 _
      exact h v' w' (by rw [List.length_append]; exact q1) q2

set_option maxRecDepth 100000 in
theorem in_any (w : World) (B : Nat) (v : Value) (zs : List Int) (k : Int) (h : IRow w B v zs) (hl : zs.length ≤ 1000000) :
    Calls Try.prog 33 #[v, .int .i64 k] w fun e w' => e = .returned (.bool (decide (k ∈ zs))) ∧ w = w' := by
  obtain ⟨A, c, rfl⟩ := h.slice
  obtain ⟨n, hn⟩ : ∃ n, n = zs.length := ⟨_, rfl⟩
  rw [← hn] at hl ⊢
  have H := Lib.hid h; have HN := Lib.hid hn
  clear h hn
  go_enter Try.func33, Try.ntmps33
  go_wp2
  go_loop [5] (fun i => ∃ j : Nat, j ≤ n ∧ i = .int .i64 j ∧ k ∉ zs.take j) (fun i => n - (intOf i).toNat)
  case atStart => exact ⟨0, by omega, rfl, by simp⟩
  case round =>
    obtain ⟨j, hj, rfl, hno⟩ := hrel
    have HNO := Lib.hid hno
    clear hno
    by_cases hlt : j < n
    · have hjz : j < zs.length := by rw [← HN.out]; exact hlt
      obtain ⟨g, c', hvv, hc⟩ := H.out.get (i := j) hjz
      injection hvv with hv1 hv2 hv3
      subst hv1
      have htk : zs.take (j + 1) = zs.take j ++ [zs[j]] := List.take_succ_eq_append_getElem hjz
      have hmem : zs[j] ∈ zs := by simp
      obtain ⟨z, hz⟩ : ∃ z, z = zs[j] := ⟨_, rfl⟩
      rw [← hz] at hc htk hmem
      have HTK := Lib.hid htk; have HMEM := Lib.hid hmem
      clear hv2 hv3 hz htk hmem hjz
      cases hzk : (z == k)
      · go_wp2
        go_round
        case rel =>
          refine ⟨j + 1, by omega, by go_num, ?_⟩
          rw [HTK.out]
          have h1 := HNO.out
          have h2 : z ≠ k := by simpa using hzk
          intro e
          rcases List.mem_append.1 e with e | e
          · exact h1 e
          · simp at e; exact h2 e.symm
        case measure => simp [intOf]; omega
      · go_wp2
        go_ret
        refine ⟨ret_bool ?_, rfl⟩
        have h1 := HMEM.out
        have h2 : z = k := by simpa using hzk
        rw [← h2]
        exact (decide_eq_true h1).symm
    · have hjn : zs.take j = zs := List.take_of_length_le (by rw [← HN.out]; omega)
      rw [hjn] at HNO
      go_wp2
      go_ret
      exact ⟨ret_bool (decide_eq_false HNO.out).symm, rfl⟩
end Go.Proofs.Yteeeabmfebofiaa
