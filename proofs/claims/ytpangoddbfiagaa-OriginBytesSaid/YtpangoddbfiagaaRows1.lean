/- Slices read, rows owned, appends. -/
import Derived.Test.YtpangoddbfiagaaChk3
import Derived.OwnWalk
import Derived.Laws.AppendOwnNone
import Derived.Laws.OwnMore
namespace Go.Proofs.Ytpangoddbfiagaa
open Go.RowKit
set_option linter.unusedVariables false
set_option linter.unusedSimpArgs false

theorem add_plain (b off j : Nat) : (⟨b, off, none⟩ : Addr).add j = ⟨b, off + j, none⟩ := by unfold Addr.add; split <;> simp_all
/-- A slice of one-cell elements, read. -/
def RowAt (w : World) (v : Value) (xs : List Value) : Prop :=
  ∃ (A : Option Addr) (c : Nat), v = .slice A xs.length c ∧ xs.length ≤ c ∧ (A = none → c = 0) ∧ ∀ j (hj : j < xs.length), ∃ b off, A = some ⟨b, off, none⟩ ∧ w.cell? ⟨b, off + j, none⟩ = some xs[j]
def strV (t : Bs) : Value := .string ⟨t.toArray⟩
def byteV (b : UInt8) : Value := .int .u8 b.toNat
theorem TextsAt.row {w : World} {v : Value} {ss : List Bs} (h : TextsAt w v ss) : RowAt w v (ss.map strV) := by
  obtain ⟨A, c, h1, h2, h3, h4⟩ := h
  refine ⟨A, c, by simpa using h1, by simpa using h2, h3, fun j hj => ?_⟩
  simp at hj
  obtain ⟨b, off, e1, e2⟩ := h4 j hj
  exact ⟨b, off, e1, by rw [e2]; simp [strV]⟩
theorem RowAt.texts {w : World} {v : Value} {ss : List Bs} (h : RowAt w v (ss.map strV)) : TextsAt w v ss := by
  obtain ⟨A, c, h1, h2, h3, h4⟩ := h
  refine ⟨A, c, by simpa using h1, by simpa using h2, h3, fun j hj => ?_⟩
  obtain ⟨b, off, e1, e2⟩ := h4 j (by simpa using hj)
  exact ⟨b, off, e1, by rw [e2]; simp [strV]⟩
theorem RowAt.ext {w w' : World} {v : Value} {xs : List Value} (h : RowAt w v xs) (hx : Ext w w') : RowAt w' v xs := by
  obtain ⟨A, c, h1, h2, h3, h4⟩ := h
  exact ⟨A, c, h1, h2, h3, fun j hj => by obtain ⟨b, off, e1, e2⟩ := h4 j hj; exact ⟨b, off, e1, hx.cell e2⟩⟩
/-- A slice of bytes, read. -/
def BytesAt (w : World) (v : Value) (bs : Bs) : Prop := RowAt w v (bs.map byteV)
theorem BytesAt.ext {w w' : World} {v : Value} {bs : Bs} (h : BytesAt w v bs) (hx : Ext w w') : BytesAt w' v bs := RowAt.ext h hx
theorem own_row {w : World} {base : Nat} {e : TypeId} {v : Value} {xs : List Value} (h : w.ownsRow base e 1 v xs.length xs) : RowAt w v xs := by
  have h' := h
  rcases h.2 with ⟨rfl, h0⟩ | ⟨g, cap, cur, rfl, hb, hgg, h1, h2, h3, h4⟩
  · exact ⟨none, 0, by rw [h0], by omega, fun _ => rfl, fun j hj => by omega⟩
  · refine ⟨some ⟨g, 0, none⟩, cap, rfl, h1, fun e => by (cases e), fun j hj => ⟨g, 0, rfl, ?_⟩⟩
    rw [World.ownsRow.cellAt h' _ (by omega)]
    simp [hj]
theorem info_parts {P : Program} {e : TypeId} {z : Value} {size bytes : Nat} (h : (P.info? e).map (fun i => (i.zero, i.size, i.bytes)) = some (some z, size, bytes)) : ∃ i, P.info? e = some i ∧ i.zero = some z ∧ i.size = size ∧ i.bytes = bytes := by
  cases hi : P.info? e with
  | none => rw [hi] at h; cases h
  | some i =>
    rw [hi] at h
    simp at h
    exact ⟨i, rfl, h.1, h.2.1, h.2.2⟩
theorem info9 : (Try.prog.info? 9).map (fun i => (i.zero, i.size, i.bytes)) = some (some (.string ⟨#[]⟩), 1, 16) := by kernel_rfl
theorem info5 : (Try.prog.info? 5).map (fun i => (i.zero, i.size, i.bytes)) = some (some (.int .u8 0), 1, 1) := by kernel_rfl
set_option maxRecDepth 100000 in
/-- 'append(v, u...)' of a row of one-cell elements of the call's own, u any slice. -/
theorem wpList_append_at {W : World} {ops : Array Oper} {rest : List Oper} {o : Oper} {a : Act} {Q : Exit → Act → World → Prop} (t e : TypeId) (z : Value) (bytes : Nat) (ht : Try.prog.underlying t = some (.slice e)) (hinfo : (Try.prog.info? e).map (fun i => (i.zero, i.size, i.bytes)) = some (some z, 1, bytes)) (hzs : z.cells.size = 1) (hby : bytes ≤ 16)
    (hgd : o.guard = none) (s x : Operand) (ho : o.op = .call { callee := .builtin .append, args := #[s, x], argTypes := #[t, t] })
    (base : Nat) (v u : Value) (ys xs : List Value) (hown : W.ownsRow base e 1 v ys.length ys) (hsrc : RowAt W u xs) (hone : ∀ q ∈ xs, q.oneCell' = true) (hs : a.eval s = v) (hx : a.eval x = u)
    (hlen : ys.length + xs.length ≤ 1000000) (hbase : base ≤ W.heap.size)
    (h : ∀ v' w', w'.ownsRow base e 1 v' (ys ++ xs).length (ys ++ xs) → W.grownBy w' v.ownBlock → wpList Try.prog ops Q rest (a.put o.dst v') w') : wpList Try.prog ops Q (o :: rest) a W := by
  obtain ⟨i0, hi, hz0, hz1, hz2⟩ := info_parts hinfo
  obtain ⟨A, c, rfl, hc0, hc1, hc⟩ := hsrc
  cases A with
  | none =>
    have hx0 : xs = [] := by
      cases xs with
      | nil => rfl
      | cons x xs => obtain ⟨b, off, e, _⟩ := hc 0 (by simp); cases e
    subst hx0
    have hc0 := hc1 rfl
    subst hc0
    refine wpList_append_own_none hgd s x t ho base e i0 1 ht hi v _ _ hs hown hx ?_
    exact h v W (by simpa using hown) ⟨rfl, rfl, rfl, Nat.le_refl _, fun _ _ _ => rfl⟩
  | some A =>
    refine wpList_append_own _ hgd s x t ho base e i0 _ 1 bytes ht hi hz0 hz1 hz2 hzs (by decide) v _ _ hs hown A xs.length c xs hx (by simp) ?_ hone (by unfold maxLen; omega) ?_ hbase ?_
    · intro j q hq
      by_cases hj : j < xs.length
      · obtain ⟨b, off, e, hcell⟩ := hc j hj
        injection e with e
        subst e
        rw [List.getElem?_eq_getElem hj] at hq
        simp at hq
        subst hq
        rw [add_plain]; exact hcell
      · rw [List.getElem?_eq_none (by omega)] at hq
        cases hq
    · exact Nat.le_trans (Nat.mul_le_mul hlen hby) (by decide)
    · intro v' w' q1 q2 _
      exact h v' w' (by rw [List.length_append]; exact q1) q2
/-- A row of texts of one's own. -/
def SRow (w : World) (base : Nat) (v : Value) (ss : List Bs) : Prop := w.ownsRow base 9 1 v ss.length (ss.map strV)
theorem SRow.texts {w : World} {base : Nat} {v : Value} {ss : List Bs} (h : SRow w base v ss) : TextsAt w v ss := by
  have : w.ownsRow base 9 1 v (ss.map strV).length (ss.map strV) := by rw [List.length_map]; exact h
  exact (own_row this).texts
theorem own_extB {w w' : World} {X : List Nat} {base : Nat} {e : TypeId} {size : Nat} {v : Value} {n : Nat} {xs : List Value} (h : w.ownsRow base e size v n xs) (hx : ExtB X w w') (hX : ∀ g ∈ X, v.ownBlock ≠ some g) : w'.ownsRow base e size v n xs := by
  refine ⟨h.1, ?_⟩
  rcases h.2 with h2 | ⟨g, cap, cur, rfl, hb, hgg, r⟩
  · exact .inl h2
  · exact .inr ⟨g, cap, cur, rfl, hb, hx.heap hgg (fun hh => hX g hh rfl), r⟩
theorem own_low {w : World} {base : Nat} {e : TypeId} {size : Nat} {v : Value} {n : Nat} {xs : List Value} (h : w.ownsRow base e size v n xs) {g : Nat} (hg : g < base) : v.ownBlock ≠ some g := fun e => by
  have := (h.lt g e).1; omega
/-- 'append([]string(nil), u...)'. -/
theorem wpList_copyS {W : World} {ops : Array Oper} {rest : List Oper} {o : Oper} {a : Act} {Q : Exit → Act → World → Prop}
    (hgd : o.guard = none) (s x : Operand) (ho : o.op = .call { callee := .builtin .append, args := #[s, x], argTypes := #[36, 36] }) (u : Value) (ss : List Bs) (hsrc : TextsAt W u ss) (hs : a.eval s = .slice none 0 0) (hx : a.eval x = u) (hlen : ss.length ≤ 1000000)
    (h : ∀ v' w', SRow w' W.heap.size v' ss → Ext W w' → wpList Try.prog ops Q rest (a.put o.dst v') w') : wpList Try.prog ops Q (o :: rest) a W :=
  wpList_append_at 36 9 _ 16 Try.underlying36 info9 rfl (by decide) hgd s x ho W.heap.size (.slice none 0 0) u [] (ss.map strV) (World.ownsRow_nil _ _ _ _) hsrc.row (by intro q hq; obtain ⟨z, _, rfl⟩ := List.mem_map.1 hq; rfl) hs hx (by simpa using hlen) (Nat.le_refl _) fun v' w' h1 h2 =>
    h v' w' (by unfold SRow; simpa using h1) (own_below (World.ownsRow_nil W W.heap.size 9 1) h2 (Nat.le_refl _))
/-- A row of bytes of one's own. -/
def BRow (w : World) (base : Nat) (v : Value) (bs : Bs) : Prop := w.ownsRow base 5 1 v bs.length (bs.map byteV)
theorem BRow.at_ {w : World} {base : Nat} {v : Value} {bs : Bs} (h : BRow w base v bs) : BytesAt w v bs := by
  have : w.ownsRow base 5 1 v (bs.map byteV).length (bs.map byteV) := by rw [List.length_map]; exact h
  exact own_row this
/-- 'append(v, u...)' of bytes. -/
theorem wpList_appendB {W : World} {ops : Array Oper} {rest : List Oper} {o : Oper} {a : Act} {Q : Exit → Act → World → Prop}
    (hgd : o.guard = none) (s x : Operand) (ho : o.op = .call { callee := .builtin .append, args := #[s, x], argTypes := #[22, 22] }) (base : Nat) (v u : Value) (ys bs : Bs) (hown : BRow W base v ys) (hsrc : BytesAt W u bs) (hs : a.eval s = v) (hx : a.eval x = u) (hlen : ys.length + bs.length ≤ 1000000) (hbase : base ≤ W.heap.size)
    (h : ∀ v' w', BRow w' base v' (ys ++ bs) → W.grownBy w' v.ownBlock → wpList Try.prog ops Q rest (a.put o.dst v') w') : wpList Try.prog ops Q (o :: rest) a W :=
  wpList_append_at 22 5 _ 1 Try.underlying22 info5 rfl (by decide) hgd s x ho base v u (ys.map byteV) (bs.map byteV) (by rw [List.length_map]; exact hown) hsrc (by intro q hq; obtain ⟨z, _, rfl⟩ := List.mem_map.1 hq; rfl) hs hx (by simpa using hlen) hbase fun v' w' h1 h2 =>
    h v' w' (by
      unfold BRow
      have e : (ys ++ bs).length = (ys.map byteV ++ bs.map byteV).length := by simp
      rw [List.map_append, e]; exact h1) h2
/-- 'append([]byte(nil), u...)'. -/
theorem wpList_copyB {W : World} {ops : Array Oper} {rest : List Oper} {o : Oper} {a : Act} {Q : Exit → Act → World → Prop}
    (hgd : o.guard = none) (s x : Operand) (ho : o.op = .call { callee := .builtin .append, args := #[s, x], argTypes := #[22, 22] }) (u : Value) (bs : Bs) (hsrc : BytesAt W u bs) (hs : a.eval s = .slice none 0 0) (hx : a.eval x = u) (hlen : bs.length ≤ 1000000)
    (h : ∀ v' w', BRow w' W.heap.size v' bs → Ext W w' → wpList Try.prog ops Q rest (a.put o.dst v') w') : wpList Try.prog ops Q (o :: rest) a W :=
  wpList_appendB hgd s x ho W.heap.size (.slice none 0 0) u [] bs (World.ownsRow_nil _ _ _ _) hsrc hs hx (by simpa using hlen) (Nat.le_refl _) fun v' w' h1 h2 =>
    h v' w' h1 (own_below (World.ownsRow_nil W W.heap.size 5 1) h2 (Nat.le_refl _))
end Go.Proofs.Ytpangoddbfiagaa
