/- Base of this seat: slices read, rows owned, appends, structs as wholes, frames. -/
import Derived.Test.YtjphpblangeblaaDoorProg
import Derived.Test.YtjphpblangeblaaDoorKit
import Derived.Test.YtjphpblangeblaaDoorSeg
import Derived.Test.YtjphpblangeblaaDoorSegR
import Derived.WalkKit
import Derived.WalkSpells
import Derived.WalkLawsBesides
import Derived.Deep.QuietTactic
import Derived.BigQuiet
import Derived.BigRegion
import Derived.Lib.Hide
import Derived.Laws.Rows
import Derived.OwnWalk
import Derived.Laws.AppendOwnNone
import Derived.Laws.OwnMore
import Derived.Deep.MidRow
import Derived.Deep.WholeRow
import Derived.Laws.ResultCell
namespace Go.Proofs.YtjphpblangeblaaDoor
open Go.RowKit
set_option linter.unusedVariables false
set_option linter.unusedSimpArgs false

abbrev Bs := List UInt8
theorem ext_alloc1 (W : World) (o : Obj) : Ext W (W.alloc o) := Ext.alloc (Ext.refl _) _
def TextsAt (w : World) (v : Value) (ss : List Bs) : Prop :=
  ∃ (A : Option Addr) (c : Nat), v = .slice A ss.length c ∧ ss.length ≤ c ∧ (A = none → c = 0) ∧ ∀ j (hj : j < ss.length), ∃ b off, A = some ⟨b, off, none⟩ ∧ w.cell? ⟨b, off + j, none⟩ = some (.string ⟨ss[j].toArray⟩)
theorem TextsAt.ext {w w' : World} {v : Value} {ss : List Bs} (h : TextsAt w v ss) (hx : Ext w w') : TextsAt w' v ss := by
  obtain ⟨A, c, h1, h2, h3, h4⟩ := h
  exact ⟨A, c, h1, h2, h3, fun j hj => by obtain ⟨b, off, e1, e2⟩ := h4 j hj; exact ⟨b, off, e1, hx.cell e2⟩⟩
theorem add_plain (b off j : Nat) : (⟨b, off, none⟩ : Addr).add j = ⟨b, off + j, none⟩ := by unfold Addr.add; split <;> simp_all
/-- A slice of one-cell elements, read. -/
def RowAt (w : World) (v : Value) (xs : List Value) : Prop :=
  ∃ (A : Option Addr) (c : Nat), v = .slice A xs.length c ∧ xs.length ≤ c ∧ (A = none → c = 0) ∧ ∀ j (hj : j < xs.length), ∃ b off, A = some ⟨b, off, none⟩ ∧ w.cell? ⟨b, off + j, none⟩ = some xs[j]
def strV (t : Bs) : Value := .string ⟨t.toArray⟩
def byteV (b : UInt8) : Value := .int .u8 b.toNat
theorem TextsAt.row {w : World} {v : Value} {ss : List Bs} (h : TextsAt w v ss) : RowAt w v (ss.map strV) := by
  obtain ⟨A, c, h1, h2, h3, h4⟩ := h
  refine ⟨A, c, by simpa using h1, by simpa using h2, h3, fun j hj => ?_⟩
  simp at hj
  obtain ⟨b, off, e1, e2⟩ := h4 j hj
  exact ⟨b, off, e1, by rw [e2]; simp [strV]⟩
theorem RowAt.texts {w : World} {v : Value} {ss : List Bs} (h : RowAt w v (ss.map strV)) : TextsAt w v ss := by
  obtain ⟨A, c, h1, h2, h3, h4⟩ := h
  refine ⟨A, c, by simpa using h1, by simpa using h2, h3, fun j hj => ?_⟩
  obtain ⟨b, off, e1, e2⟩ := h4 j (by simpa using hj)
  exact ⟨b, off, e1, by rw [e2]; simp [strV]⟩
theorem RowAt.ext {w w' : World} {v : Value} {xs : List Value} (h : RowAt w v xs) (hx : Ext w w') : RowAt w' v xs := by
  obtain ⟨A, c, h1, h2, h3, h4⟩ := h
  exact ⟨A, c, h1, h2, h3, fun j hj => by obtain ⟨b, off, e1, e2⟩ := h4 j hj; exact ⟨b, off, e1, hx.cell e2⟩⟩
/-- A slice of bytes, read. -/
def BytesAt (w : World) (v : Value) (bs : Bs) : Prop := RowAt w v (bs.map byteV)
theorem BytesAt.ext {w w' : World} {v : Value} {bs : Bs} (h : BytesAt w v bs) (hx : Ext w w') : BytesAt w' v bs := RowAt.ext h hx
theorem own_row {w : World} {base : Nat} {e : TypeId} {v : Value} {xs : List Value} (h : w.ownsRow base e 1 v xs.length xs) : RowAt w v xs := by
  have h' := h
  rcases h.2 with ⟨rfl, h0⟩ | ⟨g, cap, cur, rfl, hb, hgg, h1, h2, h3, h4⟩
  · exact ⟨none, 0, by rw [h0], by omega, fun _ => rfl, fun j hj => by omega⟩
  · refine ⟨some ⟨g, 0, none⟩, cap, rfl, h1, fun e => by (cases e), fun j hj => ⟨g, 0, rfl, ?_⟩⟩
    rw [World.ownsRow.cellAt h' _ (by omega)]
    simp [hj]
theorem info_parts {P : Program} {e : TypeId} {z : Value} {size bytes : Nat} (h : (P.info? e).map (fun i => (i.zero, i.size, i.bytes)) = some (some z, size, bytes)) : ∃ i, P.info? e = some i ∧ i.zero = some z ∧ i.size = size ∧ i.bytes = bytes := by
  cases hi : P.info? e with
  | none => rw [hi] at h; cases h
  | some i =>
    rw [hi] at h
    simp at h
    exact ⟨i, rfl, h.1, h.2.1, h.2.2⟩
theorem info9 : (Tryd.prog.info? 9).map (fun i => (i.zero, i.size, i.bytes)) = some (some (.string ⟨#[]⟩), 1, 16) := by kernel_rfl
set_option maxRecDepth 100000 in
/-- 'append(v, u...)' of a row of one-cell elements of the call's own, u any slice. -/
theorem wpList_append_at {W : World} {ops : Array Oper} {rest : List Oper} {o : Oper} {a : Act} {Q : Exit → Act → World → Prop} (t e : TypeId) (z : Value) (bytes : Nat) (ht : Tryd.prog.underlying t = some (.slice e)) (hinfo : (Tryd.prog.info? e).map (fun i => (i.zero, i.size, i.bytes)) = some (some z, 1, bytes)) (hzs : z.cells.size = 1) (hby : bytes ≤ 16)
    (hgd : o.guard = none) (s x : Operand) (ho : o.op = .call { callee := .builtin .append, args := #[s, x], argTypes := #[t, t] })
    (base : Nat) (v u : Value) (ys xs : List Value) (hown : W.ownsRow base e 1 v ys.length ys) (hsrc : RowAt W u xs) (hone : ∀ q ∈ xs, q.oneCell' = true) (hs : a.eval s = v) (hx : a.eval x = u)
    (hlen : ys.length + xs.length ≤ 1000000) (hbase : base ≤ W.heap.size)
    (h : ∀ v' w', w'.ownsRow base e 1 v' (ys ++ xs).length (ys ++ xs) → W.grownBy w' v.ownBlock → wpList Tryd.prog ops Q rest (a.put o.dst v') w') : wpList Tryd.prog ops Q (o :: rest) a W := by
  obtain ⟨i0, hi, hz0, hz1, hz2⟩ := info_parts hinfo
  obtain ⟨A, c, rfl, hc0, hc1, hc⟩ := hsrc
  cases A with
  | none =>
    have hx0 : xs = [] := by
      cases xs with
      | nil => rfl
      | cons x xs => obtain ⟨b, off, e, _⟩ := hc 0 (by simp); cases e
    subst hx0
    have hc0 := hc1 rfl
    subst hc0
    refine wpList_append_own_none hgd s x t ho base e i0 1 ht hi v _ _ hs hown hx ?_
    exact h v W (by simpa using hown) ⟨rfl, rfl, rfl, Nat.le_refl _, fun _ _ _ => rfl⟩
  | some A =>
    refine wpList_append_own _ hgd s x t ho base e i0 _ 1 bytes ht hi hz0 hz1 hz2 hzs (by decide) v _ _ hs hown A xs.length c xs hx (by simp) ?_ hone (by unfold maxLen; omega) ?_ hbase ?_
    · intro j q hq
      by_cases hj : j < xs.length
      · obtain ⟨b, off, e, hcell⟩ := hc j hj
        injection e with e
        subst e
        rw [List.getElem?_eq_getElem hj] at hq
        simp at hq
        subst hq
        rw [add_plain]; exact hcell
      · rw [List.getElem?_eq_none (by omega)] at hq
        cases hq
    · exact Nat.le_trans (Nat.mul_le_mul hlen hby) (by decide)
    · intro v' w' q1 q2 _
      exact h v' w' (by rw [List.length_append]; exact q1) q2
/-- A row of texts of one's own. -/
def SRow (w : World) (base : Nat) (v : Value) (ss : List Bs) : Prop := w.ownsRow base 9 1 v ss.length (ss.map strV)
theorem SRow.texts {w : World} {base : Nat} {v : Value} {ss : List Bs} (h : SRow w base v ss) : TextsAt w v ss := by
  have : w.ownsRow base 9 1 v (ss.map strV).length (ss.map strV) := by rw [List.length_map]; exact h
  exact (own_row this).texts
theorem own_extB {w w' : World} {X : List Nat} {base : Nat} {e : TypeId} {size : Nat} {v : Value} {n : Nat} {xs : List Value} (h : w.ownsRow base e size v n xs) (hx : ExtB X w w') (hX : ∀ g ∈ X, v.ownBlock ≠ some g) : w'.ownsRow base e size v n xs := by
  refine ⟨h.1, ?_⟩
  rcases h.2 with h2 | ⟨g, cap, cur, rfl, hb, hgg, r⟩
  · exact .inl h2
  · exact .inr ⟨g, cap, cur, rfl, hb, hx.heap hgg (fun hh => hX g hh rfl), r⟩
theorem own_low {w : World} {base : Nat} {e : TypeId} {size : Nat} {v : Value} {n : Nat} {xs : List Value} (h : w.ownsRow base e size v n xs) {g : Nat} (hg : g < base) : v.ownBlock ≠ some g := fun e => by
  have := (h.lt g e).1; omega
/-- 'append([]string(nil), u...)'. -/
theorem wpList_copyS {W : World} {ops : Array Oper} {rest : List Oper} {o : Oper} {a : Act} {Q : Exit → Act → World → Prop}
    (hgd : o.guard = none) (s x : Operand) (ho : o.op = .call { callee := .builtin .append, args := #[s, x], argTypes := #[31, 31] }) (u : Value) (ss : List Bs) (hsrc : TextsAt W u ss) (hs : a.eval s = .slice none 0 0) (hx : a.eval x = u) (hlen : ss.length ≤ 1000000)
    (h : ∀ v' w', SRow w' W.heap.size v' ss → Ext W w' → wpList Tryd.prog ops Q rest (a.put o.dst v') w') : wpList Tryd.prog ops Q (o :: rest) a W :=
  wpList_append_at 31 9 _ 16 Tryd.underlying31 info9 rfl (by decide) hgd s x ho W.heap.size (.slice none 0 0) u [] (ss.map strV) (World.ownsRow_nil _ _ _ _) hsrc.row (by intro q hq; obtain ⟨z, _, rfl⟩ := List.mem_map.1 hq; rfl) hs hx (by simpa using hlen) (Nat.le_refl _) fun v' w' h1 h2 =>
    h v' w' (by unfold SRow; simpa using h1) (own_below (World.ownsRow_nil W W.heap.size 9 1) h2 (Nat.le_refl _))
def putA (cur : Array Value) (o : Nat) : List Value → Array Value
  | [] => cur
  | u :: us => putA (cur.setIfInBounds o u) (o + 1) us
theorem setCells_at (b : Nat) (e : TypeId) (z : Nat × Nat) : ∀ (us : List Value) (o : Nat) (cur : Array Value) (w : World), w.heap[b]? = some (.cells cur e z) → (w.setCells b o us).heap[b]? = some (.cells (putA cur o us) e z)
  | [], o, cur, w, h => by simpa [World.setCells, putA] using h
  | u :: us, o, cur, w, h => by
    simp only [World.setCells, putA]
    exact setCells_at b e z us (o + 1) _ _ (blk_set h o u)
theorem setCells_ext (b : Nat) : ∀ (us : List Value) (o : Nat) (w : World), ExtB [b] w (w.setCells b o us) ∧ (w.setCells b o us).heap.size = w.heap.size
  | [], o, w => ⟨by simpa [World.setCells] using ExtB.refl _ _, rfl⟩
  | u :: us, o, w => by
    simp only [World.setCells]
    obtain ⟨h1, h2⟩ := setCells_ext b us (o + 1) (w.setCell ⟨b, o, none⟩ u)
    have h3 : ExtB [b] w (w.setCell ⟨b, o, none⟩ u) := (ExtB.refl [b] w).setCell (.inl (by simp)) u
    exact ⟨h3.trans h1, by rw [h2]; simp [World.setCell]⟩
section
variable {ops : Array Oper} {rest : List Oper} {o : Oper} {a : Act} {w : World} {Q : Exit → Act → World → Prop}
/-- 'new(T)' of a struct. -/
theorem wpList_new (ty : TypeId) (Z : Array Value) (hz : ∀ w, (zeroValue ty).run Tryd.prog w = .ok (.agg Z) w) (hgd : o.guard = none) (ho : o.op = .alloc ty)
    (h : ∀ W1, Ext w W1 → W1.heap[w.heap.size]? = some (.cells Z ty (0, 0)) → W1.heap.size = w.heap.size + 1 → wpList Tryd.prog ops Q rest (a.put o.dst (.pointer (some ⟨w.heap.size, 0, none⟩))) W1) : wpList Tryd.prog ops Q (o :: rest) a w :=
  wpList_plain hgd fun K hK => by
    unfold Oper.wp
    simp [execOp, ho, Instr.alloc, hz, newVar, Value.cells, Result.andThen]
    exact hK _ _ (h _ (ext_alloc1 _ _) (heap_alloc_new w _) (by simp))
/-- '&T{..}', or a variable that holds a struct. -/
theorem wpList_boxA (ty : TypeId) (hgd : o.guard = none) (x : Operand) (ho : o.op = .box ty x) (cs : Array Value) (hx : a.eval x = .agg cs)
    (h : ∀ W1, Ext w W1 → W1.heap[w.heap.size]? = some (.cells cs ty (0, 0)) → W1.heap.size = w.heap.size + 1 → wpList Tryd.prog ops Q rest (a.put o.dst (.pointer (some ⟨w.heap.size, 0, none⟩))) W1) : wpList Tryd.prog ops Q (o :: rest) a w :=
  wpList_plain hgd fun K hK => by
    unfold Oper.wp
    simp [execOp, ho, hx, Instr.box, newVar, Value.cells, Result.andThen]
    exact hK _ _ (h _ (ext_alloc1 _ _) (heap_alloc_new w _) (by simp))
theorem run_put {w : World} {g off : Nat} {ty e : TypeId} {v : Value} {cur : Array Value} (us : List Value) (hv : v.cells.toList = us) (hg : w.heap[g]? = some (.cells cur e (0, 0))) (hl : off + us.length ≤ cur.size) (h1 : us.all (·.oneCell') = true) (hi : (Tryd.prog.info? ty).map (·.size) = some us.length) :
    (storeVar ty ⟨g, off, none⟩ v).run Tryd.prog w = .ok () (w.setCells g off us) := by
  have := run_storeCells_cells (P := Tryd.prog) g off us 0 w (fun j hj => by
      rw [blk_cell hg, Array.getElem?_eq_getElem (by omega)]; rfl) (fun j hj => blk_free hg _) (fun u hu => List.all_eq_true.1 h1 u hu)
  cases hq : Tryd.prog.info? ty with
  | none => simp [hq] at hi
  | some i =>
    have hs : us.length = i.size := by simp [hq] at hi; omega
    have hc : v.cells = us.toArray := by rw [← hv]
    simp only [Nat.add_zero] at this
    simp [storeVar, sizeOf, typeInfo, hq, hc, hs, this]
/-- '*p = v', or a field of it. -/
theorem wpList_put (ty : TypeId) (hgd : o.guard = none) (x y : Operand) (ho : o.op = .store ty x y) (g off : Nat) (e : TypeId) (cur new : Array Value) (us : List Value) (v : Value) (hg : w.heap[g]? = some (.cells cur e (0, 0))) (hx : a.eval x = .pointer (some ⟨g, off, none⟩)) (hy : a.eval y = v) (hv : v.cells.toList = us)
    (hl : off + us.length ≤ cur.size) (h1 : us.all (·.oneCell') = true) (hi : (Tryd.prog.info? ty).map (·.size) = some us.length) (hn : putA cur off us = new)
    (h : ∀ W1, ExtB [g] w W1 → W1.heap[g]? = some (.cells new e (0, 0)) → W1.heap.size = w.heap.size → wpList Tryd.prog ops Q rest (a.put o.dst undef) W1) : wpList Tryd.prog ops Q (o :: rest) a w :=
  wpList_plain hgd fun K hK => by
    unfold Oper.wp execOp
    simp only [ho, hx, hy, Instr.storeAt, Instr.sureAddr, Sem.run_bind, Sem.run_pure, Result.andThen_ok, run_put us hv hg hl h1 hi]
    refine hK _ _ (h _ (setCells_ext g us off w).1 ?_ (setCells_ext g us off w).2)
    rw [← hn]
    exact setCells_at g e (0, 0) us off cur w hg
theorem range_of {w : World} {g off : Nat} {e : TypeId} {z : Nat × Nat} {cur : Array Value} {cs : List Value} (hg : w.heap[g]? = some (.cells cur e z)) (hc : (cur.toList.drop off).take cs.length = cs) : w.rangeAt g off cs := by
  intro j v hv
  rw [blk_cell hg]
  rw [← hc, List.getElem?_take] at hv
  split at hv
  · simpa using hv
  · cases hv
/-- 'v = *p', or a field of it that is a struct. -/
theorem wpList_get (ty : TypeId) (d : TypeDesc) (hgd : o.guard = none) (x : Operand) (ho : o.op = .load ty x) (g off : Nat) (e : TypeId) (cur : Array Value) (cs : List Value) (hg : w.heap[g]? = some (.cells cur e (0, 0))) (hx : a.eval x = .pointer (some ⟨g, off, none⟩))
    (hc : (cur.toList.drop off).take cs.length = cs) (hu : Tryd.prog.underlying ty = some d) (hd : d.isRow = true) (hi : (Tryd.prog.info? ty).map (·.size) = some cs.length)
    (h : wpList Tryd.prog ops Q rest (a.put o.dst (.agg cs.toArray)) w) : wpList Tryd.prog ops Q (o :: rest) a w :=
  wpList_load_mid hgd ty x ho g off hx cs d (range_of hg hc) hu hd hi h
end
theorem Ext.thenB {w W W1 : World} {X : List Nat} (h : Ext w W) (k : ExtB X W W1) (hx : ∀ g ∈ X, w.heap.size ≤ g) : Ext w W1 :=
  ⟨k.os.trans h.os, k.tape.trans h.tape, k.output.trans h.output, Nat.le_trans h.size k.size, fun i hi => (k.block i (h.lt hi) (fun hh => by have := hx i hh; omega)).trans (h.block i hi)⟩
set_option maxRecDepth 100000 in
/-- Nothing of w has turned in w' but what is owned; new blocks may lie behind it. -/
structure ExtP (own : Nat → Prop) (w w' : World) : Prop where
  os : w'.os = w.os
  tape : w'.tape = w.tape
  output : w'.output = w.output
  size : w.heap.size ≤ w'.heap.size
  block : ∀ k, k < w.heap.size → ¬ own k → w'.heap[k]? = w.heap[k]?
theorem ExtP.of {own : Nat → Prop} {w w' : World} (h : Ext w w') : ExtP own w w' := ⟨h.os, h.tape, h.output, h.size, fun k hk _ => h.block k hk⟩
theorem ExtP.ofB {own : Nat → Prop} {w w' : World} {X : List Nat} (h : ExtB X w w') (hX : ∀ k ∈ X, own k ∨ w.heap.size ≤ k) : ExtP own w w' := ⟨h.os, h.tape, h.output, h.size, fun k hk hn => h.block k hk fun hh => by
  rcases hX k hh with h1 | h1
  · exact hn h1
  · omega⟩
theorem ExtP.trans {own own1 : Nat → Prop} {w w1 w2 : World} (h : ExtP own w w1) (k : ExtP own1 w1 w2) (ho : ∀ i, own1 i → own i ∨ w.heap.size ≤ i) : ExtP own w w2 :=
  ⟨k.os.trans h.os, k.tape.trans h.tape, k.output.trans h.output, Nat.le_trans h.size k.size, fun i hi hn => (k.block i (Nat.lt_of_lt_of_le hi h.size) (fun h1 => by
    rcases ho i h1 with h2 | h2
    · exact hn h2
    · omega)).trans (h.block i hi hn)⟩
theorem ExtP.below {own : Nat → Prop} {w w' : World} {B : Nat} (h : ExtP own w w') (hB : B ≤ w.heap.size) (hX : ∀ k, own k → B ≤ k) : Below B w w' :=
  ⟨h.os, h.tape, h.output, h.size, fun k hk => h.block k (Nat.lt_of_lt_of_le hk hB) (fun hh => by have := hX k hh; omega)⟩
/-- What is owned, and what is new. -/
def grownOwn (own : Nat → Prop) (w w' : World) : Nat → Prop := fun i => own i ∨ (w.heap.size ≤ i ∧ i < w'.heap.size)

/-! ### Rows of structs -/
theorem flat_len {α : Type} (enc : α → List Value) (k : Nat) (henc : ∀ x, (enc x).length = k) : ∀ xs : List α, (xs.flatMap enc).length = xs.length * k
  | [] => by simp
  | x :: xs => by rw [List.flatMap_cons, List.length_append, henc, flat_len enc k henc xs, List.length_cons, Nat.add_mul, Nat.one_mul, Nat.add_comm]
theorem flat_get {α : Type} (enc : α → List Value) (k : Nat) (henc : ∀ x, (enc x).length = k) : ∀ (xs : List α) (j t : Nat) (hj : j < xs.length), t < k → (xs.flatMap enc)[j * k + t]? = (enc xs[j])[t]?
  | x :: xs, 0, t, _, ht => by
    rw [List.flatMap_cons, List.getElem?_append_left (by rw [henc]; omega)]; simp
  | x :: xs, j + 1, t, hj, ht => by
    rw [List.flatMap_cons, List.getElem?_append_right (by rw [henc, Nat.add_mul]; omega), henc]
    have := flat_get enc k henc xs j t (by simpa using hj) ht
    rw [show (j + 1) * k + t - k = j * k + t by rw [Nat.add_mul]; omega, this]; rfl
/-- A row of one's own, of structs. -/
def KRow {α : Type} (enc : α → List Value) (k : Nat) (e : TypeId) (w : World) (B : Nat) (v : Value) (xs : List α) : Prop := w.ownsRow B e k v xs.length (xs.flatMap enc)
/-- Where an append's row lies then. -/
theorem run_append_whereK {w : World} (base : Nat) (t ty e : TypeId) (i : TypeInfo) (z : Value) (size bytes : Nat) (ht : Tryd.prog.underlying t = some (.slice e)) (hi : Tryd.prog.info? e = some i) (hz : i.zero = some z) (hsize : i.size = size) (hby : i.bytes = bytes) (hzs : z.cells.size = size) (hsz : 0 < size)
    (v : Value) (n : Nat) (xs : List Value) (hown : w.ownsRow base e size v n xs)
    (a : Addr) (m c : Nat) (news : List Value) (hl : news.length = m * size) (hnews : ∀ j u, news[j]? = some u → w.cell? (a.add j) = some u) (h1 : ∀ u ∈ news, u.oneCell' = true)
    (h63 : n + m ≤ maxLen) (hbytes : (n + m) * bytes ≤ 140737488355328) {v' : Value} {w' : World} (hr : (Builtin.append_ #[t, t] ty #[v, .slice (some a) m c]).run Tryd.prog w = .ok v' w') : ∀ x, v'.ownBlock = some x → v.ownBlock = some x ∨ w.heap.size ≤ x := by
  rcases hown.2 with ⟨rfl, rfl⟩ | ⟨g, cap, cur, rfl, hbg, hg, hnc, hcm, hcs, htake⟩
  · have hx : xs = [] := List.eq_nil_of_length_eq_zero (by simpa using hown.1)
    subst hx
    obtain ⟨v2, w2, hr2, h2, _, _⟩ := run_append_own (P := Tryd.prog) w w.heap.size t ty e i z size bytes ht hi hz hsize hby hzs hsz (.slice none 0 0) 0 [] (World.ownsRow_nil _ _ _ _) a m c news hl hnews h1 h63 hbytes (Nat.le_refl _)
    rw [hr] at hr2
    cases hr2
    exact fun x hx => .inr (h2.lt x hx).1
  · subst hsize
    by_cases hroom : n + m ≤ cap
    · have hr2 := run_append_room (P := Tryd.prog) w t ty e i ht hi g n cap cur hg a m c news hl hnews h1 hroom (by rw [hl, hcs, ← Nat.add_mul]; exact Nat.mul_le_mul_right _ hroom)
      rw [hr] at hr2
      cases hr2
      exact fun x hx => .inl hx
    · have holds : ∀ j u, xs[j]? = some u → w.cell? ((⟨g, 0, none⟩ : Addr).add j) = some u := hown.cells (g := g) rfl
      have hr2 := run_append_grow (P := Tryd.prog) w t ty e i z ht hi hz ⟨g, 0, none⟩ n cap xs hown.1 holds a m c news hl hnews (by omega) (by unfold maxLen at h63; omega) (growslice_fits (by omega) (by rw [hby]; exact hbytes))
      rw [hr] at hr2
      cases hr2
      exact fun x hx => .inr (by cases hx; exact Nat.le_refl _)
theorem grownBy_extB {w w' : World} {r : Option Nat} (h : w.grownBy w' r) : ExtB r.toList w w' := ⟨h.os, h.tape, h.output, h.size, fun k hk hx => h.block k hk (fun e => hx (by rw [← e]; simp))⟩
section
variable {α : Type} {enc : α → List Value} {k : Nat} {e : TypeId} {w w' : World} {B : Nat} {v : Value} {xs : List α}
theorem KRow.at_ {A : Option Addr} {n c : Nat} (h : KRow enc k e w B (.slice A n c) xs) (henc : ∀ x, (enc x).length = k) {j : Nat} (hj : j < xs.length) :
    ∃ g, A = some ⟨g, 0, none⟩ ∧ g < w.heap.size ∧ B ≤ g ∧ ∀ t, t < k → w.cell? ⟨g, j * k + t, none⟩ = (enc xs[j])[t]? := by
  have h' : w.ownsRow B e k (.slice A n c) xs.length (xs.flatMap enc) := h
  rcases h'.2 with ⟨hv, h0⟩ | ⟨g, cap, cur, hv, hb, hg, h1, h2, h3, h4⟩
  · omega
  · injection hv with q1 q2 q3
    subst q1 q2 q3
    refine ⟨g, rfl, blk_lt hg, hb, fun t ht => ?_⟩
    have hlt : j * k + t < xs.length * k := by
      have : (j + 1) * k ≤ xs.length * k := Nat.mul_le_mul_right k hj
      rw [Nat.add_mul] at this; omega
    rw [World.ownsRow.cellAt h' _ hlt]
    rw [← flat_get enc k henc xs j t hj ht]
theorem KRow.slice (h : KRow enc k e w B v xs) : ∃ A c, v = .slice A xs.length c := own_slice h
theorem KRow.ext (h : KRow enc k e w B v xs) (hx : Ext w w') : KRow enc k e w' B v xs := ownsRow_below h hx
theorem KRow.extB {X : List Nat} (h : KRow enc k e w B v xs) (hx : ExtB X w w') (hX : ∀ g ∈ X, v.ownBlock ≠ some g) : KRow enc k e w' B v xs := own_extB h hx hX
theorem KRow.extP {own : Nat → Prop} (h : KRow enc k e w B v xs) (hx : ExtP own w w') (hX : ∀ g, v.ownBlock = some g → ¬ own g) : KRow enc k e w' B v xs := by
  refine ⟨h.1, ?_⟩
  rcases h.2 with h2 | ⟨g, cap, cur, rfl, hb, hgg, r⟩
  · exact .inl h2
  · exact .inr ⟨g, cap, cur, rfl, hb, (hx.block g (blk_lt hgg) (hX g rfl)).trans hgg, r⟩
theorem KRow.nil : KRow enc k e w B (.slice none 0 0) ([] : List α) := World.ownsRow_nil _ _ _ _
theorem KRow.base {B' : Nat} (h : KRow enc k e w B v xs) (hb : B' ≤ B) : KRow enc k e w B' v xs := ownsRow_base h hb
theorem KRow.drew (h : KRow enc k e w B v xs) : KRow enc k e w.drew B v xs := h
theorem KRow.kind (h : KRow enc k e w B v xs) {g : Nat} (hg : v.ownBlock = some g) : ∃ cur, w.heap[g]? = some (.cells cur e (0, 0)) ∧ B ≤ g := by
  rcases h.2 with ⟨rfl, _⟩ | ⟨g', cap, cur, rfl, hb, hgg, _⟩
  · cases hg
  · injection hg with hg; subst hg; exact ⟨cur, hgg, hb⟩
theorem KRow.below (h : KRow enc k e w B v xs) (hg : w.grownBy w' v.ownBlock) (hB : B ≤ w.heap.size) : Below B w w' := own_below h hg hB
set_option maxRecDepth 100000 in
/-- 'append(v, x)' of one element, that lies in a block of one. -/
theorem wpList_appendK {W : World} {ops : Array Oper} {rest : List Oper} {o : Oper} {a : Act} {Q : Exit → Act → World → Prop} (t : TypeId) (z : Value) (bytes : Nat) (ht : Tryd.prog.underlying t = some (.slice e)) (hinfo : (Tryd.prog.info? e).map (fun i => (i.zero, i.size, i.bytes)) = some (some z, k, bytes)) (hzs : z.cells.size = k) (hk : 0 < k) (hby : bytes ≤ 1000)
    (hgd : o.guard = none) (s x : Operand) (ho : o.op = .call { callee := .builtin .append, args := #[s, x], argTypes := #[t, t] }) (q : α) (henc : (enc q).length = k) (hone : ∀ u ∈ enc q, u.oneCell' = true) (hown : KRow enc k e W B v xs) (hs : a.eval s = v)
    (news : Array Value) (gN : Nat) (hx : a.eval x = .slice (some ⟨gN, 0, none⟩) 1 1) (hgN : W.heap[gN]? = some (.cells news e (0, 0))) (hn : news.toList = enc q) (hlen : xs.length ≤ 1000000) (hbase : B ≤ W.heap.size)
    (h : ∀ v' w', KRow enc k e w' B v' (xs ++ [q]) → W.grownBy w' v.ownBlock → (∀ g, v'.ownBlock = some g → v.ownBlock = some g ∨ W.heap.size ≤ g) → wpList Tryd.prog ops Q rest (a.put o.dst v') w') : wpList Tryd.prog ops Q (o :: rest) a W := by
  obtain ⟨i0, hi, hz0, hz1, hz2⟩ := info_parts hinfo
  have hnews : ∀ j u, (enc q)[j]? = some u → W.cell? ((⟨gN, 0, none⟩ : Addr).add j) = some u := by
    intro j u hu
    rw [add_plain, Nat.zero_add, blk_cell hgN]
    rw [← hn] at hu
    simpa using hu
  have hbytes : (xs.length + 1) * bytes ≤ 140737488355328 := Nat.le_trans (Nat.mul_le_mul (show xs.length + 1 ≤ 1000001 by omega) hby) (by decide)
  obtain ⟨v', w', hr, h2, h3, _⟩ := run_append_own (P := Tryd.prog) W B t o.type e i0 z k bytes ht hi hz0 hz1 hz2 hzs hk v xs.length (xs.flatMap enc) hown ⟨gN, 0, none⟩ 1 1 (enc q) (by simp [henc]) hnews hone (by unfold maxLen; omega) hbytes hbase
  have h4 := run_append_whereK B t o.type e i0 z k bytes ht hi hz0 hz1 hz2 hzs hk v xs.length (xs.flatMap enc) hown ⟨gN, 0, none⟩ 1 1 (enc q) (by simp [henc]) hnews hone (by unfold maxLen; omega) hbytes hr
  refine wpList_plain hgd fun K hK => ?_
  unfold Oper.wp execOp
  simp only [ho, resolve, invoke, builtin, Sem.run_bind, Sem.run_pure, Result.andThen_ok, List.map_toArray, List.map_cons, List.map_nil, hs, hx, hr]
  refine hK _ _ (h v' w' ?_ h3 h4)
  unfold KRow
  rw [List.length_append, List.flatMap_append]
  simp only [List.flatMap_cons, List.flatMap_nil, List.append_nil, List.length_cons, List.length_nil]
  exact h2
end
end Go.Proofs.YtjphpblangeblaaDoor
