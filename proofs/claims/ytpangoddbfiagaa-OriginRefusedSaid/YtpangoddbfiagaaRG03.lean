import Derived.Test.YtpangoddbfiagaaRG02
import Derived.OwnWalk
import Derived.Laws.AppendOwnNone
import Derived.Laws.OwnMore
import Derived.Deep.MidRow
import Derived.Deep.WholeRow
namespace Go.Proofs.Ytpangoddbfiagaa
open Go.RowKit
set_option linter.unusedVariables false
set_option linter.unusedSimpArgs false
theorem add_plain (b off j : Nat) : (⟨b, off, none⟩ : Addr).add j = ⟨b, off + j, none⟩ := by unfold Addr.add; split <;> simp_all
def RowAt (w : World) (v : Value) (xs : List Value) : Prop :=
 ∃ (A : Option Addr) (c : Nat), v = .slice A xs.length c ∧ xs.length ≤ c ∧ (A = none → c = 0) ∧ ∀ j (hj : j < xs.length), ∃ b off, A = some ⟨b, off, none⟩ ∧ w.cell? ⟨b, off + j, none⟩ = some xs[j]
def strV (t : Bs) : Value := .string ⟨t.toArray⟩
def byteV (b : UInt8) : Value := .int .u8 b.toNat
theorem TextsAt.row {w : World} {v : Value} {ss : List Bs} (h : TextsAt w v ss) : RowAt w v (ss.map strV) := by
 obtain ⟨A, c, h1, h2, h3, h4⟩ := h
 refine ⟨A, c, by simpa using h1, by simpa using h2, h3, fun j hj => ?_⟩
 simp at hj
 obtain ⟨b, off, e1, e2⟩ := h4 j hj
 exact ⟨b, off, e1, by rw [e2]; simp [strV]⟩
theorem RowAt.texts {w : World} {v : Value} {ss : List Bs} (h : RowAt w v (ss.map strV)) : TextsAt w v ss := by
 obtain ⟨A, c, h1, h2, h3, h4⟩ := h
 refine ⟨A, c, by simpa using h1, by simpa using h2, h3, fun j hj => ?_⟩
 obtain ⟨b, off, e1, e2⟩ := h4 j (by simpa using hj)
 exact ⟨b, off, e1, by rw [e2]; simp [strV]⟩
theorem RowAt.ext {w w' : World} {v : Value} {xs : List Value} (h : RowAt w v xs) (hx : Ext w w') : RowAt w' v xs := by
 obtain ⟨A, c, h1, h2, h3, h4⟩ := h
 exact ⟨A, c, h1, h2, h3, fun j hj => by obtain ⟨b, off, e1, e2⟩ := h4 j hj; exact ⟨b, off, e1, hx.cell e2⟩⟩
def BytesAt (w : World) (v : Value) (bs : Bs) : Prop := RowAt w v (bs.map byteV)
theorem BytesAt.ext {w w' : World} {v : Value} {bs : Bs} (h : BytesAt w v bs) (hx : Ext w w') : BytesAt w' v bs := RowAt.ext h hx
theorem own_row {w : World} {base : Nat} {e : TypeId} {v : Value} {xs : List Value} (h : w.ownsRow base e 1 v xs.length xs) : RowAt w v xs := by
 have h' := h
 rcases h.2 with ⟨rfl, h0⟩ | ⟨g, cap, cur, rfl, hb, hgg, h1, h2, h3, h4⟩
 ·exact ⟨none, 0, by rw [h0], by omega, fun _ => rfl, fun j hj => by omega⟩
 ·refine ⟨some ⟨g, 0, none⟩, cap, rfl, h1, fun e => by (cases e), fun j hj => ⟨g, 0, rfl, ?_⟩⟩
  rw [World.ownsRow.cellAt h' _ (by omega)]
  simp [hj]
theorem info_parts {P : Program} {e : TypeId} {z : Value} {size bytes : Nat} (h : (P.info? e).map (fun i => (i.zero, i.size, i.bytes)) = some (some z, size, bytes)) : ∃ i, P.info? e = some i ∧ i.zero = some z ∧ i.size = size ∧ i.bytes = bytes := by
 cases hi : P.info? e with
 | none => rw [hi] at h; cases h
 | some i =>
  rw [hi] at h
  simp at h
  exact ⟨i, rfl, h.1, h.2.1, h.2.2⟩
theorem info9 : (Try.prog.info? 9).map (fun i => (i.zero, i.size, i.bytes)) = some (some (.string ⟨#[]⟩), 1, 16) := by kernel_rfl
theorem info5 : (Try.prog.info? 5).map (fun i => (i.zero, i.size, i.bytes)) = some (some (.int .u8 0), 1, 1) := by kernel_rfl
set_option maxRecDepth 100000 in
theorem wpList_append_at {W : World} {ops : Array Oper} {rest : List Oper} {o : Oper} {a : Act} {Q : Exit → Act → World → Prop} (t e : TypeId) (z : Value) (bytes : Nat) (ht : Try.prog.underlying t = some (.slice e)) (hinfo : (Try.prog.info? e).map (fun i => (i.zero, i.size, i.bytes)) = some (some z, 1, bytes)) (hzs : z.cells.size = 1) (hby : bytes ≤ 16)
  (hgd : o.guard = none) (s x : Operand) (ho : o.op = .call { callee := .builtin .append, args := #[s, x], argTypes := #[t, t] })
  (base : Nat) (v u : Value) (ys xs : List Value) (hown : W.ownsRow base e 1 v ys.length ys) (hsrc : RowAt W u xs) (hone : ∀ q ∈ xs, q.oneCell' = true) (hs : a.eval s = v) (hx : a.eval x = u)
  (hlen : ys.length + xs.length ≤ 1000000) (hbase : base ≤ W.heap.size)
  (h : ∀ v' w', w'.ownsRow base e 1 v' (ys ++ xs).length (ys ++ xs) → W.grownBy w' v.ownBlock → wpList Try.prog ops Q rest (a.put o.dst v') w') : wpList Try.prog ops Q (o :: rest) a W := by
 obtain ⟨i0, hi, hz0, hz1, hz2⟩ := info_parts hinfo
 obtain ⟨A, c, rfl, hc0, hc1, hc⟩ := hsrc
 cases A with
 | none =>
  have hx0 : xs = [] := by
   cases xs with
   | nil => rfl
   | cons x xs => obtain ⟨b, off, e, _⟩ := hc 0 (by simp); cases e
  subst hx0
  have hc0 := hc1 rfl
  subst hc0
  refine wpList_append_own_none hgd s x t ho base e i0 1 ht hi v _ _ hs hown hx ?_
  exact h v W (by simpa using hown) ⟨rfl, rfl, rfl, Nat.le_refl _, fun _ _ _ => rfl⟩
 | some A =>
  refine wpList_append_own _ hgd s x t ho base e i0 _ 1 bytes ht hi hz0 hz1 hz2 hzs (by decide) v _ _ hs hown A xs.length c xs hx (by simp) ?_ hone (by unfold maxLen; omega) ?_ hbase ?_
  ·intro j q hq
   by_cases hj : j < xs.length
   ·obtain ⟨b, off, e, hcell⟩ := hc j hj
    injection e with e
    subst e
    rw [List.getElem?_eq_getElem hj] at hq
    simp at hq
    subst hq
    rw [add_plain]; exact hcell
   ·rw [List.getElem?_eq_none (by omega)] at hq
    cases hq
  ·exact Nat.le_trans (Nat.mul_le_mul hlen hby) (by decide)
  ·intro v' w' q1 q2 _
   exact h v' w' (by rw [List.length_append]; exact q1) q2
def SRow (w : World) (base : Nat) (v : Value) (ss : List Bs) : Prop := w.ownsRow base 9 1 v ss.length (ss.map strV)
theorem SRow.texts {w : World} {base : Nat} {v : Value} {ss : List Bs} (h : SRow w base v ss) : TextsAt w v ss := by
 have : w.ownsRow base 9 1 v (ss.map strV).length (ss.map strV) := by rw [List.length_map]; exact h
 exact (own_row this).texts
theorem own_extB {w w' : World} {X : List Nat} {base : Nat} {e : TypeId} {size : Nat} {v : Value} {n : Nat} {xs : List Value} (h : w.ownsRow base e size v n xs) (hx : ExtB X w w') (hX : ∀ g ∈ X, v.ownBlock ≠ some g) : w'.ownsRow base e size v n xs := by
 refine ⟨h.1, ?_⟩
 rcases h.2 with h2 | ⟨g, cap, cur, rfl, hb, hgg, r⟩
 ·exact .inl h2
 ·exact .inr ⟨g, cap, cur, rfl, hb, hx.heap hgg (fun hh => hX g hh rfl), r⟩
theorem own_low {w : World} {base : Nat} {e : TypeId} {size : Nat} {v : Value} {n : Nat} {xs : List Value} (h : w.ownsRow base e size v n xs) {g : Nat} (hg : g < base) : v.ownBlock ≠ some g := fun e => by
 have := (h.lt g e).1; omega
theorem wpList_copyS {W : World} {ops : Array Oper} {rest : List Oper} {o : Oper} {a : Act} {Q : Exit → Act → World → Prop}
  (hgd : o.guard = none) (s x : Operand) (ho : o.op = .call { callee := .builtin .append, args := #[s, x], argTypes := #[36, 36] }) (u : Value) (ss : List Bs) (hsrc : TextsAt W u ss) (hs : a.eval s = .slice none 0 0) (hx : a.eval x = u) (hlen : ss.length ≤ 1000000)
  (h : ∀ v' w', SRow w' W.heap.size v' ss → Ext W w' → wpList Try.prog ops Q rest (a.put o.dst v') w') : wpList Try.prog ops Q (o :: rest) a W :=
 wpList_append_at 36 9 _ 16 Try.underlying36 info9 rfl (by decide) hgd s x ho W.heap.size (.slice none 0 0) u [] (ss.map strV) (World.ownsRow_nil _ _ _ _) hsrc.row (by intro q hq; obtain ⟨z, _, rfl⟩ := List.mem_map.1 hq; rfl) hs hx (by simpa using hlen) (Nat.le_refl _) fun v' w' h1 h2 =>
  h v' w' (by unfold SRow; simpa using h1) (own_below (World.ownsRow_nil W W.heap.size 9 1) h2 (Nat.le_refl _))
def BRow (w : World) (base : Nat) (v : Value) (bs : Bs) : Prop := w.ownsRow base 5 1 v bs.length (bs.map byteV)
theorem BRow.at_ {w : World} {base : Nat} {v : Value} {bs : Bs} (h : BRow w base v bs) : BytesAt w v bs := by
 have : w.ownsRow base 5 1 v (bs.map byteV).length (bs.map byteV) := by rw [List.length_map]; exact h
 exact own_row this
theorem wpList_appendB {W : World} {ops : Array Oper} {rest : List Oper} {o : Oper} {a : Act} {Q : Exit → Act → World → Prop}
  (hgd : o.guard = none) (s x : Operand) (ho : o.op = .call { callee := .builtin .append, args := #[s, x], argTypes := #[22, 22] }) (base : Nat) (v u : Value) (ys bs : Bs) (hown : BRow W base v ys) (hsrc : BytesAt W u bs) (hs : a.eval s = v) (hx : a.eval x = u) (hlen : ys.length + bs.length ≤ 1000000) (hbase : base ≤ W.heap.size)
  (h : ∀ v' w', BRow w' base v' (ys ++ bs) → W.grownBy w' v.ownBlock → wpList Try.prog ops Q rest (a.put o.dst v') w') : wpList Try.prog ops Q (o :: rest) a W :=
 wpList_append_at 22 5 _ 1 Try.underlying22 info5 rfl (by decide) hgd s x ho base v u (ys.map byteV) (bs.map byteV) (by rw [List.length_map]; exact hown) hsrc (by intro q hq; obtain ⟨z, _, rfl⟩ := List.mem_map.1 hq; rfl) hs hx (by simpa using hlen) hbase fun v' w' h1 h2 =>
  h v' w' (by
   unfold BRow
   have e : (ys ++ bs).length = (ys.map byteV ++ bs.map byteV).length := by simp
   rw [List.map_append, e]; exact h1) h2
theorem wpList_copyB {W : World} {ops : Array Oper} {rest : List Oper} {o : Oper} {a : Act} {Q : Exit → Act → World → Prop}
  (hgd : o.guard = none) (s x : Operand) (ho : o.op = .call { callee := .builtin .append, args := #[s, x], argTypes := #[22, 22] }) (u : Value) (bs : Bs) (hsrc : BytesAt W u bs) (hs : a.eval s = .slice none 0 0) (hx : a.eval x = u) (hlen : bs.length ≤ 1000000)
  (h : ∀ v' w', BRow w' W.heap.size v' bs → Ext W w' → wpList Try.prog ops Q rest (a.put o.dst v') w') : wpList Try.prog ops Q (o :: rest) a W :=
 wpList_appendB hgd s x ho W.heap.size (.slice none 0 0) u [] bs (World.ownsRow_nil _ _ _ _) hsrc hs hx (by simpa using hlen) (Nat.le_refl _) fun v' w' h1 h2 =>
  h v' w' h1 (own_below (World.ownsRow_nil W W.heap.size 5 1) h2 (Nat.le_refl _))
end Go.Proofs.Ytpangoddbfiagaa
namespace Go.Proofs.Ytpangoddbfiagaa
open Go.RowKit
set_option linter.unusedVariables false
set_option linter.unusedSimpArgs false
def putA (cur : Array Value) (o : Nat) : List Value → Array Value
 | [] => cur
 | u :: us => putA (cur.setIfInBounds o u) (o + 1) us
theorem setCells_at (b : Nat) (e : TypeId) (z : Nat × Nat) : ∀ (us : List Value) (o : Nat) (cur : Array Value) (w : World), w.heap[b]? = some (.cells cur e z) → (w.setCells b o us).heap[b]? = some (.cells (putA cur o us) e z)
 | [], o, cur, w, h => by simpa [World.setCells, putA] using h
 | u :: us, o, cur, w, h => by
  simp only [World.setCells, putA]
  exact setCells_at b e z us (o + 1) _ _ (blk_set h o u)
theorem setCells_ext (b : Nat) : ∀ (us : List Value) (o : Nat) (w : World), ExtB [b] w (w.setCells b o us) ∧ (w.setCells b o us).heap.size = w.heap.size
 | [], o, w => ⟨by simpa [World.setCells] using ExtB.refl _ _, rfl⟩
 | u :: us, o, w => by
  simp only [World.setCells]
  obtain ⟨h1, h2⟩ := setCells_ext b us (o + 1) (w.setCell ⟨b, o, none⟩ u)
  have h3 : ExtB [b] w (w.setCell ⟨b, o, none⟩ u) := (ExtB.refl [b] w).setCell (.inl (by simp)) u
  exact ⟨h3.trans h1, by rw [h2]; simp [World.setCell]⟩
section
variable {ops : Array Oper} {rest : List Oper} {o : Oper} {a : Act} {w : World} {Q : Exit → Act → World → Prop}
theorem wpList_new (ty : TypeId) (Z : Array Value) (hz : ∀ w, (zeroValue ty).run Try.prog w = .ok (.agg Z) w) (hgd : o.guard = none) (ho : o.op = .alloc ty)
  (h : ∀ W1, Ext w W1 → W1.heap[w.heap.size]? = some (.cells Z ty (0, 0)) → W1.heap.size = w.heap.size + 1 → wpList Try.prog ops Q rest (a.put o.dst (.pointer (some ⟨w.heap.size, 0, none⟩))) W1) : wpList Try.prog ops Q (o :: rest) a w :=
 wpList_plain hgd fun K hK => by
  unfold Oper.wp
  simp [execOp, ho, Instr.alloc, hz, newVar, Value.cells, Result.andThen]
  exact hK _ _ (h _ (ext_alloc1 _ _) (heap_alloc_new w _) (by simp))
theorem wpList_boxA (ty : TypeId) (hgd : o.guard = none) (x : Operand) (ho : o.op = .box ty x) (cs : Array Value) (hx : a.eval x = .agg cs)
  (h : ∀ W1, Ext w W1 → W1.heap[w.heap.size]? = some (.cells cs ty (0, 0)) → W1.heap.size = w.heap.size + 1 → wpList Try.prog ops Q rest (a.put o.dst (.pointer (some ⟨w.heap.size, 0, none⟩))) W1) : wpList Try.prog ops Q (o :: rest) a w :=
 wpList_plain hgd fun K hK => by
  unfold Oper.wp
  simp [execOp, ho, hx, Instr.box, newVar, Value.cells, Result.andThen]
  exact hK _ _ (h _ (ext_alloc1 _ _) (heap_alloc_new w _) (by simp))
theorem run_put {w : World} {g off : Nat} {ty e : TypeId} {v : Value} {cur : Array Value} (us : List Value) (hv : v.cells.toList = us) (hg : w.heap[g]? = some (.cells cur e (0, 0))) (hl : off + us.length ≤ cur.size) (h1 : us.all (·.oneCell') = true) (hi : (Try.prog.info? ty).map (·.size) = some us.length) :
  (storeVar ty ⟨g, off, none⟩ v).run Try.prog w = .ok () (w.setCells g off us) := by
 have := run_storeCells_cells (P := Try.prog) g off us 0 w (fun j hj => by
   rw [blk_cell hg, Array.getElem?_eq_getElem (by omega)]; rfl) (fun j hj => blk_free hg _) (fun u hu => List.all_eq_true.1 h1 u hu)
 cases hq : Try.prog.info? ty with
 | none => simp [hq] at hi
 | some i =>
  have hs : us.length = i.size := by simp [hq] at hi; omega
  have hc : v.cells = us.toArray := by rw [← hv]
  simp only [Nat.add_zero] at this
  simp [storeVar, sizeOf, typeInfo, hq, hc, hs, this]
theorem wpList_put (ty : TypeId) (hgd : o.guard = none) (x y : Operand) (ho : o.op = .store ty x y) (g off : Nat) (e : TypeId) (cur new : Array Value) (us : List Value) (v : Value) (hg : w.heap[g]? = some (.cells cur e (0, 0))) (hx : a.eval x = .pointer (some ⟨g, off, none⟩)) (hy : a.eval y = v) (hv : v.cells.toList = us)
  (hl : off + us.length ≤ cur.size) (h1 : us.all (·.oneCell') = true) (hi : (Try.prog.info? ty).map (·.size) = some us.length) (hn : putA cur off us = new)
  (h : ∀ W1, ExtB [g] w W1 → W1.heap[g]? = some (.cells new e (0, 0)) → W1.heap.size = w.heap.size → wpList Try.prog ops Q rest (a.put o.dst undef) W1) : wpList Try.prog ops Q (o :: rest) a w :=
 wpList_plain hgd fun K hK => by
  unfold Oper.wp execOp
  simp only [ho, hx, hy, Instr.storeAt, Instr.sureAddr, Sem.run_bind, Sem.run_pure, Result.andThen_ok, run_put us hv hg hl h1 hi]
  refine hK _ _ (h _ (setCells_ext g us off w).1 ?_ (setCells_ext g us off w).2)
  rw [← hn]
  exact setCells_at g e (0, 0) us off cur w hg
theorem range_of {w : World} {g off : Nat} {e : TypeId} {z : Nat × Nat} {cur : Array Value} {cs : List Value} (hg : w.heap[g]? = some (.cells cur e z)) (hc : (cur.toList.drop off).take cs.length = cs) : w.rangeAt g off cs := by
 intro j v hv
 rw [blk_cell hg]
 rw [← hc, List.getElem?_take] at hv
 split at hv
 ·simpa using hv
 ·cases hv
theorem wpList_get (ty : TypeId) (d : TypeDesc) (hgd : o.guard = none) (x : Operand) (ho : o.op = .load ty x) (g off : Nat) (e : TypeId) (cur : Array Value) (cs : List Value) (hg : w.heap[g]? = some (.cells cur e (0, 0))) (hx : a.eval x = .pointer (some ⟨g, off, none⟩))
  (hc : (cur.toList.drop off).take cs.length = cs) (hu : Try.prog.underlying ty = some d) (hd : d.isRow = true) (hi : (Try.prog.info? ty).map (·.size) = some cs.length)
  (h : wpList Try.prog ops Q rest (a.put o.dst (.agg cs.toArray)) w) : wpList Try.prog ops Q (o :: rest) a w :=
 wpList_load_mid hgd ty x ho g off hx cs d (range_of hg hc) hu hd hi h
end
theorem zero38 (w : World) : (zeroValue 38).run Try.prog w = .ok (.agg #[.string ⟨#[]⟩, .bool false, .int .i64 0, .int .i64 0, .int .i64 0, .int .i64 0, .int .i64 0, .int .i64 0, .slice none 0 0, .string ⟨#[]⟩, .bool false]) w := by kernel_rfl
theorem zero49 (w : World) : (zeroValue 49).run Try.prog w = .ok (.agg #[.int .i64 0, .string ⟨#[]⟩, .bool false, .int .i64 0, .int .i64 0, .int .i64 0, .int .i64 0, .int .i64 0, .int .i64 0, .slice none 0 0, .string ⟨#[]⟩, .bool false, .int .i64 0, .int .i64 0, .int .i64 0]) w := by kernel_rfl
theorem size38 : (Try.prog.info? 38).map (·.size) = some 11 := by kernel_rfl
theorem size49 : (Try.prog.info? 49).map (·.size) = some 15 := by kernel_rfl
theorem size27 : (Try.prog.info? 27).map (·.size) = some 2 := by kernel_rfl
theorem size25 : (Try.prog.info? 25).map (·.size) = some 2 := by kernel_rfl
theorem size2 : (Try.prog.info? 2).map (·.size) = some 1 := by kernel_rfl
theorem size4 : (Try.prog.info? 4).map (·.size) = some 1 := by kernel_rfl
theorem size22 : (Try.prog.info? 22).map (·.size) = some 1 := by kernel_rfl
theorem size36 : (Try.prog.info? 36).map (·.size) = some 1 := by kernel_rfl
end Go.Proofs.Ytpangoddbfiagaa
namespace Go.Proofs.Ytpangoddbfiagaa
open Go.RowKit
set_option linter.unusedVariables false
set_option linter.unusedSimpArgs false
def verC (m : MetaP) (kv bv : Value) (went : Bool) : Array Value := #[.string ⟨m.tt.toArray⟩, .bool m.tw, .int .i64 m.mod, .int .i64 m.len, .int .i64 m.hav, .int .i64 m.fr, .int .i64 m.wh, .int .i64 m.er, kv, .string ⟨m.ten.toArray⟩, .bool m.keep, bv, .bool went]
def VerAt (w : World) (b : Nat) (m : MetaP) (kv bv : Value) (went : Bool) : Prop := w.heap[b]? = some (.cells (verC m kv bv went) 90 (0, 0))
def strC (p : Option Addr) (st : Int) (m : MetaP) (kv : Value) (fr to at_ : Int) : Array Value := #[.pointer p, .int .i64 st, .string ⟨m.tt.toArray⟩, .bool m.tw, .int .i64 m.mod, .int .i64 m.len, .int .i64 m.hav, .int .i64 m.fr, .int .i64 m.wh, .int .i64 m.er, kv, .string ⟨m.ten.toArray⟩, .bool m.keep, .int .i64 fr, .int .i64 to, .int .i64 0, .int .i64 at_]
def StrAt (w : World) (b : Nat) (p : Option Addr) (st : Int) (m : MetaP) (kv : Value) (fr to at_ : Int) : Prop := w.heap[b]? = some (.cells (strC p st m kv fr to at_) 94 (0, 0))
theorem Ext.thenB {w W W1 : World} {X : List Nat} (h : Ext w W) (k : ExtB X W W1) (hx : ∀ g ∈ X, w.heap.size ≤ g) : Ext w W1 :=
 ⟨k.os.trans h.os, k.tape.trans h.tape, k.output.trans h.output, Nat.le_trans h.size k.size, fun i hi => (k.block i (h.lt hi) (fun hh => by have := hx i hh; omega)).trans (h.block i hi)⟩
set_option maxRecDepth 100000 in
theorem grows_any (w : World) (b : Nat) (m : MetaP) (kv bv : Value) (went : Bool) (h : VerAt w b m kv bv went) : Calls Try.prog 43 #[.pointer (some ⟨b, 0, none⟩)] w fun e w' => e = .returned (.bool (m.len == -1)) ∧ w = w' := by
 have k3 := blk_cell h 3
 simp [verC] at k3
 clear h
 go_enter Try.func43, Try.ntmps43
 go_wp2
 go_ret
 exact ⟨rfl, rfl⟩
set_option maxRecDepth 100000 in
set_option maxHeartbeats 1000000 in
theorem now_any (w : World) (b : Nat) (m : MetaP) (kv : Value) (A : Option Addr) (n c : Nat) (went : Bool) (h : VerAt w b m kv (.slice A n c) went) (hk : TextsAt w kv m.keys) (hz : MetaZ m) (hn : n ≤ 1000000) : Calls Try.prog 41 #[.pointer (some ⟨b, 0, none⟩)] w fun e w' => ∃ kv', e = .returned (metaV { m with hav := n } kv') ∧ SRow w' w.heap.size kv' m.keys ∧ Ext w w' := by
 have k0 := blk_cell h 0; have k1 := blk_cell h 1; have k2 := blk_cell h 2; have k3 := blk_cell h 3; have k4 := blk_cell h 4; have k5 := blk_cell h 5; have k6 := blk_cell h 6; have k7 := blk_cell h 7; have k8 := blk_cell h 8; have k9 := blk_cell h 9; have k10 := blk_cell h 10; have k11 := blk_cell h 11
 simp [verC] at k0 k1 k2 k3 k4 k5 k6 k7 k8 k9 k10 k11
 have H := Lh h; have HK := Lh hk; have HZ := Lh hz
 have hb : b < w.heap.size := blk_lt h
 obtain ⟨KA, KC, rfl, _, _, _⟩ := hk
 clear h hz k0 k1 k2 k3 k4 k5 k6 k7 k8 k9 k10 k11
 go_enter Try.func41, Try.ntmps41
 go_wp2_with (refine wpList_new 38 _ zero38 rfl rfl ?_; intro W1 x1 n1 s1; refine stop_of ?_)
 unfold Stop
 have H1 := Lh (x1.heap H.out); have X1 := Lh x1; have N1 := Lh n1
 clear x1 n1
 go_wp2_with (first | (refine wpList_get 38 _ rfl _ rfl b 0 90 _ (metaC m (.slice KA m.keys.length KC)) H1.out rfl rfl Try.underlying38 rfl size38 ?_) | (refine wpList_new 38 _ zero38 rfl rfl ?_; intro W2 x2 n2 s2; refine stop_of ?_))
 unfold Stop
 rw [s1] at n2 s2
 have H2 := Lh (x2.heap H1.out); have X2 := Lh (X1.out.trans x2); have N2 := Lh (And.intro (x2.heap N1.out) n2)
 clear x2 n2 H1 X1 N1
 refine wpList_put 38 rfl _ _ rfl _ 0 38 _ (metaC m (.slice KA m.keys.length KC)).toArray (metaC m (.slice KA m.keys.length KC)) _ N2.out.2 rfl rfl rfl (by simp [metaC]) rfl size38 (by kernel_rfl) ?_
 intro W3 x3 n3 s3
 have X3 := Lh (X2.out.thenB x3 (by simp))
 have N3 := Lh (And.intro (x3.heap N2.out.1 (by simp)) n3)
 have k8 := blk_cell n3 8
 simp [metaC] at k8
 clear x3 n3 H2 X2 N2
 go_wp2_with (at_builtin; refine wpList_copyS rfl _ _ rfl _ m.keys (HK.out.ext X3.out) rfl rfl (by have := HZ.out.keys; omega) ?_; intro kv' W4 t4 x4; refine stop_of ?_)
 unfold Stop
 have T4 := Lh t4; have X4 := Lh (X3.out.trans x4); have N4 := Lh (And.intro (x4.heap N3.out.1) (x4.heap N3.out.2))
 obtain ⟨A5, c5, rfl, _, _, _⟩ := t4.texts
 clear k8 x4 X3 N3 t4
 go_wp2_with (refine wpList_put 36 rfl _ _ rfl _ 8 38 _ (metaC m (.slice A5 m.keys.length c5)).toArray [.slice A5 m.keys.length c5] _ N4.out.2 rfl rfl rfl (by simp [metaC]) rfl size36 (by kernel_rfl) ?_; intro W5 x5 n5 s5; refine stop_of ?_)
 unfold Stop
 have X5 := Lh (X4.out.thenB x5 (by simp)); have N5 := Lh (And.intro (x5.heap N4.out.1 (by simp)) n5)
 have T5 : Hid (SRow W5 W3.heap.size (.slice A5 m.keys.length c5) m.keys) := Lh (own_extB T4.out x5 (by
  intro g hg
  have : g = w.heap.size + 1 := by simpa using hg
  exact own_low T4.out (by omega)))
 have k11 := blk_cell (X5.out.heap H.out) 11
 simp [verC] at k11
 clear x5 n5 X4 N4 T4
 go_wp2_with (refine wpList_put 2 rfl _ _ rfl _ 4 38 _ (metaC { m with hav := n } (.slice A5 m.keys.length c5)).toArray [.int .i64 n] _ N5.out.2 rfl rfl rfl (by simp [metaC]) rfl size2 (by kernel_rfl) ?_; intro W6 x6 n6 s6; refine stop_of ?_)
 unfold Stop
 have X6 := Lh (X5.out.thenB x6 (by simp)); have N6 := Lh (And.intro (x6.heap N5.out.1 (by simp)) n6)
 have T6 : Hid (SRow W6 W3.heap.size (.slice A5 m.keys.length c5) m.keys) := Lh (own_extB T5.out x6 (by
  intro g hg
  have : g = w.heap.size + 1 := by simpa using hg
  exact own_low T5.out (by omega)))
 clear x6 n6 X5 N5 T5 k11
 go_wp2_with (first | (refine wpList_get 38 _ rfl _ rfl _ 0 38 _ (metaC { m with hav := n } (.slice A5 m.keys.length c5)) N6.out.2 rfl (by kernel_rfl) Try.underlying38 rfl size38 ?_) | (refine wpList_put 38 rfl _ _ rfl _ 0 38 _ (metaC { m with hav := n } (.slice A5 m.keys.length c5)).toArray (metaC { m with hav := n } (.slice A5 m.keys.length c5)) _ N6.out.1 rfl rfl rfl (by simp [metaC]) rfl size38 (by kernel_rfl) ?_; intro W7 x7 n7 s7; refine stop_of ?_))
 unfold Stop
 have X7 := Lh (X6.out.thenB x7 (by simp)); have N7 := Lh n7
 have T7 : Hid (SRow W7 W3.heap.size (.slice A5 m.keys.length c5) m.keys) := Lh (own_extB T6.out x7 (by
  intro g hg
  have : g = w.heap.size := by simpa using hg
  exact own_low T6.out (by omega)))
 clear x7 n7 X6 N6 T6
 go_wp2
 exact bodyPost_ret (results_cell_row rfl _ _ w.heap.size 38 _ (0, 0) _ rfl N7.out Try.underlying38 rfl size38) rfl ⟨_, rfl, ownsRow_base T7.out (by omega), X7.out⟩
end Go.Proofs.Ytpangoddbfiagaa
namespace Go.Proofs.Ytpangoddbfiagaa
open Go.RowKit
set_option linter.unusedVariables false
set_option linter.unusedSimpArgs false
def replyC (st : Int) (m : MetaP) (kv : Value) (fr to : Int) : List Value := [.int .i64 st, .string ⟨m.tt.toArray⟩, .bool m.tw, .int .i64 m.mod, .int .i64 m.len, .int .i64 m.hav, .int .i64 m.fr, .int .i64 m.wh, .int .i64 m.er, kv, .string ⟨m.ten.toArray⟩, .bool m.keep, .int .i64 fr, .int .i64 to, .int .i64 0]
set_option maxRecDepth 100000 in
set_option maxHeartbeats 1000000 in
theorem head_any (w : World) (s : Nat) (p : Option Addr) (st : Int) (m : MetaP) (kv : Value) (fr to at_ : Int) (h : StrAt w s p st m kv fr to at_) (hk : TextsAt w kv m.keys) (hz : MetaZ m) : Calls Try.prog 16 #[.pointer (some ⟨s, 0, none⟩)] w fun e w' => ∃ kv', e = .returned (.agg (replyC st m kv' fr to).toArray) ∧ SRow w' w.heap.size kv' m.keys ∧ Ext w w' := by
 have H := Lh h; have HK := Lh hk; have HZ := Lh hz
 have hb : s < w.heap.size := blk_lt h
 obtain ⟨KA, KC, rfl, _, _, _⟩ := hk
 clear h hz
 go_enter Try.func16, Try.ntmps16
 go_wp2_with (refine wpList_new 49 _ zero49 rfl rfl ?_; intro W1 x1 n1 s1; refine stop_of ?_)
 unfold Stop
 have H1 := Lh (x1.heap H.out); have X1 := Lh x1; have N1 := Lh n1
 clear x1 n1
 go_wp2_with (first | (refine wpList_get 49 _ rfl _ rfl s 1 94 _ (replyC st m (.slice KA m.keys.length KC) fr to) H1.out rfl (by kernel_rfl) Try.underlying49 rfl size49 ?_) | (refine wpList_new 49 _ zero49 rfl rfl ?_; intro W2 x2 n2 s2; refine stop_of ?_))
 unfold Stop
 rw [s1] at n2 s2
 have X2 := Lh (X1.out.trans x2); have N2 := Lh (And.intro (x2.heap N1.out) n2)
 clear x2 n2 H1 X1 N1
 refine wpList_put 49 rfl _ _ rfl _ 0 49 _ (replyC st m (.slice KA m.keys.length KC) fr to).toArray (replyC st m (.slice KA m.keys.length KC) fr to) _ N2.out.2 rfl rfl rfl (by simp [replyC]) rfl size49 (by kernel_rfl) ?_
 intro W3 x3 n3 s3
 have X3 := Lh (X2.out.thenB x3 (by simp)); have N3 := Lh (And.intro (x3.heap N2.out.1 (by simp)) n3)
 have k8 := blk_cell n3 9
 simp [replyC] at k8
 clear x3 n3 X2 N2
 go_wp2_with (at_builtin; refine wpList_copyS rfl _ _ rfl _ m.keys (HK.out.ext X3.out) rfl rfl (by have := HZ.out.keys; omega) ?_; intro kv' W4 t4 x4; refine stop_of ?_)
 unfold Stop
 have T4 := Lh t4; have X4 := Lh (X3.out.trans x4); have N4 := Lh (And.intro (x4.heap N3.out.1) (x4.heap N3.out.2))
 obtain ⟨A5, c5, rfl, _, _, _⟩ := t4.texts
 clear k8 x4 X3 N3 t4
 go_wp2_with (refine wpList_put 36 rfl _ _ rfl _ 9 49 _ (replyC st m (.slice A5 m.keys.length c5) fr to).toArray [.slice A5 m.keys.length c5] _ N4.out.2 rfl rfl rfl (by simp [replyC]) rfl size36 (by kernel_rfl) ?_; intro W5 x5 n5 s5; refine stop_of ?_)
 unfold Stop
 have X5 := Lh (X4.out.thenB x5 (by simp)); have N5 := Lh (And.intro (x5.heap N4.out.1 (by simp)) n5)
 have T5 : Hid (SRow W5 W3.heap.size (.slice A5 m.keys.length c5) m.keys) := Lh (own_extB T4.out x5 (by
  intro g hg
  have : g = w.heap.size + 1 := by simpa using hg
  exact own_low T4.out (by omega)))
 clear x5 n5 X4 N4 T4
 go_wp2_with (first | (refine wpList_get 49 _ rfl _ rfl _ 0 49 _ (replyC st m (.slice A5 m.keys.length c5) fr to) N5.out.2 rfl (by kernel_rfl) Try.underlying49 rfl size49 ?_) | (refine wpList_put 49 rfl _ _ rfl _ 0 49 _ (replyC st m (.slice A5 m.keys.length c5) fr to).toArray (replyC st m (.slice A5 m.keys.length c5) fr to) _ N5.out.1 rfl rfl rfl (by simp [replyC]) rfl size49 (by kernel_rfl) ?_; intro W7 x7 n7 s7; refine stop_of ?_))
 unfold Stop
 have X7 := Lh (X5.out.thenB x7 (by simp)); have N7 := Lh n7
 have T7 : Hid (SRow W7 W3.heap.size (.slice A5 m.keys.length c5) m.keys) := Lh (own_extB T5.out x7 (by
  intro g hg
  have : g = w.heap.size := by simpa using hg
  exact own_low T5.out (by omega)))
 clear x7 n7 X5 N5 T5
 go_wp2
 exact bodyPost_ret (results_cell_row rfl _ _ w.heap.size 49 _ (0, 0) _ rfl N7.out Try.underlying49 rfl size49) rfl ⟨_, rfl, ownsRow_base T7.out (by omega), X7.out⟩
theorem StrAt.grow {w : World} {s : Nat} {p : Option Addr} {st : Int} {m : MetaP} {kv : Value} {fr to at_ : Int} (h : StrAt w s p st m kv fr to at_) (x : Grow [] w) : StrAt x.v s p st m kv fr to at_ := x.ext.heap h (by simp)
theorem VerAt.grow {w : World} {b : Nat} {m : MetaP} {kv bv : Value} {went : Bool} (h : VerAt w b m kv bv went) (x : Grow [] w) : VerAt x.v b m kv bv went := x.ext.heap h (by simp)
set_option maxRecDepth 100000 in
theorem there_none (w : World) (s : Nat) (st : Int) (m : MetaP) (kv : Value) (fr to at_ : Int) (h : StrAt w s none st m kv fr to at_) : Calls Try.prog 45 #[.pointer (some ⟨s, 0, none⟩)] w fun e w' => e = .returned (.int .i64 at_) ∧ w = w' := by
 have k0 := blk_cell h 0; have k16 := blk_cell h 16
 simp [strC] at k0 k16
 clear h
 go_enter Try.func45, Try.ntmps45
 go_wp2
 go_ret
 exact ⟨rfl, rfl⟩
set_option maxRecDepth 100000 in
theorem there_some (w : World) (s b : Nat) (st : Int) (m vm : MetaP) (kv vkv : Value) (A : Option Addr) (n c : Nat) (went : Bool) (fr to at_ : Int) (h : StrAt w s (some ⟨b, 0, none⟩) st m kv fr to at_) (hv : VerAt w b vm vkv (.slice A n c) went) (hn : n ≤ 1000000) : Calls Try.prog 45 #[.pointer (some ⟨s, 0, none⟩)] w fun e w' => e = .returned (.int .i64 (min to n)) ∧ Ext w w' := by
 have k0 := blk_cell h 0
 simp [strC] at k0
 have G0 : ∀ x : Grow [] w, x.v.cell? ⟨s, 0, none⟩ = some (.pointer (some ⟨b, 0, none⟩)) := fun x => x.ext.cell (blk_cell h 0) (by simp)
 have G1 : ∀ x : Grow [] w, x.v.cell? ⟨s, 14, none⟩ = some (.int .i64 to) := fun x => x.ext.cell (blk_cell h 14) (by simp)
 have G2 : ∀ x : Grow [] w, x.v.cell? ⟨b, 11, none⟩ = some (.slice A n c) := fun x => x.ext.cell (blk_cell hv 11) (by simp)
 clear h hv
 by_cases hle : to ≤ (n : Int)
 ·rw [Int.min_eq_left hle]
  go_enter Try.func45, Try.ntmps45
  go_wp2
  (refine wp_region_grow (by kernel_rfl) (by kernel_rfl) ?_; (repeat (go_big_quiet_step (fail))); refine wpQuiet_nil ?_)
  clear G0 G1 G2
  intro w1 hx1
  go_wp2
  go_ret
  exact ⟨ret_int (by omega), hx1⟩
 ·rw [Int.min_eq_right (by omega)]
  go_enter Try.func45, Try.ntmps45
  go_wp2
  (refine wp_region_grow (by kernel_rfl) (by kernel_rfl) ?_; (repeat (go_big_quiet_step (fail))); refine wpQuiet_nil ?_)
  clear G0 G1 G2
  intro w1 hx1
  go_wp2
  go_ret
  exact ⟨ret_int (by omega), hx1⟩
set_option maxRecDepth 100000 in
theorem has_none (w : World) (s : Nat) (st : Int) (m : MetaP) (kv : Value) (fr to at_ : Int) (h : StrAt w s none st m kv fr to at_) : Calls Try.prog 30 #[.pointer (some ⟨s, 0, none⟩)] w fun e w' => e = .returned (.int .i64 3) ∧ Ext w w' := by
 have G0 : ∀ x : Grow [] w, x.v.cell? ⟨s, 16, none⟩ = some (.int .i64 at_) := fun x => x.ext.cell (blk_cell h 16) (by simp)
 have H := Lh h
 have d0 : decide (at_ < at_) = false := by simp
 clear h
 go_enter Try.func30, Try.ntmps30
 go_wp2
 (refine wp_region_grow (by kernel_rfl) (by kernel_rfl) ?_; (repeat (go_big_quiet_step ((go_at_call 45; exact Calls.inGrow_same (there_none _ s st m kv fr to at_ (H.out.grow _)))))); refine wpQuiet_nil ?_)
 clear G0
 intro w1 hx1
 have G0 : ∀ x : Grow [] w1, x.v.cell? ⟨s, 0, none⟩ = some (.pointer none) := fun x => x.ext.cell (blk_cell (hx1.heap H.out) 0) (by simp)
 have X1 := Lh hx1
 clear hx1
 go_wp2
 (refine wp_region_grow (by kernel_rfl) (by kernel_rfl) ?_; (repeat (go_big_quiet_step (fail))); refine wpQuiet_nil ?_)
 clear G0
 intro w2 hx2
 go_wp2
 go_ret
 exact ⟨rfl, X1.out.trans hx2⟩
def hasZ (to at_ : Int) (n : Nat) (gr went : Bool) : Int := if at_ < min to n then 1 else if to ≤ at_ ∨ gr = false then 3 else if went = true then 4 else 2
set_option maxRecDepth 100000 in
set_option maxHeartbeats 1000000 in
theorem has_some (w : World) (s b : Nat) (st : Int) (m vm : MetaP) (kv vkv : Value) (A : Option Addr) (n c : Nat) (went : Bool) (fr to at_ : Int) (h : StrAt w s (some ⟨b, 0, none⟩) st m kv fr to at_) (hv : VerAt w b vm vkv (.slice A n c) went) (hn : n ≤ 1000000) : Calls Try.prog 30 #[.pointer (some ⟨s, 0, none⟩)] w fun e w' => e = .returned (.int .i64 (hasZ to at_ n (vm.len == -1) went)) ∧ Ext w w' := by
 have G0 : ∀ x : Grow [] w, x.v.cell? ⟨s, 16, none⟩ = some (.int .i64 at_) := fun x => x.ext.cell (blk_cell h 16) (by simp)
 have H := Lh h; have HV := Lh hv; have HN := Lh hn
 clear h hv hn
 by_cases h1 : at_ < min to n
 ·have e0 : hasZ to at_ n (vm.len == -1) went = 1 := by unfold hasZ; rw [if_pos h1]
  rw [e0]
  have d0 : decide (at_ < min to n) = true := decide_eq_true h1
  clear e0 h1
  go_enter Try.func30, Try.ntmps30
  go_wp2
  (refine wp_region_grow (by kernel_rfl) (by kernel_rfl) ?_; (repeat (go_big_quiet_step ((go_at_call 45; exact Calls.inGrow (there_some _ s b st m vm kv vkv A n c went fr to at_ (H.out.grow _) (HV.out.grow _) HN.out))))); refine wpQuiet_nil ?_)
  clear G0
  intro w1 hx1
  go_wp2
  go_ret
  exact ⟨rfl, hx1⟩
 ·have d0 : decide (at_ < min to n) = false := decide_eq_false h1
  obtain ⟨z, hz⟩ : ∃ z, z = hasZ to at_ n (vm.len == -1) went := ⟨_, rfl⟩
  have hz' : z = if to ≤ at_ ∨ (vm.len == -1) = false then 3 else if went = true then 4 else 2 := by rw [hz]; unfold hasZ; rw [if_neg h1]
  rw [← hz]
  have HZ := Lh hz'
  clear hz hz' h1
  go_enter Try.func30, Try.ntmps30
  go_wp2
  (refine wp_region_grow (by kernel_rfl) (by kernel_rfl) ?_; (repeat (go_big_quiet_step ((go_at_call 45; exact Calls.inGrow (there_some _ s b st m vm kv vkv A n c went fr to at_ (H.out.grow _) (HV.out.grow _) HN.out))))); refine wpQuiet_nil ?_)
  clear G0
  intro w1 hx1
  have H1 := Lh (show StrAt w1 s _ st m kv fr to at_ from hx1.heap H.out); have HV1 := Lh (show VerAt w1 b vm vkv _ went from hx1.heap HV.out); have X1 := Lh hx1
  have G0 : ∀ x : Grow [] w1, x.v.cell? ⟨s, 0, none⟩ = some (.pointer (some ⟨b, 0, none⟩)) := fun x => x.ext.cell (blk_cell H1.out 0) (by simp)
  have G1 : ∀ x : Grow [] w1, x.v.cell? ⟨s, 14, none⟩ = some (.int .i64 to) := fun x => x.ext.cell (blk_cell H1.out 14) (by simp)
  have G2 : ∀ x : Grow [] w1, x.v.cell? ⟨s, 16, none⟩ = some (.int .i64 at_) := fun x => x.ext.cell (blk_cell H1.out 16) (by simp)
  clear hx1 H HV d0
  by_cases h2 : to ≤ at_
  ·have d2 : decide (to ≤ at_) = true := decide_eq_true h2
   have Z : Hid (z = 3) := Lh (by rw [HZ.out, if_pos (.inl h2)])
   clear h2
   go_wp2
   (refine wp_region_grow (by kernel_rfl) (by kernel_rfl) ?_; (repeat (go_big_quiet_step (fail))); refine wpQuiet_nil ?_)
   clear G0 G1 G2 d2
   intro w2 hx2
   go_wp2
   go_ret
   exact ⟨ret_int Z.out.symm, X1.out.trans hx2⟩
  ·have d2 : decide (to ≤ at_) = false := decide_eq_false h2
   obtain ⟨gr, hgr⟩ : ∃ gr, gr = (vm.len == -1) := ⟨_, rfl⟩
   have HC : Hid (∀ x : Grow [] w1, Calls Try.prog 43 #[.pointer (some ⟨b, 0, none⟩)] x.v fun e w' => e = .returned (.bool gr) ∧ x.v = w') := Lh fun x => by rw [hgr]; exact grows_any x.v b vm vkv _ went (HV1.out.grow x)
   rw [← hgr] at HZ
   have H2 := Lh h2
   clear hgr h2
   cases gr with
   | false =>
    have Z : Hid (z = 3) := Lh (by rw [HZ.out, if_pos (.inr rfl)])
    go_wp2
    (refine wp_region_grow (by kernel_rfl) (by kernel_rfl) ?_; (repeat (go_big_quiet_step ((go_at_call 43; exact Calls.inGrow_same (HC.out _))))); refine wpQuiet_nil ?_)
    clear G0 G1 G2 d2
    intro w2 hx2
    go_wp2
    go_ret
    exact ⟨ret_int Z.out.symm, X1.out.trans hx2⟩
   | true =>
    have Z : Hid (z = if went = true then 4 else 2) := Lh (by rw [HZ.out, if_neg (by have := H2.out; simp; omega)])
    go_wp2
    (refine wp_region_grow (by kernel_rfl) (by kernel_rfl) ?_; (repeat (go_big_quiet_step ((go_at_call 43; exact Calls.inGrow_same (HC.out _))))); refine wpQuiet_nil ?_)
    clear G0 G1 G2 d2
    intro w2 hx2
    have k0 := blk_cell (hx2.heap H1.out) 0; have k12 := blk_cell (hx2.heap HV1.out) 12
    simp [strC, verC] at k0 k12
    have X2 := Lh (X1.out.trans hx2)
    clear hx2 X1
    cases went with
    | true =>
     go_wp2
     go_ret
     exact ⟨ret_int (by rw [Z.out]; rfl), X2.out⟩
    | false =>
     go_wp2
     go_ret
     exact ⟨ret_int (by rw [Z.out]; rfl), X2.out⟩
end Go.Proofs.Ytpangoddbfiagaa
namespace Go.Proofs.Ytpangoddbfiagaa
open Go.RowKit
set_option linter.unusedVariables false
set_option linter.unusedSimpArgs false
set_option maxRecDepth 100000 in
set_option maxHeartbeats 1000000 in
theorem take_none (w : World) (s : Nat) (st : Int) (m : MetaP) (kv : Value) (fr to at_ k : Int) (h : StrAt w s none st m kv fr to at_) : Calls Try.prog 18 #[.pointer (some ⟨s, 0, none⟩), .int .i64 k] w fun e w' => e = .returned (.tuple #[.slice none 0 0, .int .i64 3]) ∧ Ext w w' := by
 have G0 : ∀ x : Grow [] w, x.v.cell? ⟨s, 16, none⟩ = some (.int .i64 at_) := fun x => x.ext.cell (blk_cell h 16) (by simp)
 have H := Lh h
 have e8 : IntKind.i64.wrap (at_ - at_) = 0 := by rw [Int.sub_self]; rfl
 clear h
 by_cases hk : k ≤ 0
 ·have hk1 : k < 1 := by omega
  go_enter Try.func18, Try.ntmps18
  go_wp2
  (refine wp_region_grow (by kernel_rfl) (by kernel_rfl) ?_; (repeat (go_big_quiet_step ((go_at_call 45; exact Calls.inGrow_same (there_none _ s st m kv fr to at_ (H.out.grow _)))))); refine wpQuiet_nil ?_)
  clear G0 e8
  intro w1 hx1
  have X1 := Lh hx1
  clear hx1
  go_wp2_with (go_at_call 30; refine (has_none _ s st m kv fr to at_ (X1.out.heap H.out)).mono ?_; rintro e w2 ⟨rfl, x2⟩)
  go_ret2
  exact ⟨rfl, X1.out.trans x2⟩
 ·go_enter Try.func18, Try.ntmps18
  go_wp2
  (refine wp_region_grow (by kernel_rfl) (by kernel_rfl) ?_; (repeat (go_big_quiet_step ((go_at_call 45; exact Calls.inGrow_same (there_none _ s st m kv fr to at_ (H.out.grow _)))))); refine wpQuiet_nil ?_)
  clear G0 e8
  intro w1 hx1
  have X1 := Lh hx1
  clear hx1
  go_wp2_with (go_at_call 30; refine (has_none _ s st m kv fr to at_ (X1.out.heap H.out)).mono ?_; rintro e w2 ⟨rfl, x2⟩)
  go_ret2
  exact ⟨rfl, X1.out.trans x2⟩
def takeN (to at_ k : Int) (n : Nat) : Int := min k (min to n - at_)
set_option maxRecDepth 100000 in
set_option maxHeartbeats 1000000 in
theorem take_low (w : World) (s b : Nat) (st : Int) (m vm : MetaP) (kv vkv : Value) (A : Option Addr) (n c : Nat) (went : Bool) (fr to at_ k : Int) (h : StrAt w s (some ⟨b, 0, none⟩) st m kv fr to at_) (hv : VerAt w b vm vkv (.slice A n c) went) (hn : n ≤ 1000000) (ha : 0 ≤ at_) (ha2 : at_ ≤ 4611686018427387904) (ht : 0 ≤ to) (ht2 : to ≤ 4611686018427387904) (hk : takeN to at_ k n < 1) :
  Calls Try.prog 18 #[.pointer (some ⟨s, 0, none⟩), .int .i64 k] w fun e w' => e = .returned (.tuple #[.slice none 0 0, .int .i64 (hasZ to at_ n (vm.len == -1) went)]) ∧ Ext w w' := by
 have G0 : ∀ x : Grow [] w, x.v.cell? ⟨s, 16, none⟩ = some (.int .i64 at_) := fun x => x.ext.cell (blk_cell h 16) (by simp)
 have H := Lh h; have HV := Lh hv; have HN := Lh hn
 have e8 : IntKind.i64.wrap (min to n - at_) = min to n - at_ := IntWalk.i64_in _ (by omega)
 obtain ⟨z, hz⟩ : ∃ z, z = hasZ to at_ n (vm.len == -1) went := ⟨_, rfl⟩
 have HC : Hid (∀ W, Ext w W → Calls Try.prog 30 #[.pointer (some ⟨s, 0, none⟩)] W fun e w' => e = .returned (.int .i64 z) ∧ Ext W w') := Lh fun W x => by rw [hz]; exact has_some W s b st m vm kv vkv A n c went fr to at_ (x.heap H.out) (x.heap HV.out) HN.out
 rw [← hz]
 unfold takeN at hk
 clear h hv hn hz ha ha2 ht ht2
 by_cases hle : k ≤ min to n - at_
 ·have hk1 : k < 1 := by omega
  clear hk
  go_enter Try.func18, Try.ntmps18
  go_wp2
  (refine wp_region_grow (by kernel_rfl) (by kernel_rfl) ?_; (repeat (go_big_quiet_step ((go_at_call 45; exact Calls.inGrow (there_some _ s b st m vm kv vkv A n c went fr to at_ (H.out.grow _) (HV.out.grow _) HN.out))))); refine wpQuiet_nil ?_)
  clear G0 e8
  intro w1 hx1
  have X1 := Lh hx1
  clear hx1
  go_wp2_with (go_at_call 30; refine (HC.out _ X1.out).mono ?_; rintro e w2 ⟨rfl, x2⟩)
  go_ret2
  exact ⟨rfl, X1.out.trans x2⟩
 ·have hk1 : min to n - at_ < 1 := by omega
  clear hk
  go_enter Try.func18, Try.ntmps18
  go_wp2
  (refine wp_region_grow (by kernel_rfl) (by kernel_rfl) ?_; (repeat (go_big_quiet_step ((go_at_call 45; exact Calls.inGrow (there_some _ s b st m vm kv vkv A n c went fr to at_ (H.out.grow _) (HV.out.grow _) HN.out))))); refine wpQuiet_nil ?_)
  clear G0 e8
  intro w1 hx1
  have X1 := Lh hx1
  clear hx1
  go_wp2_with (go_at_call 30; refine (HC.out _ X1.out).mono ?_; rintro e w2 ⟨rfl, x2⟩)
  go_ret2
  exact ⟨rfl, X1.out.trans x2⟩
theorem sub_bytes {w : World} {base g cap i k : Nat} {bs : Bs} (h : BRow w base (.slice (some ⟨g, 0, none⟩) bs.length cap) bs) (hi : i + k ≤ bs.length) : BytesAt w (.slice (some ⟨g, i, none⟩) k (cap - i)) ((bs.drop i).take k) := by
 have hc : bs.length ≤ cap := by
  rcases h.2 with ⟨e, _⟩ | ⟨g', cap', cur, e, _, _, h1, _⟩
  ·cases e
  ·cases e; exact h1
 have hl : (((bs.drop i).take k).map byteV).length = k := by simp; omega
 refine ⟨some ⟨g, i, none⟩, cap - i, by rw [hl], by rw [hl]; omega, fun e => (by cases e), fun j hj => ⟨g, i, rfl, ?_⟩⟩
 rw [hl] at hj
 have h' : w.ownsRow base 5 1 (.slice (some ⟨g, 0, none⟩) bs.length cap) bs.length (bs.map byteV) := h
 rw [World.ownsRow.cellAt h' _ (by omega), List.getElem?_eq_getElem (by simp; omega)]
 congr 1
 simp
set_option maxRecDepth 100000 in
set_option maxHeartbeats 2000000 in
theorem take_some (w : World) (s b g base : Nat) (st : Int) (m vm : MetaP) (kv vkv : Value) (cap : Nat) (bs : Bs) (went : Bool) (fr to k : Int) (at_ kk : Nat) (h : StrAt w s (some ⟨b, 0, none⟩) st m kv fr to at_) (hv : VerAt w b vm vkv (.slice (some ⟨g, 0, none⟩) bs.length cap) went) (hr : BRow w base (.slice (some ⟨g, 0, none⟩) bs.length cap) bs) (hn : bs.length ≤ 1000000) (ht : 0 ≤ to) (ht2 : to ≤ 4611686018427387904) (hk : takeN to at_ k bs.length = kk) (hk1 : 1 ≤ kk) (hsb : s ≠ b) (hsg : s ≠ g) :
  Calls Try.prog 18 #[.pointer (some ⟨s, 0, none⟩), .int .i64 k] w fun e w' => ∃ v, e = .returned (.tuple #[v, .int .i64 (hasZ to ((at_ : Int) + kk) bs.length (vm.len == -1) went)]) ∧ BRow w' w.heap.size v ((bs.drop at_).take kk) ∧ StrAt w' s (some ⟨b, 0, none⟩) st m kv fr to ((at_ : Int) + kk) ∧ ExtB [s] w w' := by
 unfold takeN at hk
 have hak : at_ + kk ≤ bs.length := by omega
 have hcap : bs.length ≤ cap ∧ cap ≤ maxLen := by
  rcases hr.2 with ⟨e, _⟩ | ⟨g', cap', cur, e, _, _, h1, h2, _⟩
  ·cases e
  ·cases e; exact ⟨h1, h2⟩
 unfold maxLen at hcap
 have G0 : ∀ x : Grow [] w, x.v.cell? ⟨s, 16, none⟩ = some (.int .i64 at_) := fun x => x.ext.cell (blk_cell h 16) (by simp)
 have H := Lh h; have HV := Lh hv; have HN := Lh hn; have HR := Lh hr
 have e8 : IntKind.i64.wrap (min to (bs.length : Int) - at_) = min to bs.length - at_ := IntWalk.i64_in _ (by omega)
 obtain ⟨z, hz⟩ : ∃ z, z = hasZ to ((at_ : Int) + kk) bs.length (vm.len == -1) went := ⟨_, rfl⟩
 have HC : Hid (∀ W, StrAt W s (some ⟨b, 0, none⟩) st m kv fr to ((at_ : Int) + kk) → VerAt W b vm vkv (.slice (some ⟨g, 0, none⟩) bs.length cap) went → Calls Try.prog 30 #[.pointer (some ⟨s, 0, none⟩)] W fun e w' => e = .returned (.int .i64 z) ∧ Ext W w') := Lh fun W x y => by rw [hz]; exact has_some W s b st m vm kv vkv _ _ cap went fr to _ x y HN.out
 rw [← hz]
 obtain ⟨n, hnn⟩ : ∃ n, n = bs.length := ⟨_, rfl⟩
 rw [← hnn] at HV HR HN HC e8 hak hcap hk
 have HNN := Lh hnn
 have HM : Hid (min k (min to (n : Int) - at_) = kk) := Lh hk
 clear h hv hn hz hr hnn
 have hkk : ¬ (kk : Int) < 1 := by omega
 have hle : (k ≤ min to n - at_ ∧ k = kk) ∨ (¬ k ≤ min to n - at_ ∧ min to n - at_ = kk) := by omega
 clear hk ht ht2
 rcases hle with ⟨hle, rfl⟩ | ⟨hle, hle2⟩
 ·clear HM
  go_enter Try.func18, Try.ntmps18
  go_wp2
  (refine wp_region_grow (by kernel_rfl) (by kernel_rfl) ?_; (repeat (go_big_quiet_step ((go_at_call 45; exact Calls.inGrow (there_some _ s b st m vm kv vkv _ n cap went fr to at_ (H.out.grow _) (HV.out.grow _) HN.out))))); refine wpQuiet_nil ?_)
  clear G0 e8
  intro w1 hx1
  have X1 := Lh hx1
  clear hx1
  go_wp2
  have G0 : ∀ x : Grow [] w1.drew, x.v.cell? ⟨s, 0, none⟩ = some (.pointer (some ⟨b, 0, none⟩)) := fun x => x.ext.cell (a := w1.drew) (blk_cell (X1.out.heap H.out) 0) (by simp)
  have G1 : ∀ x : Grow [] w1.drew, x.v.cell? ⟨s, 16, none⟩ = some (.int .i64 at_) := fun x => x.ext.cell (a := w1.drew) (blk_cell (X1.out.heap H.out) 16) (by simp)
  have G2 : ∀ x : Grow [] w1.drew, x.v.cell? ⟨b, 11, none⟩ = some (.slice (some ⟨g, 0, none⟩) n cap) := fun x => x.ext.cell (a := w1.drew) (blk_cell (X1.out.heap HV.out) 11) (by simp)
  refine wp_region_segs [] [.inl [0, 1, 2, 3, 4, 5, 6, 7, 8, 9, 10, 11, 12, 13, 14, 15, 16, 17], .inr (.inr 18), .inl [19]] (by kernel_rfl) (by kernel_rfl) (fun c a d v w h => by cases d <;> exact h) ?_
  (rw [wpSegs_inl]; simp only [pickOps, mCc, mNn, gSs, gZz]; (repeat (go_big_quiet_step (fail))); refine wpQuiet_nil ?_)
  clear G0 G1 G2
  have HS : Hid (BytesAt w1.drew (.slice (some ⟨g, at_, none⟩) (at_ + kk - at_) (cap - at_)) ((bs.drop at_).take kk)) := Lh (by
   rw [Nat.add_sub_cancel_left]
   have := HR.out
   rw [HNN.out] at this
   exact (sub_bytes this (by have := HNN.out; omega)).ext (X1.out.drew))
  (rw [wpSegs_last]; simp only [pickOps, mCc, mNn, gSs, gZz]; go_wp2_with ((at_builtin; refine wpList_copyB rfl _ _ rfl _ ((bs.drop at_).take kk) HS.out rfl rfl (by simp; have := HN.out; have := HNN.out; omega) ?_)))
  intro v W2 r2 x2
  have X2 : Hid (Ext w W2) := Lh (X1.out.drew.trans x2)
  have hsz : w.heap.size ≤ w1.drew.heap.size := X1.out.size
  have R2 := Lh (ownsRow_base r2 hsz)
  have k16 := blk_cell (X2.out.heap H.out) 16
  simp [strC] at k16
  clear x2 r2 HS hsz
  go_wp2_with fail
  (rw [wpSegs_inl]; simp only [pickOps, mCc, mNn, gSs, gZz]; (repeat (go_big_quiet_step (fail))); refine wpQuiet_nil ?_)
  rw [wpSegs_nil]
  go_wp2_with (refine wpList_put 2 rfl _ _ rfl _ 16 94 _ (strC (some ⟨b, 0, none⟩) st m kv fr to ((at_ : Int) + kk)) [.int .i64 ((at_ : Int) + kk)] (.int .i64 ((at_ : Int) + kk)) (X2.out.heap H.out) rfl rfl rfl (by simp [strC]) rfl size2 (by simp [putA, strC]) ?_; intro W3 x3 n3 s3; refine stop_of ?_)
  unfold Stop
  have hlt : s < w.heap.size := blk_lt H.out
  have XB : Hid (ExtB [s] w W3) := Lh ((ExtB.of X2.out [s]).trans x3)
  have R3 := Lh (show BRow W3 w.heap.size v ((bs.drop at_).take kk) from own_extB R2.out x3 (by
   intro q hq
   have : q = s := by simpa using hq
   exact own_low R2.out (by omega)))
  have N3 := Lh n3
  have V3 := Lh (x3.heap (X2.out.heap HV.out) (by simpa using fun e => hsb e.symm))
  clear x3 n3 k16
  go_wp2_with (go_at_call 30; refine (HC.out _ N3.out V3.out).mono ?_; rintro e W4 ⟨rfl, x4⟩; refine stop_of ?_)
  unfold Stop
  have XC := Lh (XB.out.trans (.of x4 [s])); have R4 := Lh (show BRow W4 w.heap.size v ((bs.drop at_).take kk) from ownsRow_below R3.out x4); have N4 := Lh (x4.heap N3.out)
  clear x4
  go_wp2
  go_ret2
  exact ⟨_, rfl, R4.out, N4.out, XC.out⟩
 ·clear HM
  rw [hle2] at hle
  have HLE2 := Lh hle2
  rw [← hle2] at hle
  clear hle2
  go_enter Try.func18, Try.ntmps18
  go_wp2
  (refine wp_region_grow (by kernel_rfl) (by kernel_rfl) ?_; (repeat (go_big_quiet_step ((go_at_call 45; exact Calls.inGrow (there_some _ s b st m vm kv vkv _ n cap went fr to at_ (H.out.grow _) (HV.out.grow _) HN.out))))); refine wpQuiet_nil ?_)
  clear G0 e8
  intro w1 hx1
  have X1 := Lh hx1
  clear hx1
  rw [HLE2.out]
  go_wp2
  have G0 : ∀ x : Grow [] w1.drew, x.v.cell? ⟨s, 0, none⟩ = some (.pointer (some ⟨b, 0, none⟩)) := fun x => x.ext.cell (a := w1.drew) (blk_cell (X1.out.heap H.out) 0) (by simp)
  have G1 : ∀ x : Grow [] w1.drew, x.v.cell? ⟨s, 16, none⟩ = some (.int .i64 at_) := fun x => x.ext.cell (a := w1.drew) (blk_cell (X1.out.heap H.out) 16) (by simp)
  have G2 : ∀ x : Grow [] w1.drew, x.v.cell? ⟨b, 11, none⟩ = some (.slice (some ⟨g, 0, none⟩) n cap) := fun x => x.ext.cell (a := w1.drew) (blk_cell (X1.out.heap HV.out) 11) (by simp)
  refine wp_region_segs [] [.inl [0, 1, 2, 3, 4, 5, 6, 7, 8, 9, 10, 11, 12, 13, 14, 15, 16, 17], .inr (.inr 18), .inl [19]] (by kernel_rfl) (by kernel_rfl) (fun c a d v w h => by cases d <;> exact h) ?_
  (rw [wpSegs_inl]; simp only [pickOps, mCc, mNn, gSs, gZz]; (repeat (go_big_quiet_step (fail))); refine wpQuiet_nil ?_)
  clear G0 G1 G2
  have HS : Hid (BytesAt w1.drew (.slice (some ⟨g, at_, none⟩) (at_ + kk - at_) (cap - at_)) ((bs.drop at_).take kk)) := Lh (by
   rw [Nat.add_sub_cancel_left]
   have := HR.out
   rw [HNN.out] at this
   exact (sub_bytes this (by have := HNN.out; omega)).ext (X1.out.drew))
  (rw [wpSegs_last]; simp only [pickOps, mCc, mNn, gSs, gZz]; go_wp2_with ((at_builtin; refine wpList_copyB rfl _ _ rfl _ ((bs.drop at_).take kk) HS.out rfl rfl (by simp; have := HN.out; have := HNN.out; omega) ?_)))
  intro v W2 r2 x2
  have X2 : Hid (Ext w W2) := Lh (X1.out.drew.trans x2)
  have hsz : w.heap.size ≤ w1.drew.heap.size := X1.out.size
  have R2 := Lh (ownsRow_base r2 hsz)
  have k16 := blk_cell (X2.out.heap H.out) 16
  simp [strC] at k16
  clear x2 r2 HS hsz
  go_wp2_with fail
  (rw [wpSegs_inl]; simp only [pickOps, mCc, mNn, gSs, gZz]; (repeat (go_big_quiet_step (fail))); refine wpQuiet_nil ?_)
  rw [wpSegs_nil]
  go_wp2_with (refine wpList_put 2 rfl _ _ rfl _ 16 94 _ (strC (some ⟨b, 0, none⟩) st m kv fr to ((at_ : Int) + kk)) [.int .i64 ((at_ : Int) + kk)] (.int .i64 ((at_ : Int) + kk)) (X2.out.heap H.out) rfl rfl rfl (by simp [strC]) rfl size2 (by simp [putA, strC]) ?_; intro W3 x3 n3 s3; refine stop_of ?_)
  unfold Stop
  have hlt : s < w.heap.size := blk_lt H.out
  have XB : Hid (ExtB [s] w W3) := Lh ((ExtB.of X2.out [s]).trans x3)
  have R3 := Lh (show BRow W3 w.heap.size v ((bs.drop at_).take kk) from own_extB R2.out x3 (by
   intro q hq
   have : q = s := by simpa using hq
   exact own_low R2.out (by omega)))
  have N3 := Lh n3
  have V3 := Lh (x3.heap (X2.out.heap HV.out) (by simpa using fun e => hsb e.symm))
  clear x3 n3 k16
  go_wp2_with (go_at_call 30; refine (HC.out _ N3.out V3.out).mono ?_; rintro e W4 ⟨rfl, x4⟩; refine stop_of ?_)
  unfold Stop
  have XC := Lh (XB.out.trans (.of x4 [s])); have R4 := Lh (show BRow W4 w.heap.size v ((bs.drop at_).take kk) from ownsRow_below R3.out x4); have N4 := Lh (x4.heap N3.out)
  clear x4
  go_wp2
  go_ret2
  exact ⟨_, rfl, R4.out, N4.out, XC.out⟩
end Go.Proofs.Ytpangoddbfiagaa
