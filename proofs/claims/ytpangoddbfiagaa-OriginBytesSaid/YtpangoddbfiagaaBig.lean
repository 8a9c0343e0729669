/- Structs in memory, laid, read and written as wholes; the world behind an operation is any world of which the facts are told. -/
import Derived.Test.YtpangoddbfiagaaRows1
import Derived.Deep.MidRow
import Derived.Deep.WholeRow
namespace Go.Proofs.Ytpangoddbfiagaa
open Go.RowKit
set_option linter.unusedVariables false
set_option linter.unusedSimpArgs false

def putA (cur : Array Value) (o : Nat) : List Value → Array Value
  | [] => cur
  | u :: us => putA (cur.setIfInBounds o u) (o + 1) us
theorem setCells_at (b : Nat) (e : TypeId) (z : Nat × Nat) : ∀ (us : List Value) (o : Nat) (cur : Array Value) (w : World), w.heap[b]? = some (.cells cur e z) → (w.setCells b o us).heap[b]? = some (.cells (putA cur o us) e z)
  | [], o, cur, w, h => by simpa [World.setCells, putA] using h
  | u :: us, o, cur, w, h => by
    simp only [World.setCells, putA]
    exact setCells_at b e z us (o + 1) _ _ (blk_set h o u)
theorem setCells_ext (b : Nat) : ∀ (us : List Value) (o : Nat) (w : World), ExtB [b] w (w.setCells b o us) ∧ (w.setCells b o us).heap.size = w.heap.size
  | [], o, w => ⟨by simpa [World.setCells] using ExtB.refl _ _, rfl⟩
  | u :: us, o, w => by
    simp only [World.setCells]
    obtain ⟨h1, h2⟩ := setCells_ext b us (o + 1) (w.setCell ⟨b, o, none⟩ u)
    have h3 : ExtB [b] w (w.setCell ⟨b, o, none⟩ u) := (ExtB.refl [b] w).setCell (.inl (by simp)) u
    exact ⟨h3.trans h1, by rw [h2]; simp [World.setCell]⟩
section
variable {ops : Array Oper} {rest : List Oper} {o : Oper} {a : Act} {w : World} {Q : Exit → Act → World → Prop}
/-- 'new(T)' of a struct. -/
theorem wpList_new (ty : TypeId) (Z : Array Value) (hz : ∀ w, (zeroValue ty).run Try.prog w = .ok (.agg Z) w) (hgd : o.guard = none) (ho : o.op = .alloc ty)
    (h : ∀ W1, Ext w W1 → W1.heap[w.heap.size]? = some (.cells Z ty (0, 0)) → W1.heap.size = w.heap.size + 1 → wpList Try.prog ops Q rest (a.put o.dst (.pointer (some ⟨w.heap.size, 0, none⟩))) W1) : wpList Try.prog ops Q (o :: rest) a w :=
  wpList_plain hgd fun K hK => by
    unfold Oper.wp
    simp [execOp, ho, Instr.alloc, hz, newVar, Value.cells, Result.andThen]
    exact hK _ _ (h _ (ext_alloc1 _ _) (heap_alloc_new w _) (by simp))
/-- '&T{..}', or a variable that holds a struct. -/
theorem wpList_boxA (ty : TypeId) (hgd : o.guard = none) (x : Operand) (ho : o.op = .box ty x) (cs : Array Value) (hx : a.eval x = .agg cs)
    (h : ∀ W1, Ext w W1 → W1.heap[w.heap.size]? = some (.cells cs ty (0, 0)) → W1.heap.size = w.heap.size + 1 → wpList Try.prog ops Q rest (a.put o.dst (.pointer (some ⟨w.heap.size, 0, none⟩))) W1) : wpList Try.prog ops Q (o :: rest) a w :=
  wpList_plain hgd fun K hK => by
    unfold Oper.wp
    simp [execOp, ho, hx, Instr.box, newVar, Value.cells, Result.andThen]
    exact hK _ _ (h _ (ext_alloc1 _ _) (heap_alloc_new w _) (by simp))
theorem run_put {w : World} {g off : Nat} {ty e : TypeId} {v : Value} {cur : Array Value} (us : List Value) (hv : v.cells.toList = us) (hg : w.heap[g]? = some (.cells cur e (0, 0))) (hl : off + us.length ≤ cur.size) (h1 : us.all (·.oneCell') = true) (hi : (Try.prog.info? ty).map (·.size) = some us.length) :
    (storeVar ty ⟨g, off, none⟩ v).run Try.prog w = .ok () (w.setCells g off us) := by
  have := run_storeCells_cells (P := Try.prog) g off us 0 w (fun j hj => by
      rw [blk_cell hg, Array.getElem?_eq_getElem (by omega)]; rfl) (fun j hj => blk_free hg _) (fun u hu => List.all_eq_true.1 h1 u hu)
  cases hq : Try.prog.info? ty with
  | none => simp [hq] at hi
  | some i =>
    have hs : us.length = i.size := by simp [hq] at hi; omega
    have hc : v.cells = us.toArray := by rw [← hv]
    simp only [Nat.add_zero] at this
    simp [storeVar, sizeOf, typeInfo, hq, hc, hs, this]
/-- '*p = v', or a field of it. -/
theorem wpList_put (ty : TypeId) (hgd : o.guard = none) (x y : Operand) (ho : o.op = .store ty x y) (g off : Nat) (e : TypeId) (cur new : Array Value) (us : List Value) (v : Value) (hg : w.heap[g]? = some (.cells cur e (0, 0))) (hx : a.eval x = .pointer (some ⟨g, off, none⟩)) (hy : a.eval y = v) (hv : v.cells.toList = us)
    (hl : off + us.length ≤ cur.size) (h1 : us.all (·.oneCell') = true) (hi : (Try.prog.info? ty).map (·.size) = some us.length) (hn : putA cur off us = new)
    (h : ∀ W1, ExtB [g] w W1 → W1.heap[g]? = some (.cells new e (0, 0)) → W1.heap.size = w.heap.size → wpList Try.prog ops Q rest (a.put o.dst undef) W1) : wpList Try.prog ops Q (o :: rest) a w :=
  wpList_plain hgd fun K hK => by
    unfold Oper.wp execOp
    simp only [ho, hx, hy, Instr.storeAt, Instr.sureAddr, Sem.run_bind, Sem.run_pure, Result.andThen_ok, run_put us hv hg hl h1 hi]
    refine hK _ _ (h _ (setCells_ext g us off w).1 ?_ (setCells_ext g us off w).2)
    rw [← hn]
    exact setCells_at g e (0, 0) us off cur w hg
theorem range_of {w : World} {g off : Nat} {e : TypeId} {z : Nat × Nat} {cur : Array Value} {cs : List Value} (hg : w.heap[g]? = some (.cells cur e z)) (hc : (cur.toList.drop off).take cs.length = cs) : w.rangeAt g off cs := by
  intro j v hv
  rw [blk_cell hg]
  rw [← hc, List.getElem?_take] at hv
  split at hv
  · simpa using hv
  · cases hv
/-- 'v = *p', or a field of it that is a struct. -/
theorem wpList_get (ty : TypeId) (d : TypeDesc) (hgd : o.guard = none) (x : Operand) (ho : o.op = .load ty x) (g off : Nat) (e : TypeId) (cur : Array Value) (cs : List Value) (hg : w.heap[g]? = some (.cells cur e (0, 0))) (hx : a.eval x = .pointer (some ⟨g, off, none⟩))
    (hc : (cur.toList.drop off).take cs.length = cs) (hu : Try.prog.underlying ty = some d) (hd : d.isRow = true) (hi : (Try.prog.info? ty).map (·.size) = some cs.length)
    (h : wpList Try.prog ops Q rest (a.put o.dst (.agg cs.toArray)) w) : wpList Try.prog ops Q (o :: rest) a w :=
  wpList_load_mid hgd ty x ho g off hx cs d (range_of hg hc) hu hd hi h
end
theorem zero38 (w : World) : (zeroValue 38).run Try.prog w = .ok (.agg #[.string ⟨#[]⟩, .bool false, .int .i64 0, .int .i64 0, .int .i64 0, .int .i64 0, .int .i64 0, .int .i64 0, .slice none 0 0, .string ⟨#[]⟩, .bool false]) w := by kernel_rfl
theorem zero49 (w : World) : (zeroValue 49).run Try.prog w = .ok (.agg #[.int .i64 0, .string ⟨#[]⟩, .bool false, .int .i64 0, .int .i64 0, .int .i64 0, .int .i64 0, .int .i64 0, .int .i64 0, .slice none 0 0, .string ⟨#[]⟩, .bool false, .int .i64 0, .int .i64 0, .int .i64 0]) w := by kernel_rfl
theorem size38 : (Try.prog.info? 38).map (·.size) = some 11 := by kernel_rfl
theorem size49 : (Try.prog.info? 49).map (·.size) = some 15 := by kernel_rfl
theorem size27 : (Try.prog.info? 27).map (·.size) = some 2 := by kernel_rfl
theorem size25 : (Try.prog.info? 25).map (·.size) = some 2 := by kernel_rfl
theorem size2 : (Try.prog.info? 2).map (·.size) = some 1 := by kernel_rfl
theorem size4 : (Try.prog.info? 4).map (·.size) = some 1 := by kernel_rfl
theorem size22 : (Try.prog.info? 22).map (·.size) = some 1 := by kernel_rfl
theorem size36 : (Try.prog.info? 36).map (·.size) = some 1 := by kernel_rfl
end Go.Proofs.Ytpangoddbfiagaa
