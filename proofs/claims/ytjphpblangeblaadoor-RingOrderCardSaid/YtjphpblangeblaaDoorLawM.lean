/- A list of calls with one more ahead. -/
import Derived.Test.YtjphpblangeblaaDoorLawC
import Derived.SizedLaws
namespace Go.Proofs.YtjphpblangeblaaDoor
open Go.RowKit Go.Maps Go.ChangeMaps
set_option linter.unusedVariables false
set_option linter.unusedSimpArgs false
/-- In a region that draws its order: a struct, read. -/
theorem wpQuiet_get {ops : Array Oper} {C : World → Prop} {Q : Act → Prop} {a : Act} {o : Oper} {rest : List Oper} (ty : TypeId) (d : TypeDesc) (hw : Region.wanted o (yielded ops a.tmps) = true) (x : Operand) (ho : o.op = .load ty x)
    (g off : Nat) (e : TypeId) (cur : Array Value) (cs : List Value) (hx : a.eval x = .pointer (some ⟨g, off, none⟩)) (hg : ∀ W, C W → W.heap[g]? = some (.cells cur e (0, 0))) (hc : (cur.toList.drop off).take cs.length = cs) (hu : Tryd.prog.underlying ty = some d) (hd : d.isRow = true) (hi : (Tryd.prog.info? ty).map (·.size) = some cs.length)
    (h : wpQuiet Tryd.prog ops C Q rest (a.put o.dst (.agg cs.toArray))) : wpQuiet Tryd.prog ops C Q (o :: rest) a :=
  BigFrame.wpQuiet_want hw fun K hK => ⟨.agg cs.toArray, fun W hW => by
    unfold Oper.quietAt execOp
    simp only [ho, hx, Instr.loadAt, Instr.sureAddr, Sem.run_bind, Sem.run_pure, Result.andThen_ok, run_loadVar_mid W g off ty cs d (range_of (hg W hW) hc) hu hd hi]
    exact ⟨rfl, rfl⟩, hK _ h⟩
theorem info38 : (Tryd.prog.info? 38).map (fun i => (i.zero, i.size, i.bytes)) = some (some (.agg #[.int .u8 0, .string ⟨#[]⟩, .int .i64 0]), 3, 32) := by kernel_rfl
theorem encOp_one (o : OpP) : ∀ u ∈ encOp o, u.oneCell' = true := by
  intro u hu
  simp [encOp] at hu
  rcases hu with rfl | rfl | rfl <;> rfl
theorem opsRow {w : World} {B : Nat} {v : Value} {xs : List OpP} (h : KRow encOp 3 38 w B v xs) : OpsAt w v xs := by
  obtain ⟨A, c, rfl⟩ := KRow.slice h
  have h0 : w.ownsRow B 38 3 (.slice A xs.length c) xs.length (xs.flatMap encOp) := h
  rcases h0.2 with ⟨e, hn⟩ | ⟨g, cap, cur, e, hbg, hg, hnc, hcm, hcs, htake⟩
  · injection e with e1 e2 e3
    subst e1 e3
    exact ⟨none, 0, rfl, by omega, fun _ => rfl, fun j hj => by omega⟩
  · injection e with e1 e2 e3
    subst e1 e3
    refine ⟨_, _, rfl, hnc, fun e => (by cases e), fun j hj => ⟨g, 0, rfl, (Array.getElem?_eq_some_iff.1 hg).1, fun t u hu => ?_⟩⟩
    have ht : t < 3 := by rw [← encOp_len xs[j]]; exact (List.getElem?_eq_some_iff.1 hu).1
    have := World.ownsRow.cells h0 (g := g) rfl (j * 3 + t) u (by rw [flat_get encOp 3 encOp_len xs j t hj ht]; exact hu)
    rw [add_plain] at this
    rw [show 0 + j * 3 + t = 0 + (j * 3 + t) by omega]; exact this
theorem ops_src {w : World} {A : Addr} {n c : Nat} {xs : List OpP} (h : OpsAt w (.slice (some A) n c) xs) (i : Nat) (u : Value) (hu : (xs.flatMap encOp)[i]? = some u) : w.cell? (A.add i) = some u := by
  have hi := (List.getElem?_eq_some_iff.1 hu).1
  rw [flat_len encOp 3 encOp_len] at hi
  have hj : i / 3 < xs.length := by omega
  have e : i = i / 3 * 3 + i % 3 := by omega
  obtain ⟨b, off, hA, _, hr⟩ := h.at_ hj
  obtain rfl := Option.some.inj hA
  have h2 := flat_get encOp 3 encOp_len xs (i / 3) (i % 3) hj (Nat.mod_lt _ (by decide))
  rw [← e, hu] at h2
  have := hr (i % 3) u h2.symm
  rw [add_plain, show off + i = off + i / 3 * 3 + i % 3 by omega]; exact this
set_option maxRecDepth 100000 in
/-- 'append([]Op{o}, l...)'. -/
theorem wpList_appO {W : World} {ops : Array Oper} {rest : List Oper} {o : Oper} {a : Act} {Q : Exit → Act → World → Prop} (hgd : o.guard = none)
    (s x : Operand) (ho : o.op = .call { callee := .builtin .append, args := #[s, x], argTypes := #[22, 22] }) (q : OpP) (gN : Nat) (hs : a.eval s = .slice (some ⟨gN, 0, none⟩) 1 1) (hgN : W.heap[gN]? = some (.cells (encOp q).toArray 38 (0, 0)))
    {A : Option Addr} {n c : Nat} {xs : List OpP} (hsrc : OpsAt W (.slice A n c) xs) (hx : a.eval x = .slice A n c) (hlen : (1 + n) * 32 ≤ 140737488355328)
    (h : ∀ v' w', OpsAt w' v' (q :: xs) → W.grownBy w' (some gN) → wpList Tryd.prog ops Q rest (a.put o.dst v') w') : wpList Tryd.prog ops Q (o :: rest) a W := by
  obtain ⟨i0, hi, hz0, hz1, hz2⟩ := info_parts info38
  have hlt := (Array.getElem?_eq_some_iff.1 hgN).1
  have hown : W.ownsRow gN 38 3 (.slice (some ⟨gN, 0, none⟩) 1 1) 1 (encOp q) := ⟨rfl, .inr ⟨gN, 1, _, rfl, Nat.le_refl _, hgN, Nat.le_refl _, by decide, rfl, rfl⟩⟩
  have hn : n = xs.length := by obtain ⟨_, _, e, _⟩ := hsrc; injection e
  cases A with
  | none =>
    obtain ⟨A', c', e', _, hc0, hcc⟩ := hsrc
    obtain ⟨rfl, rfl⟩ : (none : Option Addr) = A' ∧ c = c' := by injection e' with e1 e2 e3; exact ⟨e1, e3⟩
    have hn0 : xs = [] := by
      cases xs with
      | nil => rfl
      | cons y ys => obtain ⟨b, off, e, _⟩ := hcc 0 (by simp); cases e
    subst hn0
    obtain rfl := hc0 rfl
    subst hn
    refine wpList_append_own_none hgd s x 22 ho gN 38 i0 3 Tryd.underlying22 hi _ 1 _ hs hown hx ?_
    refine h _ W (opsRow (B := gN) (show W.ownsRow gN 38 3 _ 1 _ from by simpa using hown)) ⟨rfl, rfl, rfl, Nat.le_refl _, fun _ _ _ => rfl⟩
  | some A =>
    subst hn
    refine wpList_append_own _ hgd s x 22 ho gN 38 i0 _ 3 32 Tryd.underlying22 hi hz0 hz1 hz2 rfl (by decide) _ 1 _ hs hown A xs.length c (xs.flatMap encOp) hx (flat_len encOp 3 encOp_len xs) (fun i u hu => ops_src hsrc i u hu) ?_ (by unfold maxLen; omega) (by omega) (by omega) ?_
    · intro u hu
      obtain ⟨y, _, hy⟩ := List.mem_flatMap.1 hu
      exact encOp_one y u hy
    · intro v' w' h1 h2 _
      refine h v' w' (opsRow (B := gN) ?_) h2
      unfold KRow
      rw [List.flatMap_cons, List.length_cons, Nat.add_comm]; exact h1
section
variable {H : Type} {P : Program}
/-- No part of a datum is greater than a machine's memory. -/
def WOk (P : Program) (t : TypeId) (d : DataW H) : Prop := ∀ n ∈ d.weights P t, n ≤ reachBytes
theorem wok_arg {ts : List TypeId} {ds : List (DataW H)} (h : (DataW.weightsEach P ts ds).all (· ≤ reachBytes) = true) {j : Nat} {t : TypeId} {d : DataW H} (ht : ts[j]? = some t) (hd : ds[j]? = some d) : WOk P t d :=
  fun n hn => by simpa using List.all_eq_true.1 h n (DataW.weights_mem_each ht hd n hn)
theorem WOk.struct {t : TypeId} {fs : Array Field} {parts : List (DataW H)} (h : WOk P t (.agg parts)) (hu : P.underlying t = some (.struct fs)) {i : Nat} {f : Field} {d : DataW H} (hf : fs[i]? = some f) (hd : parts[i]? = some d) : WOk P f.type d := fun n hn => by
  refine h n ?_
  simp only [DataW.weights, hu]
  exact DataW.weights_mem_each (j := i) (by simp [hf]) hd n hn
theorem WOk.slice {t e : TypeId} {els sp : List (DataW H)} (h : WOk P t (.slice els sp)) (hu : P.underlying t = some (.slice e)) : (els.length + sp.length) * P.bytesOf e ≤ reachBytes :=
  h _ (by simp [DataW.weights, hu])
end
theorem bytes38_is : Tryd.prog.bytesOf 38 = 32 := by kernel_rfl
set_option maxRecDepth 100000 in
theorem make_weight {H : Type} {enc : TypeId × Value → H} {w : World} {base : Nat} {held : Bool} {z : Int} {A : Option Addr} {n c : Nat} {d : DataW H} {p : List MemPlace} (hwk : WOk Tryd.prog 24 d) (h : DataW.Trod enc Tryd.prog w base (fun _ => true) held 24 (.agg #[.int .i64 z, .slice A n c]) d p) : (1 + n) * 32 ≤ 140737488355328 := by
  obtain ⟨fuel, hf⟩ := h
  have hrb : reachBytes = 140737488351232 := rfl
  obtain ⟨ys, m, _, hx, hlen, hyl, hf'⟩ := DataW.trod_struct Tryd.underlying24 hf
  have f1 := hf' 1 _ rfl
  have f1' : DataW.trod enc Tryd.prog w base (fun _ => true) held m 22 (([.int .i64 z, .slice A n c].drop 1).take (Tryd.prog.cellsOf 22)) = ys[1]? := f1
  rw [cells22] at f1'
  have hy : ys.length = 2 := hyl
  obtain ⟨y0, y1, rfl⟩ := len2 hy
  have f2 : DataW.trod enc Tryd.prog w base (fun _ => true) held m 22 [.slice A n c] = some y1 := f1'
  have hd : d = .agg [y0.1, y1.1] := by
    have := congrArg Prod.fst hx
    simpa using this
  subst hd
  have hw1 : WOk Tryd.prog 22 y1.1 := hwk.struct Tryd.underlying24 (i := 1) rfl rfl
  rcases Go.Deep.open_slice Tryd.underlying22 f2 with ⟨hcs, _⟩ | ⟨a, len', cap', m', n', D, Pl, hcs, _, hl, hm, hmm, hx2, hi⟩
  · simp at hcs
    have h0 := hcs.2.1
    rw [h0]; decide
  · simp at hcs
    obtain ⟨_, h0, _⟩ := hcs
    rw [hx2] at hw1
    have hb := hw1.slice Tryd.underlying22
    simp only [List.length_map, List.length_range, bytes38_is] at hb
    rw [hrb] at hb; omega
end Go.Proofs.YtjphpblangeblaaDoor
