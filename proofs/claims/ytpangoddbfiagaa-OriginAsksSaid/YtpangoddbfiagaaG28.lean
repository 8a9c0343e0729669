/- Texts put together: LawC. -/
import Derived.Test.YtpangoddbfiagaaG27
import Derived.SizedLaws
/- Acts appended; sizes. -/
namespace Go.Proofs.Ytpangoddbfiagaa
open Go.ChangeShapes Go.WideShapes Go.ChangeAt Go.RowKit Go.Deep Go.Joins
open Go.Maps Go.ChangeMaps
set_option linter.unusedVariables false
set_option linter.unusedSimpArgs false

section
variable {H : Type} {P : Program}
/-- No part of a datum is greater than a machine's memory. -/
def WOk (P : Program) (t : TypeId) (d : DataW H) : Prop := ∀ n ∈ d.weights P t, n ≤ reachBytes
theorem wok_arg {ts : List TypeId} {ds : List (DataW H)} (h : (DataW.weightsEach P ts ds).all (· ≤ reachBytes) = true) {j : Nat} {t : TypeId} {d : DataW H} (ht : ts[j]? = some t) (hd : ds[j]? = some d) : WOk P t d :=
  fun n hn => by simpa using List.all_eq_true.1 h n (DataW.weights_mem_each ht hd n hn)
theorem WOk.struct {t : TypeId} {fs : Array Field} {parts : List (DataW H)} (h : WOk P t (.agg parts)) (hu : P.underlying t = some (.struct fs)) {i : Nat} {f : Field} {d : DataW H} (hf : fs[i]? = some f) (hd : parts[i]? = some d) : WOk P f.type d := fun n hn => by
  refine h n ?_
  simp only [DataW.weights, hu]
  exact DataW.weights_mem_each (j := i) (by simp [hf]) hd n hn
theorem weightsAll_mem {e : TypeId} {d : DataW H} {n : Nat} (hn : n ∈ d.weights P e) : ∀ {l : List (DataW H)}, d ∈ l → n ∈ DataW.weightsAll P e l
  | x :: l, h => by
    simp only [DataW.weightsAll, List.mem_append]
    rcases List.mem_cons.1 h with rfl | h
    · exact .inl hn
    · exact .inr (weightsAll_mem hn h)
theorem WOk.slice {t e : TypeId} {els sp : List (DataW H)} (h : WOk P t (.slice els sp)) (hu : P.underlying t = some (.slice e)) : (els.length + sp.length) * P.bytesOf e ≤ reachBytes ∧ ∀ d ∈ els, WOk P e d := by
  refine ⟨h _ (by simp [DataW.weights, hu]), fun d hd n hn => h n ?_⟩
  simp only [DataW.weights, hu]
  exact List.mem_cons_of_mem _ (List.mem_append_left _ (weightsAll_mem hn hd))
theorem WOk.string {t : TypeId} {b : List UInt8} (h : WOk P t (.lit (.string b) : DataW H)) : b.length ≤ reachBytes := h _ (by simp [DataW.weights])
end
theorem bytes40_is : Try.prog.bytesOf 40 = 264 := by kernel_rfl
set_option maxRecDepth 100000 in
theorem acts_weight {H : Type} {enc : TypeId × Value → H} {w : World} {base : Nat} {held : Bool} {v : Value} {xs : List ActP} {d : DataW H} {p : List MemPlace} (hwk : WOk Try.prog 41 d) (h : DataW.Trod enc Try.prog w base (fun _ => true) held 41 v d p) (hx : RowsG w 23 (RAct w) v xs) : xs.length * 264 ≤ 140737488351232 := by
  obtain ⟨A, c, rfl⟩ := RowsG.slice hx
  obtain ⟨fuel, hf⟩ := h
  have hrb : reachBytes = 140737488351232 := rfl
  rcases open_slice Try.underlying41 hf with ⟨hcs, _⟩ | ⟨a, len', cap', m, n', D, Pl, hcs, _, hl, hm, hmm, hx, hi⟩
  · simp [Value.cells] at hcs
    have h0 := hcs.2.1
    first | (rw [h0]; decide) | (rw [h0]; simp) | omega
  · simp [Value.cells] at hcs
    obtain ⟨_, h0, _⟩ := hcs
    simp only [Prod.mk.injEq] at hx
    rw [hx.1] at hwk
    obtain ⟨hb, he⟩ := hwk.slice Try.underlying41
    simp only [List.length_map, List.length_range, bytes40_is] at hb
    rw [hrb] at hb; omega
/-- The cells of a row of acts. -/
def actCells (xs : List ActP) : List Value := (xs.map actC).flatten
theorem actC_len (a : ActP) : (actC a).length = 23 := rfl
theorem actCells_cons (a : ActP) (xs : List ActP) : actCells (a :: xs) = actC a ++ actCells xs := rfl
theorem actCells_len : ∀ (xs : List ActP), (actCells xs).length = xs.length * 23
  | [] => rfl
  | a :: xs => by rw [actCells_cons, List.length_append, actCells_len xs, actC_len, List.length_cons]; omega
theorem actCells_app (xs ys : List ActP) : actCells (xs ++ ys) = actCells xs ++ actCells ys := by simp [actCells]
theorem actCells_get : ∀ (xs : List ActP) (k : Nat) (a : ActP), xs[k]? = some a → ∀ j u, (actC a)[j]? = some u → (actCells xs)[k * 23 + j]? = some u
  | [], k, a, h, j, u, hu => by simp at h
  | b :: xs, 0, a, h, j, u, hu => by
    obtain rfl : b = a := by simpa using h
    have hj := (List.getElem?_eq_some_iff.1 hu).1
    rw [actCells_cons, List.getElem?_append_left (by omega)]
    simpa using hu
  | b :: xs, k + 1, a, h, j, u, hu => by
    have ih := actCells_get xs k a (by simpa using h) j u hu
    rw [actCells_cons, List.getElem?_append_right (by rw [actC_len]; omega), actC_len, show (k + 1) * 23 + j - 23 = k * 23 + j by omega]
    exact ih
theorem actCells_at : ∀ (xs : List ActP) (i : Nat) (u : Value), (actCells xs)[i]? = some u → ∃ k j a, i = k * 23 + j ∧ xs[k]? = some a ∧ (actC a)[j]? = some u
  | [], i, u, h => by simp [actCells] at h
  | b :: xs, i, u, h => by
    rw [actCells_cons] at h
    by_cases hi : i < 23
    · rw [List.getElem?_append_left (by rw [actC_len]; omega)] at h
      exact ⟨0, i, b, by omega, rfl, h⟩
    · rw [List.getElem?_append_right (by rw [actC_len]; omega), actC_len] at h
      obtain ⟨k, j, a, e, h1, h2⟩ := actCells_at xs (i - 23) u h
      exact ⟨k + 1, j, a, by omega, by simpa using h1, h2⟩
theorem rows_src {w : World} {a : Addr} {n c : Nat} {xs : List ActP} (h : RowsG w 23 (RAct w) (.slice (some a) n c) xs) (i : Nat) (u : Value) (hu : (actCells xs)[i]? = some u) : w.cell? (a.add i) = some u := by
  obtain ⟨k, j, b, e, h1, h2⟩ := actCells_at xs i u hu
  obtain ⟨eb, eo, hA, hr, _⟩ := acts_at h (Ext.refl w) h1
  obtain rfl := Option.some.inj hA
  have := hr j u h2
  rw [add_plain, e, ← Nat.add_assoc]; exact this
theorem own_acts {w : World} {base : Nat} {v : Value} {xs : List ActP} (h : w.ownsRow base 40 23 v xs.length (actCells xs)) (hr : ∀ a ∈ xs, RAct w a (actC a)) : RowsG w 23 (RAct w) v xs := by
  have h0 := h
  rcases h.2 with ⟨rfl, hn⟩ | ⟨g, cap, cur, rfl, hbg, hg, hnc, hcm, hcs, htake⟩
  · exact ⟨none, 0, by rw [hn], by omega, fun _ => rfl, fun k hk => by omega⟩
  · refine ⟨some ⟨g, 0, none⟩, cap, rfl, hnc, fun e => (by cases e), fun k hk => ⟨g, 0, actC xs[k], rfl, hr _ (List.getElem_mem hk), blk_lt hg, fun j u hu => ?_⟩⟩
    have := World.ownsRow.cells h0 (g := g) rfl (k * 23 + j) u (actCells_get xs k xs[k] (by simp [hk]) j u hu)
    rw [add_plain] at this
    have e : 0 + k * 23 + j = 0 + (k * 23 + j) := by omega
    rw [e]; exact this
theorem info40 : (Try.prog.info? 40).map (fun i => (i.zero, i.size, i.bytes)) = some (some (.agg #[.int .i64 0, .string ⟨#[]⟩, .string ⟨#[]⟩, .bool false, .int .i64 0, .int .i64 0, .int .i64 0, .int .i64 0, .int .i64 0, .int .i64 0, .slice none 0 0, .string ⟨#[]⟩, .bool false, .slice none 0 0, .string ⟨#[]⟩, .int .i64 0, .int .i64 0, .string ⟨#[]⟩, .bool false, .string ⟨#[]⟩, .bool false, .int .u8 0, .int .i64 0]), 23, 264) := by kernel_rfl
theorem acts_one {w : World} {xs : List ActP} (h : ∀ a ∈ xs, RAct w a (actC a)) : ∀ q ∈ actCells xs, q.oneCell' = true := by
  intro q hq
  obtain ⟨l, hl, hq⟩ := List.mem_flatten.1 hq
  obtain ⟨a, ha, rfl⟩ := List.mem_map.1 hl
  exact List.all_eq_true.1 (act_one (h a ha)) q hq
theorem rows_all {w : World} {v : Value} {xs : List ActP} (h : RowsG w 23 (RAct w) v xs) : ∀ a ∈ xs, RAct w a (actC a) := fun a ha => by
  obtain ⟨A, c, rfl⟩ := RowsG.slice h
  obtain ⟨k, hk⟩ := List.mem_iff_getElem?.1 ha
  obtain ⟨_, _, _, _, hr⟩ := acts_at h (Ext.refl w) hk
  exact hr
set_option maxRecDepth 100000 in
/-- 'append(v, u..)' of acts, under a guard. -/
theorem wpList_appA {W0 W : World} {ops : Array Oper} {rest : List Oper} {o : Oper} {a : Act} {Q : Exit → Act → World → Prop} (hw : Region.wanted o (yielded ops a.tmps) = true)
    (s x : Operand) (ho : o.op = .call { callee := .builtin .append, args := #[s, x], argTypes := #[41, 41] }) (v u : Value) (ys xs : List ActP) (hE : Ext W0 W) (hown : W.ownsRow W0.heap.size 40 23 v ys.length (actCells ys)) (hsrc : RowsG W 23 (RAct W) u xs) (hs : a.eval s = v) (hx : a.eval x = u) (hlen : (ys.length + xs.length) * 264 ≤ 140737488355328)
    (h : ∀ v' w', w'.ownsRow W0.heap.size 40 23 v' (ys ++ xs).length (actCells (ys ++ xs)) → Ext W0 w' → Below W0.heap.size W w' → ExtB v.ownBlock.toList W w' → wpList Try.prog ops Q rest (a.put o.dst v') w') : wpList Try.prog ops Q (o :: rest) a W := by
  obtain ⟨i0, hi, hz0, hz1, hz2⟩ := info_parts info40
  have hall := rows_all hsrc
  obtain ⟨A, c, rfl⟩ := RowsG.slice hsrc
  have stepk : ∀ {w' : World}, W.grownBy w' v.ownBlock → Ext W0 w' ∧ Below W0.heap.size W w' := fun {w'} g => by
    have hb : Below W0.heap.size W w' := ⟨g.os, g.tape, g.output, g.size, fun k hk => g.block k (Nat.lt_of_lt_of_le hk hE.size) (fun e => by have := (hown.lt k e.symm).1; omega)⟩
    exact ⟨Below.trans hE hb, hb⟩
  cases A with
  | none =>
    obtain ⟨A', c', e', _, hc0, hcc⟩ := hsrc
    obtain ⟨rfl, rfl⟩ : (none : Option Addr) = A' ∧ c = c' := by injection e' with e1 e2 e3; exact ⟨e1, e3⟩
    have hn : xs = [] := by
      cases xs with
      | nil => rfl
      | cons y ys => obtain ⟨b, off, cs, e, _⟩ := hcc 0 (by simp); cases e
    subst hn
    obtain rfl := hc0 rfl
    refine BigFrame.wpList_want hw fun K hK => ?_
    have hrun := run_append_owned_none (P := Try.prog) (w := W) W0.heap.size 41 o.type 40 i0 23 Try.underlying41 hi v _ _ hown
    unfold Oper.wp execOp
    simp only [ho, resolve, invoke, builtin, Sem.run_bind, Sem.run_pure, Result.andThen_ok, List.map_toArray, List.map_cons, List.map_nil, hs, hx]
    simp only [List.length_nil] at hrun ⊢
    rw [hrun]
    refine hK _ _ (h v W (by rw [List.append_nil]; exact hown) hE (Below.refl _ _) (ExtB.refl _ _))
  | some A =>
    have hl1 : (actCells xs).length = xs.length * 23 := actCells_len xs
    obtain ⟨v', w', hr, h2, h3, _⟩ := run_append_own (P := Try.prog) W W0.heap.size 41 o.type 40 i0 _ 23 264 Try.underlying41 hi hz0 hz1 hz2 rfl (by decide) v ys.length (actCells ys) hown A xs.length c (actCells xs) hl1 (fun i u hu => rows_src hsrc i u hu) (acts_one hall) (by unfold maxLen; omega) (by omega) hE.size
    refine BigFrame.wpList_want hw fun K hK => ?_
    unfold Oper.wp execOp
    simp only [ho, resolve, invoke, builtin, Sem.run_bind, Sem.run_pure, Result.andThen_ok, List.map_toArray, List.map_cons, List.map_nil, hs, hx, hr]
    refine hK _ _ (h v' w' ?_ (stepk h3).1 (stepk h3).2 (grownBy_extB h3))
    rw [List.length_append, actCells_app]
    exact h2
/-- What follows, once for all roads to it. -/
theorem cut4 {A P : Value → Value → Value → Value → World → Prop} {G : Prop} (h2 : (∀ v1 v2 v3 v4 W, A v1 v2 v3 v4 W → P v1 v2 v3 v4 W) → G) (h1 : ∀ v1 v2 v3 v4 W, A v1 v2 v3 v4 W → P v1 v2 v3 v4 W) : G := h2 h1
end Go.Proofs.Ytpangoddbfiagaa
