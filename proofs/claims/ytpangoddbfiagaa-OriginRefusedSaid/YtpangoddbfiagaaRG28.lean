import Derived.Test.YtpangoddbfiagaaRG27
import Derived.SizedLaws
namespace Go.Proofs.Ytpangoddbfiagaa
open Go.ChangeShapes Go.WideShapes Go.ChangeAt Go.RowKit Go.Deep Go.Joins
open Go.Maps Go.ChangeMaps
set_option linter.unusedVariables false
set_option linter.unusedSimpArgs false
section
variable {H : Type} {P : Program}
def WOk (P : Program) (t : TypeId) (d : DataW H) : Prop := ∀ n ∈ d.weights P t, n ≤ reachBytes
theorem wok_arg {ts : List TypeId} {ds : List (DataW H)} (h : (DataW.weightsEach P ts ds).all (· ≤ reachBytes) = true) {j : Nat} {t : TypeId} {d : DataW H} (ht : ts[j]? = some t) (hd : ds[j]? = some d) : WOk P t d :=
 fun n hn => by simpa using List.all_eq_true.1 h n (DataW.weights_mem_each ht hd n hn)
theorem WOk.struct {t : TypeId} {fs : Array Field} {parts : List (DataW H)} (h : WOk P t (.agg parts)) (hu : P.underlying t = some (.struct fs)) {i : Nat} {f : Field} {d : DataW H} (hf : fs[i]? = some f) (hd : parts[i]? = some d) : WOk P f.type d := fun n hn => by
 refine h n ?_
 simp only [DataW.weights, hu]
 exact DataW.weights_mem_each (j := i) (by simp [hf]) hd n hn
theorem weightsAll_mem {e : TypeId} {d : DataW H} {n : Nat} (hn : n ∈ d.weights P e) : ∀ {l : List (DataW H)}, d ∈ l → n ∈ DataW.weightsAll P e l
 | x :: l, h => by
  simp only [DataW.weightsAll, List.mem_append]
  rcases List.mem_cons.1 h with rfl | h
  ·exact .inl hn
  ·exact .inr (weightsAll_mem hn h)
theorem WOk.slice {t e : TypeId} {els sp : List (DataW H)} (h : WOk P t (.slice els sp)) (hu : P.underlying t = some (.slice e)) : (els.length + sp.length) * P.bytesOf e ≤ reachBytes ∧ ∀ d ∈ els, WOk P e d := by
 refine ⟨h _ (by simp [DataW.weights, hu]), fun d hd n hn => h n ?_⟩
 simp only [DataW.weights, hu]
 exact List.mem_cons_of_mem _ (List.mem_append_left _ (weightsAll_mem hn hd))
theorem WOk.string {t : TypeId} {b : List UInt8} (h : WOk P t (.lit (.string b) : DataW H)) : b.length ≤ reachBytes := h _ (by simp [DataW.weights])
end
theorem bytes40_is : Try.prog.bytesOf 40 = 264 := by kernel_rfl
set_option maxRecDepth 100000 in
theorem acts_weight {H : Type} {enc : TypeId × Value → H} {w : World} {base : Nat} {held : Bool} {v : Value} {xs : List ActP} {d : DataW H} {p : List MemPlace} (hwk : WOk Try.prog 41 d) (h : DataW.Trod enc Try.prog w base (fun _ => true) held 41 v d p) (hx : RowsG w 23 (RAct w) v xs) : xs.length * 264 ≤ 140737488351232 := by
 obtain ⟨A, c, rfl⟩ := RowsG.slice hx
 obtain ⟨fuel, hf⟩ := h
 have hrb : reachBytes = 140737488351232 := rfl
 rcases open_slice Try.underlying41 hf with ⟨hcs, _⟩ | ⟨a, len', cap', m, n', D, Pl, hcs, _, hl, hm, hmm, hx, hi⟩
 ·simp [Value.cells] at hcs
  have h0 := hcs.2.1
  first | (rw [h0]; decide) | (rw [h0]; simp) | omega
 ·simp [Value.cells] at hcs
  obtain ⟨_, h0, _⟩ := hcs
  simp only [Prod.mk.injEq] at hx
  rw [hx.1] at hwk
  obtain ⟨hb, he⟩ := hwk.slice Try.underlying41
  simp only [List.length_map, List.length_range, bytes40_is] at hb
  rw [hrb] at hb; omega
def actCells (xs : List ActP) : List Value := (xs.map actC).flatten
theorem actC_len (a : ActP) : (actC a).length = 23 := rfl
theorem actCells_cons (a : ActP) (xs : List ActP) : actCells (a :: xs) = actC a ++ actCells xs := rfl
theorem actCells_len : ∀ (xs : List ActP), (actCells xs).length = xs.length * 23
 | [] => rfl
 | a :: xs => by rw [actCells_cons, List.length_append, actCells_len xs, actC_len, List.length_cons]; omega
theorem actCells_app (xs ys : List ActP) : actCells (xs ++ ys) = actCells xs ++ actCells ys := by simp [actCells]
theorem actCells_get : ∀ (xs : List ActP) (k : Nat) (a : ActP), xs[k]? = some a → ∀ j u, (actC a)[j]? = some u → (actCells xs)[k * 23 + j]? = some u
 | [], k, a, h, j, u, hu => by simp at h
 | b :: xs, 0, a, h, j, u, hu => by
  obtain rfl : b = a := by simpa using h
  have hj := (List.getElem?_eq_some_iff.1 hu).1
  rw [actCells_cons, List.getElem?_append_left (by omega)]
  simpa using hu
 | b :: xs, k + 1, a, h, j, u, hu => by
  have ih := actCells_get xs k a (by simpa using h) j u hu
  rw [actCells_cons, List.getElem?_append_right (by rw [actC_len]; omega), actC_len, show (k + 1) * 23 + j - 23 = k * 23 + j by omega]
  exact ih
theorem actCells_at : ∀ (xs : List ActP) (i : Nat) (u : Value), (actCells xs)[i]? = some u → ∃ k j a, i = k * 23 + j ∧ xs[k]? = some a ∧ (actC a)[j]? = some u
 | [], i, u, h => by simp [actCells] at h
 | b :: xs, i, u, h => by
  rw [actCells_cons] at h
  by_cases hi : i < 23
  ·rw [List.getElem?_append_left (by rw [actC_len]; omega)] at h
   exact ⟨0, i, b, by omega, rfl, h⟩
  ·rw [List.getElem?_append_right (by rw [actC_len]; omega), actC_len] at h
   obtain ⟨k, j, a, e, h1, h2⟩ := actCells_at xs (i - 23) u h
   exact ⟨k + 1, j, a, by omega, by simpa using h1, h2⟩
theorem rows_src {w : World} {a : Addr} {n c : Nat} {xs : List ActP} (h : RowsG w 23 (RAct w) (.slice (some a) n c) xs) (i : Nat) (u : Value) (hu : (actCells xs)[i]? = some u) : w.cell? (a.add i) = some u := by
 obtain ⟨k, j, b, e, h1, h2⟩ := actCells_at xs i u hu
 obtain ⟨eb, eo, hA, hr, _⟩ := acts_at h (Ext.refl w) h1
 obtain rfl := Option.some.inj hA
 have := hr j u h2
 rw [add_plain, e, ← Nat.add_assoc]; exact this
theorem own_acts {w : World} {base : Nat} {v : Value} {xs : List ActP} (h : w.ownsRow base 40 23 v xs.length (actCells xs)) (hr : ∀ a ∈ xs, RAct w a (actC a)) : RowsG w 23 (RAct w) v xs := by
 have h0 := h
 rcases h.2 with ⟨rfl, hn⟩ | ⟨g, cap, cur, rfl, hbg, hg, hnc, hcm, hcs, htake⟩
 ·exact ⟨none, 0, by rw [hn], by omega, fun _ => rfl, fun k hk => by omega⟩
 ·refine ⟨some ⟨g, 0, none⟩, cap, rfl, hnc, fun e => (by cases e), fun k hk => ⟨g, 0, actC xs[k], rfl, hr _ (List.getElem_mem hk), blk_lt hg, fun j u hu => ?_⟩⟩
  have := World.ownsRow.cells h0 (g := g) rfl (k * 23 + j) u (actCells_get xs k xs[k] (by simp [hk]) j u hu)
  rw [add_plain] at this
  have e : 0 + k * 23 + j = 0 + (k * 23 + j) := by omega
  rw [e]; exact this
theorem info40 : (Try.prog.info? 40).map (fun i => (i.zero, i.size, i.bytes)) = some (some (.agg #[.int .i64 0, .string ⟨#[]⟩, .string ⟨#[]⟩, .bool false, .int .i64 0, .int .i64 0, .int .i64 0, .int .i64 0, .int .i64 0, .int .i64 0, .slice none 0 0, .string ⟨#[]⟩, .bool false, .slice none 0 0, .string ⟨#[]⟩, .int .i64 0, .int .i64 0, .string ⟨#[]⟩, .bool false, .string ⟨#[]⟩, .bool false, .int .u8 0, .int .i64 0]), 23, 264) := by kernel_rfl
theorem acts_one {w : World} {xs : List ActP} (h : ∀ a ∈ xs, RAct w a (actC a)) : ∀ q ∈ actCells xs, q.oneCell' = true := by
 intro q hq
 obtain ⟨l, hl, hq⟩ := List.mem_flatten.1 hq
 obtain ⟨a, ha, rfl⟩ := List.mem_map.1 hl
 exact List.all_eq_true.1 (act_one (h a ha)) q hq
theorem rows_all {w : World} {v : Value} {xs : List ActP} (h : RowsG w 23 (RAct w) v xs) : ∀ a ∈ xs, RAct w a (actC a) := fun a ha => by
 obtain ⟨A, c, rfl⟩ := RowsG.slice h
 obtain ⟨k, hk⟩ := List.mem_iff_getElem?.1 ha
 obtain ⟨_, _, _, _, hr⟩ := acts_at h (Ext.refl w) hk
 exact hr
set_option maxRecDepth 100000 in
theorem wpList_appA {W0 W : World} {ops : Array Oper} {rest : List Oper} {o : Oper} {a : Act} {Q : Exit → Act → World → Prop} (hw : Region.wanted o (yielded ops a.tmps) = true)
  (s x : Operand) (ho : o.op = .call { callee := .builtin .append, args := #[s, x], argTypes := #[41, 41] }) (v u : Value) (ys xs : List ActP) (hE : Ext W0 W) (hown : W.ownsRow W0.heap.size 40 23 v ys.length (actCells ys)) (hsrc : RowsG W 23 (RAct W) u xs) (hs : a.eval s = v) (hx : a.eval x = u) (hlen : (ys.length + xs.length) * 264 ≤ 140737488355328)
  (h : ∀ v' w', w'.ownsRow W0.heap.size 40 23 v' (ys ++ xs).length (actCells (ys ++ xs)) → Ext W0 w' → Below W0.heap.size W w' → ExtB v.ownBlock.toList W w' → wpList Try.prog ops Q rest (a.put o.dst v') w') : wpList Try.prog ops Q (o :: rest) a W := by
 obtain ⟨i0, hi, hz0, hz1, hz2⟩ := info_parts info40
 have hall := rows_all hsrc
 obtain ⟨A, c, rfl⟩ := RowsG.slice hsrc
 have stepk : ∀ {w' : World}, W.grownBy w' v.ownBlock → Ext W0 w' ∧ Below W0.heap.size W w' := fun {w'} g => by
  have hb : Below W0.heap.size W w' := ⟨g.os, g.tape, g.output, g.size, fun k hk => g.block k (Nat.lt_of_lt_of_le hk hE.size) (fun e => by have := (hown.lt k e.symm).1; omega)⟩
  exact ⟨Below.trans hE hb, hb⟩
 cases A with
 | none =>
  obtain ⟨A', c', e', _, hc0, hcc⟩ := hsrc
  obtain ⟨rfl, rfl⟩ : (none : Option Addr) = A' ∧ c = c' := by injection e' with e1 e2 e3; exact ⟨e1, e3⟩
  have hn : xs = [] := by
   cases xs with
   | nil => rfl
   | cons y ys => obtain ⟨b, off, cs, e, _⟩ := hcc 0 (by simp); cases e
  subst hn
  obtain rfl := hc0 rfl
  refine BigFrame.wpList_want hw fun K hK => ?_
  have hrun := run_append_owned_none (P := Try.prog) (w := W) W0.heap.size 41 o.type 40 i0 23 Try.underlying41 hi v _ _ hown
  unfold Oper.wp execOp
  simp only [ho, resolve, invoke, builtin, Sem.run_bind, Sem.run_pure, Result.andThen_ok, List.map_toArray, List.map_cons, List.map_nil, hs, hx]
  simp only [List.length_nil] at hrun ⊢
  rw [hrun]
  refine hK _ _ (h v W (by rw [List.append_nil]; exact hown) hE (Below.refl _ _) (ExtB.refl _ _))
 | some A =>
  have hl1 : (actCells xs).length = xs.length * 23 := actCells_len xs
  obtain ⟨v', w', hr, h2, h3, _⟩ := run_append_own (P := Try.prog) W W0.heap.size 41 o.type 40 i0 _ 23 264 Try.underlying41 hi hz0 hz1 hz2 rfl (by decide) v ys.length (actCells ys) hown A xs.length c (actCells xs) hl1 (fun i u hu => rows_src hsrc i u hu) (acts_one hall) (by unfold maxLen; omega) (by omega) hE.size
  refine BigFrame.wpList_want hw fun K hK => ?_
  unfold Oper.wp execOp
  simp only [ho, resolve, invoke, builtin, Sem.run_bind, Sem.run_pure, Result.andThen_ok, List.map_toArray, List.map_cons, List.map_nil, hs, hx, hr]
  refine hK _ _ (h v' w' ?_ (stepk h3).1 (stepk h3).2 (grownBy_extB h3))
  rw [List.length_append, actCells_app]
  exact h2
end Go.Proofs.Ytpangoddbfiagaa
namespace Go.Proofs.Ytpangoddbfiagaa
open Go.RowKit Go.Maps Go.ChangeMaps
set_option linter.unusedVariables false
set_option linter.unusedSimpArgs false
section
variable {w0 w w' : World} {b x N : Nat} {L L' : Nat → Prop} {vs us : List Vn} {ss ts : List Sn} {sa ra : List Nat} {hl : List (Value × Bs)}
theorem Pl2.adopt {base : Nat} {v : Value} {bs : Bs} (h : Pl2 w0 w b x N L vs ss sa us ts ra hl) (hm : (v, bs) ∈ hl) {g : Nat} (hv : v.ownBlock = some g) (hrow : BRow w base v bs) (hb : w0.heap.size ≤ base) (hn : 0 < bs.length) : Pl2 w0 w b x N (fun i => i = g ∨ L i) vs ss sa us ts ra [] := by
 obtain ⟨rown, ⟨own, h1⟩, h2, h3⟩ := h
 obtain ⟨q1, q2, q3⟩ := h1.held _ hm
 have hlt := hrow.lt g hv
 obtain ⟨c, e⟩ : ∃ c, v = .slice (some ⟨g, 0, none⟩) bs.length c := by
  rcases hrow.2 with ⟨e, _⟩ | ⟨g', cap, cur, e, _⟩
  ·rw [e] at hv; cases hv
  ·rw [e] at hv
   cases hv
   exact ⟨cap, e⟩
 have hno : ¬ (own g ∨ orP rown L g) := q2 ⟨g, 0, none⟩ _ c e hn
 refine ⟨rown, ⟨own, h1.oi, h1.ext, by simp, fun i hi => ?_⟩, h2, fun i hi hh => ?_⟩
 ·rcases hi with hi | hi | hi
  ·exact h1.priv i (.inl hi)
  ·rw [hi]; exact ⟨fun hh => hno (.inl hh), hlt.2, by omega⟩
  ·exact h1.priv i (.inr hi)
 ·rcases hi with hi | hi
  ·rw [hi] at hh; exact hno (.inr (.inl hh))
  ·exact h3 i hi hh
theorem Pl2.since {w3 : World} (h : Pl2 w0 w3 b x N L vs ss sa us ts ra hl) (xx : Ext w3 w) : Pl2 w0 w b x N (fun g => L g ∨ (w3.heap.size ≤ g ∧ g < w.heap.size)) vs ss sa us ts ra hl :=
 h.other (.of xx) fun g hg => hg
theorem setA_no {o bs : Bs} {m : MetaP} (h : (setA vs o m bs).1 ≠ 0) : (setA vs o m bs).2 = vs := by
 unfold setA at *
 split
 ·rfl
 ·rename_i h1
  rw [if_neg h1] at h
  split
  ·rfl
  ·rename_i h2
   rw [if_neg h2] at h
   exact absurd rfl h
theorem growA_no {o bs : Bs} (h : (growA vs o bs).1 ≠ 0) : (growA vs o bs).2 = vs := by
 unfold growA at *
 repeat' split
 all_goals first | rfl | simp_all
theorem sealA_no {o : Bs} (h : (sealA vs o).1 ≠ 0) : (sealA vs o).2 = vs := by
 unfold sealA at *
 repeat' split
 all_goals first | rfl | simp_all
theorem goneA_no {o : Bs} (h : (goneA vs o).1 ≠ 0) : (goneA vs o).2 = vs := by
 unfold goneA at *
 repeat' split
 all_goals first | rfl | simp_all
theorem brow_slice {base : Nat} {v : Value} {bs : Bs} {g : Nat} (hr : BRow w base v bs) (hv : v.ownBlock = some g) : ∃ c, v = .slice (some ⟨g, 0, none⟩) bs.length c := by
 rcases hr.2 with ⟨e, _⟩ | ⟨g', cap, cur, e, _⟩
 ·rw [e] at hv; cases hv
 ·rw [e] at hv
  cases hv
  exact ⟨cap, e⟩
theorem Stt.row {own P : Nat → Prop} {base : Nat} (h : Stt w0 w b N own vs ss sa hl P) (x : ExtP own w w') {v : Value} {bs : Bs} (hm : (v, bs) ∈ hl) (hr : 0 < bs.length → BRow w base v bs) : 0 < bs.length → BRow w' base v bs := fun hn => own_keep (hr hn) fun g e => x.block g ((hr hn).lt g e).2 fun hh => by
 obtain ⟨c, rfl⟩ := brow_slice (hr hn) e
 exact (h.held _ hm).2.1 _ _ _ rfl hn (.inl hh)
theorem p_setR {base : Nat} (h : Pl2 w0 w b x N L vs ss sa us ts ra hl) (hN : N ≤ 800000) {o bs : Bs} {m : MetaP} {kv u : Value} (ho : o.length ≤ 1000) (hz : MetaZ m) (hk : TextsAt w kv m.keys) (hlk : LowV w0 kv) (hu : (u, bs) ∈ hl) (hbs : bs.length ≤ 1000) (hr : 0 < bs.length → BRow w base u bs) :
  Calls Try.prog 13 #[.pointer (some ⟨b, 0, none⟩), .string ⟨o.toArray⟩, metaV m kv, u] w fun e w' => e = .returned (.int .i64 (setA vs o m bs).1) ∧ Pl2 w0 w' b x (N + 2) L (setA vs o m bs).2 ss sa us ts ra hl ∧ KeepP L w w' ∧ (0 < bs.length → BRow w' base u bs) := by
 obtain ⟨rown, ⟨own, h1⟩, h2, h3⟩ := h
 have hp := h1.held _ hu
 refine (set_any h1.oi hN ho hz hk hp.1 hbs (fun A n c e hn hh => by have := hlk A n c e hn; have := h1.oi.low _ hh; omega) (fun A n c e hn hh => hp.2.1 A n c e hn (.inl hh))).mono fun e w' ⟨q1, q2, q3⟩ => ⟨q1, ?_⟩
 obtain ⟨k1, k2⟩ := Pl2.prog h2 h3 ⟨_, h1.go q3 grown_le q2⟩ (h1.kept q3)
 exact ⟨k1, k2, h1.row q3 hu hr⟩
theorem p_growR {base : Nat} (h : Pl2 w0 w b x N L vs ss sa us ts ra hl) {o bs : Bs} {u : Value} (ho : o.length ≤ 1000000) (hu : (u, bs) ∈ hl) (hbs : bs.length ≤ 1000) (hcap : ∀ i v, nowI vs o = some i → vs[i]? = some v → v.bytes.length + bs.length ≤ 100000) (hr : 0 < bs.length → BRow w base u bs) :
  Calls Try.prog 17 #[.pointer (some ⟨b, 0, none⟩), .string ⟨o.toArray⟩, u] w fun e w' => e = .returned (.int .i64 (growA vs o bs).1) ∧ Pl2 w0 w' b x N L (growA vs o bs).2 ss sa us ts ra hl ∧ KeepP L w w' ∧ (0 < bs.length → BRow w' base u bs) := by
 obtain ⟨rown, ⟨own, h1⟩, h2, h3⟩ := h
 have hp := h1.held _ hu
 refine (grow_any h1.oi ho hp.1 hbs hcap).mono fun e w' ⟨q1, q2, q3⟩ => ⟨q1, ?_⟩
 obtain ⟨k1, k2⟩ := Pl2.prog h2 h3 ⟨_, h1.go q3 grown_le q2⟩ (h1.kept q3)
 exact ⟨k1, k2, h1.row q3 hu hr⟩
theorem p_sealR {base : Nat} (h : Pl2 w0 w b x N L vs ss sa us ts ra hl) {o bs : Bs} {u : Value} (ho : o.length ≤ 1000000) (hu : (u, bs) ∈ hl) (hr : 0 < bs.length → BRow w base u bs) : Calls Try.prog 19 #[.pointer (some ⟨b, 0, none⟩), .string ⟨o.toArray⟩] w fun e w' => e = .returned (.int .i64 (sealA vs o).1) ∧ Pl2 w0 w' b x N L (sealA vs o).2 ss sa us ts ra hl ∧ KeepP L w w' ∧ (0 < bs.length → BRow w' base u bs) := by
 obtain ⟨rown, ⟨own, h1⟩, h2, h3⟩ := h
 refine (seal_any h1.oi ho).mono fun e w' ⟨q1, q2, q3⟩ => ⟨q1, ?_⟩
 obtain ⟨k1, k2⟩ := Pl2.prog h2 h3 ⟨_, h1.go q3 (fun i hi => .inl hi) q2⟩ (h1.kept q3)
 exact ⟨k1, k2, h1.row q3 hu hr⟩
theorem p_goneR {base : Nat} (h : Pl2 w0 w b x N L vs ss sa us ts ra hl) {o bs : Bs} {u : Value} (ho : o.length ≤ 1000000) (hu : (u, bs) ∈ hl) (hr : 0 < bs.length → BRow w base u bs) : Calls Try.prog 33 #[.pointer (some ⟨b, 0, none⟩), .string ⟨o.toArray⟩] w fun e w' => e = .returned (.int .i64 (goneA vs o).1) ∧ Pl2 w0 w' b x N L (goneA vs o).2 ss sa us ts ra hl ∧ KeepP L w w' ∧ (0 < bs.length → BRow w' base u bs) := by
 obtain ⟨rown, ⟨own, h1⟩, h2, h3⟩ := h
 refine (gone_any h1.oi ho).mono fun e w' ⟨q1, q2, q3⟩ => ⟨q1, ?_⟩
 obtain ⟨k1, k2⟩ := Pl2.prog h2 h3 ⟨_, h1.go q3 (fun i hi => .inl hi) q2⟩ (h1.kept q3)
 exact ⟨k1, k2, h1.row q3 hu hr⟩
def addV (v : Value) (n : Nat) (L : Nat → Prop) : Nat → Prop := fun i => (0 < n ∧ v.ownBlock = some i) ∨ L i
structure WrB (v : Value) (n g : Nat) (w : World) : Prop where
 val : 0 < n → ∃ c, v = .slice (some ⟨g, 0, none⟩) n c ∧ n ≤ c
 blk : 0 < n → ∃ cur : Array Value, w.heap[g]? = some (.cells cur 5 (0, 0)) ∧ n ≤ cur.size ∧ ∀ j, j < n → ∃ z : Int, cur[j]? = some (.int .u8 z)
theorem wrB_of {base : Nat} {v : Value} {bs : Bs} (hr : 0 < bs.length → BRow w base v bs) : ∃ g, WrB v bs.length g w := by
 by_cases hn : 0 < bs.length
 ·have h := hr hn
  rcases h.2 with ⟨_, h0⟩ | ⟨g, cap, cur, e, hb, hg, hc, h4, h5, h6⟩
  ·omega
  ·refine ⟨g, fun _ => ⟨cap, e, hc⟩, fun _ => ⟨cur, hg, by omega, fun j hj => ⟨bs[j].toNat, ?_⟩⟩⟩
   have h7 := congrArg (fun l => l[j]?) h6
   simp only [List.getElem?_take, Nat.mul_one, hj, if_true, List.getElem?_map, List.getElem?_eq_getElem hj, Option.map_some, Array.getElem?_toList] at h7
   exact h7
 ·exact ⟨0, fun h => absurd h hn, fun h => absurd h hn⟩
theorem WrB.put {v : Value} {n g : Nat} (h : WrB v n g w) {i : Nat} (u : Int) : WrB v n g (w.setCell ⟨g, i, none⟩ (.int .u8 u)) :=
 ⟨h.val, fun hn => by
  obtain ⟨cur, h1, h2, h3⟩ := h.blk hn
  refine ⟨_, blk_set h1 i _, by simpa using h2, fun j hj => ?_⟩
  by_cases e : i = j
  ·subst e
   exact ⟨u, by simp [Array.getElem?_setIfInBounds, show i < cur.size by omega]⟩
  ·obtain ⟨u', h4⟩ := h3 j hj
   exact ⟨u', by rw [Array.getElem?_setIfInBounds_ne e]; exact h4⟩⟩
theorem Pl2.adoptV {base : Nat} {v : Value} {bs : Bs} (h : Pl2 w0 w b x N L vs ss sa us ts ra hl) (hm : (v, bs) ∈ hl) (hr : 0 < bs.length → BRow w base v bs) (hb : w0.heap.size ≤ base) : Pl2 w0 w b x N (addV v bs.length L) vs ss sa us ts ra [] ∧ ∀ g, 0 < bs.length → v.ownBlock = some g → ¬ L g := by
 by_cases hn : 0 < bs.length
 ·obtain ⟨c, hv⟩ : ∃ c, ∃ g, v = .slice (some ⟨g, 0, none⟩) bs.length c := by
   rcases (hr hn).2 with ⟨_, h0⟩ | ⟨g, cap, cur, e, _⟩
   ·omega
   ·exact ⟨cap, g, e⟩
  obtain ⟨g, hv⟩ := hv
  have hg : v.ownBlock = some g := by rw [hv]; rfl
  refine ⟨?_, fun g' _ e hh => ?_⟩
  ·refine (h.adopt hm hg (hr hn) hb hn).other (ExtP.refl _ _) fun i hi => .inl ?_
   rcases hi with ⟨_, h1⟩ | h1
   ·rw [hg] at h1; exact .inl (by injection h1 with h1; exact h1.symm)
   ·exact .inr h1
  ·obtain ⟨rown, ⟨own, h1⟩, h2, h3⟩ := h
   obtain ⟨c', e'⟩ := brow_slice (hr hn) e
   exact (h1.held _ hm).2.1 _ _ _ e' hn (.inr (.inr hh))
 ·refine ⟨(h.drop (hl' := []) (by simp)).other (ExtP.refl _ _) fun i hi => .inl ?_, fun g h1 => absurd h1 hn⟩
  rcases hi with ⟨h1, _⟩ | h1
  ·exact absurd h1 hn
  ·exact h1
structure TurnR (w0 w1 w : World) (b x N : Nat) (L : Nat → Prop) (vs : List Vn) (ss : List Sn) (sa : List Nat) (us : List Vn) (ts : List Sn) (ra : List Nat) (v : Value) (n g : Nat) : Prop where
 st : Pl2 w0 w b x N (addV v n L) vs ss sa us ts ra []
 keep : KeepP L w1 w
 wr : WrB v n g w
 off : 0 < n → ¬ L g
theorem TurnR.put {w1 : World} {v : Value} {n g : Nat} (h : TurnR w0 w1 w b x N L vs ss sa us ts ra v n g) (hn : 0 < n) (i : Nat) (u : Int) : TurnR w0 w1 (w.setCell ⟨g, i, none⟩ (.int .u8 u)) b x N L vs ss sa us ts ra v n g := by
 obtain ⟨c, hv, _⟩ := h.wr.val hn
 have hx : ExtP (addV v n L) w (w.setCell ⟨g, i, none⟩ (.int .u8 u)) := ⟨rfl, rfl, rfl, by simp [World.setCell], fun k hk hh => Below.heap_setCell w _ _ k (by
  rintro rfl
  exact hh (.inl ⟨hn, by rw [hv]; rfl⟩))⟩
 exact ⟨h.st.other hx fun i hi => .inl hi, h.keep.trans fun k hk => Below.heap_setCell w _ _ k (by rintro rfl; exact h.off hn hk), h.wr.put u, h.off⟩
theorem TurnR.start {base : Nat} {v : Value} {bs : Bs} (h : Pl2 w0 w b x N L vs ss sa us ts ra hl) (hm : (v, bs) ∈ hl) (hr : 0 < bs.length → BRow w base v bs) (hb : w0.heap.size ≤ base) : ∃ g, TurnR w0 w w b x N L vs ss sa us ts ra v bs.length g := by
 obtain ⟨g, hg⟩ := wrB_of hr
 obtain ⟨h1, h2⟩ := h.adoptV hm hr hb
 exact ⟨g, h1, KeepP.refl _ _, hg, fun hn hh => by
  obtain ⟨c, hv, _⟩ := hg.val hn
  exact h2 g hn (by rw [hv]; rfl) hh⟩
theorem prog_meta {w3 : World} (h : Pl2 w0 w3 b x N L vs ss sa us ts ra hl) {o : Bs} (ho : o.length ≤ 1000000) {mm : MetaP} {mo : Bool} (hm : (mm, mo) = metaA vs o) {mk : Nat} (hk : mk = mm.keys.length) :
  ∀ W, Ext w3 W → Calls Try.prog 21 #[.pointer (some ⟨b, 0, none⟩), .string ⟨o.toArray⟩] W fun e w' => ∃ KA KC, e = .returned (.tuple #[metaV mm (.slice KA mk KC), .bool mo]) ∧ SRow w' w3.heap.size (.slice KA mk KC) mm.keys ∧ Ext W w' := by
 refine fun W xx => (p_meta (h.ext xx) ho).mono fun e w' ⟨kv, q1, q2, _, q3⟩ => ?_
 rw [← hm] at q1 q2
 obtain ⟨KA, KC, rfl⟩ := own_slice q2
 rw [← hk] at q1 q2
 exact ⟨KA, KC, q1, ownsRow_base q2 xx.size, q3⟩
theorem kept_row {base B : Nat} {v : Value} {ks : List Bs} {W1 W6 W7 : World} (h : SRow W1 base v ks) (hb : B ≤ base) (hn : ∀ g, B ≤ g → g < W1.heap.size → L g) (x6 : Ext W1 W6) (k : KeepP L W6 W7) : SRow W7 base v ks :=
 own_keep h fun g e => (k g (hn g (Nat.le_trans hb (h.lt g e).1) (h.lt g e).2)).trans (x6.block g (h.lt g e).2)
theorem kept_blk {B g : Nat} {W1 W6 W7 : World} {o : Obj} (h : W1.heap[g]? = some o) (hb : B ≤ g) (hn : ∀ g, B ≤ g → g < W1.heap.size → L g) (x6 : Ext W1 W6) (k : KeepP L W6 W7) : W7.heap[g]? = some o :=
 (k g (hn g hb (blk_lt h))).trans (x6.heap h)
end
end Go.Proofs.Ytpangoddbfiagaa
