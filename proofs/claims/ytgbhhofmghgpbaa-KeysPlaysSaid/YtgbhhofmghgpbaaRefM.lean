/- The reference's Map in memory; its Untie, walked. -/
import Derived.Test.YtgbhhofmghgpbaaMore0
namespace Go.Proofs.Ytgbhhofmghgpbaa
open Go.RowKit Go.Sort Go.Shelf Go.Maps Go.ChangeMaps
set_option linter.unusedVariables false

def pcells (L : List Pr) : List Value := L.flatMap fun p => [.int .i64 p.1, .string ⟨p.2.toArray⟩]
theorem pcells_append (a b : List Pr) : pcells (a ++ b) = pcells a ++ pcells b := by simp [pcells]
theorem pcells_length (L : List Pr) : (pcells L).length = L.length * 2 := by
  induction L with
  | nil => rfl
  | cons x r ih => simp [pcells] at ih ⊢; omega
theorem pcells_at (L : List Pr) (k : Nat) (h : k < L.length) : (pcells L)[k * 2]? = some (.int .i64 L[k].1) ∧ (pcells L)[k * 2 + 1]? = some (.string ⟨L[k].2.toArray⟩) := by
  induction L generalizing k with
  | nil => simp at h
  | cons x r ih =>
    cases k with
    | zero => simp [pcells]
    | succ k =>
      have := ih k (by simpa using h)
      simp only [pcells, List.flatMap_cons, List.cons_append, List.nil_append] at this ⊢
      have e : (k + 1) * 2 = k * 2 + 1 + 1 := by omega
      rw [e, List.getElem?_cons_succ, List.getElem?_cons_succ, List.getElem?_cons_succ, List.getElem?_cons_succ]
      exact this
/-- A row of pairs that is one's own. -/
def PRow (w : World) (B : Nat) (v : Value) (L : List Pr) : Prop := w.ownsRow B 66 2 v L.length (pcells L)
theorem PRow.form {w : World} {B : Nat} {s : Value} {L : List Pr} (h : PRow w B s L) : ∃ A c, s = .slice A L.length c ∧ ∀ k (hk : k < L.length), ∃ g, A = some ⟨g, 0, none⟩ ∧ g < w.heap.size ∧
    w.cell? ⟨g, k * 2, none⟩ = some (.int .i64 L[k].1) ∧ w.cell? ⟨g, k * 2 + 1, none⟩ = some (.string ⟨L[k].2.toArray⟩) := by
  have h' := h
  rcases h.2 with ⟨rfl, h0⟩ | ⟨g, cap, cur, rfl, _, hg, _⟩
  · exact ⟨none, 0, by rw [h0], fun k hk => by omega⟩
  · refine ⟨_, cap, rfl, fun k hk => ⟨g, rfl, (Array.getElem?_eq_some_iff.1 hg).1, ?_⟩⟩
    have := pcells_at L k hk
    exact ⟨by rw [World.ownsRow.cellAt h' _ (by omega)]; exact this.1, by rw [World.ownsRow.cellAt h' _ (by omega)]; exact this.2⟩
theorem info66 : (Try.prog.info? 66).map (fun i => (i.zero, i.size, i.bytes)) = some (some (.agg #[.int .i64 0, .string ⟨#[]⟩]), 2, 24) := by kernel_rfl
set_option maxRecDepth 100000 in
theorem wpList_append_pair {W : World} {ops : Array Oper} {rest : List Oper} {o : Oper} {a : Act} {Q : Exit → Act → World → Prop}
    (hgd : o.guard = none) (s x : Operand) (ho : o.op = .call { callee := .builtin .append, args := #[s, x], argTypes := #[38, 38] })
    (B : Nat) (v : Value) (L : List Pr) (id : Int) (k : Bs) (hown : PRow W B v L) (hs' : a.eval s = v) (gN : Nat) (hx : a.eval x = .slice (some ⟨gN, 0, none⟩) 1 1) (hgN : W.heap.size = gN)
    (hl : L.length ≤ 1000000) (hB : B ≤ W.heap.size)
    (hK : ∀ v' w', PRow w' B v' (L ++ [(id, k)]) → W.grownBy w' v.ownBlock → wpList Try.prog ops Q rest (a.put o.dst v') w') :
    wpList Try.prog ops Q (o :: rest) a (W.alloc (.cells #[.int .i64 id, .string ⟨k.toArray⟩] 66)) := by
  obtain ⟨i0, hi, hz0, hz1, hz2⟩ := info_parts info66
  refine wpList_append_one hgd s x 38 ho B 66 i0 _ 2 24 Try.underlying38 hi hz0 hz1 hz2 rfl (by decide) v _ _ hs' hown #[.int .i64 id, .string ⟨k.toArray⟩] gN hx hgN rfl (by simp [Value.oneCell']) (by unfold maxLen; omega) (by omega) hB ?_
  intro v' w' h1 h2 h3
  refine hK v' w' ?_ h2
  unfold PRow
  rw [pcells_append, List.length_append]
  exact h1

/-- What lies below B, and every block that is none of the reference's, is as it was. -/
structure Fq (B : Nat) (w w' : World) : Prop where
  os : w'.os = w.os
  tape : w'.tape = w.tape
  output : w'.output = w.output
  size : w.heap.size ≤ w'.heap.size
  block : ∀ i, i < w.heap.size → (i < B ∨ ∀ cs t z, w.heap[i]? = some (.cells cs t z) → t ≠ 40 ∧ t ≠ 66) → w'.heap[i]? = w.heap[i]?
section
variable {B b x N : Nat} {w w' : World} {L : List Pr}
theorem Fq.refl (B : Nat) (w : World) : Fq B w w := ⟨rfl, rfl, rfl, Nat.le_refl _, fun _ _ _ => rfl⟩
theorem Fq.trans {w1 w2 w3 : World} (h : Fq B w1 w2) (k : Fq B w2 w3) : Fq B w1 w3 :=
  ⟨k.os.trans h.os, k.tape.trans h.tape, k.output.trans h.output, Nat.le_trans h.size k.size, fun i hi hc => by
    have e := h.block i hi hc
    rw [k.block i (Nat.lt_of_lt_of_le hi h.size) (by rw [e]; exact hc), e]⟩
theorem Fq.of_ext (h : Ext w w') (B : Nat) : Fq B w w' := ⟨h.os, h.tape, h.output, h.size, fun i hi _ => h.block i hi⟩
theorem Fq.ext (h : Fq B w w') (hB : w.heap.size ≤ B) : Ext w w' := ⟨h.os, h.tape, h.output, h.size, fun i hi => h.block i hi (.inl (by omega))⟩
theorem Fq.of_grown {g : Nat} (h : w.grownBy w' (some g)) {cs : Array Value} {t : TypeId} {z : Nat × Nat} (hg : w.heap[g]? = some (.cells cs t z)) (ht : t = 40 ∨ t = 66) (hB : B ≤ g) : Fq B w w' :=
  ⟨h.os, h.tape, h.output, h.size, fun i hi hc => h.block i hi fun e => by
    injection e with e; subst e
    rcases hc with hc | hc
    · omega
    · have := hc _ _ _ hg; rcases ht with rfl | rfl <;> simp at this⟩
theorem Fq.heap (h : Fq B w w') {i : Nat} {o : Obj} (hi : w.heap[i]? = some o) (hc : ∀ cs t z, o = .cells cs t z → t ≠ 40 ∧ t ≠ 66) : w'.heap[i]? = some o :=
  (h.block i (blk_lt hi) (.inr fun cs t z e => hc cs t z (by rw [hi] at e; injection e))).trans hi
theorem Fq.map {H : Type} (h : Fq B w w') {P : Program} {k : TypeId} {R : Value → Option (DataW H × List MemPlace)} {g n : Nat} {D : DataW H} (hm : w.ownsMap P k R g n D) : w'.ownsMap P k R g n D := by
  obtain ⟨es, clock, hb, r⟩ := hm
  exact ⟨es, clock, h.heap hb (fun _ _ _ e => by cases e), r⟩
theorem Fq.srow (h : Fq B w w') {C : Nat} {v : Value} {ss : List Bs} (hr : SRow w C v ss) : SRow w' C v ss := by
  refine ⟨hr.1, ?_⟩
  rcases hr.2 with h0 | ⟨g, cap, cur, rfl, hb, hg, r⟩
  · exact .inl h0
  · exact .inr ⟨g, cap, cur, rfl, hb, h.heap hg (fun _ _ _ e => by injection e with _ e _; subst e; decide), r⟩
theorem KAt.fq {mo mw : Option Nat} {G : GOf} {Q : QW} (h : KAt w B b mo mw G Q N) (hx : Fq B w w') : KAt w' B b mo mw G Q N := by
  refine ⟨hx.heap h.blk (fun _ _ _ e => by injection e with _ e _; subst e; decide), ?_, ?_, fun id g c ss e => hx.srow (h.rows id g c ss e), fun k g S e => ?_, h.inj, h.both, h.low, h.lowo, h.loww⟩
  · rcases h.of with h0 | ⟨m, D, rfl, hown, ht⟩
    · exact .inl h0
    · exact .inr ⟨m, D, rfl, hx.map hown, ht⟩
  · rcases h.wi with h0 | ⟨m, D, rfl, hown, ht⟩
    · exact .inl h0
    · exact .inr ⟨m, D, rfl, hx.map hown, ht⟩
  · obtain ⟨⟨D, hown, ht⟩, r⟩ := h.sets k g S e
    exact ⟨⟨D, hx.map hown, ht⟩, r⟩
theorem KI.fq (h : KI w B b N L) (hx : Fq B w w') : KI w' B b N L := by
  obtain ⟨mo, mw, G, Q, h1, h2⟩ := h
  exact ⟨mo, mw, G, Q, h1.fq hx, h2⟩

/-- The reference's Map: a block of one list of pairs. -/
def RAt (w : World) (B x : Nat) (L : List Pr) : Prop := B ≤ x ∧ ∃ v, w.heap[x]? = some (.cells #[v] 40 (0, 0)) ∧ PRow w B v L
theorem PRow.fk {v : Value} (h : PRow w B v L) (hf : Fk B b w w') (hb : ∃ cs t z, w.heap[b]? = some (.cells cs t z) ∧ t ≠ 66) : PRow w' B v L := by
  refine ⟨h.1, ?_⟩
  rcases h.2 with h0 | ⟨g, cap, cur, rfl, hbb, hg, r⟩
  · exact .inl h0
  · refine .inr ⟨g, cap, cur, rfl, hbb, hf.heap hg ?_, r⟩
    rintro rfl
    obtain ⟨cs, t, z, h1, h2⟩ := hb
    rw [hg] at h1
    injection h1 with h1; injection h1 with _ h1 _
    exact h2 h1.symm
theorem RAt.fk (h : RAt w B x L) (hf : Fk B b w w') (hb : ∃ cs t z, w.heap[b]? = some (.cells cs t z) ∧ t ≠ 66 ∧ t ≠ 40) : RAt w' B x L := by
  obtain ⟨h0, v, h1, h2⟩ := h
  obtain ⟨cs, t, z, b1, b2, b3⟩ := hb
  refine ⟨h0, v, hf.heap h1 ?_, h2.fk hf ⟨cs, t, z, b1, b2⟩⟩
  rintro rfl
  rw [h1] at b1
  injection b1 with b1; injection b1 with _ b1 _
  exact b3 b1.symm
theorem RAt.ext (h : RAt w B x L) (hx : Ext w w') : RAt w' B x L := by
  obtain ⟨h0, v, h1, h2⟩ := h
  exact ⟨h0, v, hx.heap h1, ownsRow_below h2 hx⟩
end
/-- Was it tied (1)? -/
def wasN (L : List Pr) (id : Int) : Int := if (keysL L id).isEmpty then 0 else 1
theorem wasN_snoc (L : List Pr) (id : Int) (p : Pr) : wasN (L ++ [p]) id = if p.1 = id then 1 else wasN L id := by
  unfold wasN keysL
  rw [List.filter_append, List.map_append]
  by_cases h : p.1 = id
  · simp [h]
  · have h' : (p.1 == id) = false := by simpa using h
    rw [List.filter_cons, h', if_neg h]
    simp only [Bool.false_eq_true, if_false, List.filter_nil, List.map_nil, List.append_nil]
theorem untieL_snoc (L : List Pr) (id : Int) (p : Pr) : untieL (L ++ [p]) id = if p.1 = id then untieL L id else untieL L id ++ [p] := by
  unfold untieL
  rw [List.filter_append]
  by_cases h : p.1 = id
  · simp [h]
  · simp [h]
structure RuRel (w : World) (L : List Pr) (id : Int) (j : Nat) (was out : Value) (wr : World) : Prop where
  was : was = .int .i64 (wasN (L.take j) id)
  out : PRow wr w.heap.size out (untieL (L.take j) id)
  ext : Ext w wr
theorem RuRel.step {w wr : World} {L : List Pr} {id : Int} {j : Nat} {was out : Value} (h : RuRel w L id j was out wr) (hj : j < L.length) (he : L[j].1 = id) {w' : World} (hx : Ext wr w') : RuRel w L id (j + 1) (.int .i64 1) out w' := by
  have htk : L.take (j + 1) = L.take j ++ [L[j]] := List.take_succ_eq_append_getElem hj
  exact ⟨by rw [htk, wasN_snoc, if_pos he], by rw [htk, untieL_snoc, if_pos he]; exact ownsRow_below h.out hx, h.ext.trans hx⟩
set_option maxRecDepth 100000 in
set_option maxHeartbeats 2000000 in
theorem runtie_any (w : World) (B x : Nat) (L : List Pr) (id : Int) (h : RAt w B x L) (hB : B ≤ w.heap.size) (hl : L.length ≤ 1000) :
    Calls Try.prog 15 #[.pointer (some ⟨x, 0, none⟩), .int .i64 id] w fun e w' => e = .returned (.int .i64 (wasN L id)) ∧ RAt w' B x (untieL L id) ∧ Fq B w w' := by
  obtain ⟨hBx, v, hblk, hrow⟩ := h
  obtain ⟨A, c, rfl, hc⟩ := hrow.form
  obtain ⟨m, hm⟩ : ∃ m, m = L.length := ⟨_, rfl⟩
  rw [← hm] at hl hblk
  have hc0 : w.cell? ⟨x, 0, none⟩ = some (.slice A m c) := blk_cell hblk 0
  have HC := Lib.hid hc; have HM := Lib.hid hm; have HBLK := Lib.hid hblk
  clear hc hm hblk hrow
  go_enter Try.func15, Try.ntmps15
  go_wp2
  go_loopw [14, 5, 6, 8] (fun i was out _ wr => ∃ j : Nat, j ≤ m ∧ i = .int .i64 j ∧ RuRel w L id j was out wr) (fun i _ _ _ _ => m - (intOf i).toNat)
  case atStart => exact ⟨0, by omega, rfl, ⟨rfl, World.ownsRow_nil _ _ _ _, Ext.refl _⟩⟩
  case round =>
    obtain ⟨j, hj, rfl, hr⟩ := hrel
    have R := Lib.hid hr
    clear hr
    by_cases hlt : j < m
    · have hjs : j < L.length := by rw [← HM.out]; exact hlt
      obtain ⟨g, rfl, hg, c1, c2⟩ := HC.out j hjs
      replace c1 := Ext.cell R.out.ext c1
      replace c2 := Ext.cell R.out.ext c2
      have hstep := fun he w' hx => R.out.step hjs he (w' := w') hx
      have hother : L[j].1 ≠ id → wasN (L.take (j + 1)) id = wasN (L.take j) id ∧ untieL (L.take (j + 1)) id = untieL (L.take j) id ++ [L[j]] := fun he => by
        rw [List.take_succ_eq_append_getElem hjs, wasN_snoc, if_neg he, untieL_snoc, if_neg he]; exact ⟨rfl, rfl⟩
      obtain ⟨p, hp⟩ : ∃ p, p = L[j] := ⟨_, rfl⟩
      rw [← hp] at c1 c2 hstep hother
      obtain ⟨i2, k⟩ := p
      dsimp only at c1 c2 hstep hother
      have HS := Lib.hid hstep; have HO := Lib.hid hother
      clear hstep hother hp hjs
      by_cases he : i2 = id
      · subst he
        go_wp2
        go_roundw
        case rel => exact ⟨j + 1, by omega, by go_num, HS.out rfl _ (alloc_ext _ _)⟩
        case measure => simp [intOf]; omega
      · have e1 : (i2 == id) = false := by simpa using he
        have HO2 := Lib.hid (HO.out he)
        clear HS HO he
        have Ra : Hid (RuRel w L id j u5 u6 (wr.alloc (.cells #[.int .i64 i2, .string ⟨k.toArray⟩] 66))) := Lib.hid ⟨R.out.was, ownsRow_below R.out.out (alloc_ext _ _), R.out.ext.trans (alloc_ext _ _)⟩
        have hlu : (untieL (L.take j) id).length ≤ 1000 := by have := untieL_len (L.take j) id; rw [List.length_take] at this; omega
        clear R
        go_wp2_with (at_builtin; refine wpList_append_pair rfl _ _ rfl w.heap.size _ _ i2 k Ra.out.out rfl _ rfl ?c0 ?c1 ?c2 ?_)
        case c0 => simp
        case c1 => omega
        case c2 => exact Ra.out.ext.size
        intro v' w' q1 g1
        have R2 : Hid (RuRel w L id (j + 1) u5 v' w') := Lib.hid ⟨by rw [HO2.out.1]; exact Ra.out.was, by rw [HO2.out.2]; exact q1, RowKit.Below.trans Ra.out.ext (own_below Ra.out.out g1 Ra.out.ext.size)⟩
        clear q1 g1 Ra
        go_wp2
        go_roundw
        case rel => exact ⟨j + 1, by omega, by go_num, R2.out⟩
        case measure => simp [intOf]; omega
    · have hjn : L.take j = L := List.take_of_length_le (by have := HM.out; omega)
      have h1 := R.out.was; have h2 := R.out.out; have h3 := R.out.ext
      rw [hjn] at h1 h2
      subst h1
      have hb : wr.heap[x]? = some (.cells #[.slice A m c] 40 (0, 0)) := h3.heap HBLK.out
      obtain ⟨A2, c2, hv2⟩ := own_slice h2
      obtain ⟨n2, hn2⟩ : ∃ n, n = (untieL L id).length := ⟨_, rfl⟩
      rw [← hn2] at hv2
      subst hv2
      have hx : x < wr.heap.size := blk_lt hb
      have E : Hid (RAt (wr.setCell ⟨x, 0, none⟩ (.slice A2 n2 c2)) B x (untieL L id) ∧ Fq B w (wr.setCell ⟨x, 0, none⟩ (.slice A2 n2 c2))) := Lib.hid (by
        have hg : wr.grownBy (wr.setCell ⟨x, 0, none⟩ (.slice A2 n2 c2)) (some x) := grown_setCell ⟨rfl, rfl, rfl, Nat.le_refl _, fun _ _ _ => rfl⟩ (.inl rfl) _
        refine ⟨⟨hBx, _, by simpa using blk_set hb 0 _, ?_⟩, (Fq.of_ext h3 B).trans (Fq.of_grown hg hb (.inl rfl) hBx)⟩
        refine ownsRow_base (World.ownsRow.kept h2 hg ?_) hB
        have hxw : x < w.heap.size := blk_lt HBLK.out
        rcases h2.2 with ⟨e, _⟩ | ⟨g, cap, cur, e, hgb, _⟩
        · rw [e]; simp [Value.ownBlock]
        · rw [e]; simp [Value.ownBlock]; omega)
      have hcell := blk_cell hb 0
      have hfree := blk_free hb 0
      clear h2 h3 R hjn hb hc0 hn2
      go_wp2
      go_ret
      exact ⟨rfl, E.out⟩
end Go.Proofs.Ytgbhhofmghgpbaa
