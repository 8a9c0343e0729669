/- stats.wasted, walked. -/
import Derived.Test.YtlddpdlebdjniaaDoorPlaces
namespace Go.Proofs.YtlddpdlebdjniaaDoor
set_option linter.unusedSimpArgs false
open Go.RowKit Go.Maps Go.ChangeMaps
set_option linter.unusedVariables false

/-- What comes first behind an event, of a place: was it stopped, or did it fail? -/
def wstep (e : Ev) (B : Int → Int → Bool) : Int → Int → Bool := fun n w =>
  if e.kind = 15 then (if n = e.node ∧ w = e.who then true else B n w)
  else if e.kind = 14 then (if n = e.node ∧ w = e.who then !e.whole else B n w)
  else if e.kind = 11 then (if n = e.node ∧ w = e.who then false else B n w)
  else if e.kind = 16 then (if n = e.node then false else B n w)
  else B n w
def wasteB : List Ev → Int → Int → Bool
  | [] => fun _ _ => false
  | e :: r => wstep e (wasteB r)
def wasteL : List Ev → List Bool
  | [] => []
  | e :: r => (decide (e.kind = 13) && wasteB r e.node e.who) :: wasteL r
theorem wasteL_len : ∀ xs, (wasteL xs).length = xs.length
  | [] => rfl
  | _ :: r => by simp [wasteL, wasteL_len r]
theorem zero4 (w : World) : (zeroValue 4).run Tryd.prog w = .ok (.bool false) w := by kernel_rfl
set_option maxRecDepth 100000 in
theorem plainElem_bool_inv {v : Value} {z : DataW Unit × List MemPlace} (h : plainElem Tryd.prog 4 v = some z) : ∃ x, v = .bool x ∧ z = (.lit (.bool x), []) := by
  unfold plainElem at h
  rw [Tryd.underlying4] at h
  cases v <;> simp at h
  exact ⟨_, rfl, h.symm⟩
def PB (D : DataW Unit) (B : Int → Int → Bool) : Prop := ∀ n w, (Lit.int .i64 n).wf = true → (Lit.int .i64 w).wf = true → D.atKey (pkey n w) (.lit (.bool false)) = .lit (.bool (B n w))
def BadAt (w : World) (m N : Nat) (B : Int → Int → Bool) : Prop := ∃ D : DataW Unit, w.ownsMap Tryd.prog 73 (plainElem Tryd.prog 4) m N D ∧ PB D B
theorem BadAt.look {w : World} {m N : Nat} {B : Int → Int → Bool} (h : BadAt w m N B) {n wh : Int} (hn : (Lit.int .i64 n).wf = true) (hw : (Lit.int .i64 wh).wf = true) :
    (Instr.lookup 93 (.map (some m)) (.agg #[.int .i64 n, .int .i64 wh]) false).run Tryd.prog w = .ok (.bool (B n wh)) w := by
  obtain ⟨D, hown, hD⟩ := h
  obtain ⟨v, ps, hrun, hv⟩ := hown.lookup law71 Tryd.underlying93 (zero4 w) (zd := .lit (.bool false)) (zp := []) (plainElem_bool Tryd.underlying4 false) (key71 hn hw)
  rw [hD n wh hn hw] at hv
  obtain ⟨x, rfl, e⟩ := plainElem_bool_inv hv
  simp at e
  rw [e.1]
  exact hrun
theorem BadAt.ext {w w' : World} {m N : Nat} {B : Int → Int → Bool} (h : BadAt w m N B) (hx : Ext w w') : BadAt w' m N B := by
  obtain ⟨D, ⟨es, clock, hb, r⟩, hD⟩ := h
  exact ⟨D, ⟨es, clock, hx.heap hb, r⟩, hD⟩
theorem PB.put {D : DataW Unit} {B : Int → Int → Bool} (h : PB D B) (hD : IsMap D) {n wh : Int} (hn : (Lit.int .i64 n).wf = true) (hw : (Lit.int .i64 wh).wf = true) (x : Bool) : PB (D.put (pkey n wh) (.lit (.bool x))) (fun a b => if a = n ∧ b = wh then x else B a b) := by
  intro a b ha hb
  by_cases e : a = n ∧ b = wh
  · obtain ⟨rfl, rfl⟩ := e
    rw [atKey_put_same hD (pkey_isKey _ _)]; simp
  · rw [atKey_put_other, h a b ha hb]
    · simp [e]
    · intro hk
      exact e (pkey_inj ha hb hn hw hk)
def boolA (bs : List Bool) : Array Value := (bs.map Value.bool).toArray
theorem info4 : (Tryd.prog.info? 4).map (fun i => (i.zero, i.size, i.bytes)) = some (some (.bool false), 1, 1) := by kernel_rfl
theorem made_bools (n : Nat) : madeCells #[.bool false] n = boolA (List.replicate n false) := by
  unfold madeCells boolA
  apply Array.ext
  · simp
  · intro i h1 h2
    simp
    rw [Nat.mod_one]; rfl
noncomputable def Z46 : Array Value := match Tryd.prog.info? 53 with
  | some i => (i.zero.getD undef).cells
  | none => #[]
theorem z46size : Z46.size = 57 := by kernel_rfl
theorem zero46 (w : World) : (zeroValue 53).run Tryd.prog w = .ok (.agg Z46) w := by kernel_rfl
set_option maxRecDepth 100000 in
theorem wpList_alloc46 {ops : Array Oper} {rest : List Oper} {o : Oper} {a : Act} {w : World} {Q : Exit → Act → World → Prop} (hgd : o.guard = none) (ho : o.op = .alloc 53)
    (h : wpList Tryd.prog ops Q rest (a.put o.dst (.pointer (some ⟨w.heap.size, 0, none⟩))) (w.alloc (.cells Z46 53))) : wpList Tryd.prog ops Q (o :: rest) a w :=
  wpList_plain hgd fun K hK => by
    unfold Oper.wp
    simp [execOp, ho, Instr.alloc, zero46, newVar, Value.cells, Result.andThen]
    exact hK _ _ h
theorem wpList_store46 {ops : Array Oper} {rest : List Oper} {o : Oper} {a : Act} {w : World} {Q : Exit → Act → World → Prop} (hgd : o.guard = none) (x y : Operand) (ho : o.op = .store 53 x y)
    (cs : Array Value) (hx : a.eval x = .pointer (some ⟨w.heap.size, 0, none⟩)) (hy : a.eval y = .agg cs) (hs : cs.size = 57) (h1 : cs.all (·.oneCell') = true)
    (h : wpList Tryd.prog ops Q rest (a.put o.dst undef) (w.alloc (.cells cs 53))) : wpList Tryd.prog ops Q (o :: rest) a (w.alloc (.cells Z46 53)) := by
  refine wpList_store_row hgd 53 x y ho w.heap.size cs hx hy 53 Z46 (heap_alloc_new w _) (by rw [size46, hs]) (by rw [z46size, hs]) h1 ?_
  rw [World.setRow_alloc_new]; exact h
structure PlK where
  n : Int
  w : Int
structure BoV where
  b : Bool
theorem invK71 (key : Value) (kl : Lit) (h : keyOf Tryd.prog 73 key = some kl) : ∃ x : PlK, key = plV x.n x.w := by
  obtain ⟨n, w, rfl, _⟩ := key71_inv h; exact ⟨⟨n, w⟩, rfl⟩
theorem invV4 (v : Value) (y : DataW Unit × List MemPlace) (h : plainElem Tryd.prog 4 v = some y) : ∃ c : BoV, v = Value.bool c.b := by
  obtain ⟨x, rfl, _⟩ := plainElem_bool_inv h; exact ⟨⟨x⟩, rfl⟩
/-- Under way: of a node's places those that were met are gone. -/
structure CrRel (W2 : World) (m r N : Nat) (nd : Int) (B : Int → Int → Bool) (D : DataW Unit) (left : Lit → Bool) (cnt : Nat) (wr : World) : Prop where
  rng : wr.ranges Tryd.prog 73 (plainElem Tryd.prog 4) m r N D left cnt
  eq : ∀ n w, (Lit.int .i64 n).wf = true → (Lit.int .i64 w).wf = true → D.atKey (pkey n w) (.lit (.bool false)) = .lit (.bool (if n = nd ∧ left (pkey n w) = false then false else B n w))
  grown : W2.grownBy wr (some m)
  new : W2.heap.size ≤ r
theorem pkey_same {n w n' w' : Int} (hn : (Lit.int .i64 n).wf = true) (hw : (Lit.int .i64 w).wf = true) (hn' : (Lit.int .i64 n').wf = true) (hw' : (Lit.int .i64 w').wf = true) : (pkey n w).sameKey (pkey n' w') = decide (n = n' ∧ w = w') := by
  rw [Bool.eq_iff_iff, decide_eq_true_iff]
  constructor
  · intro h
    exact pkey_inj hn hw hn' hw' (by
      unfold pkey at h ⊢
      simp [Lit.sameKey] at h
      rw [h])
  · rintro ⟨rfl, rfl⟩
    unfold pkey; simp [Lit.sameKey]
theorem CrRel.start {W2 w4 : World} {m N : Nat} {nd : Int} {B : Int → Int → Bool} {D : DataW Unit} (hD : PB D B) (h1 : w4.ranges Tryd.prog 73 (plainElem Tryd.prog 4) m W2.heap.size N D (Maps.has D) (Maps.size D)) (h2 : W2.grownBy w4 none) : CrRel W2 m W2.heap.size N nd B D (Maps.has D) (Maps.size D) w4 :=
  ⟨h1, fun n w hn hw => by
    have hb := hD n w hn hw
    by_cases e : n = nd ∧ Maps.has D (pkey n w) = false
    · rw [if_pos e, atKey_of_not_has e.2]
    · rw [if_neg e, hb], ⟨h2.os, h2.tape, h2.output, h2.size, fun i hi _ => h2.block i hi (by simp)⟩, Nat.le_refl _⟩
/-- A place of another node is met. -/
theorem CrRel.skip {W2 wr w1 : World} {m r N : Nat} {nd : Int} {B : Int → Int → Bool} {D : DataW Unit} {left : Lit → Bool} {cnt cnt1 : Nat} (h : CrRel W2 m r N nd B D left cnt wr) {n0 w0 : Int} (hn0 : (Lit.int .i64 n0).wf = true) (hw0 : (Lit.int .i64 w0).wf = true) (hne : n0 ≠ nd)
    (h1 : w1.ranges Tryd.prog 73 (plainElem Tryd.prog 4) m r N D (fun z => left z && !z.sameKey (pkey n0 w0)) cnt1) (hg : wr.grownBy w1 (some r)) : CrRel W2 m r N nd B D (fun z => left z && !z.sameKey (pkey n0 w0)) cnt1 w1 :=
  ⟨h1, fun n w hn hw => by
    rw [h.eq n w hn hw]
    by_cases e : n = nd
    · subst e
      have : (pkey n w).sameKey (pkey n0 w0) = false := by rw [pkey_same hn hw hn0 hw0]; simp; intro e; exact absurd e.symm hne
      simp [this]
    · simp [e], h.grown.andThen hg (fun j e => by injection e with e; exact .inl (by have := h.new; omega)), h.new⟩
/-- A place of the node is met, and dropped. -/
theorem CrRel.drop {W2 wr w1 w2 : World} {m r N : Nat} {nd : Int} {B : Int → Int → Bool} {D : DataW Unit} {left : Lit → Bool} {cnt cnt2 : Nat} (h : CrRel W2 m r N nd B D left cnt wr) {w0 : Int} (hn0 : (Lit.int .i64 nd).wf = true) (hw0 : (Lit.int .i64 w0).wf = true)
    (h2 : w2.ranges Tryd.prog 73 (plainElem Tryd.prog 4) m r N (D.del (pkey nd w0)) (fun z => (left z && !z.sameKey (pkey nd w0)) && !z.sameKey (pkey nd w0)) cnt2) (hg : wr.grownBy w1 (some r)) (hg2 : w1.grownBy w2 (some m)) : CrRel W2 m r N nd B (D.del (pkey nd w0)) (fun z => left z && !z.sameKey (pkey nd w0)) cnt2 w2 := by
  rw [Maps.strike_twice] at h2
  refine ⟨h2, fun n w hn hw => ?_, ?_, h.new⟩
  · by_cases e : n = nd ∧ w = w0
    · obtain ⟨rfl, rfl⟩ := e
      rw [atKey_del_same, if_pos ⟨rfl, by rw [pkey_same hn hw hn hw]; simp⟩]
    · have hs : (pkey n w).sameKey (pkey nd w0) = false := by rw [pkey_same hn hw hn0 hw0]; simpa using e
      rw [atKey_del_other (fun hk => e (pkey_inj hn hw hn0 hw0 hk)), h.eq n w hn hw, hs]
      simp
  · exact (h.grown.andThen hg (fun j e => by injection e with e; exact .inl (by have := h.new; omega))).andThen hg2 (fun j e => by injection e with e; exact .inr (by rw [e]))
theorem CrRel.done {W2 wr : World} {m r N : Nat} {nd : Int} {B : Int → Int → Bool} {D : DataW Unit} {left : Lit → Bool} {cnt : Nat} (h : CrRel W2 m r N nd B D left cnt wr) (hl : ∀ kl, left kl = false) : BadAt wr m N (fun a b => if a = nd then false else B a b) :=
  ⟨D, h.rng.owns, fun n w hn hw => by rw [h.eq n w hn hw, hl]; simp⟩
def Stop (p : Prop) : Prop := p
theorem stop_of {p : Prop} (h : Stop p) : p := h
structure WaRel (w : World) (xs : List Ev) (j : Nat) (wr : World) : Prop where
  out : wr.heap[w.heap.size]? = some (.cells (boolA (List.replicate j false ++ wasteL (xs.drop j))) 4 (0, 0))
  bad : BadAt wr (w.heap.size + 1) (xs.length - j) (wasteB (xs.drop j))
  ext : Ext w wr
theorem boolA_set (q : Nat) (b : Bool) (r : List Bool) : (boolA (List.replicate (q + 1) false ++ r)).setIfInBounds q (.bool b) = boolA (List.replicate q false ++ b :: r) := by
  unfold boolA
  rw [List.replicate_succ', List.append_assoc]
  simp [List.set_append]
theorem boolA_same (q : Nat) (r : List Bool) : List.replicate (q + 1) false ++ r = List.replicate q false ++ false :: r := by
  rw [List.replicate_succ', List.append_assoc]; rfl
theorem boolA_at (q : Nat) (r : List Bool) : (boolA (List.replicate (q + 1) false ++ r))[q]? = some (.bool false) := by
  rw [boolA_same]; unfold boolA; simp
theorem WaRel.map_step {w wr W2 w3 : World} {xs : List Ev} {q : Nat} (h : WaRel w xs (q + 1) wr) (hx : Ext wr W2) (hq : q < xs.length) (hg : W2.grownBy w3 (some (w.heap.size + 1)))
    (hf : (decide (xs[q].kind = 13) && wasteB (xs.drop (q + 1)) xs[q].node xs[q].who) = false) (hb : BadAt w3 (w.heap.size + 1) (xs.length - q) (wstep xs[q] (wasteB (xs.drop (q + 1))))) : WaRel w xs q w3 := by
  have hd : xs.drop q = xs[q] :: xs.drop (q + 1) := List.drop_eq_getElem_cons hq
  have hlt : w.heap.size < wr.heap.size := blk_lt h.out
  refine ⟨?_, by rw [hd]; exact hb, ?_⟩
  · rw [hd]
    simp only [wasteL]
    rw [hf, ← boolA_same]
    exact (hg.block _ (Nat.lt_of_lt_of_le hlt hx.size) (by simp)).trans (hx.heap h.out)
  · have h2 := h.ext.trans hx
    exact ⟨hg.os.trans h2.os, hg.tape.trans h2.tape, hg.output.trans h2.output, Nat.le_trans h2.size hg.size, fun i hi => (hg.block i (Nat.lt_of_lt_of_le hi h2.size) (by simp; omega)).trans (h2.block i hi)⟩
theorem grown_same (w : World) (row : Option Nat) : w.grownBy w row := ⟨rfl, rfl, rfl, Nat.le_refl _, fun _ _ _ => rfl⟩
theorem BadAt.more {w : World} {m N M : Nat} {B : Int → Int → Bool} (h : BadAt w m N B) (hM : N ≤ M) : BadAt w m M B := by
  obtain ⟨D, h1, h2⟩ := h
  exact ⟨D, h1.mono hM, h2⟩
theorem BadAt.put {w : World} {m N : Nat} {B : Int → Int → Bool} (h : BadAt w m N B) : ∃ D : DataW Unit, w.ownsMap Tryd.prog 73 (plainElem Tryd.prog 4) m N D ∧ IsMap D ∧ PB D B := by
  obtain ⟨D, h1, h2⟩ := h
  exact ⟨D, h1, h1.isMap, h2⟩
set_option maxRecDepth 100000 in
set_option maxHeartbeats 4000000 in
theorem wasted_any (w : World) (A : Option Addr) (xs : List Ev) (c : Nat) (hO : EventsAt w A xs) (hl : xs.length ≤ 100000000) :
    Calls Tryd.prog 23 #[.slice A xs.length c] w fun e w' => e = .returned (.slice (some ⟨w.heap.size, 0, none⟩) xs.length xs.length) ∧ w'.heap[w.heap.size]? = some (.cells (boolA (wasteL xs)) 4 (0, 0)) ∧ Ext w w' := by
  obtain ⟨m, hm⟩ : ∃ m, m = xs.length := ⟨_, rfl⟩
  rw [← hm] at hl ⊢
  have hmm := @run_makeMap Tryd.prog
  obtain ⟨i4, hi4, hz0, hz1, hz2⟩ := info_parts info4
  have hmk : (Instr.makeSlice 84 (.int .i64 m) (.int .i64 m)).run Tryd.prog w = .ok (.slice (some ⟨w.heap.size, 0, none⟩) m m) (w.alloc (.cells (boolA (List.replicate m false)) 4)) := by
    have := run_make (P := Tryd.prog) w 84 4 i4 (.bool false) Tryd.underlying84 hi4 hz0 .i64 .i64 m m (by omega) (Int.le_refl _) (by rw [hz2]; omega) (by omega)
    rw [this, hz1]
    simp [Value.cells, made_bools]
  have HM := Lib.hid hm; have HO := Lib.hid hO
  have S0 : Hid (WaRel w xs m ((w.alloc (.cells (boolA (List.replicate m false)) 4)).alloc (.map #[] 0))) := Lib.hid (by
    have hd : xs.drop m = [] := by rw [hm]; exact List.drop_length
    refine ⟨?_, ⟨.map [], ?_, ?_⟩, (alloc_ext _ _).trans (alloc_ext _ _)⟩
    · rw [hd]; simpa [wasteL] using heap_alloc2_old w (.cells (boolA (List.replicate m false)) 4) (.map #[] 0)
    · have := World.ownsMap_made (H := Unit) (w.alloc (.cells (boolA (List.replicate m false)) 4)) Tryd.prog 73 (plainElem Tryd.prog 4)
      rw [World.size_alloc] at this
      exact this.mono (Nat.zero_le _)
    · intro n wh _ _
      rw [hd]; rfl)
  clear hm hO hi4 hz0 hz1 hz2
  go_enter Tryd.func23, Tryd.ntmps23
  go_wp2
  clear hmm hmk
  go_loopw [5, 6, 7, 8] (fun i _ _ _ wr => ∃ j : Nat, ∃ z : Int, j ≤ m ∧ i = .int .i64 z ∧ Hid (z = j - 1) ∧ WaRel w xs j wr) (fun i _ _ _ _ => (intOf i + 1).toNat)
  case atStart => exact ⟨m, m - 1, Nat.le_refl _, by go_num, Lib.hid rfl, S0.out⟩
  case round =>
    clear S0
    obtain ⟨j, z, hj, rfl, HZ, hr⟩ := hrel
    have R := Lib.hid hr
    clear hr
    cases j with
    | zero =>
      have hz : z = -1 := by have := HZ.out; omega
      subst hz
      have R2 : Hid (wr.heap[w.heap.size]? = some (.cells (boolA (wasteL xs)) 4 (0, 0))) := Lib.hid (by have := R.out.out; simpa using this)
      go_wp2
      go_ret
      exact ⟨rfl, R2.out, R.out.ext⟩
    | succ q =>
      have hz : z = q := by have := HZ.out; omega
      subst hz
      have hqs : q < xs.length := by rw [← HM.out]; omega
      obtain ⟨b, off, cs, rfl, hb, hE, hcs⟩ := (HO.out.ext R.out.ext) q hqs
      have hml : xs.length - (q + 1) + 1 ≤ xs.length - q := by omega
      have hxl : xs.length ≤ 100000000 := by rw [← HM.out]; exact hl
      obtain ⟨W2, hW2⟩ : ∃ W2, W2 = (wr.alloc (.cells cs 53)).alloc (.cells #[.int .i64 xs[q].node, .int .i64 xs[q].who] 73) := ⟨_, rfl⟩
      have xW : Ext wr W2 := by rw [hW2]; exact (alloc_ext _ _).trans (alloc_ext _ _)
      have MS := Lib.hid fun w3 hg hf hb => R.out.map_step (w3 := w3) xW hqs hg hf hb
      obtain ⟨D, hD⟩ := (R.out.bad.ext xW).put
      have hout := xW.heap R.out.out
      have hd := (List.drop_eq_getElem_cons hqs : xs.drop q = xs[q] :: xs.drop (q + 1))
      obtain ⟨e, he⟩ : ∃ e, e = xs[q] := ⟨_, rfl⟩
      rw [← he] at hE MS hW2 hd
      obtain ⟨kd, nd, wh, wl, nb, ob⟩ := e
      dsimp only at MS hW2
      have h0 : cs[0]? = some (.int .i64 kd) := hE.kind
      have h2 : cs[2]? = some (.int .i64 nd) := hE.node
      have h3 : cs[3]? = some (.int .i64 wh) := hE.who
      have h56 : cs[56]? = some (.bool wl) := hE.whole
      have hkey : keyOf Tryd.prog 73 (.agg #[.int .i64 nd, .int .i64 wh]) = some (pkey nd wh) := key71 hE.wn hE.ww
      have HE := Lib.hid hE; have HCS := Lib.hid hcs; have HW2 := Lib.hid hW2; have HD := Lib.hid hD; have HOUT := Lib.hid hout; have XW := Lib.hid xW; have HDR := Lib.hid hd
      clear hE hcs hW2 hD hout xW hd he
      go_wp2_with (first | (refine wpList_load_at rfl 53 _ rfl ⟨b, off + q * 57, none⟩ rfl cs _ (fun j u hj => by rw [add_plain]; exact HCS.out j u hj) Tryd.underlying53 rfl (by rw [size46, HE.out.size]) ?_) | (refine wpList_alloc46 rfl rfl ?_) | (refine wpList_store46 rfl _ _ rfl cs rfl rfl HE.out.size HE.out.one ?_; refine stop_of ?_))
      unfold Stop
      by_cases hk15 : kd = 15
      · subst hk15
        have ME : Hid (∀ w3, W2.grownBy w3 (some (w.heap.size + 1)) → BadAt w3 (w.heap.size + 1) (xs.length - q) (fun a b => if a = nd ∧ b = wh then true else wasteB (xs.drop (q + 1)) a b) → WaRel w xs q w3) := Lib.hid fun w3 hg hb3 => MS.out w3 hg (by simp) (by
          have e : wstep ⟨15, nd, wh, wl, nb, ob⟩ (wasteB (xs.drop (q + 1))) = fun a b => if a = nd ∧ b = wh then true else wasteB (xs.drop (q + 1)) a b := by funext a b; simp [wstep]
          rw [e]; exact hb3)
        clear MS
        go_wp2_with ((at_mapUpdate; rw [← HW2.out]; refine wpList_mapUpdate_in _ rfl _ _ _ 93 rfl 73 4 law71 Tryd.underlying93 _ (w.heap.size + 1) (xs.length - (q + 1)) D rfl HD.out.1 ?c0 _ _ _ rfl rfl hkey _ [] (plainElem_bool Tryd.underlying4 _) ?_; rotate_left; intro w3 hown3 hturn3))
        case c0 => first | omega | (simp only [maxLen]; done) | (simp only [maxLen]; omega)
        have R3 : Hid (WaRel w xs q w3) := Lib.hid (ME.out w3 hturn3.grown ⟨_, hown3.mono (by omega), HD.out.2.2.put HD.out.2.1 HE.out.wn HE.out.ww _⟩)
        clear hown3 hturn3 ME HD
        go_wp2
        go_roundw
        case rel => exact ⟨q, q - 1, by omega, by go_num, Lib.hid rfl, R3.out⟩
        case measure => first | (simp [intOf]; done) | (simp [intOf]; omega)
      by_cases hk14 : kd = 14
      · subst hk14
        have ME : Hid (∀ w3, W2.grownBy w3 (some (w.heap.size + 1)) → BadAt w3 (w.heap.size + 1) (xs.length - q) (fun a b => if a = nd ∧ b = wh then !wl else wasteB (xs.drop (q + 1)) a b) → WaRel w xs q w3) := Lib.hid fun w3 hg hb3 => MS.out w3 hg (by simp) (by
          have e : wstep ⟨14, nd, wh, wl, nb, ob⟩ (wasteB (xs.drop (q + 1))) = fun a b => if a = nd ∧ b = wh then !wl else wasteB (xs.drop (q + 1)) a b := by funext a b; simp [wstep]
          rw [e]; exact hb3)
        clear MS
        go_wp2_with ((at_mapUpdate; rw [← HW2.out]; refine wpList_mapUpdate_in _ rfl _ _ _ 93 rfl 73 4 law71 Tryd.underlying93 _ (w.heap.size + 1) (xs.length - (q + 1)) D rfl HD.out.1 ?c0 _ _ _ rfl rfl hkey _ [] (plainElem_bool Tryd.underlying4 _) ?_; rotate_left; intro w3 hown3 hturn3))
        case c0 => first | omega | (simp only [maxLen]; done) | (simp only [maxLen]; omega)
        have R3 : Hid (WaRel w xs q w3) := Lib.hid (ME.out w3 hturn3.grown ⟨_, hown3.mono (by omega), HD.out.2.2.put HD.out.2.1 HE.out.wn HE.out.ww _⟩)
        clear hown3 hturn3 ME HD
        go_wp2
        go_roundw
        case rel => exact ⟨q, q - 1, by omega, by go_num, Lib.hid rfl, R3.out⟩
        case measure => first | (simp [intOf]; done) | (simp [intOf]; omega)
      by_cases hk11 : kd = 11
      · subst hk11
        have ME : Hid (∀ w3, W2.grownBy w3 (some (w.heap.size + 1)) → BadAt w3 (w.heap.size + 1) (xs.length - q) (fun a b => if a = nd ∧ b = wh then false else wasteB (xs.drop (q + 1)) a b) → WaRel w xs q w3) := Lib.hid fun w3 hg hb3 => MS.out w3 hg (by simp) (by
          have e : wstep ⟨11, nd, wh, wl, nb, ob⟩ (wasteB (xs.drop (q + 1))) = fun a b => if a = nd ∧ b = wh then false else wasteB (xs.drop (q + 1)) a b := by funext a b; simp [wstep]
          rw [e]; exact hb3)
        clear MS
        go_wp2_with ((at_mapUpdate; rw [← HW2.out]; refine wpList_mapUpdate_in _ rfl _ _ _ 93 rfl 73 4 law71 Tryd.underlying93 _ (w.heap.size + 1) (xs.length - (q + 1)) D rfl HD.out.1 ?c0 _ _ _ rfl rfl hkey _ [] (plainElem_bool Tryd.underlying4 _) ?_; rotate_left; intro w3 hown3 hturn3))
        case c0 => first | omega | (simp only [maxLen]; done) | (simp only [maxLen]; omega)
        have R3 : Hid (WaRel w xs q w3) := Lib.hid (ME.out w3 hturn3.grown ⟨_, hown3.mono (by omega), HD.out.2.2.put HD.out.2.1 HE.out.wn HE.out.ww _⟩)
        clear hown3 hturn3 ME HD
        go_wp2
        go_roundw
        case rel => exact ⟨q, q - 1, by omega, by go_num, Lib.hid rfl, R3.out⟩
        case measure => first | (simp [intOf]; done) | (simp [intOf]; omega)
      by_cases hk13 : kd = 13
      · subst hk13
        have hlk : (Instr.lookup 93 (.map (some (w.heap.size + 1))) (.agg #[.int .i64 nd, .int .i64 wh]) false).run Tryd.prog W2 = .ok (.bool (wasteB (xs.drop (q + 1)) nd wh)) W2 := BadAt.look ⟨D, HD.out.1, HD.out.2.2⟩ HE.out.wn HE.out.ww
        have hoc : W2.cell? ⟨w.heap.size, q, none⟩ = some (.bool false) := (blk_cell HOUT.out q).trans (boolA_at q _)
        have hof := blk_free HOUT.out q
        have R3 : Hid (WaRel w xs q (W2.setCell ⟨w.heap.size, q, none⟩ (.bool (wasteB (xs.drop (q + 1)) nd wh)))) := Lib.hid (by
          have hx2 := R.out.ext.trans XW.out
          refine ⟨?_, ?_, ?_⟩
          · rw [blk_set HOUT.out, boolA_set, HDR.out]
            simp [wasteL]
          · rw [HDR.out]
            have e : wasteB ((⟨13, nd, wh, wl, nb, ob⟩ : Ev) :: xs.drop (q + 1)) = wasteB (xs.drop (q + 1)) := by funext a b; simp [wasteB, wstep]
            rw [e]
            obtain ⟨es, cl, h1, h2⟩ := HD.out.1
            exact ⟨D, World.ownsMap.mono ⟨es, cl, blk_far h1 (by simp) _, h2⟩ (by omega), HD.out.2.2⟩
          · refine ⟨hx2.os, hx2.tape, hx2.output, by simpa [World.setCell] using hx2.size, fun i hi => (Below.heap_setCell _ _ _ i (by simp; omega)).trans (hx2.block i hi)⟩)
        clear MS
        rw [HW2.out] at hlk hoc hof R3
        go_wp2
        go_roundw
        case rel => exact ⟨q, q - 1, by omega, by go_num, Lib.hid rfl, R3.out⟩
        case measure => first | (simp [intOf]; done) | (simp [intOf]; omega)
      have MO : Hid (kd ≠ 16 → WaRel w xs q W2) := Lib.hid fun h16 => MS.out W2 (grown_same _ _) (by simp [hk13]) (by
        have e : wstep ⟨kd, nd, wh, wl, nb, ob⟩ (wasteB (xs.drop (q + 1))) = wasteB (xs.drop (q + 1)) := by funext a b; simp [wstep, hk15, hk14, hk11, h16]
        rw [e]; exact BadAt.more ⟨D, HD.out.1, HD.out.2.2⟩ (by omega))
      have e15 : (kd == 15) = false := by simpa using hk15
      have e14 : (kd == 14) = false := by simpa using hk14
      have e11 : (kd == 11) = false := by simpa using hk11
      have e13 : (kd == 13) = false := by simpa using hk13
      by_cases hk16 : kd = 16
      · subst hk16
        have ME : Hid (∀ w3, W2.grownBy w3 (some (w.heap.size + 1)) → BadAt w3 (w.heap.size + 1) (xs.length - (q + 1)) (fun a b => if a = nd then false else wasteB (xs.drop (q + 1)) a b) → WaRel w xs q w3) := Lib.hid fun w3 hg hb3 => MS.out w3 hg (by simp) (by
          have e : wstep ⟨16, nd, wh, wl, nb, ob⟩ (wasteB (xs.drop (q + 1))) = fun a b => if a = nd then false else wasteB (xs.drop (q + 1)) a b := by funext a b; simp [wstep]
          rw [e]; exact hb3.more (by omega))
        have EB : Hid (W2.heap[wr.heap.size]? = some (.cells cs 53 (0, 0))) := Lib.hid (by rw [HW2.out]; exact heap_alloc2_old wr _ _)
        have HNE : Hid (w.heap.size + 1 < wr.heap.size) := Lib.hid (by obtain ⟨es, cl, h1, _⟩ := R.out.bad.put.choose_spec.1; exact blk_lt h1)
        clear MS MO
        go_wp2_with ((at_range; rw [← HW2.out]; refine wpList_range_own _ rfl _ 93 rfl 73 4 law71 Tryd.underlying93 (plainElem Tryd.prog 4) (w.heap.size + 1) (xs.length - (q + 1)) D rfl HD.out.1 ?_))
        intro w4 hrg0 hg0 hs0
        have C0 := Lib.hid (CrRel.start (nd := nd) HD.out.2.2 hrg0 hg0)
        clear hrg0 hg0 hs0
        go_wp2
        go_loopw [8] (fun _ wx => ∃ D' left cnt, CrRel W2 (w.heap.size + 1) W2.heap.size (xs.length - (q + 1)) nd (wasteB (xs.drop (q + 1))) D' left cnt wx) (fun _ wx => wx.rangeLeft (w.heap.size + 1) W2.heap.size)
        case atStart => exact ⟨_, _, _, C0.out⟩
        case round =>
          clear C0
          obtain ⟨D', left, cnt, hr⟩ := hrel
          have R2 := Lib.hid hr; have M0 := Lib.hid hr.rng.left_eq
          go_wp2_with (at_next; refine wpList_next_ranges _ rfl _ rfl 73 law71 (plainElem Tryd.prog 4) (fun x : PlK => plV x.n x.w) (fun c : BoV => Value.bool c.b) invK71 invV4 (w.heap.size + 1) W2.heap.size (xs.length - (q + 1)) D' left cnt rfl hr.rng ?_ ?_)
          · intro _ hl0
            have R3 := Lib.hid (ME.out wr hr.grown (hr.done hl0))
            clear hr hl0 ME R2
            go_wp2
            go_roundw
            case rel => exact ⟨q, q - 1, by omega, by go_num, Lib.hid rfl, R3.out⟩
            case measure => first | (simp [intOf]; done) | (simp [intOf]; omega)
          · intro x c kl y1 y2 w1' cnt1 hkey hlk hv hat hrg1 hlt hg1 hs1 hen
            obtain ⟨n0, w0⟩ := x
            obtain ⟨n0', w0', e, rfl, hwn, hww⟩ := key71_inv hkey
            simp [plV] at e
            obtain ⟨rfl, rfl⟩ := e
            have hbe : w1'.heap[_]? = _ := ((R2.out.grown.andThen hg1 (fun j e => by injection e with e; exact .inl (by have := R2.out.new; omega))).block _ (blk_lt EB.out) (by simp; have := HNE.out; omega)).trans EB.out
            have hc2 := Ext.cell (alloc_ext w1' (.cells #[.int .i64 n0, .int .i64 w0] 73)) ((blk_cell hbe 2).trans h2)
            simp only [plV] at hen
            by_cases hnn : n0 = nd
            · subst hnn
              have RG := Lib.hid (hrg1.alloc (.cells #[.int .i64 n0, .int .i64 w0] 73)); have HG1 := Lib.hid hg1
              have hkey2 : keyOf Tryd.prog 73 (.agg #[.int .i64 n0, .int .i64 w0]) = some (pkey n0 w0) := key71 hwn hww
              clear hr hkey hlk hv hat hrg1 hg1 hs1 hbe
              go_wp2_with (at_delete; refine wpList_delete_ranges _ rfl _ _ 93 73 rfl 4 law71 Tryd.underlying93 (plainElem Tryd.prog 4) (w.heap.size + 1) W2.heap.size (xs.length - (q + 1)) D' _ cnt1 rfl RG.out _ _ rfl hkey2 ?_)
              intro w2 cnt2 hrg2 hle2 hturn2
              have C2 := Lib.hid (R2.out.drop hwn hww (by rw [Maps.strike_twice]; exact hrg2) HG1.out (grown_trans (World.grownBy_alloc w1' _ _) hturn2.grown))
              have M2 := Lib.hid C2.out.rng.left_eq
              clear hrg2 hturn2 RG HG1 hc2 hen
              go_wp2
              go_roundw
              case rel => exact ⟨_, _, _, C2.out⟩
              case measure => rw [M2.out, M0.out]; omega
            · have enn : (n0 == nd) = false := by simpa using hnn
              have hal : CrRel W2 (w.heap.size + 1) W2.heap.size (xs.length - (q + 1)) nd (wasteB (xs.drop (q + 1))) D' (fun z => left z && !z.sameKey (pkey n0 w0)) cnt1 (w1'.alloc (.cells #[.int .i64 n0, .int .i64 w0] 73)) := by
                have h := R2.out.skip hwn hww hnn hrg1 hg1
                exact ⟨h.rng.alloc _, h.eq, grown_trans h.grown (World.grownBy_alloc _ _ _), h.new⟩
              have C1 := Lib.hid hal
              have M2 := Lib.hid C1.out.rng.left_eq
              clear hr hkey hlk hv hat hrg1 hg1 hs1 hbe hal hnn
              go_wp2
              go_roundw
              case rel => exact ⟨_, _, _, C1.out⟩
              case measure => rw [M2.out, M0.out]; omega
      · have e16 : (kd == 16) = false := by simpa using hk16
        have R3 := Lib.hid (MO.out hk16)
        clear MS MO hk16 hk15 hk14 hk11 hk13
        go_wp2
        rw [← HW2.out]
        go_roundw
        case rel => exact ⟨q, q - 1, by omega, by go_num, Lib.hid rfl, R3.out⟩
        case measure => first | (simp [intOf]; done) | (simp [intOf]; omega)
end Go.Proofs.YtlddpdlebdjniaaDoor
