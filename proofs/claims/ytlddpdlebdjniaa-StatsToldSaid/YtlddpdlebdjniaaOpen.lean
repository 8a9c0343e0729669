/- A list of events as an argument, opened: each event's fifty-seven cells, its fields in memory, and how great they may be. -/
import Derived.Test.YtlddpdlebdjniaaArgs
import Derived.SizedLaws
namespace Go.Proofs.Ytlddpdlebdjniaa
open Go.ChangeShapes Go.WideShapes Go.ChangeAt Go.RowKit Go.Deep Go.Joins
set_option linter.unusedVariables false
set_option linter.unusedSimpArgs false

section
variable {H : Type} {enc : TypeId × Value → H} {P : Program} {w : World} {base : Nat} {spare : Nat → Bool} {held : Bool}
/-- A struct's cells are its fields', all through. -/
def covB (P : Program) : Nat → TypeId → Bool
  | 0, _ => false
  | n + 1, t => match P.underlying t with
    | some (.struct fs) => (List.range (P.cellsOf t)).all (fun j => (List.range fs.size).any fun i => match fs[i]? with
        | some f => decide (f.offset ≤ j) && decide (j < f.offset + P.cellsOf f.type) && covB P n f.type
        | none => false)
    | some (.array _ _) => false
    | _ => true
theorem trod_all_one : ∀ (n : Nat) (t : TypeId) (fuel : Nat) (cs : List Value) (x : DataW H × List MemPlace), covB P n t = true → DataW.trod enc P w base spare held fuel t cs = some x → ∀ (j : Nat) (u : Value), cs[j]? = some u → u.oneCell' = true
  | 0, t, fuel, cs, x, hc, h => by simp [covB] at hc
  | n + 1, t, fuel, cs, x, hc, h => by
    cases hu : P.underlying t with
    | none => cases fuel with
      | zero => simp [DataW.trod] at h
      | succ f => unfold DataW.trod at h; rw [hu] at h; simp at h
    | some d =>
      by_cases hs : ∃ fs, d = .struct fs
      · obtain ⟨fs, rfl⟩ := hs
        obtain ⟨ys, m, _, _, hlen, hyl, hf⟩ := DataW.trod_struct hu h
        simp only [covB, hu] at hc
        intro j u hj
        have hjl : j < P.cellsOf t := by rw [← hlen]; exact (List.getElem?_eq_some_iff.1 hj).1
        have h1 := List.all_eq_true.1 hc j (List.mem_range.2 hjl)
        obtain ⟨i, hi, h2⟩ := List.any_eq_true.1 h1
        cases hfi : fs[i]? with
        | none => rw [hfi] at h2; simp at h2
        | some f =>
          rw [hfi] at h2
          simp only [Bool.and_eq_true, decide_eq_true_eq] at h2
          have h3 := hf i f hfi
          have hil : i < ys.length := by rw [hyl]; exact (Array.getElem?_eq_some_iff.1 hfi).1
          rw [List.getElem?_eq_getElem hil] at h3
          refine trod_all_one n f.type m _ _ h2.2 h3 (j - f.offset) u ?_
          rw [List.getElem?_take_of_lt (by omega), List.getElem?_drop, show f.offset + (j - f.offset) = j by omega]
          exact hj
      · have harr : ∀ k e, d ≠ .array k e := fun k e he => by subst he; simp [covB, hu] at hc
        cases fuel with
        | zero => simp [DataW.trod] at h
        | succ f =>
          have : ∃ v, cs = [v] ∧ v.oneCell' = true := by
            unfold DataW.trod at h
            rw [hu] at h
            split at h <;> first | exact absurd ⟨_, rfl⟩ hs | exact absurd rfl (harr _ _) | exact ⟨_, rfl, rfl⟩ | (simp at h; done) | skip
            all_goals (first | (rename_i h1 h2; simp_all) | skip)
          obtain ⟨v, rfl, hv⟩ := this
          intro j u hj
          cases j with
          | zero => simp at hj; subst hj; exact hv
          | succ j => simp at hj

/-- No part of a datum is greater than a machine's memory. -/
def WOk (P : Program) (t : TypeId) (d : DataW H) : Prop := ∀ n ∈ d.weights P t, n ≤ reachBytes
theorem wok_arg {ts : List TypeId} {ds : List (DataW H)} (h : (DataW.weightsEach P ts ds).all (· ≤ reachBytes) = true) {j : Nat} {t : TypeId} {d : DataW H} (ht : ts[j]? = some t) (hd : ds[j]? = some d) : WOk P t d :=
  fun n hn => by simpa using List.all_eq_true.1 h n (DataW.weights_mem_each ht hd n hn)
theorem WOk.struct {t : TypeId} {fs : Array Field} {parts : List (DataW H)} (h : WOk P t (.agg parts)) (hu : P.underlying t = some (.struct fs)) {i : Nat} {f : Field} {d : DataW H} (hf : fs[i]? = some f) (hd : parts[i]? = some d) : WOk P f.type d := fun n hn => by
  refine h n ?_
  simp only [DataW.weights, hu]
  exact DataW.weights_mem_each (j := i) (by simp [hf]) hd n hn
theorem weightsAll_mem {e : TypeId} {d : DataW H} {n : Nat} (hn : n ∈ d.weights P e) : ∀ {l : List (DataW H)}, d ∈ l → n ∈ DataW.weightsAll P e l
  | x :: l, h => by
    simp only [DataW.weightsAll, List.mem_append]
    rcases List.mem_cons.1 h with rfl | h
    · exact .inl hn
    · exact .inr (weightsAll_mem hn h)
theorem WOk.slice {t e : TypeId} {els sp : List (DataW H)} (h : WOk P t (.slice els sp)) (hu : P.underlying t = some (.slice e)) : (els.length + sp.length) * P.bytesOf e ≤ reachBytes ∧ ∀ d ∈ els, WOk P e d := by
  refine ⟨h _ (by simp [DataW.weights, hu]), fun d hd n hn => h n ?_⟩
  simp only [DataW.weights, hu]
  exact List.mem_cons_of_mem _ (List.mem_append_left _ (weightsAll_mem hn hd))
theorem WOk.string {t : TypeId} {b : List UInt8} (h : WOk P t (.lit (.string b) : DataW H)) : b.length ≤ reachBytes := h _ (by simp [DataW.weights])
end

/-- A field's name and value. -/
structure Fld where
  name : Bs
  val : Bs
def FldsAt (w : World) (A : Option Addr) (fs : List Fld) : Prop := ∀ k (hk : k < fs.length), ∃ b off, A = some ⟨b, off, none⟩ ∧ b < w.heap.size ∧
  w.cell? ⟨b, off + k * 2, none⟩ = some (.string ⟨fs[k].name.toArray⟩) ∧ w.cell? ⟨b, off + k * 2 + 1, none⟩ = some (.string ⟨fs[k].val.toArray⟩)
theorem FldsAt.ext {w w' : World} {A : Option Addr} {fs : List Fld} (h : FldsAt w A fs) (hx : Ext w w') : FldsAt w' A fs := fun k hk => by
  obtain ⟨b, off, e, hb, h0, h1⟩ := h k hk
  exact ⟨b, off, e, hx.lt hb, Ext.cell hx h0, Ext.cell hx h1⟩
structure FldC (w : World) (cs : Array Value) (fs : List Fld) : Prop where
  at' : ∃ A c, cs[28]? = some (.slice A fs.length c) ∧ FldsAt w A fs
  len : fs.length ≤ 140737488351232
  txt : ∀ f ∈ fs, f.name.length ≤ 140737488351232 ∧ f.val.length ≤ 140737488351232
theorem FldC.ext {w w' : World} {cs : Array Value} {fs : List Fld} (h : FldC w cs fs) (hx : Ext w w') : FldC w' cs fs :=
  ⟨by obtain ⟨A, c, h1, h2⟩ := h.at'; exact ⟨A, c, h1, h2.ext hx⟩, h.len, h.txt⟩
/-- An event with its fields. -/
structure EvF where
  ev : Ev
  fs : List Fld
def EvFAt (w : World) (A : Option Addr) (xs : List EvF) : Prop := ∀ k (hk : k < xs.length), ∃ b off cs, A = some ⟨b, off, none⟩ ∧ b < w.heap.size ∧ EvC cs xs[k].ev ∧ FldC w cs xs[k].fs ∧
  ∀ j u, cs[j]? = some u → w.cell? ⟨b, off + k * 57 + j, none⟩ = some u
theorem EvFAt.ext {w w' : World} {A : Option Addr} {xs : List EvF} (h : EvFAt w A xs) (hx : Ext w w') : EvFAt w' A xs := fun k hk => by
  obtain ⟨b, off, cs, e, hb, h1, h2, h3⟩ := h k hk
  exact ⟨b, off, cs, e, hx.lt hb, h1, h2.ext hx, fun j u hj => Ext.cell hx (h3 j u hj)⟩
def evs (xs : List EvF) : List Ev := xs.map (·.ev)
theorem evs_len (xs : List EvF) : (evs xs).length = xs.length := by simp [evs]
theorem EvFAt.evs {w : World} {A : Option Addr} {xs : List EvF} (h : EvFAt w A xs) : EventsAt w A (evs xs) := fun k hk => by
  obtain ⟨b, off, cs, e, hb, h1, _, h3⟩ := h k (by rwa [evs_len] at hk)
  exact ⟨b, off, cs, e, hb, by simpa [Ytlddpdlebdjniaa.evs] using h1, h3⟩

theorem cells46 : Try.prog.cellsOf 46 = 57 := by kernel_rfl
theorem cells85 : Try.prog.cellsOf 85 = 2 := by kernel_rfl
theorem cells9 : Try.prog.cellsOf 9 = 1 := by kernel_rfl
theorem cells4 : Try.prog.cellsOf 4 = 1 := by kernel_rfl
theorem cells34 : Try.prog.cellsOf 34 = 1 := by kernel_rfl
theorem cells44 : Try.prog.cellsOf 44 = 1 := by kernel_rfl
theorem cells30 : Try.prog.cellsOf 30 = 11 := by kernel_rfl
theorem cells37 : Try.prog.cellsOf 37 = 4 := by kernel_rfl
theorem bytes5 : Try.prog.bytesOf 5 = 1 := by kernel_rfl
theorem bytes85 : Try.prog.bytesOf 85 = 32 := by kernel_rfl
theorem bytes46 : 0 < Try.prog.bytesOf 46 := of_decide_eq_true (p := 0 < Try.prog.bytesOf 46) (by kernel_rfl)
theorem cov46 : covB Try.prog 6 46 = true := by kernel_rfl

section
variable {H : Type} {enc : TypeId × Value → H} {w : World} {base : Nat} {held : Bool}
set_option maxRecDepth 100000 in
theorem flds_cells {fuel : Nat} {cs : List Value} {x : DataW H × List MemPlace} (hwk : WOk Try.prog 34 x.1) (h : DataW.trod enc Try.prog w base (fun _ => true) held fuel 34 cs = some x) :
    ∃ A c fs, cs = [.slice A (List.length fs) c] ∧ FldsAt w A fs ∧ fs.length ≤ 140737488351232 ∧ ∀ f ∈ fs, f.name.length ≤ 140737488351232 ∧ f.val.length ≤ 140737488351232 := by
  rcases open_slice Try.underlying34 h with ⟨hcs, _⟩ | ⟨a, len, cap, m, n, D, Pl, hcs, _, hl, hm, hmm, rfl, hi⟩
  · exact ⟨none, 0, [], hcs, fun k hk => by simp at hk, by simp, by simp⟩
  · have hm' : m = cap := by simpa using hmm
    subst hm'
    obtain ⟨hb, he⟩ := hwk.slice Try.underlying34
    rw [bytes85] at hb
    simp only [List.length_map, List.length_range] at hb
    have hrb : reachBytes = 140737488351232 := rfl
    have key : ∀ q, q ≤ len → ∃ xs : List Fld, xs.length = q ∧ (∀ k (hk : k < xs.length), w.cell? (a.add (k * 2)) = some (.string ⟨xs[k].name.toArray⟩) ∧ w.cell? ((a.add (k * 2)).add 1) = some (.string ⟨xs[k].val.toArray⟩)) ∧ ∀ f ∈ xs, f.name.length ≤ 140737488351232 ∧ f.val.length ≤ 140737488351232 := by
      intro q
      induction q with
      | zero => intro _; exact ⟨[], rfl, fun k hk => by simp at hk, by simp⟩
      | succ q ih =>
        intro hq
        obtain ⟨xs, hxl, hx, hx2⟩ := ih (by omega)
        obtain ⟨cs', hc, ht⟩ := hi q (by omega)
        have hwe : WOk Try.prog 85 (D q) := he _ (List.mem_map.2 ⟨q, List.mem_range.2 (by omega), rfl⟩)
        rw [cells85] at hc
        obtain ⟨ys, m2, _, hxx, hlen, hyl, hf⟩ := DataW.trod_struct Try.underlying85 ht
        simp only [Prod.mk.injEq] at hxx
        rw [hxx.1] at hwe
        rw [cells85] at hlen
        match cs', hlen with
        | [c0, c1], _ =>
          have f0 : DataW.trod enc Try.prog w base (fun _ => true) held m2 9 (([c0, c1].drop 0).take (Try.prog.cellsOf 9)) = ys[0]? := hf 0 _ rfl
          have f1 : DataW.trod enc Try.prog w base (fun _ => true) held m2 9 (([c0, c1].drop 1).take (Try.prog.cellsOf 9)) = ys[1]? := hf 1 _ rfl
          rw [cells9] at f0 f1
          have hy : ys.length = 2 := hyl
          match ys, hy with
          | [y0, y1], _ =>
            obtain ⟨s0, e0, d0, _⟩ := DataW.trod_string Try.underlying9 f0
            obtain ⟨s1, e1, d1, _⟩ := DataW.trod_string Try.underlying9 f1
            have k0 := hwe.struct Try.underlying85 (i := 0) rfl (d := y0.1) rfl
            have k1 := hwe.struct Try.underlying85 (i := 1) rfl (d := y1.1) rfl
            rw [d0] at k0; rw [d1] at k1
            have k0 := WOk.string k0; have k1 := WOk.string k1
            simp at e0 e1
            subst e0 e1
            obtain ⟨_, _, hat⟩ := World.cells?_some hc
            have g0 := hat 0 (by omega); have g1 := hat 1 (by omega)
            refine ⟨xs ++ [⟨s0.data.toList, s1.data.toList⟩], by simp [hxl], fun k hk => ?_, fun f hf => ?_⟩
            · by_cases hkq : k < xs.length
              · rw [List.getElem_append_left hkq]; exact hx k hkq
              · obtain rfl : k = xs.length := by simp at hk; omega
                rw [List.getElem_append_right (Nat.le_refl _)]
                simp only [Nat.sub_self, List.getElem_cons_zero]
                rw [hxl]
                refine ⟨?_, by simpa using g1⟩
                have : (a.add (q * 2)).add 0 = a.add (q * 2) := by simp [Addr.add]
                rw [this] at g0; simpa using g0
            · rcases List.mem_append.mp hf with h | h
              · exact hx2 f h
              · simp at h; subst h; rw [hrb] at k0 k1; exact ⟨k0, k1⟩
    obtain ⟨xs, hxl, hx, hx2⟩ := key len (Nat.le_refl _)
    refine ⟨some a, m, xs, by rw [hcs, hxl], fun k hk => ?_, by rw [hxl]; rw [hrb] at hb; omega, hx2⟩
    obtain ⟨e0, e1⟩ := hx k hk
    have hz := (hx 0 (by omega)).1
    obtain ⟨b, off, spot⟩ := a
    have hspot : spot = none := by simpa [Addr.add] using World.cell?_spot hz
    subst hspot
    rw [add_plain] at e0 e1
    rw [add_plain] at e1
    exact ⟨b, off, rfl, World.block_lt_of_cell? _ _ e0, e0, e1⟩

set_option maxRecDepth 100000 in
set_option maxHeartbeats 2000000 in
theorem ev_cells {fuel : Nat} {cs : List Value} {x : DataW H × List MemPlace} (hwk : WOk Try.prog 46 x.1) (h : DataW.trod enc Try.prog w base (fun _ => true) held fuel 46 cs = some x) :
    ∃ e : EvF, EvC cs.toArray e.ev ∧ FldC w cs.toArray e.fs := by
  have hone := trod_all_one 6 46 fuel cs x cov46 h
  obtain ⟨ys, m, _, rfl, hlen, hyl, hf⟩ := DataW.trod_struct Try.underlying46 h
  rw [cells46] at hlen
  have hy : ys.length = 14 := hyl
  have hrb : reachBytes = 140737488351232 := rfl
  have one : ∀ j v, (cs.drop j).take 1 = [v] → cs[j]? = some v := fun j v e => by
    have : ((cs.drop j).take 1)[0]? = some v := by rw [e]; rfl
    simpa using this
  have f0 : DataW.trod enc Try.prog w base (fun _ => true) held m 3 ((cs.drop 0).take (Try.prog.cellsOf 3)) = ys[0]? := hf 0 _ rfl
  have f2 : DataW.trod enc Try.prog w base (fun _ => true) held m 3 ((cs.drop 2).take (Try.prog.cellsOf 3)) = ys[2]? := hf 2 _ rfl
  have f3 : DataW.trod enc Try.prog w base (fun _ => true) held m 3 ((cs.drop 3).take (Try.prog.cellsOf 3)) = ys[3]? := hf 3 _ rfl
  have f5 : DataW.trod enc Try.prog w base (fun _ => true) held m 30 ((cs.drop 5).take (Try.prog.cellsOf 30)) = ys[5]? := hf 5 _ rfl
  have f7 : DataW.trod enc Try.prog w base (fun _ => true) held m 37 ((cs.drop 27).take (Try.prog.cellsOf 37)) = ys[7]? := hf 7 _ rfl
  have f10 : DataW.trod enc Try.prog w base (fun _ => true) held m 44 ((cs.drop 53).take (Try.prog.cellsOf 44)) = ys[10]? := hf 10 _ rfl
  have f13 : DataW.trod enc Try.prog w base (fun _ => true) held m 4 ((cs.drop 56).take (Try.prog.cellsOf 4)) = ys[13]? := hf 13 _ rfl
  rw [cells3] at f0 f2 f3
  rw [cells30] at f5
  rw [cells37] at f7
  rw [cells44] at f10
  rw [cells4] at f13
  match ys, hy with
  | [y0, y1, y2, y3, y4, y5, y6, y7, y8, y9, y10, y11, y12, y13], _ =>
    have w5 : WOk Try.prog 30 y5.1 := hwk.struct Try.underlying46 (i := 5) rfl rfl
    have w7 : WOk Try.prog 37 y7.1 := hwk.struct Try.underlying46 (i := 7) rfl rfl
    have w10 : WOk Try.prog 44 y10.1 := hwk.struct Try.underlying46 (i := 10) rfl rfl
    obtain ⟨kd, e0, _, wk⟩ := DataW.trod_int Try.underlying3 f0
    obtain ⟨nd, e2, _, wn⟩ := DataW.trod_int Try.underlying3 f2
    obtain ⟨wh, e3, _, ww⟩ := DataW.trod_int Try.underlying3 f3
    obtain ⟨wl, e13, _⟩ := DataW.trod_bool Try.underlying4 f13
    -- the request's object
    have hob : ∃ ob : Bs, cs[6]? = some (.string ⟨ob.toArray⟩) ∧ ob.length ≤ 140737488351232 := by
      have f5' : DataW.trod enc Try.prog w base (fun _ => true) held m 30 ((cs.drop 5).take 11) = some y5 := f5
      obtain ⟨zs, m2, _, rfl, _, hzl, hg⟩ := DataW.trod_struct Try.underlying30 f5'
      have hz : zs.length = 4 := hzl
      have g1 : DataW.trod enc Try.prog w base (fun _ => true) held m2 9 ((((cs.drop 5).take 11).drop 1).take (Try.prog.cellsOf 9)) = zs[1]? := hg 1 _ rfl
      rw [cells9] at g1
      match zs, hz with
      | [z0, z1, z2, z3], _ =>
        obtain ⟨s, e, d, _⟩ := DataW.trod_string Try.underlying9 g1
        have k := w5.struct Try.underlying30 (i := 1) rfl (d := z1.1) rfl
        rw [d] at k
        have k := WOk.string k
        refine ⟨s.data.toList, ?_, by rw [hrb] at k; exact k⟩
        have : ((((cs.drop 5).take 11).drop 1).take 1)[0]? = some (.string s) := by rw [e]; rfl
        rw [List.getElem?_take_of_lt (by omega), List.getElem?_drop, List.getElem?_take_of_lt (by omega), List.getElem?_drop] at this
        simpa using this
    -- the bytes
    have hby : ∃ A n c, cs[53]? = some (.slice A n c) ∧ n ≤ 140737488351232 := by
      have f10' : DataW.trod enc Try.prog w base (fun _ => true) held m 44 ((cs.drop 53).take 1) = some y10 := f10
      rcases open_slice Try.underlying44 f10' with ⟨hcs, _⟩ | ⟨a, len, cap, m3, n, D, Pl, hcs, _, hl, hm, hmm, rfl, hi⟩
      · exact ⟨none, 0, 0, one _ _ hcs, by omega⟩
      · obtain ⟨hb, _⟩ := w10.slice Try.underlying44
        rw [bytes5] at hb
        simp only [List.length_map, List.length_range] at hb
        exact ⟨some a, len, cap, one _ _ hcs, by rw [hrb] at hb; omega⟩
    -- the answer's fields
    have hfl : ∃ A c fs, cs[28]? = some (.slice A (List.length fs) c) ∧ FldsAt w A fs ∧ fs.length ≤ 140737488351232 ∧ ∀ f ∈ fs, f.name.length ≤ 140737488351232 ∧ f.val.length ≤ 140737488351232 := by
      have f7' : DataW.trod enc Try.prog w base (fun _ => true) held m 37 ((cs.drop 27).take 4) = some y7 := f7
      obtain ⟨zs, m2, _, rfl, _, hzl, hg⟩ := DataW.trod_struct Try.underlying37 f7'
      have hz : zs.length = 4 := hzl
      have g1 : DataW.trod enc Try.prog w base (fun _ => true) held m2 34 ((((cs.drop 27).take 4).drop 1).take (Try.prog.cellsOf 34)) = zs[1]? := hg 1 _ rfl
      rw [cells34] at g1
      match zs, hz with
      | [z0, z1, z2, z3], _ =>
        have k := w7.struct Try.underlying37 (i := 1) rfl (d := z1.1) rfl
        obtain ⟨A, c, fs, e, r⟩ := flds_cells (x := z1) k g1
        refine ⟨A, c, fs, ?_, r⟩
        have : ((((cs.drop 27).take 4).drop 1).take 1)[0]? = some (.slice A (List.length fs) c) := by rw [e]; rfl
        rw [List.getElem?_take_of_lt (by omega), List.getElem?_drop, List.getElem?_take_of_lt (by omega), List.getElem?_drop] at this
        simpa using this
    obtain ⟨ob, hob1, hob2⟩ := hob
    obtain ⟨A, nb, c, hb1, hb2⟩ := hby
    obtain ⟨A', c', fs, hf1, hf2, hf3, hf4⟩ := hfl
    refine ⟨⟨⟨kd, nd, wh, wl, nb, ob⟩, fs⟩, ⟨by simpa using hlen, ?_, by simpa using one _ _ e0, by simpa using one _ _ e2, by simpa using one _ _ e3, by simpa using hob1, ⟨A, c, by simpa using hb1⟩, by simpa using one _ _ e13, wk, wn, ww, hb2, hob2⟩, ⟨⟨A', c', by simpa using hf1, hf2⟩, hf3, hf4⟩⟩
    rw [Array.all_eq_true]
    intro i hi
    exact hone i _ (by simp at hi ⊢)

set_option maxRecDepth 100000 in
theorem events_open {v : Value} {d : DataW H} {p : List MemPlace} {r : Reach} {b0 : Nat} (hwk : WOk Try.prog 22 d) (hv : Value.okWide Try.prog w r b0 22 v) (h : DataW.Trod enc Try.prog w base (fun _ => true) held 22 v d p) :
    ∃ (A : Option Addr) (xs : List EvF) (c : Nat), v = .slice A xs.length c ∧ EvFAt w A xs ∧ xs.length ≤ 140737488351232 ∧ (A = none → c = 0) := by
  obtain ⟨a0, len, cap, rfl⟩ := okWide_slice Try.underlying22 hv
  obtain ⟨fuel, hf⟩ := h
  have hrb : reachBytes = 140737488351232 := rfl
  rcases open_slice Try.underlying22 hf with ⟨hcs, _⟩ | ⟨a, len', cap', m, n, D, Pl, hcs, _, hl, hm, hmm, hx, hi⟩
  · simp [Value.cells] at hcs
    obtain ⟨rfl, rfl, rfl⟩ := hcs
    exact ⟨none, [], 0, rfl, fun k hk => by simp at hk, by simp, fun _ => rfl⟩
  · simp [Value.cells] at hcs
    obtain ⟨rfl, rfl, rfl⟩ := hcs
    have hm' : m = cap := by simpa using hmm
    subst hm'
    simp only [Prod.mk.injEq] at hx
    rw [hx.1] at hwk
    obtain ⟨hb, he⟩ := hwk.slice Try.underlying22
    simp only [List.length_map, List.length_range] at hb
    have hbl : len ≤ 140737488351232 := by
      have h1 : (len + (m - len)) * 1 ≤ (len + (m - len)) * Try.prog.bytesOf 46 := Nat.mul_le_mul_left _ bytes46
      rw [hrb] at hb; omega
    have key : ∀ q, q ≤ len → ∃ xs : List EvF, xs.length = q ∧ ∀ k (hk : k < xs.length), ∃ cs : List Value, EvC cs.toArray xs[k].ev ∧ FldC w cs.toArray xs[k].fs ∧ ∀ j u, cs[j]? = some u → w.cell? ((a.add (k * 57)).add j) = some u := by
      intro q
      induction q with
      | zero => intro _; exact ⟨[], rfl, fun k hk => by simp at hk⟩
      | succ q ih =>
        intro hq
        obtain ⟨xs, hxl, hx⟩ := ih (by omega)
        obtain ⟨cs', hc, ht⟩ := hi q (by omega)
        rw [cells46] at hc
        obtain ⟨av, hr1, hr2⟩ := ev_cells (he _ (List.mem_map.2 ⟨q, List.mem_range.2 (by omega), rfl⟩)) ht
        obtain ⟨_, hsz, hat⟩ := World.cells?_some hc
        refine ⟨xs ++ [av], by simp [hxl], fun k hk => ?_⟩
        by_cases hkq : k < xs.length
        · rw [List.getElem_append_left hkq]; exact hx k hkq
        · obtain rfl : k = xs.length := by simp at hk; omega
          rw [List.getElem_append_right (Nat.le_refl _)]
          simp only [Nat.sub_self, List.getElem_cons_zero]
          rw [hxl]
          refine ⟨cs', hr1, hr2, fun j u hj => ?_⟩
          have hjl : j < cs'.length := (List.getElem?_eq_some_iff.1 hj).1
          have h57 : cs'.length = 57 := by simpa using hr1.size
          rw [hat j (by omega)]; exact hj
    obtain ⟨xs, hxl, hx⟩ := key len (Nat.le_refl _)
    refine ⟨some a, xs, m, by rw [hxl], fun k hk => ?_, by rw [hxl]; exact hbl, fun h => by cases h⟩
    obtain ⟨cs, h1, h2, h3⟩ := hx k hk
    obtain ⟨cs0, h10, h20, h30⟩ := hx 0 (by omega)
    have hz := h30 0 _ (by simpa using h10.kind)
    obtain ⟨b, off, spot⟩ := a
    have hspot : spot = none := by simpa [Addr.add] using World.cell?_spot hz
    subst hspot
    have h3' : ∀ j u, cs[j]? = some u → w.cell? ⟨b, off + k * 57 + j, none⟩ = some u := fun j u hj => by
      have := h3 j u hj
      rw [add_plain, add_plain] at this
      exact this
    exact ⟨b, off, cs.toArray, rfl, World.block_lt_of_cell? _ _ (h3' 0 _ (by simpa using h1.kind)), h1, h2, fun j u hj => h3' j u (by simpa using hj)⟩
set_option maxRecDepth 100000 in
theorem event_open {v : Value} {d : DataW H} {p : List MemPlace} {r : Reach} {b0 : Nat} (hwk : WOk Try.prog 46 d) (hv : Value.okWide Try.prog w r b0 46 v) (h : DataW.Trod enc Try.prog w base (fun _ => true) held 46 v d p) :
    ∃ (cs : Array Value) (e : EvF), v = .agg cs ∧ EvC cs e.ev ∧ FldC w cs e.fs := by
  simp only [Value.okWide, Try.underlying46] at hv
  obtain ⟨cs, rfl, hsz, _⟩ := hv
  obtain ⟨fuel, hf⟩ := h
  obtain ⟨e, h1, h2⟩ := ev_cells hwk hf
  exact ⟨cs, e, rfl, by simpa [Value.cells] using h1, by simpa [Value.cells] using h2⟩
end
end Go.Proofs.Ytlddpdlebdjniaa
