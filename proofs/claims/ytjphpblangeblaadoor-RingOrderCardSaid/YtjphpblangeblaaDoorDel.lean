/- slices.DeleteFunc and slices.BinarySearchFunc at points, walked. -/
import Derived.Test.YtjphpblangeblaaDoorLibC
import Derived.Laws.IdiomCopy
import Derived.Deep.LoopGhost
namespace Go.Proofs.YtjphpblangeblaaDoor
open Go.RowKit Go.Maps Go.ChangeMaps
set_option linter.unusedVariables false
set_option linter.unusedSimpArgs false
theorem size59 : (Tryd.prog.info? 59).map (·.size) = some 2 := by kernel_rfl
theorem size57 : (Tryd.prog.info? 57).map (·.size) = some 1 := by kernel_rfl
theorem zero59 (w : World) : (zeroValue 59).run Tryd.prog w = .ok (.agg #[.int .u64 0, .string ⟨#[]⟩]) w := by kernel_rfl
section
variable {α : Type} {enc : α → List Value} {k : Nat} {e : TypeId} {w w' : World} {B : Nat} {v : Value} {xs : List α}
theorem KRow.blk {g n c : Nat} (h : KRow enc k e w B (.slice (some ⟨g, 0, none⟩) n c) xs) : ∃ cur, w.heap[g]? = some (.cells cur e (0, 0)) ∧ B ≤ g ∧ n = xs.length ∧ n ≤ c ∧ c ≤ maxLen ∧ cur.size = c * k ∧ cur.toList.take (n * k) = xs.flatMap enc := by
  have h' : w.ownsRow B e k (.slice (some ⟨g, 0, none⟩) n c) xs.length (xs.flatMap enc) := h
  rcases h'.2 with ⟨hv, h0⟩ | ⟨g', cap, cur, hv, hb, hg, h1, h2, h3, h4⟩
  · cases hv
  · injection hv with q1 q2 q3
    cases q1
    subst q2 q3
    exact ⟨cur, hg, hb, rfl, h1, h2, h3, h4⟩
theorem KRow.mk {g n c : Nat} {cur : Array Value} (h1 : w.heap[g]? = some (.cells cur e (0, 0))) (h2 : B ≤ g) (h3 : n = xs.length) (h4 : n ≤ c) (h5 : c ≤ maxLen) (h6 : cur.size = c * k) (h7 : cur.toList.take (n * k) = xs.flatMap enc) (henc : ∀ x, (enc x).length = k) : KRow enc k e w B (.slice (some ⟨g, 0, none⟩) n c) xs := by
  subst h3
  exact ⟨flat_len enc k henc xs, .inr ⟨g, c, cur, rfl, h2, h1, h4, h5, h6, h7⟩⟩
/-- One element, read. -/
theorem KRow.range {g n c : Nat} (h : KRow enc k e w B (.slice (some ⟨g, 0, none⟩) n c) xs) (henc : ∀ x, (enc x).length = k) {j : Nat} (hj : j < xs.length) : w.rangeAt g (j * k) (enc xs[j]) := by
  obtain ⟨g', hg, _, _, hc⟩ := h.at_ henc hj
  cases hg
  intro t u hu
  have ht : t < k := by rw [← henc xs[j]]; exact (List.getElem?_eq_some_iff.1 hu).1
  rw [hc t ht]; exact hu
theorem putA_size : ∀ (us : List Value) (cur : Array Value) (o : Nat), (putA cur o us).size = cur.size
  | [], cur, o => rfl
  | u :: us, cur, o => by rw [putA, putA_size us]; simp
theorem putA_get : ∀ (us : List Value) (cur : Array Value) (o t : Nat), o + us.length ≤ cur.size → (putA cur o us)[t]? = if o ≤ t ∧ t < o + us.length then us[t - o]? else cur[t]?
  | [], cur, o, t, _ => by rw [if_neg (by simp <;> omega)]; rfl
  | u :: us, cur, o, t, h => by
    simp only [List.length_cons] at h
    rw [putA, putA_get us _ (o + 1) t (by simp; omega)]
    by_cases h1 : o + 1 ≤ t ∧ t < o + 1 + us.length
    · rw [if_pos h1, if_pos (by simp; omega), show t - o = t - (o + 1) + 1 by omega, List.getElem?_cons_succ]
    · rw [if_neg h1]
      by_cases h2 : t = o
      · subst h2
        rw [if_pos (by simp), Nat.sub_self, Array.getElem?_setIfInBounds_self_of_lt (by omega)]; rfl
      · rw [if_neg (by simp; omega), Array.getElem?_setIfInBounds_ne (Ne.symm h2)]
/-- One element, stored. -/
theorem flat_set (henc : ∀ x, (enc x).length = k) (hk : 0 < k) {cur : Array Value} {c n i : Nat} (hn : n = xs.length) (hc : n ≤ c) (hs : cur.size = c * k) (ht : cur.toList.take (n * k) = xs.flatMap enc) (hi : i < n) (x : α) : (putA cur (i * k) (enc x)).toList.take (n * k) = (xs.set i x).flatMap enc := by
  have hik : (i + 1) * k ≤ n * k := Nat.mul_le_mul_right k hi
  rw [Nat.add_mul, Nat.one_mul] at hik
  have hnc : n * k ≤ c * k := Nat.mul_le_mul_right k hc
  apply List.ext_getElem?
  intro t
  rw [List.getElem?_take]
  by_cases h1 : t < n * k
  · rw [if_pos h1, Array.getElem?_toList, putA_get _ _ _ _ (by rw [henc]; omega), henc]
    have hj : t / k < (xs.set i x).length := by rw [List.length_set, ← hn]; exact Nat.div_lt_of_lt_mul (by rw [Nat.mul_comm]; exact h1)
    have hm : t / k * k + t % k = t := by rw [Nat.mul_comm]; exact Nat.div_add_mod t k
    have h2 := flat_get enc k henc (xs.set i x) (t / k) (t % k) hj (Nat.mod_lt _ hk)
    rw [hm] at h2
    rw [h2]
    have hj' : t / k < xs.length := by simpa using hj
    by_cases h3 : t / k = i
    · have h4 : i * k ≤ t ∧ t < i * k + k := by rw [← h3]; have := Nat.mod_lt t hk; omega
      rw [if_pos h4]
      have e2 : (xs.set i x)[t / k] = x := by rw [List.getElem_set]; simp [h3]
      rw [e2]
      congr 1
      rw [← h3]; omega
    · have h4 : ¬ (i * k ≤ t ∧ t < i * k + k) := by
        rintro ⟨a1, a2⟩
        refine h3 (Nat.div_eq_of_lt_le ?_ ?_)
        · exact a1
        · rw [Nat.add_mul, Nat.one_mul]; exact a2
      rw [if_neg h4]
      have e2 : (xs.set i x)[t / k] = xs[t / k] := by rw [List.getElem_set]; simp [Ne.symm h3]
      rw [e2]
      have h5 := flat_get enc k henc xs (t / k) (t % k) hj' (Nat.mod_lt _ hk)
      rw [hm, ← ht, List.getElem?_take, if_pos h1, Array.getElem?_toList] at h5
      exact h5
  · rw [if_neg h1, List.getElem?_eq_none (by rw [flat_len enc k henc, List.length_set, ← hn]; omega)]
end
/- WALKS --WALKS -/
theorem flat_take {α : Type} (enc : α → List Value) (k : Nat) (henc : ∀ x, (enc x).length = k) (xs : List α) (i : Nat) : (xs.flatMap enc).take (i * k) = (xs.take i).flatMap enc := by
  induction xs generalizing i with
  | nil => simp
  | cons x xs ih =>
    cases i with
    | zero => simp
    | succ i =>
      rw [List.take_succ_cons, List.flatMap_cons, List.flatMap_cons, List.take_append, henc, List.take_of_length_le (by rw [henc, Nat.add_mul]; omega)]
      rw [show (i + 1) * k - k = i * k by rw [Nat.add_mul]; omega, ih]
theorem run_clearK {w : World} {g off n c ty : Nat} {cur : Array Value} (hg : w.heap[g]? = some (.cells cur 59 (0, 0))) (hn : 0 < n) (hl : off + n * 2 ≤ cur.size) :
    (Builtin.clear_ #[56] ty #[.slice (some ⟨g, off, none⟩) n c]).run Tryd.prog w = .ok (.tuple #[]) (w.setCells g off (Builtin.zeroCells #[.int .u64 0, .string ⟨#[]⟩] n).toList) ∧ (Builtin.zeroCells #[.int .u64 0, .string ⟨#[]⟩] n).toList.length = n * 2 := by
  have hz : (Builtin.zeroCells #[.int .u64 0, .string ⟨#[]⟩] n).toList.length = n * 2 := by simp [Builtin.zeroCells]
  refine ⟨?_, hz⟩
  have hst := run_storeCells_cells (P := Tryd.prog) g off (Builtin.zeroCells #[.int .u64 0, .string ⟨#[]⟩] n).toList 0 w (fun j hj => by
      rw [blk_cell hg, Array.getElem?_eq_getElem (by omega)]; rfl) (fun j hj => blk_free hg _) (by
      intro v hv
      simp [Builtin.zeroCells] at hv
      obtain ⟨i, hi, rfl⟩ := hv
      rcases Nat.mod_two_eq_zero_or_one i with h | h <;> simp [h] <;> rfl)
  simp only [Nat.add_zero] at hst
  obtain ⟨m, rfl⟩ : ∃ m, n = m + 1 := ⟨n - 1, by omega⟩
  simp [Builtin.clear_, run_underlying Tryd.underlying56, zero59, Value.cells, hst]
/-- 'clear(s)' of points. -/
theorem wpList_clearK {ops : Array Oper} {rest : List Oper} {o : Oper} {a : Act} {w : World} {Q : Exit → Act → World → Prop} (hgd : o.guard = none) (s : Operand) (ho : o.op = .call { callee := .builtin .clear, args := #[s], argTypes := #[56] }) (g off n c : Nat) (cur : Array Value) (hs : a.eval s = .slice (some ⟨g, off, none⟩) n c) (hg : w.heap[g]? = some (.cells cur 59 (0, 0))) (hn : 0 < n) (hl : off + n * 2 ≤ cur.size)
    (h : ∀ W1 cur', ExtB [g] w W1 → W1.heap[g]? = some (.cells cur' 59 (0, 0)) → cur'.size = cur.size → (∀ t, t < off → cur'[t]? = cur[t]?) → wpList Tryd.prog ops Q rest (a.put o.dst (.tuple #[])) W1) : wpList Tryd.prog ops Q (o :: rest) a w := by
  obtain ⟨hr, hz⟩ := run_clearK (ty := o.type) (c := c) hg hn hl
  refine wpList_plain hgd fun K hK => ?_
  unfold Oper.wp execOp
  simp only [ho, resolve, invoke, builtin, Sem.run_bind, Sem.run_pure, Result.andThen_ok, List.map_toArray, List.map_cons, List.map_nil, hs, hr]
  refine hK _ _ (h _ _ (setCells_ext g _ off w).1 (setCells_at g 59 (0, 0) _ off cur w hg) (putA_size _ _ _) fun t ht => ?_)
  rw [putA_get _ _ _ _ (by rw [hz]; exact hl), if_neg (by omega)]
def litV (nb : Nat) : Value := .func (.func 40) #[] #[.pointer (some ⟨nb, 0, none⟩)]
def idxP (P : List Pt) (n : Nm) : Int := match P.findIdx? (fun p => p.nm == n) with | some i => i | none => -1
section
variable {w : World} {B nb g c : Nat} {P : List Pt} {n : Nm}
set_option maxRecDepth 100000 in
set_option maxHeartbeats 2000000 in
theorem idx_any (h : PRow w B (.slice (some ⟨g, 0, none⟩) P.length c) P) (hb : w.cell? ⟨nb, 0, none⟩ = some (.string ⟨n.toArray⟩)) (hl : P.length ≤ 1000000) : Calls Tryd.prog 52 #[.slice (some ⟨g, 0, none⟩) P.length c, litV nb] w fun e w' => e = .returned (.int .i64 (idxP P n)) ∧ Ext w w' := by
  obtain ⟨m, hm⟩ : ∃ m, m = P.length := ⟨_, rfl⟩
  have HR := Lib.hid h; have HB := Lib.hid hb; have HM := Lib.hid hm
  rw [← hm] at hl ⊢
  clear h hb hm
  unfold litV
  go_enter Tryd.func52, Tryd.ntmps52
  go_wp2
  go_loopw [8, 5] (fun i _ wr => ∃ j : Nat, j ≤ m ∧ i = .int .i64 j ∧ Hid (∀ q ∈ P.take j, (q.nm == n) = false) ∧ Ext w wr) (fun i _ _ => m - (RowKit.intOf i).toNat)
  case atStart => exact ⟨0, by omega, rfl, Lib.hid (by simp), Ext.refl _⟩
  case round =>
    obtain ⟨j, hj, rfl, R, hx⟩ := hrel
    have HX := Lib.hid hx
    clear hx
    by_cases hlt : j < m
    · have hjs : j < P.length := by rw [← HM.out]; exact hlt
      have hrg := (HR.out.ext HX.out).range encPt_len hjs
      have htk : P.take (j + 1) = P.take j ++ [P[j]] := List.take_succ_eq_append_getElem hjs
      have hpj : P[j]? = some P[j] := by simp [hjs]
      obtain ⟨p, hp⟩ : ∃ p, p = P[j] := ⟨_, rfl⟩
      rw [← hp] at hrg htk hpj
      have HL := Lib.hid (lit40 p nb n wr (HX.out.cell HB.out))
      obtain ⟨r, hr⟩ : ∃ r, r = (p.nm == n) := ⟨_, rfl⟩
      rw [← hr] at HL
      have HRG := Lib.hid hrg; have HTK := Lib.hid htk; have HPJ := Lib.hid hpj; have HRR := Lib.hid hr
      clear hrg htk hpj hp hr hjs
      cases r with
      | true =>
        go_wp2_with (first | (refine wpList_load_mid rfl 59 _ rfl g (j * 2) rfl (encPt p) _ HRG.out Tryd.underlying59 rfl size59 ?_) | (go_at_call 40; refine HL.out.mono ?_; rintro e w1 ⟨rfl, hx1⟩))
        go_ret
        refine ⟨?_, HX.out.trans hx1⟩
        have e : P.findIdx? (fun p => p.nm == n) = some j := by
          obtain ⟨hjl, hje⟩ := List.getElem?_eq_some_iff.1 HPJ.out
          rw [List.findIdx?_eq_some_iff_getElem]
          refine ⟨hjl, by rw [hje]; exact HRR.out.symm, fun k hk => ?_⟩
          have := R.out P[k] (List.mem_take_iff_getElem.2 ⟨k, by omega, rfl⟩)
          simp [this]
        unfold idxP
        rw [e]; rfl
      | false =>
        go_wp2_with (first | (refine wpList_load_mid rfl 59 _ rfl g (j * 2) rfl (encPt p) _ HRG.out Tryd.underlying59 rfl size59 ?_) | (go_at_call 40; refine HL.out.mono ?_; rintro e w1 ⟨rfl, hx1⟩))
        go_roundw
        case rel => exact ⟨j + 1, by omega, by go_num, Lib.hid (by
          rw [HTK.out]; intro q hq
          rcases List.mem_append.1 hq with h | h
          · exact R.out q h
          · rw [List.mem_singleton.1 h]; exact HRR.out.symm), HX.out.trans hx1⟩
        case measure => simp [RowKit.intOf]; omega
    · have hjn : P.take j = P := List.take_of_length_le (by have := HM.out; omega)
      rw [hjn] at R
      go_wp2
      go_ret
      refine ⟨?_, HX.out⟩
      have e : P.findIdx? (fun p => p.nm == n) = none := List.findIdx?_eq_none_iff.2 R.out
      unfold idxP
      rw [e]; rfl
/-- While points go. -/
structure DelS (w wr : World) (B nb g c : Nat) (P : List Pt) (n : Nm) (i j : Nat) (D : List Pt) : Prop where
  row : PRow wr B (.slice (some ⟨g, 0, none⟩) P.length c) D
  len : D.length = P.length
  tk : D.take i = (P.take j).filter fun p => !(p.nm == n)
  dr : D.drop j = P.drop j
  ij : i < j
  nm : wr.cell? ⟨nb, 0, none⟩ = some (.string ⟨n.toArray⟩)
  x : ExtB [g] w wr
theorem DelS.skip {wr w' : World} {i j : Nat} {D : List Pt} (h : DelS w wr B nb g c P n i j D) {p : Pt} (hp : P[j]? = some p) (hn : (p.nm == n) = true) (hx : Ext wr w') : DelS w w' B nb g c P n i (j + 1) D := by
  obtain ⟨hj, he⟩ := List.getElem?_eq_some_iff.1 hp
  refine ⟨h.row.ext hx, h.len, ?_, ?_, by have := h.ij; omega, hx.cell h.nm, h.x.trans (.of hx _)⟩
  · rw [List.take_succ_eq_append_getElem hj, List.filter_append, he, h.tk]; simp [hn]
  · rw [← List.drop_drop, h.dr, List.drop_drop]
theorem DelS.keep {wr W3 w' : World} {i j : Nat} {D : List Pt} (h : DelS w wr B nb g c P n i j D) {p : Pt} (hp : P[j]? = some p) (hn : (p.nm == n) = false) (hx : Ext wr W3) {cur : Array Value} (hc : W3.heap[g]? = some (.cells cur 59 (0, 0))) (hx4 : ExtB [g] W3 w') (hg : w'.heap[g]? = some (.cells (putA cur (i * 2) (encPt p)) 59 (0, 0))) (hnb : nb ≠ g) : DelS w w' B nb g c P n (i + 1) (j + 1) (D.set i p) := by
  obtain ⟨hj, he⟩ := List.getElem?_eq_some_iff.1 hp
  have hij := h.ij; have hl := h.len
  obtain ⟨cur', c1, c2, c3, c4, c5, c6, c7⟩ := (h.row.ext hx).blk
  rw [hc] at c1
  injection c1 with c1
  injection c1 with c1 _ _
  subst c1
  refine ⟨KRow.mk hg c2 (by simpa using c3) c4 c5 (by rw [putA_size]; exact c6) (flat_set encPt_len (by decide) c3 c4 c6 c7 (by omega) p) encPt_len, by simpa using hl, ?_, ?_, by omega, hx4.cell (hx.cell h.nm) (by simpa using hnb), (h.x.trans (.of hx _)).trans hx4⟩
  · rw [List.take_succ_eq_append_getElem hj, List.filter_append, he, ← h.tk, List.take_add_one, List.getElem?_set_self (by omega)]
    rw [List.take_set_of_le (Nat.le_refl _)]
    simp [hn]
  · rw [List.drop_set, if_pos (by omega), ← List.drop_drop, h.dr, List.drop_drop]
theorem DelS.at_ {wr : World} {i j : Nat} {D : List Pt} (h : DelS w wr B nb g c P n i j D) (hj : j < P.length) : ∃ (h1 : j < D.length), D[j] = P[j] := by
  have h1 : j < D.length := by rw [h.len]; exact hj
  refine ⟨h1, ?_⟩
  have h2 : (D.drop j)[0]? = (P.drop j)[0]? := by rw [h.dr]
  simpa [List.getElem?_drop, h1, hj] using h2
set_option maxRecDepth 100000 in
set_option maxHeartbeats 2000000 in
theorem del_any (h : PRow w B (.slice (some ⟨g, 0, none⟩) P.length c) P) (hb : w.cell? ⟨nb, 0, none⟩ = some (.string ⟨n.toArray⟩)) (hl : P.length ≤ 1000000) (hnb : nb ≠ g) :
    Calls Tryd.prog 39 #[.slice (some ⟨g, 0, none⟩) P.length c, litV nb] w fun e w' => ∃ q, e = .returned (.slice (some ⟨g, 0, none⟩) q c) ∧ PRow w' B (.slice (some ⟨g, 0, none⟩) q c) (P.filter fun p => !(p.nm == n)) ∧ ExtB [g] w w' := by
  have hidx := idx_any h hb hl
  cases hf : P.findIdx? (fun p => p.nm == n) with
  | none =>
    have e1 : idxP P n = -1 := by unfold idxP; rw [hf]
    have e2 : (P.filter fun p => !(p.nm == n)) = P := by
      rw [List.filter_eq_self]
      intro a ha
      have := List.findIdx?_eq_none_iff.1 hf a ha
      simp [this]
    rw [e1] at hidx
    rw [e2]
    have HI := Lib.hid hidx; have HR := Lib.hid h
    obtain ⟨q, hq⟩ : ∃ q, q = P.length := ⟨_, rfl⟩
    rw [← hq] at HI HR hl ⊢
    clear h hb hidx e1 e2 hf hq
    go_enter Tryd.func39, Tryd.ntmps39
    go_wp2_with (go_at_call 52; refine HI.out.mono ?_; rintro e w1 ⟨rfl, hx1⟩)
    go_ret
    exact ⟨q, rfl, HR.out.ext hx1, .of hx1 _⟩
  | some i0 =>
    have e1 : idxP P n = (i0 : Int) := by unfold idxP; rw [hf]
    rw [e1] at hidx
    rw [List.findIdx?_eq_some_iff_getElem] at hf
    obtain ⟨hi0, ht, hbef⟩ := hf
    have HS := Lib.hid (fun w1 (x : Ext w w1) => show DelS w w1 B nb g c P n i0 (i0 + 1) P from by
      refine ⟨h.ext x, rfl, ?_, rfl, by omega, x.cell hb, .of x _⟩
      have hall : ∀ q ∈ P.take i0, (!(q.nm == n)) = true := fun q hq => by
        obtain ⟨k, hk, rfl⟩ := List.mem_take_iff_getElem.1 hq
        have := hbef k (by omega)
        simpa using this
      rw [List.take_succ_eq_append_getElem hi0, List.filter_append, List.filter_eq_self.2 hall]
      simp [ht])
    have HI := Lib.hid hidx; have HNB := Lib.hid hnb
    obtain ⟨m, hm⟩ : ∃ m, m = P.length := ⟨_, rfl⟩
    have hi1 : i0 < m := by omega
    have hne : ((i0 : Int) == -1) = false := by simp
    have HM := Lib.hid hm
    rw [← hm] at HI hl ⊢
    clear h hb hidx e1 hm hi0 ht hbef hnb
    unfold litV at HI ⊢
    go_enter Tryd.func39, Tryd.ntmps39
    go_wp2_with (go_at_call 52; refine HI.out.mono ?_; rintro e w1 ⟨rfl, hx1⟩)
    have HS1 := Lib.hid (HS.out w1 hx1)
    clear hx1 HS HI
    go_loopw [5, 6, 7] (fun s5 s6 _ wr => ∃ (i j : Nat) (D : List Pt), s5 = .int .i64 i ∧ s6 = .int .i64 j ∧ j ≤ m ∧ i < j ∧ Hid (DelS w wr B nb g c P n i j D)) (fun _ s6 _ _ => m - (RowKit.intOf s6).toNat)
    case atStart => exact ⟨i0, i0 + 1, P, rfl, by go_num, by omega, by omega, HS1⟩
    case round =>
      obtain ⟨i, j, D, rfl, rfl, hj, hij, hS⟩ := hrel
      by_cases hlt : j < m
      · have hjs : j < P.length := by rw [← HM.out]; exact hlt
        obtain ⟨hjd, hjp⟩ := hS.out.at_ hjs
        have hrg := hS.out.row.range encPt_len hjd
        have hpj : P[j]? = some P[j] := by simp [hjs]
        rw [hjp] at hrg
        obtain ⟨p, hp⟩ : ∃ p, p = P[j] := ⟨_, rfl⟩
        rw [← hp] at hrg hpj
        have HRG := Lib.hid hrg; have HPJ := Lib.hid hpj
        have hgl : g < wr.heap.size := by obtain ⟨cur, c1, _⟩ := hS.out.row.blk; exact blk_lt c1
        have HGL := Lib.hid hgl
        clear hrg hpj hp hjs hjp hjd hgl
        go_wp2_with (first | (refine wpList_load_mid rfl 59 _ rfl g (j * 2) rfl (encPt p) _ HRG.out Tryd.underlying59 rfl size59 ?_) | (refine wpList_new 59 #[.int .u64 0, .string ⟨#[]⟩] zero59 rfl rfl ?_; intro W1 x1 n1 s1; refine stop_of ?_))
        unfold Stop
        obtain ⟨vb, hvb⟩ : ∃ vb, vb = wr.heap.size := ⟨_, rfl⟩
        rw [← hvb] at n1 ⊢
        have HVB := Lib.hid hvb
        have X1 := Lib.hid x1; have N1 := Lib.hid n1
        clear x1 n1 s1 hvb
        go_wp2_with (refine wpList_put 59 rfl _ _ rfl vb 0 59 _ (encPt p).toArray (encPt p) (.agg (encPt p).toArray) N1.out rfl rfl rfl (by simp [encPt]) rfl size59 (by simp [putA, encPt]) ?_; intro W2 x2 n2 s2; refine stop_of ?_)
        unfold Stop
        have X2 := Lib.hid (show Ext wr W2 from X1.out.thenB x2 (by intro y hy; rw [show y = vb by simpa using hy, HVB.out]; exact Nat.le_refl _)); have N2 := Lib.hid n2
        clear x2 n2 s2 N1 X1
        have HL := Lib.hid (lit40 p nb n W2 (X2.out.cell hS.out.nm))
        obtain ⟨r, hr⟩ : ∃ r, r = (p.nm == n) := ⟨_, rfl⟩
        rw [← hr] at HL
        have HRR := Lib.hid hr
        clear hr
        cases r with
        | true =>
          go_wp2_with (first | (refine wpList_get 59 _ rfl _ rfl vb 0 59 _ (encPt p) N2.out rfl (by simp [encPt]) Tryd.underlying59 rfl size59 ?_) | (go_at_call 40; refine HL.out.mono ?_; rintro e w3 ⟨rfl, x3⟩))
          have HE := Lib.hid (hS.out.skip HPJ.out HRR.out.symm (X2.out.trans x3))
          clear x3 HL
          go_roundw
          case rel => exact ⟨i, j + 1, D, rfl, by go_num, by omega, by omega, HE⟩
          case measure => simp [RowKit.intOf]; omega
        | false =>
          go_wp2_with (first | (refine wpList_get 59 _ rfl _ rfl vb 0 59 _ (encPt p) N2.out rfl (by simp [encPt]) Tryd.underlying59 rfl size59 ?_) | (go_at_call 40; refine HL.out.mono ?_; rintro e w3 ⟨rfl, x3⟩; refine stop_of ?_))
          unfold Stop
          have N3 := Lib.hid (x3.heap N2.out)
          have X3 := Lib.hid (X2.out.trans x3)
          obtain ⟨cur, c1, c2, c3, c4, c5, c6, c7⟩ := (hS.out.row.ext X3.out).blk
          have hcs : i * 2 + 2 ≤ cur.size := by rw [c6]; have := HM.out; have := Nat.mul_le_mul_right 2 c4; omega
          have C1 := Lib.hid c1; have CS := Lib.hid hcs
          clear x3 HL c1 c2 c3 c4 c5 c6 c7 hcs X2 N2
          go_wp2_with (first | (refine wpList_get 59 _ rfl _ rfl vb 0 59 _ (encPt p) N3.out rfl (by simp [encPt]) Tryd.underlying59 rfl size59 ?_) | (refine wpList_put 59 rfl _ _ rfl g (i * 2) 59 _ (putA cur (i * 2) (encPt p)) (encPt p) (.agg (encPt p).toArray) C1.out rfl rfl rfl (by simpa [encPt] using CS.out) rfl size59 rfl ?_; intro W4 x4 n4 s4; refine stop_of ?_))
          unfold Stop
          have HE := Lib.hid (hS.out.keep HPJ.out HRR.out.symm X3.out C1.out x4 n4 HNB.out)
          clear x4 n4 s4
          go_wp2_with fail
          go_roundw
          case rel => exact ⟨i + 1, j + 1, _, by go_num, by go_num, by omega, by omega, HE⟩
          case measure => simp [RowKit.intOf]; omega
      · have hjm : j = m := by omega
        subst hjm
        have hS2 := hS.out
        obtain ⟨cur, c1, c2, c3, c4, c5, c6, c7⟩ := hS2.row.blk
        have hcs : i * 2 + (j - i) * 2 ≤ cur.size := by rw [c6]; have := HM.out; have := Nat.mul_le_mul_right 2 c4; omega
        have hci : i < c := by have := HM.out; omega
        have hfin : ∀ (W1 : World) (cur' : Array Value), W1.heap[g]? = some (.cells cur' 59 (0, 0)) → cur'.size = cur.size → (∀ t, t < i * 2 → cur'[t]? = cur[t]?) → PRow W1 B (.slice (some ⟨g, 0, none⟩) i c) (P.filter fun p => !(p.nm == n)) := fun W1 cur' e1 e2 e3 => by
          have etk : (P.filter fun p => !(p.nm == n)) = D.take i := by
            rw [hS2.tk, List.take_of_length_le (by have := HM.out; omega)]
          rw [etk]
          have hlen := hS2.len
          refine KRow.mk e1 c2 (by rw [List.length_take]; have := HM.out; omega) (by have := HM.out; omega) c5 (by rw [e2, c6]) ?_ encPt_len
          rw [← flat_take encPt 2 encPt_len, ← c7, List.take_take, Nat.min_eq_left (by have := HM.out; omega)]
          apply List.ext_getElem?
          intro t
          rw [List.getElem?_take, List.getElem?_take]
          by_cases ht : t < i * 2
          · rw [if_pos ht, if_pos ht, Array.getElem?_toList, Array.getElem?_toList, e3 t ht]
          · rw [if_neg ht, if_neg ht]
        have HF := Lib.hid hfin; have C1 := Lib.hid c1; have CS := Lib.hid hcs
        have hjc : j ≤ c := by have := HM.out; omega
        have XS := Lib.hid hS2.x
        clear hfin c1 c2 c3 c4 c5 c6 c7 hcs hS2
        go_wp2_with (refine wpList_clearK rfl _ rfl g (i * 2) (j - i) (c - i) cur rfl C1.out (by omega) CS.out ?_; intro W1 cur' x1 b1 s1 f1; refine stop_of ?_)
        unfold Stop
        have HF2 := Lib.hid (HF.out W1 cur' b1 s1 f1); have X1 := Lib.hid (XS.out.trans x1)
        clear x1 b1 s1 f1 HF
        go_wp2
        go_ret
        exact ⟨i, rfl, HF2.out, X1.out⟩
end
end Go.Proofs.YtjphpblangeblaaDoor
