/- One event more: the plain law; rows of events that a call owns. -/
import Derived.Test.YtlddpdlebdjniaaNodesA
import Derived.Test.YtlddpdlebdjniaaSegT
import Derived.Laws.AppendOwnNone
namespace Go.Proofs.Ytlddpdlebdjniaa
open Go.RowKit Go.Maps Go.ChangeMaps
set_option linter.unusedVariables false

theorem wstep_mono (e : Ev) {B B' : Int → Int → Bool} (h : ∀ n w, B n w = true → B' n w = true) (n w : Int) (hh : wstep e B n w = true) : wstep e B' n w = true := by
  unfold wstep at hh ⊢
  repeat' (first | exact h _ _ hh | exact hh | (split at hh <;> rename_i hc <;> simp only [hc, if_true, if_false] at hh ⊢))
  all_goals (first | exact h _ _ hh | simp_all)
theorem wasteB_mono (e : Ev) : ∀ (r : List Ev) (n w : Int), wasteB r n w = true → wasteB (r ++ [e]) n w = true
  | [], n, w, h => by simp [wasteB] at h
  | x :: r, n, w, h => wstep_mono x (wasteB_mono e r) n w h
theorem pairs_cons (x : Ev) (xs : List Ev) : pairs (x :: xs) = (x, decide (x.kind = 13) && wasteB xs x.node x.who) :: pairs xs := rfl
theorem dlt_mono (x : Ev) {f g : Bool} (h : f = true → g = true) (j : Nat) : dlt (x, f) j ≤ dlt (x, g) j := by
  unfold dlt
  have : (if f = true ∧ j = 6 then (x.nb : Int) else 0) ≤ (if g = true ∧ j = 6 then (x.nb : Int) else 0) := by
    by_cases hf : f = true
    · simp [hf, h hf]
    · have hf' : f = false := by simpa using hf
      subst hf'
      simp only [Bool.false_eq_true, false_and, if_false]; split <;> omega
  simp only
  omega
theorem dS_cons (node : Int) (x : Ev × Bool) (l : List (Ev × Bool)) (j : Nat) : dS node (x :: l) j = (if node = -1 ∨ x.1.node = node then dlt x j else 0) + dS node l j := by simp [dS]
theorem more_le (node : Int) (e : Ev) (j : Nat) : ∀ xs : List Ev, dS node (pairs xs) j ≤ dS node (pairs (xs ++ [e])) j
  | [] => by
    have h0 := dlt_nonneg (e, decide (e.kind = 13) && wasteB [] e.node e.who) j
    rw [List.nil_append, pairs_cons, dS_cons]
    show dS node [] j ≤ _ + dS node [] j
    split <;> omega
  | x :: xs => by
    have ih := more_le node e j xs
    rw [List.cons_append, pairs_cons, pairs_cons, dS_cons, dS_cons]
    have h1 := dlt_mono x (f := decide (x.kind = 13) && wasteB xs x.node x.who) (g := decide (x.kind = 13) && wasteB (xs ++ [e]) x.node x.who) (fun h => by
      simp only [Bool.and_eq_true] at h ⊢
      exact ⟨h.1, wasteB_mono e xs _ _ h.2⟩) j
    simp only
    split <;> omega
theorem waste_le (node : Int) : ∀ xs : List Ev, dS node (pairs xs) 6 ≤ dS node (pairs xs) 5
  | [] => by simp [pairs, dS]
  | x :: xs => by
    have ih := waste_le node xs
    rw [pairs_cons, dS_cons, dS_cons]
    have h1 : dlt (x, decide (x.kind = 13) && wasteB xs x.node x.who) 6 ≤ dlt (x, decide (x.kind = 13) && wasteB xs x.node x.who) 5 := by
      have h0 := dlt_nonneg (x, decide (x.kind = 13) && wasteB xs x.node x.who) 5
      have h6 : ∀ i n, cnt x = some (i, n) → i ≠ 6 := by
        intro i n h
        unfold cnt at h
        repeat (first | (split at h; · (simp only [Option.some.injEq, Prod.mk.injEq] at h; obtain ⟨rfl, rfl⟩ := h; omega)) | (cases h))
      by_cases hk : x.kind = 13
      · have hc : cnt x = some (5, x.nb) := by
          unfold cnt
          simp [hk]
        have hn : (0 : Int) ≤ x.nb := Int.natCast_nonneg _
        simp [dlt, hc]
        split <;> omega
      · have e6 : dlt (x, decide (x.kind = 13) && wasteB xs x.node x.who) 6 = 0 := by
          simp only [dlt, hk, decide_false, Bool.false_and, Bool.false_eq_true, false_and, if_false]
          cases hc : cnt x with
          | none => rfl
          | some p =>
            obtain ⟨i, n⟩ := p
            have := h6 i n hc
            simp only
            rw [if_neg (fun h => this h.symm)]; rfl
        omega
    split <;> omega
theorem more_law (xs : List Ev) (e : Ev) (node : Int) : (∀ j, ofS xs node j ≤ ofS (xs ++ [e]) node j) ∧ ofS (xs ++ [e]) node 6 ≤ ofS (xs ++ [e]) node 5 := by
  unfold ofS
  split
  · exact ⟨fun j => Int.le_refl _, Int.le_refl _⟩
  · refine ⟨fun j => ?_, ?_⟩
    · rw [sumF_dS, sumF_dS]; exact more_le node e j xs
    · rw [sumF_dS, sumF_dS]; exact waste_le node _

/-- The events' cells, one list each. -/
structure RowL (w : World) (L : List (List Value)) (xs : List EvF) : Prop where
  len : L.length = xs.length
  at' : ∀ k (h1 : k < L.length) (h2 : k < xs.length), EvC (L[k]).toArray xs[k].ev ∧ FldC w (L[k]).toArray xs[k].fs
theorem RowL.l57 {w : World} {L : List (List Value)} {xs : List EvF} (h : RowL w L xs) : ∀ l ∈ L, l.length = 57 := fun l hl' => by
  obtain ⟨i, hi, rfl⟩ := List.getElem_of_mem hl'
  simpa using (h.at' i hi (by rw [← h.len]; exact hi)).1.size
theorem RowL.ext {w w' : World} {L : List (List Value)} {xs : List EvF} (h : RowL w L xs) (hx : Ext w w') : RowL w' L xs := ⟨h.len, fun k h1 h2 => ⟨(h.at' k h1 h2).1, (h.at' k h1 h2).2.ext hx⟩⟩
theorem RowL.snoc {w : World} {L : List (List Value)} {xs : List EvF} (h : RowL w L xs) {cs : List Value} {e : EvF} (h1 : EvC cs.toArray e.ev) (h2 : FldC w cs.toArray e.fs) : RowL w (L ++ [cs]) (xs ++ [e]) := by
  refine ⟨by simp [h.len], fun k hk1 hk2 => ?_⟩
  by_cases hk : k < L.length
  · have hk' : k < xs.length := by rw [← h.len]; exact hk
    rw [List.getElem_append_left hk, List.getElem_append_left hk']
    exact h.at' k hk hk'
  · have e1 : k = L.length := by simp at hk1; omega
    have e2 : k = xs.length := by rw [← h.len]; exact e1
    rw [List.getElem_append_right (by omega), List.getElem_append_right (by omega)]
    simp only [e1, h.len, Nat.sub_self, List.getElem_cons_zero]
    exact ⟨h1, h2⟩
theorem flat_len : ∀ (L : List (List Value)), (∀ l ∈ L, l.length = 57) → L.flatten.length = L.length * 57
  | [], _ => by simp
  | l :: L, h => by
    have := flat_len L (fun x hx => h x (by simp [hx])); have := h l (by simp)
    simp only [List.flatten_cons, List.length_append, List.length_cons]; omega
theorem RowL.one {w : World} {L : List (List Value)} {xs : List EvF} (h : RowL w L xs) : ∀ u ∈ L.flatten, u.oneCell' = true := by
  intro u hu
  obtain ⟨l, hl, hul⟩ := List.mem_flatten.1 hu
  obtain ⟨i, hi, rfl⟩ := List.getElem_of_mem hl
  have := (h.at' i hi (by rw [← h.len]; exact hi)).1.one
  rw [Array.all_eq_true'] at this
  exact this u (by simpa using hul)
theorem rowL_of {w : World} {A : Option Addr} {xs : List EvF} (h : EvFAt w A xs) : ∃ L, RowL w L xs ∧ ∀ b off, A = some ⟨b, off, none⟩ → ∀ j u, L.flatten[j]? = some u → w.cell? ⟨b, off + j, none⟩ = some u := by
  have key : ∀ q, q ≤ xs.length → ∃ L : List (List Value), L.length = q ∧ ∀ k (h1 : k < L.length) (h2 : k < xs.length), EvC (L[k]).toArray xs[k].ev ∧ FldC w (L[k]).toArray xs[k].fs ∧ ∀ b off, A = some ⟨b, off, none⟩ → ∀ j u, (L[k])[j]? = some u → w.cell? ⟨b, off + k * 57 + j, none⟩ = some u := by
    intro q
    induction q with
    | zero => intro _; exact ⟨[], rfl, fun k h => by simp at h⟩
    | succ q ih =>
      intro hq
      obtain ⟨L, hl, hL⟩ := ih (by omega)
      obtain ⟨b, off, cs, e, hb, h1, h2, h3⟩ := h q (by omega)
      refine ⟨L ++ [cs.toList], by simp [hl], fun k hk1 hk2 => ?_⟩
      by_cases hk : k < L.length
      · rw [List.getElem_append_left hk]; exact hL k hk hk2
      · have e1 : k = q := by simp at hk1; omega
        subst e1
        rw [List.getElem_append_right (by omega)]
        simp only [hl, Nat.sub_self, List.getElem_cons_zero, Array.toArray_toList]
        refine ⟨h1, h2, fun b' off' e' j u hj => ?_⟩
        rw [e] at e'
        simp only [Option.some.injEq, Addr.mk.injEq, and_true] at e'
        obtain ⟨rfl, rfl⟩ := e'
        exact h3 j u (by simpa using hj)
  obtain ⟨L, hl, hL⟩ := key xs.length (Nat.le_refl _)
  have hR : RowL w L xs := ⟨hl, fun k h1 h2 => ⟨(hL k h1 h2).1, (hL k h1 h2).2.1⟩⟩
  refine ⟨L, hR, fun b off e j u hj => ?_⟩
  have hjl : j < L.length * 57 := by rw [← flat_len L hR.l57]; exact (List.getElem?_eq_some_iff.1 hj).1
  have hk : j / 57 < L.length := by omega
  have hjj : j / 57 * 57 + j % 57 = j := by omega
  have := flat_at L hR.l57 (j / 57) hk (j % 57) (Nat.mod_lt _ (by decide))
  rw [hjj, hj] at this
  have h2 := (hL (j / 57) hk (by omega)).2.2 b off e (j % 57) u this.symm
  rw [Nat.add_assoc, hjj] at h2
  exact h2
theorem evF_of_row {w : World} {base : Nat} {v : Value} {L : List (List Value)} {xs : List EvF} (hR : RowL w L xs) (h : w.ownsRow base 46 57 v xs.length L.flatten) : ∃ A c, v = .slice A xs.length c ∧ EvFAt w A xs := by
  have h' := h
  rcases h.2 with ⟨rfl, h0⟩ | ⟨g, cap, cur, rfl, _, hg, _⟩
  · exact ⟨none, 0, by rw [h0], fun k hk => by omega⟩
  · refine ⟨_, _, rfl, fun k hk => ?_⟩
    have hkL : k < L.length := by rw [hR.len]; exact hk
    obtain ⟨h1, h2⟩ := hR.at' k hkL hk
    refine ⟨g, 0, (L[k]).toArray, rfl, blk_lt hg, h1, h2, fun j u hj => ?_⟩
    have hj57 : j < 57 := by
      have h3 := hR.l57 (L[k]) (by simp)
      rcases Nat.lt_or_ge j 57 with h | h
      · exact h
      · rw [List.getElem?_toArray, List.getElem?_eq_none (by omega)] at hj; cases hj
    rw [Nat.zero_add, World.ownsRow.cellAt h' _ (by omega), flat_at L hR.l57 k hkL j hj57]
    simpa using hj
theorem bytes46_is : Try.prog.bytesOf 46 = 664 := by kernel_rfl
theorem info46b : (Try.prog.info? 46).map (fun i => (i.zero, i.size, i.bytes)) = some (some (.agg Z46), 57, 664) := by kernel_rfl
set_option maxRecDepth 100000 in
/-- 'append(v, u...)' of events: u given, or nil. -/
theorem append_evs {W : World} {ops : Array Oper} {rest : List Oper} {o : Oper} {a : Act} {Q : Exit → Act → World → Prop}
    (hgd : o.guard = none) (s x : Operand) (ho : o.op = .call { callee := .builtin .append, args := #[s, x], argTypes := #[22, 22] })
    (base : Nat) (v : Value) (n : Nat) (ys : List Value) (A : Option Addr) (m c : Nat) (news : List Value) (hown : W.ownsRow base 46 57 v n ys) (hs : a.eval s = v) (hx : a.eval x = .slice A m c)
    (hl : news.length = m * 57) (hA : ∀ b off, A = some ⟨b, off, none⟩ → ∀ j u, news[j]? = some u → W.cell? ⟨b, off + j, none⟩ = some u) (hsp : ∀ ad, A = some ad → m ≠ 0 → ad.spot = none) (h1 : ∀ u ∈ news, u.oneCell' = true)
    (hlen : (n + m) * 664 ≤ 140737488355328) (hc : A = none → m = 0 ∧ c = 0) (hbase : base ≤ W.heap.size)
    (h : ∀ v' w', w'.ownsRow base 46 57 v' (n + m) (ys ++ news) → W.grownBy w' v.ownBlock → wpList Try.prog ops Q rest (a.put o.dst v') w') : wpList Try.prog ops Q (o :: rest) a W := by
  obtain ⟨i0, hi, hz0, hz1, hz2⟩ := info_parts info46b
  cases A with
  | none =>
    obtain ⟨rfl, rfl⟩ := hc rfl
    have hn : news = [] := by simpa using hl
    subst hn
    refine wpList_append_own_none hgd s x 22 ho base 46 i0 57 Try.underlying22 hi v _ _ hs hown hx ?_
    refine h v W (by simpa using hown) ⟨rfl, rfl, rfl, Nat.le_refl _, fun _ _ _ => rfl⟩
  | some ad =>
    obtain ⟨b, off, sp⟩ := ad
    refine wpList_append_own _ hgd s x 22 ho base 46 i0 _ 57 664 Try.underlying22 hi hz0 hz1 hz2 z46size (by decide) v _ _ hs hown ⟨b, off, sp⟩ m c news hx hl (fun j u hj => by
      have hm0 : m ≠ 0 := fun h => by subst h; simp at hl; subst hl; simp at hj
      have : sp = none := hsp _ rfl hm0
      subst this
      rw [add_plain]; exact hA b off rfl j u hj) h1 (by unfold maxLen; omega) (by omega) hbase ?_
    intro v' w' h1 h2 _
    exact h v' w' h1 h2
/-- One event as a slice literal. -/
theorem wpList_build1 {ops : Array Oper} {rest : List Oper} {o : Oper} {a : Act} {w : World} {Q : Exit → Act → World → Prop} (hg : o.guard = none) (p0 : Operand) (ho : o.op = .buildSlice 22 1 #[(0, p0)])
    (l0 : List Value) (h0 : a.eval p0 = .agg l0.toArray) (hl : l0.length = 57) (N : Nat) (hN : w.heap.size = N)
    (h : wpList Try.prog ops Q rest (a.put o.dst (.slice (some ⟨N, 0, none⟩) 1 1)) (w.alloc (.cells l0.toArray 46))) : wpList Try.prog ops Q (o :: rest) a w := by
  subst hN
  obtain ⟨i46, hi, hz, hs, _⟩ := info_parts info46
  refine wpList_buildSlice hg 22 46 1 _ ho _ i46 (.agg Z46) Try.underlying22 hi hz (by rw [hs]; decide) (by rw [hs]; decide) ?_ h
  rw [hs]
  have hp : (#[(0, p0)].map fun (x : Nat × Operand) => (x.1, a.eval x.2)).toList = (([.agg l0.toArray] : List Value).zipIdx 0).map fun x => (x.2, x.1) := by
    simp [h0]
  have := Great.fill_whole (s := 57) (by decide) [.agg l0.toArray] ((Array.range (1 * 57)).map ((Value.agg Z46).cells[· % (Value.agg Z46).cells.size]!)) (by
    intro v hv
    simp at hv
    subst hv
    simpa [Value.cells] using hl) (by simp)
  have e : ([.agg l0.toArray] : List Value).flatMap (fun v => v.cells.toList) = l0 := by simp [Value.cells]
  rw [e] at this
  have hp2 : (Array.map (fun (x : Nat × Operand) => match x with | (i, x) => (i, a.eval x)) #[(0, p0)]).toList = (([.agg l0.toArray] : List Value).zipIdx 0).map fun x => (x.2, x.1) := hp
  rw [hp2]
  exact this
end Go.Proofs.Ytlddpdlebdjniaa
