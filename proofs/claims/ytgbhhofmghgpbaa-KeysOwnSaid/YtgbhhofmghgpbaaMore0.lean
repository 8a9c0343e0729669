/- The laws' calls of the program in plain lists: With, Keys, Of; an append of given texts. -/
import Derived.Test.YtgbhhofmghgpbaaSmall
namespace Go.Proofs.Ytgbhhofmghgpbaa
open Go.RowKit Go.Sort Go.Shelf Go.Maps Go.ChangeMaps
set_option linter.unusedVariables false

theorem nodup_len {α : Type} [DecidableEq α] : ∀ {l m : List α}, l.Nodup → (∀ x ∈ l, x ∈ m) → l.length ≤ m.length
  | [], m, _, _ => by simp
  | x :: l, m, hn, hs => by
    have hx := hs x (by simp)
    have h1 : ∀ y ∈ l, y ∈ m.erase x := fun y hy => by
      have hne : y ≠ x := fun e => by subst e; exact (List.nodup_cons.1 hn).1 hy
      exact (List.mem_erase_of_ne hne).2 (hs y (by simp [hy]))
    have h2 := nodup_len (List.nodup_cons.1 hn).2 h1
    have h3 := List.length_erase_of_mem hx
    have h4 : 0 < m.length := List.length_pos_of_mem hx
    simp; omega
theorem sortI_perm (zs : List Int) : (sortI zs).Perm zs := List.mergeSort_perm zs _
theorem sortS_perm (zs : List Bs) : (sortS zs).Perm zs := List.mergeSort_perm zs _
theorem sortI_up (zs : List Int) : (sortI zs).Pairwise fun a b => a ≤ b := by
  have := List.pairwise_mergeSort (le := fun x y : Int => decide (x ≤ y)) (fun a b c h1 h2 => by simp at h1 h2 ⊢; omega) (fun a b => by simp; omega) zs
  exact this.imp (fun h => by simpa using h)
theorem sortS_up (zs : List Bs) : (sortS zs).Pairwise fun a b => a ≤ b := by
  have := List.pairwise_mergeSort (le := fun x y : Bs => decide (x ≤ y)) (fun a b c h1 h2 => by simp at h1 h2 ⊢; exact List.le_trans h1 h2) (fun a b => by simp; exact List.le_total a b) zs
  exact this.imp (fun h => by simpa using h)
theorem withN (w : World) (B b N : Nat) (L : List Pr) (sv : Value) (ks : List Bs) (h : KI w B b N L) (hT : Texts w.heap.size w sv ks) (hl : ks.length ≤ 1000) (hk : ∀ k ∈ ks, k.length ≤ 1000000) (hN : N ≤ 1000) :
    Calls Try.prog 12 #[.pointer (some ⟨b, 0, none⟩), sv] w fun e w' => ∃ v zs, e = .returned v ∧ Nums w'.heap.size w' v zs ∧ zs.Nodup ∧ (∀ id, id ∈ zs ↔ ∃ k ∈ ks, (id, k) ∈ L) ∧ (zs.Pairwise fun a b => a ≤ b) ∧ zs.length ≤ L.length ∧ Ext w w' :=
  (with_any w B b N L sv ks h hT hl hk hN).mono fun e w' ⟨v, zs, h1, h2, ⟨h3, h4⟩, h5⟩ => ⟨v, sortI zs, h1, h2.nums, (sortI_perm zs).nodup_iff.2 h3, fun id => (sortI_perm zs).mem_iff.trans (h4 id), sortI_up zs, by
    rw [sortI_len]
    refine Nat.le_trans (nodup_len h3 (m := L.map Prod.fst) fun x hx => ?_) (by simp)
    obtain ⟨k, _, hm⟩ := (h4 x).1 hx
    exact List.mem_map.2 ⟨_, hm, rfl⟩, h5⟩
theorem keysN (w : World) (B b N : Nat) (L : List Pr) (h : KI w B b N L) (hN : N ≤ 1000000) :
    Calls Try.prog 21 #[.pointer (some ⟨b, 0, none⟩)] w fun e w' => ∃ v ss, e = .returned v ∧ Texts w'.heap.size w' v ss ∧ ss.Nodup ∧ (∀ k, k ∈ ss ↔ ∃ id, (id, k) ∈ L) ∧ (ss.Pairwise fun a b => a ≤ b) ∧ ss.length ≤ L.length ∧ Ext w w' :=
  (keys_any w B b N L h hN).mono fun e w' ⟨v, zs, h1, h2, ⟨h3, h4⟩, h5⟩ => ⟨v, sortS zs, h1, h2.texts, (sortS_perm zs).nodup_iff.2 h3, fun id => (sortS_perm zs).mem_iff.trans (h4 id), sortS_up zs, by
    rw [sortS_len]
    refine Nat.le_trans (nodup_len h3 (m := L.map Prod.snd) fun x hx => ?_) (by simp)
    obtain ⟨k, hm⟩ := (h4 x).1 hx
    exact List.mem_map.2 ⟨_, hm, rfl⟩, h5⟩
theorem ofN (w : World) (B b N : Nat) (L : List Pr) (id : Int) (h : KI w B b N L) (hid : (Lit.int .i64 id).wf = true) :
    Calls Try.prog 19 #[.pointer (some ⟨b, 0, none⟩), .int .i64 id] w fun e w' => ∃ v, e = .returned v ∧ Texts w'.heap.size w' v (sortS (keysL L id)) ∧ Ext w w' :=
  (of_any w B b N L id h hid).mono fun e w' ⟨v, h1, h2, h3⟩ => ⟨v, h1, h2.texts, h3⟩

set_option maxRecDepth 100000 in
/-- 'append(v, u...)' of texts, u any given texts. -/
theorem wpList_append_txt {W : World} {ops : Array Oper} {rest : List Oper} {o : Oper} {a : Act} {Q : Exit → Act → World → Prop}
    (hgd : o.guard = none) (s x : Operand) (ho : o.op = .call { callee := .builtin .append, args := #[s, x], argTypes := #[23, 23] })
    (base n0 : Nat) (v u : Value) (ys xs : List Bs) (hown : SRow W base v ys) (hsrc : Texts n0 W u xs) (hnil : ∀ n c, u = .slice none n c → c = 0) (hs : a.eval s = v) (hx : a.eval x = u)
    (hlen : ys.length + xs.length ≤ 1000000) (hbase : base ≤ W.heap.size)
    (h : ∀ v' w', SRow w' base v' (ys ++ xs) → W.grownBy w' v.ownBlock → wpList Try.prog ops Q rest (a.put o.dst v') w') : wpList Try.prog ops Q (o :: rest) a W := by
  obtain ⟨i0, hi, hz0, hz1, hz2⟩ := info_parts info9
  obtain ⟨A, c, rfl, hc⟩ := hsrc
  cases A with
  | none =>
    have hx0 : xs = [] := by
      cases xs with
      | nil => rfl
      | cons x xs => obtain ⟨b, off, e, _⟩ := hc 0 (by simp); cases e
    subst hx0
    have hc0 := hnil _ _ rfl
    subst hc0
    refine wpList_append_own_none hgd s x 23 ho base 9 i0 1 Try.underlying23 hi v _ _ hs hown hx ?_
    exact h v W (by simpa using hown) ⟨rfl, rfl, rfl, Nat.le_refl _, fun _ _ _ => rfl⟩
  | some A =>
    refine wpList_append_own _ hgd s x 23 ho base 9 i0 _ 1 16 Try.underlying23 hi hz0 hz1 hz2 rfl (by decide) v _ _ hs hown A xs.length c (xs.map encStr) hx (by simp) ?_ (by intro q hq; obtain ⟨z, _, rfl⟩ := List.mem_map.1 hq; rfl) (by unfold maxLen; omega) (by omega) hbase ?_
    · intro j q hq
      rw [List.getElem?_map] at hq
      by_cases hj : j < xs.length
      · obtain ⟨b, off, e, _, hcell⟩ := hc j hj
        injection e with e
        subst e
        rw [List.getElem?_eq_getElem hj] at hq
        simp at hq
        subst hq
        have : (⟨b, off, none⟩ : Addr).add j = ⟨b, off + j, none⟩ := add_plain _ _ _
        rw [this]; exact hcell
      · rw [List.getElem?_eq_none (by omega)] at hq
        cases hq
    · intro v' w' q1 q2 _
      refine h v' w' ?_ q2
      unfold SRow
      rw [List.map_append, List.length_append]
      exact q1
theorem TextsA.ext {w w' : World} {sv : Value} {ss : List Bs} (h : TextsA w sv ss) (hx : Ext w w') : TextsA w' sv ss := ⟨texts_up hx h.1, h.2⟩
theorem tieL_len (L : List Pr) (id : Int) (ss : List Bs) : (tieL L id ss).length ≤ L.length + ss.length := by
  unfold tieL
  split
  · unfold tiePart untieL
    have := List.length_filter_le (fun p : Pr => !(p.1 == id)) L
    simp; omega
  · omega
theorem Fk.ext {B b : Nat} {w w' : World} (h : Fk B b w w') (hB : w.heap.size ≤ B) (hb : w.heap.size ≤ b) : Ext w w' := ⟨h.os, h.tape, h.output, h.size, fun i hi => h.block i hi (by omega) (.inl (by omega))⟩
structure MoRel (w : World) (B : Nat) (xs : List OpV) (j : Nat) (L : List Pr) (wr : World) : Prop where
  ki : KI wr B B (j + 2 * manyO (xs.take j)) L
  few : L.length ≤ manyO (xs.take j)
  fk : Fk B B w wr
theorem untieL_len (L : List Pr) (id : Int) : (untieL L id).length ≤ L.length := List.length_filter_le _ _
theorem keysL_len (L : List Pr) (id : Int) : (keysL L id).length ≤ L.length := by unfold keysL; rw [List.length_map]; exact List.length_filter_le _ _
theorem KI.wf {w : World} {B b N : Nat} {L : List Pr} (h : KI w B b N L) {id : Int} {k : Bs} (hm : (id, k) ∈ L) : (Lit.int .i64 id).wf = true := (h.good.ids _ hm).1
theorem KI.klen {w : World} {B b N : Nat} {L : List Pr} (h : KI w B b N L) {id : Int} {k : Bs} (hm : (id, k) ∈ L) : k.length ≤ 200 := h.good.keys _ hm
theorem sorted_mem (L : List Pr) (id : Int) (k : Bs) : k ∈ sortS (keysL L id) ↔ (id, k) ∈ L := (sortS_perm _).mem_iff.trans (keysL_mem L id k)
end Go.Proofs.Ytgbhhofmghgpbaa
