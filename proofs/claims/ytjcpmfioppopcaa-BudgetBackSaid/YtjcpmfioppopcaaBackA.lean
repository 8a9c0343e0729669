/- BudgetBack: what is added and taken again leaves a book as it was. -/
import Derived.Test.YtjcpmfioppopcaaArgs
import Derived.Laws.AppendOwnNone
namespace Go.Proofs.Ytjcpmfioppopcaa
open Go.ChangeShapes Go.WideShapes Go.ChangeAt Go.RowKit
set_option linter.unusedVariables false

/-- What follows once all that only reads has been taken: one operation by itself, or either of two that may come up. -/
inductive Tr where
  | done
  | one (k : Nat) (t : Tr)
  | fork (k1 : Nat) (t1 : Tr) (k2 : Nat) (t2 : Tr)
def wpTr (P : Program) (ops : Array Oper) (Q : Exit → Act → World → Prop) (X : List Nat) (W0 : World) : Tr → Act → World → Prop
  | .done, a, w => Q .normal a w
  | .one k t, a, w => wpList P ops (Exit.then (fun a' w' => ExtB X W0 w' ∧ wpTr P ops Q X W0 t a' w') Q) (pickOps ops [k]) a w
  | .fork k1 t1 k2 t2, a, w => wpList P ops (Exit.then (fun a' w' => ExtB X W0 w' ∧ wpTr P ops Q X W0 t1 a' w') Q) (pickOps ops [k1]) a w ∧
      wpList P ops (Exit.then (fun a' w' => ExtB X W0 w' ∧ wpTr P ops Q X W0 t2 a' w') Q) (pickOps ops [k2]) a w
def trLen : Tr → Nat
  | .done => 0
  | .one _ t => trLen t + 1
  | .fork _ t1 _ _ => trLen t1 + 1
def trB (ops : Array Oper) : Tr → Array Bool → Bool
  | .done, l => (Region.ready .any ops l).isEmpty
  | .one k t, l => decide (Region.ready .any ops l = [k]) && trB ops t (l.setIfInBounds k true)
  | .fork k1 t1 k2 t2, l => decide (Region.ready .any ops l = [k1, k2]) && decide (trLen t2 = trLen t1) && trB ops t1 (l.setIfInBounds k1 true) && trB ops t2 (l.setIfInBounds k2 true)
section
variable {P : Program} {ops : Array Oper} {Q : Exit → Act → World → Prop} {X : List Nat} {W0 : World} {a : Act} {w : World} {k k1 k2 : Nat} {t t1 t2 : Tr}
theorem wpTr_done : wpTr P ops Q X W0 .done a w = Q .normal a w := rfl
theorem wpTr_one : wpTr P ops Q X W0 (.one k t) a w = wpList P ops (Exit.then (fun a' w' => ExtB X W0 w' ∧ wpTr P ops Q X W0 t a' w') Q) (pickOps ops [k]) a w := rfl
theorem wpTr_fork : wpTr P ops Q X W0 (.fork k1 t1 k2 t2) a w = (wpList P ops (Exit.then (fun a' w' => ExtB X W0 w' ∧ wpTr P ops Q X W0 t1 a' w') Q) (pickOps ops [k1]) a w ∧
      wpList P ops (Exit.then (fun a' w' => ExtB X W0 w' ∧ wpTr P ops Q X W0 t2 a' w') Q) (pickOps ops [k2]) a w) := rfl
theorem tr_sound : ∀ (t : Tr) (l : Array Bool) (a : Act) (w : World), trB ops t l = true → wpTr P ops Q X W0 t a w → wpAnyN P ops Q (ExtB X W0) [] (trLen t) l a w
  | .done, l, a, w, hB, h => wpAnyN_done (by simpa [trB] using hB) h _
  | .one k t, l, a, w, hB, h => by
    simp only [trB, Bool.and_eq_true, decide_eq_true_eq] at hB
    have hk : k ∈ Region.ready .any ops l := by rw [hB.1]; simp
    obtain ⟨_, o, ho, _⟩ := mem_ready.1 hk
    rw [wpTr_one, pick_of ho] at h
    refine ⟨fun h0 => (by rw [h0] at hk; cases hk), fun i hi => ?_⟩
    rw [hB.1] at hi
    obtain rfl : i = k := by simpa using hi
    exact wpOp_of_list ho h fun a' w' h' => .inr ⟨by simp, h'.1, tr_sound t _ a' w' hB.2 h'.2⟩
  | .fork k1 t1 k2 t2, l, a, w, hB, h => by
    simp only [trB, Bool.and_eq_true, decide_eq_true_eq] at hB
    obtain ⟨⟨⟨hr, hlen⟩, hB1⟩, hB2⟩ := hB
    have hk1 : k1 ∈ Region.ready .any ops l := by rw [hr]; simp
    have hk2 : k2 ∈ Region.ready .any ops l := by rw [hr]; simp
    obtain ⟨_, o1, ho1, _⟩ := mem_ready.1 hk1
    obtain ⟨_, o2, ho2, _⟩ := mem_ready.1 hk2
    rw [wpTr_fork, pick_of ho1, pick_of ho2] at h
    refine ⟨fun h0 => (by rw [h0] at hk1; cases hk1), fun i hi => ?_⟩
    rw [hr] at hi
    have hi' : i = k1 ∨ i = k2 := by simpa using hi
    rcases hi' with rfl | rfl
    · exact wpOp_of_list ho1 h.1 fun a' w' h' => .inr ⟨by simp, h'.1, tr_sound t1 _ a' w' hB1 h'.2⟩
    · exact wpOp_of_list ho2 h.2 fun a' w' h' => .inr ⟨by simp, h'.1, by rw [← hlen]; exact tr_sound t2 _ a' w' hB2 h'.2⟩
/-- A region that draws its order: what only reads first; then, one by one, what makes memory, in every order in which it may come up; nothing that lay in the region's first world turns, but the blocks X. -/
theorem wp_region_tr {id : Nat} {l : List Oper} (X : List Nat) (ks : List Nat) (t : Tr) (hm : P.follows .mixedOrders = true)
    (hB : (Region.noSelect l.toArray && decide (ks.length + trLen t = l.length) && ((pureB l.toArray [] ks (Array.replicate l.length false)).map fun l' => trB l.toArray t l').getD false) = true)
    (hQ : ∀ c a d v w, Q (.panic c) (a.put d v) w → Q (.panic c) a w)
    (h : wpQuiet P l.toArray (InGrow X w.drew) (fun a' => wpTr P l.toArray Q X w.drew t a' w.drew) (pickOps l.toArray ks) a) : (Code.region id l.toArray true).wp P Q a w := by
  simp only [Bool.and_eq_true, decide_eq_true_eq] at hB
  cases hp : pureB l.toArray [] ks (Array.replicate l.length false) with
  | none => rw [hp] at hB; simp at hB
  | some l' =>
    rw [hp] at hB
    have := pure_sound (zs := []) hB.1.1 hQ (trLen t) ks _ l' a (Closed.none _ _) hp h fun a' _ ha => tr_sound t l' a' w.drew (by simpa using hB.2) ha
    rw [hB.1.2] at this
    refine wp_region_any hm ?_
    have h2 := wpAny_of_N _ _ _ _ this
    simpa using h2
end

theorem BookAt.alike {w : World} {b : Nat} {mo : Option Nat} {room share : Int} {L L' : List Ln} {N : Nat} (h : BookAt w b mo room share L N) (hs : rSum L = rSum L') (ho : ∀ u, rOf L u = rOf L' u) : BookAt w b mo room share L' N := by
  refine ⟨by rw [← hs]; exact h.blk, ?_⟩
  rcases h.map with ⟨h1, h2⟩ | ⟨mb, D, h1, h2, h3⟩
  · exact .inl ⟨h1, fun t => by rw [← ho]; exact h2 t⟩
  · refine .inr ⟨mb, D, h1, h2, ?_⟩
    intro u; rw [← ho]; exact h3 u
theorem back_law {room share : Int} {L : List Ln} (hI : Inv room share L) {t : Bs} {n : Int} (h : addE room share L t n = 0) :
    lessE (addL room share L t n) t n = 0 ∧ rSum (lessL (addL room share L t n) t n) = rSum L ∧ ∀ u, rOf (lessL (addL room share L t n) t n) u = rOf L u := by
  obtain ⟨⟨⟨n0, n1⟩, tl⟩, _, _⟩ := addE_zero h
  have e1 : addL room share L t n = rWith L t (rOf L t + n) := by unfold addL; rw [if_pos h]
  have hI1 := hI.add (room := room) (share := share) t n
  have o1 : ∀ u, rOf (addL room share L t n) u = if u = t then rOf L t + n else rOf L u := fun u => by rw [e1]; exact rOf_with L t _ u
  have s1 : rSum (addL room share L t n) = rSum L + n := by rw [e1, rSum_with L t _ hI.one]; omega
  have b1 := hI.of0 t
  have ot := o1 t
  rw [if_pos rfl] at ot
  have ha : asksB t n = true := (asks_iff t n).2 ⟨⟨n0, n1⟩, tl⟩
  have e2 : lessE (addL room share L t n) t n = 0 := by
    unfold lessE; rw [ha, if_neg (by simp), if_neg (by omega)]
  have e3 : lessL (addL room share L t n) t n = rWith (addL room share L t n) t (rOf (addL room share L t n) t - n) := by unfold lessL; rw [if_pos e2]
  refine ⟨e2, ?_, fun u => ?_⟩
  · rw [e3, rSum_with _ t _ hI1.one, s1]; omega
  · rw [e3, rOf_with, ot]
    split
    · rename_i hu; rw [hu]; omega
    · rename_i hu; rw [o1, if_neg hu]

def acells (xs : List AR) : List Value := xs.flatMap fun x => [.string ⟨x.1.toArray⟩, .int .i64 x.2.1, .bool x.2.2]
theorem acells_length (xs : List AR) : (acells xs).length = xs.length * 3 := by
  induction xs with
  | nil => rfl
  | cons x r ih => simp [acells] at ih ⊢; omega
theorem acells_append (a b : List AR) : acells (a ++ b) = acells a ++ acells b := by simp [acells]
theorem acells_at (xs : List AR) (k : Nat) (h : k < xs.length) : (acells xs)[k * 3]? = some (.string ⟨xs[k].1.toArray⟩) ∧ (acells xs)[k * 3 + 1]? = some (.int .i64 xs[k].2.1) ∧ (acells xs)[k * 3 + 2]? = some (.bool xs[k].2.2) := by
  induction xs generalizing k with
  | nil => simp at h
  | cons x r ih =>
    cases k with
    | zero => simp [acells]
    | succ k =>
      have := ih k (by simpa using h)
      simp only [acells, List.flatMap_cons, List.getElem_cons_succ] at this ⊢
      rw [show (k + 1) * 3 = k * 3 + 3 by omega, show k * 3 + 3 + 1 = (k * 3 + 1) + 3 by omega, show k * 3 + 3 + 2 = (k * 3 + 2) + 3 by omega]
      simpa using this
theorem acells_one (xs : List AR) : ∀ u ∈ acells xs, u.oneCell' = true := by
  intro u hu
  obtain ⟨x, _, hx⟩ := List.mem_flatMap.1 hu
  simp at hx
  rcases hx with rfl | rfl | rfl <;> rfl
theorem acts_of_row {w : World} {base : Nat} {v : Value} {xs : List AR} (h : w.ownsRow base 26 3 v xs.length (acells xs)) : ∃ A c, v = .slice A xs.length c ∧ ActsAt w A xs := by
  have h' := h
  rcases h.2 with ⟨rfl, h0⟩ | ⟨g, cap, cur, rfl, _, hg, _⟩
  · exact ⟨none, 0, by rw [h0], fun k hk => by omega⟩
  · refine ⟨_, _, rfl, fun k hk => ⟨g, 0, rfl, ?_⟩⟩
    have := acells_at xs k hk
    simp only [Nat.zero_add]
    exact ⟨by rw [World.ownsRow.cellAt h' _ (by omega)]; exact this.1, by rw [World.ownsRow.cellAt h' _ (by omega)]; exact this.2.1, by rw [World.ownsRow.cellAt h' _ (by omega)]; exact this.2.2⟩
theorem acts_news {w : World} {ad : Addr} {xs : List AR} (h : ActsAt w (some ad) xs) : ∀ j u, (acells xs)[j]? = some u → w.cell? (ad.add j) = some u := by
  intro j u hu
  have hj : j < xs.length * 3 := by
    rw [← acells_length]; exact (List.getElem?_eq_some_iff.1 hu).1
  have hk : j / 3 < xs.length := by omega
  obtain ⟨b, off, e, h0, h1, h2⟩ := h (j / 3) hk
  obtain ⟨a0, a1, a2⟩ := acells_at xs (j / 3) hk
  injection e with e
  subst e
  have hadd : ∀ i, (⟨b, off, none⟩ : Addr).add i = ⟨b, off + i, none⟩ := fun i => by unfold Addr.add; split <;> simp_all
  rw [hadd]
  have hc : j = j / 3 * 3 ∨ j = j / 3 * 3 + 1 ∨ j = j / 3 * 3 + 2 := by omega
  rcases hc with hc | hc | hc
  · rw [hc, a0] at hu; rw [hc, h0]; exact hu
  · rw [hc, a1] at hu; rw [hc, ← Nat.add_assoc, h1]; exact hu
  · rw [hc, a2] at hu; rw [hc, ← Nat.add_assoc, h2]; exact hu
theorem Try.info26 : (Try.prog.info? 26).map (fun i => (i.zero, i.size, i.bytes)) = some (some (.agg #[.string ⟨#[]⟩, .int .i64 0, .bool false]), 3, 32) := by kernel_rfl
theorem Grown.extB {w w' : World} {g : Nat} (h : w.grownBy w' (some g)) : ExtB [g] w w' := ⟨h.os, h.tape, h.output, h.size, fun k hk hx => h.block k hk (by
  intro e; injection e with e; exact hx (by simp [e]))⟩
theorem ActsAt.extB {X : List Nat} {w w' : World} {g : Nat} {xs : List AR} (h : ActsAt w (some ⟨g, 0, none⟩) xs) (hx : ExtB X w w') (hg : g ∉ X) : ActsAt w' (some ⟨g, 0, none⟩) xs := fun k hk => by
  obtain ⟨b, off, e, h0, h1, h2⟩ := h k hk
  have e' := e
  injection e' with e'
  injection e' with e1 e2
  subst e1
  exact ⟨_, _, e, hx.cell h0 hg, hx.cell h1 hg, hx.cell h2 hg⟩
theorem acts_box (w : World) (t : Bs) (n : Int) (l : Bool) : ActsAt (w.alloc (.cells #[.string ⟨t.toArray⟩, .int .i64 n, .bool l] 26)) (some ⟨w.heap.size, 0, none⟩) [(t, n, l)] := fun k hk => by
  have hb := heap_alloc_new w (.cells #[.string ⟨t.toArray⟩, .int .i64 n, .bool l] 26)
  obtain rfl : k = 0 := by simp at hk; exact hk
  exact ⟨_, _, rfl, blk_cell hb 0, blk_cell hb 1, blk_cell hb 2⟩
theorem append_acts {W : World} {ops : Array Oper} {rest : List Oper} {o : Oper} {a : Act} {Q : Exit → Act → World → Prop}
    (hgd : o.guard = none) (s x : Operand) (ho : o.op = .call { callee := .builtin .append, args := #[s, x], argTypes := #[24, 24] })
    (base : Nat) (v : Value) (ys xs : List AR) (A : Option Addr) (c : Nat) (hs : a.eval s = v) (hx : a.eval x = .slice A xs.length c) (hown : W.ownsRow base 26 3 v ys.length (acells ys))
    (hA : ActsAt W A xs) (hlen : ys.length + xs.length ≤ 1000) (hc : A = none → c = 0) (hbase : base ≤ W.heap.size)
    (h : ∀ v' w', w'.ownsRow base 26 3 v' (ys ++ xs).length (acells (ys ++ xs)) → W.grownBy w' v.ownBlock → wpList Try.prog ops Q rest (a.put o.dst v') w') : wpList Try.prog ops Q (o :: rest) a W := by
  obtain ⟨i0, hi, hz0, hz1, hz2⟩ := info_parts Try.info26
  cases A with
  | none =>
    have hx0 : xs = [] := by
      cases xs with
      | nil => rfl
      | cons y r => obtain ⟨_, _, e, _⟩ := hA 0 (by simp); cases e
    subst hx0
    rw [hc rfl] at hx
    refine wpList_append_own_none hgd s x 24 ho base 26 i0 3 Try.underlying24 hi v _ _ hs hown hx ?_
    refine h v W (by simpa using hown) ⟨rfl, rfl, rfl, Nat.le_refl _, fun _ _ _ => rfl⟩
  | some ad =>
    refine wpList_append_own _ hgd s x 24 ho base 26 i0 _ 3 32 Try.underlying24 hi hz0 hz1 hz2 rfl (by decide) v _ _ hs hown ad xs.length c (acells xs) hx (acells_length xs) (acts_news hA) (acells_one xs) (by unfold maxLen; omega) (by omega) hbase ?_
    intro v' w' h1 h2 _
    exact h v' w' (by rw [acells_append, List.length_append]; exact h1) h2
end Go.Proofs.Ytjcpmfioppopcaa
