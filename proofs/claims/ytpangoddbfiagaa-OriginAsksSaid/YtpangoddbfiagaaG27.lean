/- Texts put together: SegZR, RObjA, RObj, LawB. -/
import Derived.Test.YtpangoddbfiagaaG01
import Derived.Test.YtpangoddbfiagaaG14
import Derived.Sort.Walk0
import Derived.Test.YtpangoddbfiagaaG22
import Derived.Test.YtpangoddbfiagaaG26
/- Forks and stores as in the text beside (SegZ), over any kept relation (SegR). -/
namespace Go.Proofs.Ytpangoddbfiagaa
open Go.RowKit
def wpTzR (P : Program) (ops : Array Oper) (Q : Exit → Act → World → Prop) (R : Keep) : Tz → Act → World → Prop
  | .done, a, w => Q .normal a w
  | .pure ks t, a, w => wpQuiet P ops (InGrowR R w) (fun a' => wpTzR P ops Q R t a' w) (pickOps ops ks) a
  | .one k t, a, w => wpList P ops (Exit.then (fun a' w' => R.r w w' ∧ wpTzR P ops Q R t a' w') Q) (pickOps ops [k]) a w
  | .last k t, a, w => wpList P ops (Exit.then (fun a' w' => wpTzR P ops Q R t a' w') Q) (pickOps ops [k]) a w
  | .fork k1 t1 k2 t2, a, w => wpList P ops (Exit.then (fun a' w' => R.r w w' ∧ wpTzR P ops Q R t1 a' w') Q) (pickOps ops [k1]) a w ∧
      wpList P ops (Exit.then (fun a' w' => R.r w w' ∧ wpTzR P ops Q R t2 a' w') Q) (pickOps ops [k2]) a w
section
variable {P : Program} {ops : Array Oper} {Q : Exit → Act → World → Prop} {R : Keep} {zs ks : List Nat} {a : Act} {w : World} {k k1 k2 : Nat} {t t1 t2 : Tz}
theorem wpTzR_done : wpTzR P ops Q R .done a w = Q .normal a w := rfl
theorem wpTzR_pure : wpTzR P ops Q R (.pure ks t) a w = wpQuiet P ops (InGrowR R w) (fun a' => wpTzR P ops Q R t a' w) (pickOps ops ks) a := rfl
theorem wpTzR_one : wpTzR P ops Q R (.one k t) a w = wpList P ops (Exit.then (fun a' w' => R.r w w' ∧ wpTzR P ops Q R t a' w') Q) (pickOps ops [k]) a w := rfl
theorem wpTzR_last : wpTzR P ops Q R (.last k t) a w = wpList P ops (Exit.then (fun a' w' => wpTzR P ops Q R t a' w') Q) (pickOps ops [k]) a w := rfl
theorem wpTzR_fork : wpTzR P ops Q R (.fork k1 t1 k2 t2) a w = (wpList P ops (Exit.then (fun a' w' => R.r w w' ∧ wpTzR P ops Q R t1 a' w') Q) (pickOps ops [k1]) a w ∧
      wpList P ops (Exit.then (fun a' w' => R.r w w' ∧ wpTzR P ops Q R t2 a' w') Q) (pickOps ops [k2]) a w) := rfl
theorem tz_soundR (hsel : Region.noSelect ops = true) (hQ : ∀ c a d v w, Q (.panic c) (a.put d v) w → Q (.panic c) a w) :
    ∀ (t : Tz) (l : Array Bool) (a : Act) (w : World), Closed ops l → tzB ops zs t l = true → wpTzR P ops Q R t a w → wpAnyN P ops Q (R.r w) zs (tzLen t) l a w
  | .done, l, a, w, _, hB, h => wpAnyN_done (by simpa [tzB] using hB) h _
  | .pure ks t, l, a, w, hcl, hB, h => by
    simp only [tzB] at hB
    cases hp : pureB ops zs ks l with
    | none => rw [hp] at hB; cases hB
    | some l' =>
      rw [hp] at hB
      exact pure_soundR hsel hQ (tzLen t) ks l l' a hcl hp h fun a' hc' ha => tz_soundR hsel hQ t l' a' w hc' hB ha
  | .one k t, l, a, w, hcl, hB, h => by
    simp only [tzB, Bool.and_eq_true, decide_eq_true_eq] at hB
    have hk : k ∈ Region.ready .any ops l := by rw [hB.1.1]; simp
    obtain ⟨_, o, ho, _⟩ := mem_ready.1 hk
    rw [wpTzR_one, pick_of ho] at h
    refine ⟨fun h0 => (by rw [h0] at hk; cases hk), fun i hi => ?_⟩
    rw [hB.1.1] at hi
    obtain rfl : i = k := by simpa using hi
    exact wpOp_of_list ho h fun a' w' h' => .inr ⟨by simpa using hB.1.2, h'.1, wpAnyN_weaken (fun x hx => R.trans _ _ _ h'.1 hx) _ _ _ _ (tz_soundR hsel hQ t _ a' w' (hcl.set hk) hB.2 h'.2)⟩
  | .last k t, l, a, w, hcl, hB, h => by
    simp only [tzB, Bool.and_eq_true, decide_eq_true_eq] at hB
    obtain ⟨⟨hB1, hB3⟩, hB2⟩ := hB
    have hk : k ∈ Region.ready .any ops l := by rw [hB1]; simp
    obtain ⟨_, o, ho, _⟩ := mem_ready.1 hk
    rw [wpTzR_last, pick_of ho] at h
    refine ⟨fun h0 => (by rw [h0] at hk; cases hk), fun i hi => ?_⟩
    rw [hB1] at hi
    obtain rfl : i = k := by simpa using hi
    exact wpOp_of_list ho h fun a' w' h' => .inl ⟨hB3, wpAny_of_N _ _ _ _ (tz_soundR hsel hQ t _ a' w' (hcl.set hk) hB2 h')⟩
  | .fork k1 t1 k2 t2, l, a, w, hcl, hB, h => by
    simp only [tzB, Bool.and_eq_true, decide_eq_true_eq] at hB
    obtain ⟨⟨⟨⟨⟨hr, hlen⟩, hz1⟩, hz2⟩, hB1⟩, hB2⟩ := hB
    have hk1 : k1 ∈ Region.ready .any ops l := by rw [hr]; simp
    have hk2 : k2 ∈ Region.ready .any ops l := by rw [hr]; simp
    obtain ⟨_, o1, ho1, _⟩ := mem_ready.1 hk1
    obtain ⟨_, o2, ho2, _⟩ := mem_ready.1 hk2
    rw [wpTzR_fork, pick_of ho1, pick_of ho2] at h
    refine ⟨fun h0 => (by rw [h0] at hk1; cases hk1), fun i hi => ?_⟩
    rw [hr] at hi
    have hi' : i = k1 ∨ i = k2 := by simpa using hi
    rcases hi' with rfl | rfl
    · exact wpOp_of_list ho1 h.1 fun a' w' h' => .inr ⟨by simpa using hz1, h'.1, wpAnyN_weaken (fun x hx => R.trans _ _ _ h'.1 hx) _ _ _ _ (tz_soundR hsel hQ t1 _ a' w' (hcl.set hk1) hB1 h'.2)⟩
    · exact wpOp_of_list ho2 h.2 fun a' w' h' => .inr ⟨by simpa using hz2, h'.1, by rw [← hlen]; exact wpAnyN_weaken (fun x hx => R.trans _ _ _ h'.1 hx) _ _ _ _ (tz_soundR hsel hQ t2 _ a' w' (hcl.set hk2) hB2 h'.2)⟩
/-- A region that draws its order: first the operations st, which look at no memory; then the tree. -/
theorem wp_region_trzR {id : Nat} {l : List Oper} (R : Keep) (st zs : List Nat) (t : Tz) (hm : P.follows .mixedOrders = true)
    (hB : (Region.noSelect l.toArray && decide (st.length + tzLen t = l.length) && ((pureB l.toArray [] st (Array.replicate l.length false)).map fun l' => tzB l.toArray zs t l').getD false) = true)
    (hQ : ∀ c a d v w, Q (.panic c) (a.put d v) w → Q (.panic c) a w)
    (h : wpQuiet P l.toArray (fun _ => True) (fun a' => wpTzR P l.toArray Q R t a' w.drew) (pickOps l.toArray st) a) : (Code.region id l.toArray true).wp P Q a w := by
  simp only [Bool.and_eq_true, decide_eq_true_eq] at hB
  cases hp : pureB l.toArray [] st (Array.replicate l.length false) with
  | none => rw [hp] at hB; simp at hB
  | some l' =>
    rw [hp] at hB
    have := still_sound (w := w.drew) hB.1.1 hQ (tzLen t) st _ l' a (Closed.none _ _) hp h fun a' hc ha => wpAny_of_N _ _ _ _ (tz_soundR hB.1.1 hQ t l' a' w.drew hc (by simpa using hB.2) ha)
    rw [hB.1.2] at this
    refine wp_region_any hm ?_
    simpa using this
end
end Go.Proofs.Ytpangoddbfiagaa
/- The names that the document's origin tells: the plain law. -/
namespace Go.Proofs.Ytpangoddbfiagaa
open Go.RowKit Go.Maps Go.ChangeMaps
set_option linter.unusedVariables false
set_option linter.unusedSimpArgs false

/-- A name laid in where it belongs. -/
def insB (o : Bs) : List Bs → List Bs
  | [] => [o]
  | x :: xs => if Op.bytesLess x o = true then x :: insB o xs else o :: x :: xs
theorem insB_at {o : Bs} : ∀ (out : List Bs) (k : Nat), k ≤ out.length → (∀ x ∈ out.take k, Op.bytesLess x o = true) → (∀ x, out[k]? = some x → Op.bytesLess x o = false) → insB o out = out.take k ++ [o] ++ out.drop k
  | [], k, hk, _, _ => by
    have : k = 0 := by simpa using hk
    subst this; rfl
  | x :: xs, 0, _, _, h => by
    have := h x rfl
    simp [insB, this]
  | x :: xs, k + 1, hk, h1, h2 => by
    have hx := h1 x (by simp)
    have ih := insB_at xs k (by simpa using hk) (fun y hy => h1 y (by simp [hy])) (fun y hy => h2 y (by simpa using hy))
    simp only [insB, hx, if_true, ih, List.take_succ_cons, List.drop_succ_cons, List.cons_append]
theorem insB_mem {o y : Bs} : ∀ (out : List Bs), y ∈ insB o out ↔ y = o ∨ y ∈ out
  | [] => by simp [insB]
  | x :: xs => by
    have ih := insB_mem (o := o) (y := y) xs
    unfold insB
    split
    · simp only [List.mem_cons, ih]
      constructor
      · rintro (h | h | h)
        · exact .inr (.inl h)
        · exact .inl h
        · exact .inr (.inr h)
      · rintro (h | h | h)
        · exact .inr (.inl h)
        · exact .inl h
        · exact .inr (.inr h)
    · simp only [List.mem_cons]
theorem insB_len {o : Bs} : ∀ (out : List Bs), (insB o out).length = out.length + 1
  | [] => rfl
  | x :: xs => by
    unfold insB
    split
    · simp [insB_len xs]
    · simp
theorem insB_nodup {o : Bs} : ∀ (out : List Bs), out.Nodup → o ∉ out → (insB o out).Nodup
  | [], _, _ => by simp [insB]
  | x :: xs, hn, ho => by
    rw [List.nodup_cons] at hn
    rw [List.mem_cons, not_or] at ho
    unfold insB
    split
    · rw [List.nodup_cons, insB_mem]
      exact ⟨fun h => h.elim (fun e => ho.1 e.symm) hn.1, insB_nodup xs hn.2 ho.2⟩
    · rw [List.nodup_cons, List.nodup_cons, List.mem_cons, not_or]
      exact ⟨ho, hn⟩
theorem bytes_lt {x y : Bs} : Op.bytesLess x y = true ↔ x < y := by rw [bytesLess_eq]; simp
theorem insB_sorted {o : Bs} : ∀ (out : List Bs), (out.Pairwise fun a b => a ≤ b) → ((insB o out).Pairwise fun a b => a ≤ b)
  | [], _ => by simp [insB]
  | x :: xs, h => by
    rw [List.pairwise_cons] at h
    unfold insB
    split
    · rename_i hx
      rw [bytes_lt] at hx
      rw [List.pairwise_cons]
      refine ⟨fun y hy => ?_, insB_sorted xs h.2⟩
      rcases (insB_mem xs).1 hy with e | e
      · rw [e]; exact List.le_of_lt hx
      · exact h.1 y e
    · rename_i hx
      rw [bytes_lt] at hx
      have hox : o ≤ x := List.not_lt.1 hx
      rw [List.pairwise_cons, List.pairwise_cons]
      refine ⟨fun y hy => ?_, h⟩
      rcases List.mem_cons.1 hy with e | e
      · rw [e]; exact hox
      · exact List.le_trans hox (h.1 y e)
def objsR (vs : List Vn) : List Bs := vs.foldl (fun out v => if v.went = true then out else insB v.obj out) []
theorem objsR_snoc (vs : List Vn) (v : Vn) : objsR (vs ++ [v]) = if v.went = true then objsR vs else insB v.obj (objsR vs) := by
  simp [objsR, List.foldl_append]
theorem objsR_len : ∀ (vs : List Vn) (j : Nat), (objsR (vs.take j)).length ≤ j
  | vs, 0 => by simp [objsR]
  | vs, j + 1 => by
    by_cases hj : j < vs.length
    · rw [List.take_succ_eq_append_getElem hj, objsR_snoc]
      have := objsR_len vs j
      split
      · omega
      · rw [insB_len]; omega
    · have := objsR_len vs j
      rw [List.take_of_length_le (by omega)] at this ⊢
      omega
theorem one_take {vs : List Vn} (h : One vs) (j : Nat) : One (vs.take j) := by
  intro a b v v' ha hb
  rw [List.getElem?_take] at ha hb
  split at ha
  · split at hb
    · exact h a b v v' ha hb
    · cases hb
  · cases ha
theorem names_R {vs : List Vn} (h : One vs) : ∀ j, Names (vs.take j) (objsR (vs.take j))
  | 0 => ⟨by simp [objsR], by simp [objsR], fun o => by simp [objsR, liveB]⟩
  | j + 1 => by
    have ih := names_R h j
    by_cases hj : j < vs.length
    · rw [List.take_succ_eq_append_getElem hj, objsR_snoc]
      have live : ∀ o, liveB (vs.take j ++ [vs[j]]) o ↔ liveB (vs.take j) o ∨ (vs[j].obj = o ∧ vs[j].went = false) := fun o => by
        unfold liveB
        constructor
        · rintro ⟨v, hv, h1⟩
          rcases List.mem_append.1 hv with e | e
          · exact .inl ⟨v, e, h1⟩
          · rw [List.mem_singleton.1 e] at h1; exact .inr h1
        · rintro (⟨v, hv, h1⟩ | h1)
          · exact ⟨v, List.mem_append_left _ hv, h1⟩
          · exact ⟨_, List.mem_append_right _ List.mem_cons_self, h1⟩
      cases hw : vs[j].went with
      | true =>
        rw [if_pos rfl]
        refine ⟨ih.1, ih.2.1, fun o => ?_⟩
        rw [live, ih.2.2, hw]; simp
      | false =>
        rw [if_neg (by decide)]
        have hno : vs[j].obj ∉ objsR (vs.take j) := fun hh => by
          obtain ⟨v, hv, h1, h2⟩ := (ih.2.2 _).1 hh
          obtain ⟨i, hi⟩ := List.mem_iff_getElem?.1 hv
          rw [List.getElem?_take] at hi
          split at hi
          · rename_i hij
            have := h i j v vs[j] hi (by simp [hj]) h2 hw h1
            omega
          · cases hi
        refine ⟨insB_nodup _ ih.1 hno, insB_sorted _ ih.2.1, fun o => ?_⟩
        rw [live, insB_mem, ih.2.2, hw]
        constructor
        · rintro (e | e)
          · exact .inr ⟨e.symm, rfl⟩
          · exact .inl e
        · rintro (e | e)
          · exact .inr e
          · exact .inl e.1.symm
    · rw [List.take_of_length_le (by omega)] at ih ⊢
      exact ih
theorem names_same {vs : List Vn} {a b : List Bs} (h : Names vs a) (k : Names vs b) : a = b :=
  ((List.perm_ext_iff_of_nodup h.1 k.1).2 fun o => (h.2.2 o).trans (k.2.2 o).symm).eq_of_pairwise (fun x y _ _ h1 h2 => List.le_antisymm h1 h2) h.2.1 k.2.1
end Go.Proofs.Ytpangoddbfiagaa
/- The document's Objects, walked (printed by gen_robj.py). -/
namespace Go.Proofs.Ytpangoddbfiagaa
open Go.RowKit Go.Maps Go.ChangeMaps
set_option linter.unusedVariables false
set_option linter.unusedSimpArgs false

/-- What lay there stays. -/
def keepLow (B : Nat) : Keep := ⟨fun a b => Below B a b, fun w => Below.refl _ _, fun _ _ _ h k => Below.trans h k⟩
theorem GrowR.low {B : Nat} {W : World} (y : GrowR (keepLow B) W) (hB : B = W.heap.size) : Ext W y.v := by
  subst hB; exact y.ext
theorem TextsAt.takeT {w : World} {og q oc k : Nat} {out : List Bs} (h : TextsAt w (.slice (some ⟨og, 0, none⟩) q oc) out) (hq : q = out.length) (hk : k ≤ q) : TextsAt w (.slice (some ⟨og, 0, none⟩) k oc) (out.take k) := by
  obtain ⟨A, c, e, hc, _, hcell⟩ := h
  injection e with e1 e2 e3
  subst e1
  have hl : (out.take k).length = k := by simp; omega
  refine ⟨some ⟨og, 0, none⟩, oc, by rw [hl], by omega, fun e => (by cases e), fun j hj => ?_⟩
  obtain ⟨b, off, e4, hcc⟩ := hcell j (by omega)
  refine ⟨b, off, e4, ?_⟩
  rw [hcc]
  simp
theorem TextsAt.dropT {w : World} {og q oc k c2 : Nat} {A2 : Option Addr} {out : List Bs} (h : TextsAt w (.slice (some ⟨og, 0, none⟩) q oc) out) (hq : q = out.length) (hk : k ≤ q) (hc2 : q - k ≤ c2) (hA : A2 = some ⟨og, k, none⟩ ∨ (q - k = 0 ∧ A2 ≠ none)) : TextsAt w (.slice A2 (q - k) c2) (out.drop k) := by
  obtain ⟨A, c, e, hc, _, hcell⟩ := h
  injection e with e1 e2 e3
  subst e1
  have hl : (out.drop k).length = q - k := by simp; omega
  refine ⟨A2, c2, by rw [hl], by omega, fun e => ?_, fun j hj => ?_⟩
  · rcases hA with h1 | h1
    · rw [h1] at e; cases e
    · exact absurd e h1.2
  · rcases hA with h1 | h1
    · obtain ⟨b, off, e4, hcc⟩ := hcell (k + j) (by omega)
      cases e4
      refine ⟨og, k, h1, ?_⟩
      have e0 : 0 + (k + j) = k + j := by omega
      rw [e0] at hcc
      rw [hcc]
      simp
    · omega
/-- 'append(v, u..)' of texts, v the call's own since W0. -/
theorem wpList_appT {W0 W : World} {ops : Array Oper} {rest : List Oper} {o : Oper} {a : Act} {Q : Exit → Act → World → Prop}
    (hgd : o.guard = none) (s x : Operand) (ho : o.op = .call { callee := .builtin .append, args := #[s, x], argTypes := #[36, 36] }) (v u : Value) (ys xs : List Bs) (hE : Ext W0 W) (hown : SRow W W0.heap.size v ys) (hsrc : TextsAt W u xs) (hs : a.eval s = v) (hx : a.eval x = u) (hlen : ys.length + xs.length ≤ 1000000)
    (h : ∀ v' w', SRow w' W0.heap.size v' (ys ++ xs) → Ext W0 w' → Below W0.heap.size W w' → ExtB v.ownBlock.toList W w' → wpList Try.prog ops Q rest (a.put o.dst v') w') : wpList Try.prog ops Q (o :: rest) a W := by
  have hl1 : (ys.map strV).length = ys.length := by simp
  refine wpList_append_at 36 9 _ 16 Try.underlying36 info9 rfl (by decide) hgd s x ho W0.heap.size v u (ys.map strV) (xs.map strV) (by rw [hl1]; exact hown) hsrc.row (by intro q hq; obtain ⟨z, _, rfl⟩ := List.mem_map.1 hq; rfl) hs hx (by simpa using hlen) hE.size fun v' w' h1 h2 => ?_
  refine h v' w' (by unfold SRow; simpa using h1) (Ext.trans' hE hown h2) ⟨h2.os, h2.tape, h2.output, h2.size, fun k hk => h2.block k (Nat.lt_of_lt_of_le hk hE.size) (fun e => by have := (hown.lt k e.symm).1; omega)⟩ (grownBy_extB h2)
theorem TextsAt.dropA {w : World} {a : Addr} {q c2 : Nat} {out : List Bs} (hq : q = out.length) : TextsAt w (.slice (some a) 0 c2) (out.drop q) := by
  have e : out.drop q = [] := List.drop_eq_nil_of_le (by omega)
  rw [e]
  exact ⟨some a, c2, rfl, Nat.zero_le _, fun e => (by cases e), fun j hj => (by simp at hj)⟩
theorem own_some {w : World} {b : Nat} {v : Value} {out : List Bs} {n : Nat} (h : SRow w b v out) (hn : out.length = n + 1) : ∃ g c, v = .slice (some ⟨g, 0, none⟩) (n + 1) c := by
  rcases h.2 with ⟨_, h0⟩ | ⟨g, cap, cur, e, _⟩
  · omega
  · exact ⟨g, cap, by rw [e, hn]⟩
theorem own_cap {w : World} {b og q oc : Nat} {out : List Bs} (h : SRow w b (.slice (some ⟨og, 0, none⟩) q oc) out) : q ≤ oc ∧ oc ≤ 9223372036854775807 := by
  rcases h.2 with ⟨e, h0⟩ | ⟨g, cap, cur, e, _, _, h1, h2, _⟩
  · cases e
  · injection e with e1 e2 e3
    subst e2 e3
    have h3 : maxLen = 9223372036854775807 := rfl
    rw [h3] at h2
    exact ⟨h1, h2⟩
theorem src1 {W : World} {cs : Nat} {o : Bs} (h : W.heap[cs]? = some (.cells #[.string ⟨o.toArray⟩] 9)) : TextsAt W (.slice (some ⟨cs, 0, none⟩) 1 1) [o] :=
  ⟨some ⟨cs, 0, none⟩, 1, rfl, Nat.le_refl _, fun e => (by cases e), fun j hj => ⟨cs, 0, rfl, by have h0 : j = 0 := (by simpa using hj); subst h0; exact blk_cell h 0⟩⟩
section
variable {w w' : World} {x B : Nat} {own own' : Nat → Prop} {vs : List Vn} {ss : List Sn} {sa va : List Nat} {gs : List Rg} {A : Option Addr} {c : Nat} {X : List Nat}
set_option maxRecDepth 100000 in
set_option maxHeartbeats 8000000 in
theorem robjects_any (hI : RI w x B own vs ss sa) (hvl : vs.length ≤ 900000) : Calls Try.prog 26 #[.pointer (some ⟨x, 0, none⟩)] w fun e w' => ∃ v, e = .returned v ∧ SRow w' w.heap.size v (objsR vs) ∧ Ext w w' := by
  obtain ⟨gs, A, c, h⟩ := hI
  obtain ⟨nv, hnv⟩ : ∃ n, n = vs.length := ⟨_, rfl⟩
  have HI := Lib.hid h; have HNV := Lib.hid hnv
  have hnl : nv ≤ 900000 := by omega
  have k0 := blk_cell ((ext_alloc1 w (.cells #[] 9)).heap h.blk) 0
  simp at k0
  rw [← hnv] at k0
  clear h hnv hvl
  go_enter Try.func26, Try.ntmps26
  go_wp2_with fail
  have RS := Lib.hid (show [] = objsR (vs.take 0) ∧ 0 = ([] : List Bs).length ∧ Ext w (w.alloc (.cells #[] 9)) ∧ SRow (w.alloc (.cells #[] 9)) w.heap.size (.slice (some ⟨w.heap.size, 0, none⟩) 0 0) [] from ⟨rfl, rfl, ext_alloc1 _ _, World.ownsRow_made w #[] 0 (Nat.le_refl _) (by unfold maxLen; omega) rfl⟩)
  go_loopw [4, 3, 5] (fun i o _ wr => ∃ (j og oc q : Nat) (out : List Bs), j ≤ nv ∧ q ≤ j ∧ i = .int .i64 j ∧ o = .slice (some ⟨og, 0, none⟩) q oc ∧ Hid (out = objsR (vs.take j) ∧ q = out.length ∧ Ext w wr ∧ SRow wr w.heap.size (.slice (some ⟨og, 0, none⟩) q oc) out)) (fun i _ _ _ => nv - (RowKit.intOf i).toNat)
  case atStart => exact ⟨0, w.heap.size, 0, 0, [], by omega, by omega, rfl, rfl, RS⟩
  case round =>
    clear RS k0
    obtain ⟨j, og, oc, q, out, hj, hqj, rfl, rfl, R⟩ := hrel
    have k0 := blk_cell (R.out.2.2.1.heap HI.out.blk) 0
    simp at k0
    rw [← HNV.out] at k0
    by_cases hlt : j < nv
    · have hjs : j < vs.length := by rw [← HNV.out]; exact hlt
      obtain ⟨ab, g, hA, hg, k1, hok⟩ := (HI.out.ext R.out.2.2.1).at_ hjs
      have htk : vs.take (j + 1) = vs.take j ++ [vs[j]] := List.take_succ_eq_append_getElem hjs
      obtain ⟨v, hv⟩ : ∃ v, v = vs[j] := ⟨_, rfl⟩
      rw [← hv] at hok htk
      have k2 := blk_cell hok.blk 0; have k3 := blk_cell hok.blk 13
      simp [rverC, nowM] at k2 k3
      obtain ⟨vo, hvo⟩ : ∃ vo, vo = v.obj := ⟨_, rfl⟩
      obtain ⟨vw, hvw⟩ : ∃ vw, vw = v.went := ⟨_, rfl⟩
      obtain ⟨p, hp⟩ : ∃ p, p = g.b := ⟨_, rfl⟩
      have hstep : objsR (vs.take (j + 1)) = if vw = true then out else insB vo out := by rw [htk, objsR_snoc, ← hvw, ← hvo, R.out.1]
      rw [← hp] at k1 k2 k3
      rw [← hvo] at k2
      rw [← hvw] at k3
      unfold ptrV at k1
      have HST := Lib.hid hstep
      subst hA
      clear hok htk hv hvo hvw hp hg hstep hjs
      cases vw with
      | true =>
        have R2 := Lib.hid (show out = objsR (vs.take (j + 1)) ∧ q = out.length ∧ Ext w wr ∧ SRow wr w.heap.size (.slice (some ⟨og, 0, none⟩) q oc) out from ⟨by rw [HST.out, if_pos rfl], R.out.2⟩)
        go_wp2
        go_roundw
        case rel => exact ⟨j + 1, og, oc, q, out, by omega, by omega, by go_num, rfl, R2⟩
        case measure => simp [RowKit.intOf]; omega
      | false =>
        obtain ⟨W2, hW2⟩ : ∃ W, W = wr := ⟨_, rfl⟩
        subst hW2
        have K1 := Lib.hid k1; have K2 := Lib.hid k2
        have RT := Lib.hid (SRow.texts R.out.2.2.2)
        go_wp2_with fail
        clear k1 k2 k3
        have XR := Lib.hid (Ext.refl W2)
        go_loopw [5] (fun a wr => ∃ k : Nat, k ≤ q ∧ a = .int .i64 k ∧ Hid (∀ y ∈ out.take k, Op.bytesLess y vo = true) ∧ Hid (Ext W2 wr)) (fun a _ => q - (RowKit.intOf a).toNat)
        case atStart => exact ⟨0, by omega, rfl, Lib.hid (by simp), XR⟩
        case round =>
          clear XR k0
          obtain ⟨k, hk, rfl, T, X3⟩ := hrel
          have C0 := Lib.hid (X3.out.cell (show W2.cell? ⟨x, 0, none⟩ = some (.slice (some ⟨ab, 0, none⟩) nv c) from by have := blk_cell (R.out.2.2.1.heap HI.out.blk) 0; simp at this; rw [← HNV.out] at this; exact this))
          have C1 := Lib.hid (X3.out.cell K1.out); have C2 := Lib.hid (X3.out.cell K2.out)
          have G0 : ∀ y : Grow [] wr, y.v.cell? ⟨x, 0, none⟩ = some (.slice (some ⟨ab, 0, none⟩) nv c) := fun y => y.ext.cell C0.out (by simp)
          have G1 : ∀ y : Grow [] wr, y.v.cell? ⟨ab, j, none⟩ = some (.pointer (some ⟨p, 0, none⟩)) := fun y => y.ext.cell C1.out (by simp)
          have G2 : ∀ y : Grow [] wr, y.v.cell? ⟨p, 0, none⟩ = some (.string ⟨vo.toArray⟩) := fun y => y.ext.cell C2.out (by simp)
          by_cases hkq : k < q
          · have hks : k < out.length := by have := R.out.2.1; omega
            obtain ⟨yk, hyk⟩ : ∃ y, out[k]? = some y := ⟨out[k], by simp [hks]⟩
            obtain ⟨b3, o3, e3, c3⟩ := texts_cell RT.out hyk
            cases e3
            rw [Nat.zero_add] at c3
            have C3 := Lib.hid (X3.out.cell c3)
            have G3 : ∀ y : Grow [] wr, y.v.cell? ⟨og, k, none⟩ = some (.string ⟨yk.toArray⟩) := fun y => y.ext.cell C3.out (by simp)
            have HYK := Lib.hid hyk
            clear hyk hks c3
            cases hb : Op.bytesLess yk vo with
            | true =>
              have T2 := Lib.hid (show ∀ y ∈ out.take (k + 1), Op.bytesLess y vo = true from fun y hy => by
                have hks := (List.getElem?_eq_some_iff.1 HYK.out).1
                rw [List.take_succ_eq_append_getElem hks, List.mem_append, List.mem_singleton] at hy
                rcases hy with hy | hy
                · exact T.out y hy
                · rw [hy, (List.getElem?_eq_some_iff.1 HYK.out).2]; exact hb)
              go_wp2
              (refine wp_region_grow (by kernel_rfl) (by kernel_rfl) ?_; (repeat (go_big_quiet_step (fail))); refine wpQuiet_nil ?_)
              clear G0 G1 G2 G3 hb
              intro w3 hx3
              have X4 := Lib.hid (X3.out.trans hx3)
              clear hx3
              go_wp2
              go_roundw
              case rel => exact ⟨k + 1, by omega, by go_num, T2, X4⟩
              case measure => simp [RowKit.intOf]; omega
            | false =>
              have HIN := Lib.hid (show objsR (vs.take (j + 1)) = out.take k ++ [vo] ++ out.drop k from by
                rw [HST.out, if_neg (by decide)]
                exact insB_at out k (by have := R.out.2.1; omega) T.out (fun y hy => by rw [HYK.out] at hy; rw [← Option.some.inj hy]; exact hb))
              go_wp2
              (refine wp_region_grow (by kernel_rfl) (by kernel_rfl) ?_; (repeat (go_big_quiet_step (fail))); refine wpQuiet_nil ?_)
              clear G0 G1 G2 G3 hb
              intro w3 hx3
              have X4 := Lib.hid (X3.out.trans hx3)
              have E3 := Lib.hid (R.out.2.2.1.trans X4.out)
              have TT := Lib.hid (TextsAt.ext RT.out X4.out)
              obtain ⟨hcap, hcap2⟩ := own_cap R.out.2.2.2
              have D0 := Lib.hid (hx3.cell C0.out); have D1 := Lib.hid (hx3.cell C1.out); have D2 := Lib.hid (hx3.cell C2.out)
              clear hx3
              go_wp2_with fail
              have XD := Lib.hid (show Ext w3.drew w3.drew from Ext.refl _)
              have G0 : ∀ y : GrowR (keepLow w3.heap.size) w3.drew, y.v.cell? ⟨x, 0, none⟩ = some (.slice (some ⟨ab, 0, none⟩) nv c) := fun y => (y.low rfl).cell D0.out
              have G1 : ∀ y : GrowR (keepLow w3.heap.size) w3.drew, y.v.cell? ⟨ab, j, none⟩ = some (.pointer (some ⟨p, 0, none⟩)) := fun y => (y.low rfl).cell D1.out
              have G2 : ∀ y : GrowR (keepLow w3.heap.size) w3.drew, y.v.cell? ⟨p, 0, none⟩ = some (.string ⟨vo.toArray⟩) := fun y => (y.low rfl).cell D2.out
              refine wp_region_trzR (keepLow w3.heap.size) [] [] (.pure [1, 2, 3, 5, 6, 7, 8, 9, 10, 11, 12, 13, 14, 17, 18, 19] (.fork 0 (.fork 4 (.one 15 (.one 16 (.one 20 (.pure [21] (.done))))) 15 (.one 4 (.one 16 (.one 20 (.pure [21] (.done)))))) 15 (.one 0 (.one 4 (.one 16 (.one 20 (.pure [21] (.done)))))))) (by kernel_rfl) (by kernel_rfl) (fun c a d v w h => by cases d <;> exact h) ?_
              (simp only [pickOps, List.map_cons, List.map_nil, List.getD_cons_succ, List.getD_cons_zero]; refine wpQuiet_nil ?_)
              (rw [wpTzR_pure]; simp only [pickOps, List.map_cons, List.map_nil, List.getD_cons_succ, List.getD_cons_zero]; (repeat (go_big_quiet_step (fail))); refine wpQuiet_nil ?_)
              clear G0 G1 G2
              rw [wpTzR_fork]
              refine ⟨?_, ?_⟩
              · have hs0 := Lib.hid (show w.heap.size ≤ w3.drew.heap.size from E3.out.size)
                have TD := Lib.hid (show TextsAt w3.drew (.slice (some ⟨og, 0, none⟩) q oc) out from TT.out)
                (simp only [pickOps, List.map_cons, List.map_nil, List.getD_cons_succ, List.getD_cons_zero]; go_wp2_with fail)
                refine ⟨Below.mono (ext_alloc1 w3.drew (.cells #[] 9)) XD.out.size, ?_⟩
                have E1 := Lib.hid (XD.out.trans (ext_alloc1 w3.drew (.cells #[] 9)))
                have LE := Lib.hid (show SRow (w3.drew.alloc (.cells #[] 9)) w3.drew.heap.size (.slice (some ⟨w3.heap.size, 0, none⟩) 0 0) [] from by have h : SRow (w3.drew.alloc (.cells #[] 9)) w3.drew.heap.size (.slice (some ⟨w3.drew.heap.size, 0, none⟩) 0 0) [] := World.ownsRow_made w3.drew #[] 0 XD.out.size (by unfold maxLen; omega) rfl; simpa using h)
                rw [wpTzR_fork]
                refine ⟨?_, ?_⟩
                · (simp only [pickOps, List.map_cons, List.map_nil, List.getD_cons_succ, List.getD_cons_zero]; go_wp2_with (at_builtin; refine wpList_appT (W0 := w3.drew) rfl _ _ rfl (.slice (some ⟨w3.heap.size, 0, none⟩) 0 0) (.slice (some ⟨og, 0, none⟩) k oc) [] (out.take k) E1.out LE.out ((TextsAt.ext TD.out E1.out).takeT R.out.2.1 hk) rfl rfl (by have := R.out.2.1; simp; omega) ?_; intro v4 w4 r4 e4 b4 x4; refine stop_of ?_))
                  unfold Stop
                  go_wp2_with fail
                  refine ⟨b4, ?_⟩
                  have R4 := Lib.hid r4; have E9 := Lib.hid e4
                  clear r4 e4 b4 x4
                  (rw [wpTzR_one]; simp only [pickOps, List.map_cons, List.map_nil, List.getD_cons_succ, List.getD_cons_zero]; go_wp2_with fail)
                  refine ⟨Below.mono (ext_alloc1 w4 (.cells #[.string ⟨vo.toArray⟩] 9)) E9.out.size, ?_⟩
                  have CS := Lib.hid (show (w4.alloc (.cells #[.string ⟨vo.toArray⟩] 9)).heap[w4.heap.size]? = some (.cells #[.string ⟨vo.toArray⟩] 9) from heap_alloc_new w4 (.cells #[.string ⟨vo.toArray⟩] 9))
                  have R4 := Lib.hid (show SRow (w4.alloc (.cells #[.string ⟨vo.toArray⟩] 9)) w3.drew.heap.size v4 ([] ++ out.take k) from ownsRow_below R4.out (ext_alloc1 w4 (.cells #[.string ⟨vo.toArray⟩] 9)))
                  have E9 := Lib.hid (E9.out.trans (ext_alloc1 w4 (.cells #[.string ⟨vo.toArray⟩] 9)))
                  (rw [wpTzR_one]; simp only [pickOps, List.map_cons, List.map_nil, List.getD_cons_succ, List.getD_cons_zero]; go_wp2_with (at_builtin; refine wpList_appT (W0 := w3.drew) rfl _ _ rfl v4 (.slice (some ⟨w4.heap.size, 0, none⟩) 1 1) ([] ++ out.take k) [vo] E9.out R4.out (src1 CS.out) rfl rfl (by have := R.out.2.1; simp; omega) ?_; intro v5 w5 r5 e5 b5 x5; refine stop_of ?_))
                  unfold Stop
                  go_wp2_with fail
                  refine ⟨b5, ?_⟩
                  have R5 := Lib.hid r5; have E10 := Lib.hid e5
                  clear r5 e5 b5 x5
                  (rw [wpTzR_one]; simp only [pickOps, List.map_cons, List.map_nil, List.getD_cons_succ, List.getD_cons_zero]; go_wp2_with (at_builtin; refine wpList_appT (W0 := w3.drew) rfl _ _ rfl v5 (.slice (some ⟨og, k, none⟩) (q - k) (oc - k)) ([] ++ out.take k ++ [vo]) (out.drop k) E10.out R5.out ((TextsAt.ext TD.out E10.out).dropT R.out.2.1 hk (by omega) (.inl rfl)) rfl rfl (by have := R.out.2.1; simp; omega) ?_; intro v6 w6 r6 e6 b6 x6; refine stop_of ?_))
                  unfold Stop
                  have hl6 : ([] ++ out.take k ++ [vo] ++ out.drop k).length = q + 1 := by have := R.out.2.1; simp; omega
                  obtain ⟨og2, oc2, rfl⟩ := own_some r6 hl6
                  go_wp2_with fail
                  refine ⟨b6, ?_⟩
                  have R2 := Lib.hid (show ([] ++ out.take k ++ [vo] ++ out.drop k) = objsR (vs.take (j + 1)) ∧ q + 1 = ([] ++ out.take k ++ [vo] ++ out.drop k).length ∧ Ext w w6 ∧ SRow w6 w.heap.size (.slice (some ⟨og2, 0, none⟩) (q + 1) oc2) ([] ++ out.take k ++ [vo] ++ out.drop k) from ⟨by rw [HIN.out]; rfl, hl6.symm, E3.out.trans ((Ext.drew (Ext.refl w3)).trans e6), ownsRow_base r6 hs0.out⟩)
                  clear r6 e6 b6 x6 hl6
                  (rw [wpTzR_pure]; simp only [pickOps, List.map_cons, List.map_nil, List.getD_cons_succ, List.getD_cons_zero]; (repeat (go_big_quiet_step (fail))); refine wpQuiet_nil ?_)
                  rw [wpTzR_done]
                  go_wp2_with fail
                  go_wp2
                  go_roundw
                  case rel => exact ⟨j + 1, og2, oc2, q + 1, _, by omega, by omega, by go_num, rfl, R2⟩
                  case measure => simp [RowKit.intOf]; omega
                · (simp only [pickOps, List.map_cons, List.map_nil, List.getD_cons_succ, List.getD_cons_zero]; go_wp2_with fail)
                  refine ⟨Below.mono (ext_alloc1 (w3.drew.alloc (.cells #[] 9)) (.cells #[.string ⟨vo.toArray⟩] 9)) E1.out.size, ?_⟩
                  have E2 := Lib.hid (E1.out.trans (ext_alloc1 (w3.drew.alloc (.cells #[] 9)) (.cells #[.string ⟨vo.toArray⟩] 9)))
                  have LE := Lib.hid (show SRow ((w3.drew.alloc (.cells #[] 9)).alloc (.cells #[.string ⟨vo.toArray⟩] 9)) w3.drew.heap.size (.slice (some ⟨w3.heap.size, 0, none⟩) 0 0) [] from ownsRow_below LE.out (ext_alloc1 (w3.drew.alloc (.cells #[] 9)) (.cells #[.string ⟨vo.toArray⟩] 9)))
                  have CS := Lib.hid (show ((w3.drew.alloc (.cells #[] 9)).alloc (.cells #[.string ⟨vo.toArray⟩] 9)).heap[(w3.heap.size + 1)]? = some (.cells #[.string ⟨vo.toArray⟩] 9) from by have := heap_alloc_new (w3.drew.alloc (.cells #[] 9)) (.cells #[.string ⟨vo.toArray⟩] 9); simpa using this)
                  (rw [wpTzR_one]; simp only [pickOps, List.map_cons, List.map_nil, List.getD_cons_succ, List.getD_cons_zero]; go_wp2_with (at_builtin; refine wpList_appT (W0 := w3.drew) rfl _ _ rfl (.slice (some ⟨w3.heap.size, 0, none⟩) 0 0) (.slice (some ⟨og, 0, none⟩) k oc) [] (out.take k) E2.out LE.out ((TextsAt.ext TD.out E2.out).takeT R.out.2.1 hk) rfl rfl (by have := R.out.2.1; simp; omega) ?_; intro v4 w4 r4 e4 b4 x4; refine stop_of ?_))
                  unfold Stop
                  go_wp2_with fail
                  refine ⟨b4, ?_⟩
                  have R4 := Lib.hid r4; have E9 := Lib.hid e4
                  have CS := Lib.hid (x4.heap CS.out (by simp [Value.ownBlock]))
                  clear r4 e4 b4 x4
                  (rw [wpTzR_one]; simp only [pickOps, List.map_cons, List.map_nil, List.getD_cons_succ, List.getD_cons_zero]; go_wp2_with (at_builtin; refine wpList_appT (W0 := w3.drew) rfl _ _ rfl v4 (.slice (some ⟨(w3.heap.size + 1), 0, none⟩) 1 1) ([] ++ out.take k) [vo] E9.out R4.out (src1 CS.out) rfl rfl (by have := R.out.2.1; simp; omega) ?_; intro v5 w5 r5 e5 b5 x5; refine stop_of ?_))
                  unfold Stop
                  go_wp2_with fail
                  refine ⟨b5, ?_⟩
                  have R5 := Lib.hid r5; have E10 := Lib.hid e5
                  clear r5 e5 b5 x5
                  (rw [wpTzR_one]; simp only [pickOps, List.map_cons, List.map_nil, List.getD_cons_succ, List.getD_cons_zero]; go_wp2_with (at_builtin; refine wpList_appT (W0 := w3.drew) rfl _ _ rfl v5 (.slice (some ⟨og, k, none⟩) (q - k) (oc - k)) ([] ++ out.take k ++ [vo]) (out.drop k) E10.out R5.out ((TextsAt.ext TD.out E10.out).dropT R.out.2.1 hk (by omega) (.inl rfl)) rfl rfl (by have := R.out.2.1; simp; omega) ?_; intro v6 w6 r6 e6 b6 x6; refine stop_of ?_))
                  unfold Stop
                  have hl6 : ([] ++ out.take k ++ [vo] ++ out.drop k).length = q + 1 := by have := R.out.2.1; simp; omega
                  obtain ⟨og2, oc2, rfl⟩ := own_some r6 hl6
                  go_wp2_with fail
                  refine ⟨b6, ?_⟩
                  have R2 := Lib.hid (show ([] ++ out.take k ++ [vo] ++ out.drop k) = objsR (vs.take (j + 1)) ∧ q + 1 = ([] ++ out.take k ++ [vo] ++ out.drop k).length ∧ Ext w w6 ∧ SRow w6 w.heap.size (.slice (some ⟨og2, 0, none⟩) (q + 1) oc2) ([] ++ out.take k ++ [vo] ++ out.drop k) from ⟨by rw [HIN.out]; rfl, hl6.symm, E3.out.trans ((Ext.drew (Ext.refl w3)).trans e6), ownsRow_base r6 hs0.out⟩)
                  clear r6 e6 b6 x6 hl6
                  (rw [wpTzR_pure]; simp only [pickOps, List.map_cons, List.map_nil, List.getD_cons_succ, List.getD_cons_zero]; (repeat (go_big_quiet_step (fail))); refine wpQuiet_nil ?_)
                  rw [wpTzR_done]
                  go_wp2_with fail
                  go_wp2
                  go_roundw
                  case rel => exact ⟨j + 1, og2, oc2, q + 1, _, by omega, by omega, by go_num, rfl, R2⟩
                  case measure => simp [RowKit.intOf]; omega
              · have hs0 := Lib.hid (show w.heap.size ≤ w3.drew.heap.size from E3.out.size)
                have TD := Lib.hid (show TextsAt w3.drew (.slice (some ⟨og, 0, none⟩) q oc) out from TT.out)
                (simp only [pickOps, List.map_cons, List.map_nil, List.getD_cons_succ, List.getD_cons_zero]; go_wp2_with fail)
                refine ⟨Below.mono (ext_alloc1 w3.drew (.cells #[.string ⟨vo.toArray⟩] 9)) XD.out.size, ?_⟩
                have E1 := Lib.hid (XD.out.trans (ext_alloc1 w3.drew (.cells #[.string ⟨vo.toArray⟩] 9)))
                have CS := Lib.hid (show (w3.drew.alloc (.cells #[.string ⟨vo.toArray⟩] 9)).heap[w3.heap.size]? = some (.cells #[.string ⟨vo.toArray⟩] 9) from by have := heap_alloc_new w3.drew (.cells #[.string ⟨vo.toArray⟩] 9); simpa using this)
                (rw [wpTzR_one]; simp only [pickOps, List.map_cons, List.map_nil, List.getD_cons_succ, List.getD_cons_zero]; go_wp2_with fail)
                refine ⟨Below.mono (ext_alloc1 (w3.drew.alloc (.cells #[.string ⟨vo.toArray⟩] 9)) (.cells #[] 9)) E1.out.size, ?_⟩
                have E2 := Lib.hid (E1.out.trans (ext_alloc1 (w3.drew.alloc (.cells #[.string ⟨vo.toArray⟩] 9)) (.cells #[] 9)))
                have CS := Lib.hid ((ext_alloc1 (w3.drew.alloc (.cells #[.string ⟨vo.toArray⟩] 9)) (.cells #[] 9)).heap CS.out)
                have LE := Lib.hid (show SRow ((w3.drew.alloc (.cells #[.string ⟨vo.toArray⟩] 9)).alloc (.cells #[] 9)) w3.drew.heap.size (.slice (some ⟨(w3.heap.size + 1), 0, none⟩) 0 0) [] from by have h : SRow ((w3.drew.alloc (.cells #[.string ⟨vo.toArray⟩] 9)).alloc (.cells #[] 9)) w3.drew.heap.size (.slice (some ⟨(w3.drew.alloc (.cells #[.string ⟨vo.toArray⟩] 9)).heap.size, 0, none⟩) 0 0) [] := World.ownsRow_made (w3.drew.alloc (.cells #[.string ⟨vo.toArray⟩] 9)) #[] 0 E1.out.size (by unfold maxLen; omega) rfl; simpa using h)
                (rw [wpTzR_one]; simp only [pickOps, List.map_cons, List.map_nil, List.getD_cons_succ, List.getD_cons_zero]; go_wp2_with (at_builtin; refine wpList_appT (W0 := w3.drew) rfl _ _ rfl (.slice (some ⟨(w3.heap.size + 1), 0, none⟩) 0 0) (.slice (some ⟨og, 0, none⟩) k oc) [] (out.take k) E2.out LE.out ((TextsAt.ext TD.out E2.out).takeT R.out.2.1 hk) rfl rfl (by have := R.out.2.1; simp; omega) ?_; intro v4 w4 r4 e4 b4 x4; refine stop_of ?_))
                unfold Stop
                go_wp2_with fail
                refine ⟨b4, ?_⟩
                have R4 := Lib.hid r4; have E9 := Lib.hid e4
                have CS := Lib.hid (x4.heap CS.out (by simp [Value.ownBlock]))
                clear r4 e4 b4 x4
                (rw [wpTzR_one]; simp only [pickOps, List.map_cons, List.map_nil, List.getD_cons_succ, List.getD_cons_zero]; go_wp2_with (at_builtin; refine wpList_appT (W0 := w3.drew) rfl _ _ rfl v4 (.slice (some ⟨w3.heap.size, 0, none⟩) 1 1) ([] ++ out.take k) [vo] E9.out R4.out (src1 CS.out) rfl rfl (by have := R.out.2.1; simp; omega) ?_; intro v5 w5 r5 e5 b5 x5; refine stop_of ?_))
                unfold Stop
                go_wp2_with fail
                refine ⟨b5, ?_⟩
                have R5 := Lib.hid r5; have E10 := Lib.hid e5
                clear r5 e5 b5 x5
                (rw [wpTzR_one]; simp only [pickOps, List.map_cons, List.map_nil, List.getD_cons_succ, List.getD_cons_zero]; go_wp2_with (at_builtin; refine wpList_appT (W0 := w3.drew) rfl _ _ rfl v5 (.slice (some ⟨og, k, none⟩) (q - k) (oc - k)) ([] ++ out.take k ++ [vo]) (out.drop k) E10.out R5.out ((TextsAt.ext TD.out E10.out).dropT R.out.2.1 hk (by omega) (.inl rfl)) rfl rfl (by have := R.out.2.1; simp; omega) ?_; intro v6 w6 r6 e6 b6 x6; refine stop_of ?_))
                unfold Stop
                have hl6 : ([] ++ out.take k ++ [vo] ++ out.drop k).length = q + 1 := by have := R.out.2.1; simp; omega
                obtain ⟨og2, oc2, rfl⟩ := own_some r6 hl6
                go_wp2_with fail
                refine ⟨b6, ?_⟩
                have R2 := Lib.hid (show ([] ++ out.take k ++ [vo] ++ out.drop k) = objsR (vs.take (j + 1)) ∧ q + 1 = ([] ++ out.take k ++ [vo] ++ out.drop k).length ∧ Ext w w6 ∧ SRow w6 w.heap.size (.slice (some ⟨og2, 0, none⟩) (q + 1) oc2) ([] ++ out.take k ++ [vo] ++ out.drop k) from ⟨by rw [HIN.out]; rfl, hl6.symm, E3.out.trans ((Ext.drew (Ext.refl w3)).trans e6), ownsRow_base r6 hs0.out⟩)
                clear r6 e6 b6 x6 hl6
                (rw [wpTzR_pure]; simp only [pickOps, List.map_cons, List.map_nil, List.getD_cons_succ, List.getD_cons_zero]; (repeat (go_big_quiet_step (fail))); refine wpQuiet_nil ?_)
                rw [wpTzR_done]
                go_wp2_with fail
                go_wp2
                go_roundw
                case rel => exact ⟨j + 1, og2, oc2, q + 1, _, by omega, by omega, by go_num, rfl, R2⟩
                case measure => simp [RowKit.intOf]; omega
          · have e5 : q = k := by omega
            subst e5
            clear hk hkq
            have HIN := Lib.hid (show objsR (vs.take (j + 1)) = out.take q ++ [vo] ++ out.drop q from by
              rw [HST.out, if_neg (by decide)]
              exact insB_at out q (by have := R.out.2.1; omega) T.out (fun y hy => by have := (List.getElem?_eq_some_iff.1 hy).1; have := R.out.2.1; omega))
            go_wp2
            (refine wp_region_grow (by kernel_rfl) (by kernel_rfl) ?_; (repeat (go_big_quiet_step (fail))); refine wpQuiet_nil ?_)
            clear G0 G1 G2
            intro w3 hx3
            have X4 := Lib.hid (X3.out.trans hx3)
            have E3 := Lib.hid (R.out.2.2.1.trans X4.out)
            have TT := Lib.hid (TextsAt.ext RT.out X4.out)
            obtain ⟨hcap, hcap2⟩ := own_cap R.out.2.2.2
            have D0 := Lib.hid (hx3.cell C0.out); have D1 := Lib.hid (hx3.cell C1.out); have D2 := Lib.hid (hx3.cell C2.out)
            clear hx3
            rcases Nat.eq_or_lt_of_le hcap with hoc | hoc
            · subst hoc
              clear hcap
              go_wp2_with fail
              have XD := Lib.hid (show Ext w3.drew w3.drew from Ext.refl _)
              have G0 : ∀ y : GrowR (keepLow w3.heap.size) w3.drew, y.v.cell? ⟨x, 0, none⟩ = some (.slice (some ⟨ab, 0, none⟩) nv c) := fun y => (y.low rfl).cell D0.out
              have G1 : ∀ y : GrowR (keepLow w3.heap.size) w3.drew, y.v.cell? ⟨ab, j, none⟩ = some (.pointer (some ⟨p, 0, none⟩)) := fun y => (y.low rfl).cell D1.out
              have G2 : ∀ y : GrowR (keepLow w3.heap.size) w3.drew, y.v.cell? ⟨p, 0, none⟩ = some (.string ⟨vo.toArray⟩) := fun y => (y.low rfl).cell D2.out
              refine wp_region_trzR (keepLow w3.heap.size) [] [] (.pure [1, 2, 3, 5, 6, 7, 8, 9, 10, 11, 12, 13, 14, 17, 18, 19] (.fork 0 (.fork 4 (.one 15 (.one 16 (.one 20 (.pure [21] (.done))))) 15 (.one 4 (.one 16 (.one 20 (.pure [21] (.done)))))) 15 (.one 0 (.one 4 (.one 16 (.one 20 (.pure [21] (.done)))))))) (by kernel_rfl) (by kernel_rfl) (fun c a d v w h => by cases d <;> exact h) ?_
              (simp only [pickOps, List.map_cons, List.map_nil, List.getD_cons_succ, List.getD_cons_zero]; refine wpQuiet_nil ?_)
              (rw [wpTzR_pure]; simp only [pickOps, List.map_cons, List.map_nil, List.getD_cons_succ, List.getD_cons_zero]; (repeat (go_big_quiet_step (fail))); refine wpQuiet_nil ?_)
              clear G0 G1 G2
              rw [wpTzR_fork]
              refine ⟨?_, ?_⟩
              · have hs0 := Lib.hid (show w.heap.size ≤ w3.drew.heap.size from E3.out.size)
                have TD := Lib.hid (show TextsAt w3.drew (.slice (some ⟨og, 0, none⟩) q q) out from TT.out)
                (simp only [pickOps, List.map_cons, List.map_nil, List.getD_cons_succ, List.getD_cons_zero]; go_wp2_with fail)
                refine ⟨Below.mono (ext_alloc1 w3.drew (.cells #[] 9)) XD.out.size, ?_⟩
                have E1 := Lib.hid (XD.out.trans (ext_alloc1 w3.drew (.cells #[] 9)))
                have LE := Lib.hid (show SRow (w3.drew.alloc (.cells #[] 9)) w3.drew.heap.size (.slice (some ⟨w3.heap.size, 0, none⟩) 0 0) [] from by have h : SRow (w3.drew.alloc (.cells #[] 9)) w3.drew.heap.size (.slice (some ⟨w3.drew.heap.size, 0, none⟩) 0 0) [] := World.ownsRow_made w3.drew #[] 0 XD.out.size (by unfold maxLen; omega) rfl; simpa using h)
                rw [wpTzR_fork]
                refine ⟨?_, ?_⟩
                · (simp only [pickOps, List.map_cons, List.map_nil, List.getD_cons_succ, List.getD_cons_zero]; go_wp2_with (at_builtin; refine wpList_appT (W0 := w3.drew) rfl _ _ rfl (.slice (some ⟨w3.heap.size, 0, none⟩) 0 0) (.slice (some ⟨og, 0, none⟩) q q) [] (out.take q) E1.out LE.out ((TextsAt.ext TD.out E1.out).takeT R.out.2.1 (Nat.le_refl _)) rfl rfl (by have := R.out.2.1; simp; omega) ?_; intro v4 w4 r4 e4 b4 x4; refine stop_of ?_))
                  unfold Stop
                  go_wp2_with fail
                  refine ⟨b4, ?_⟩
                  have R4 := Lib.hid r4; have E9 := Lib.hid e4
                  clear r4 e4 b4 x4
                  (rw [wpTzR_one]; simp only [pickOps, List.map_cons, List.map_nil, List.getD_cons_succ, List.getD_cons_zero]; go_wp2_with fail)
                  refine ⟨Below.mono (ext_alloc1 w4 (.cells #[.string ⟨vo.toArray⟩] 9)) E9.out.size, ?_⟩
                  have CS := Lib.hid (show (w4.alloc (.cells #[.string ⟨vo.toArray⟩] 9)).heap[w4.heap.size]? = some (.cells #[.string ⟨vo.toArray⟩] 9) from heap_alloc_new w4 (.cells #[.string ⟨vo.toArray⟩] 9))
                  have R4 := Lib.hid (show SRow (w4.alloc (.cells #[.string ⟨vo.toArray⟩] 9)) w3.drew.heap.size v4 ([] ++ out.take q) from ownsRow_below R4.out (ext_alloc1 w4 (.cells #[.string ⟨vo.toArray⟩] 9)))
                  have E9 := Lib.hid (E9.out.trans (ext_alloc1 w4 (.cells #[.string ⟨vo.toArray⟩] 9)))
                  (rw [wpTzR_one]; simp only [pickOps, List.map_cons, List.map_nil, List.getD_cons_succ, List.getD_cons_zero]; go_wp2_with (at_builtin; refine wpList_appT (W0 := w3.drew) rfl _ _ rfl v4 (.slice (some ⟨w4.heap.size, 0, none⟩) 1 1) ([] ++ out.take q) [vo] E9.out R4.out (src1 CS.out) rfl rfl (by have := R.out.2.1; simp; omega) ?_; intro v5 w5 r5 e5 b5 x5; refine stop_of ?_))
                  unfold Stop
                  go_wp2_with fail
                  refine ⟨b5, ?_⟩
                  have R5 := Lib.hid r5; have E10 := Lib.hid e5
                  clear r5 e5 b5 x5
                  (rw [wpTzR_one]; simp only [pickOps, List.map_cons, List.map_nil, List.getD_cons_succ, List.getD_cons_zero]; go_wp2_with (at_builtin; refine wpList_appT (W0 := w3.drew) rfl _ _ rfl v5 _ ([] ++ out.take q ++ [vo]) (out.drop q) E10.out R5.out (TextsAt.dropA R.out.2.1) rfl rfl (by have := R.out.2.1; simp; omega) ?_; intro v6 w6 r6 e6 b6 x6; refine stop_of ?_))
                  unfold Stop
                  have hl6 : ([] ++ out.take q ++ [vo] ++ out.drop q).length = q + 1 := by have := R.out.2.1; simp; omega
                  obtain ⟨og2, oc2, rfl⟩ := own_some r6 hl6
                  go_wp2_with fail
                  refine ⟨b6, ?_⟩
                  have R2 := Lib.hid (show ([] ++ out.take q ++ [vo] ++ out.drop q) = objsR (vs.take (j + 1)) ∧ q + 1 = ([] ++ out.take q ++ [vo] ++ out.drop q).length ∧ Ext w w6 ∧ SRow w6 w.heap.size (.slice (some ⟨og2, 0, none⟩) (q + 1) oc2) ([] ++ out.take q ++ [vo] ++ out.drop q) from ⟨by rw [HIN.out]; rfl, hl6.symm, E3.out.trans ((Ext.drew (Ext.refl w3)).trans e6), ownsRow_base r6 hs0.out⟩)
                  clear r6 e6 b6 x6 hl6
                  (rw [wpTzR_pure]; simp only [pickOps, List.map_cons, List.map_nil, List.getD_cons_succ, List.getD_cons_zero]; (repeat (go_big_quiet_step (fail))); refine wpQuiet_nil ?_)
                  rw [wpTzR_done]
                  go_wp2_with fail
                  go_wp2
                  go_roundw
                  case rel => exact ⟨j + 1, og2, oc2, q + 1, _, by omega, by omega, by go_num, rfl, R2⟩
                  case measure => simp [RowKit.intOf]; omega
                · (simp only [pickOps, List.map_cons, List.map_nil, List.getD_cons_succ, List.getD_cons_zero]; go_wp2_with fail)
                  refine ⟨Below.mono (ext_alloc1 (w3.drew.alloc (.cells #[] 9)) (.cells #[.string ⟨vo.toArray⟩] 9)) E1.out.size, ?_⟩
                  have E2 := Lib.hid (E1.out.trans (ext_alloc1 (w3.drew.alloc (.cells #[] 9)) (.cells #[.string ⟨vo.toArray⟩] 9)))
                  have LE := Lib.hid (show SRow ((w3.drew.alloc (.cells #[] 9)).alloc (.cells #[.string ⟨vo.toArray⟩] 9)) w3.drew.heap.size (.slice (some ⟨w3.heap.size, 0, none⟩) 0 0) [] from ownsRow_below LE.out (ext_alloc1 (w3.drew.alloc (.cells #[] 9)) (.cells #[.string ⟨vo.toArray⟩] 9)))
                  have CS := Lib.hid (show ((w3.drew.alloc (.cells #[] 9)).alloc (.cells #[.string ⟨vo.toArray⟩] 9)).heap[(w3.heap.size + 1)]? = some (.cells #[.string ⟨vo.toArray⟩] 9) from by have := heap_alloc_new (w3.drew.alloc (.cells #[] 9)) (.cells #[.string ⟨vo.toArray⟩] 9); simpa using this)
                  (rw [wpTzR_one]; simp only [pickOps, List.map_cons, List.map_nil, List.getD_cons_succ, List.getD_cons_zero]; go_wp2_with (at_builtin; refine wpList_appT (W0 := w3.drew) rfl _ _ rfl (.slice (some ⟨w3.heap.size, 0, none⟩) 0 0) (.slice (some ⟨og, 0, none⟩) q q) [] (out.take q) E2.out LE.out ((TextsAt.ext TD.out E2.out).takeT R.out.2.1 (Nat.le_refl _)) rfl rfl (by have := R.out.2.1; simp; omega) ?_; intro v4 w4 r4 e4 b4 x4; refine stop_of ?_))
                  unfold Stop
                  go_wp2_with fail
                  refine ⟨b4, ?_⟩
                  have R4 := Lib.hid r4; have E9 := Lib.hid e4
                  have CS := Lib.hid (x4.heap CS.out (by simp [Value.ownBlock]))
                  clear r4 e4 b4 x4
                  (rw [wpTzR_one]; simp only [pickOps, List.map_cons, List.map_nil, List.getD_cons_succ, List.getD_cons_zero]; go_wp2_with (at_builtin; refine wpList_appT (W0 := w3.drew) rfl _ _ rfl v4 (.slice (some ⟨(w3.heap.size + 1), 0, none⟩) 1 1) ([] ++ out.take q) [vo] E9.out R4.out (src1 CS.out) rfl rfl (by have := R.out.2.1; simp; omega) ?_; intro v5 w5 r5 e5 b5 x5; refine stop_of ?_))
                  unfold Stop
                  go_wp2_with fail
                  refine ⟨b5, ?_⟩
                  have R5 := Lib.hid r5; have E10 := Lib.hid e5
                  clear r5 e5 b5 x5
                  (rw [wpTzR_one]; simp only [pickOps, List.map_cons, List.map_nil, List.getD_cons_succ, List.getD_cons_zero]; go_wp2_with (at_builtin; refine wpList_appT (W0 := w3.drew) rfl _ _ rfl v5 _ ([] ++ out.take q ++ [vo]) (out.drop q) E10.out R5.out (TextsAt.dropA R.out.2.1) rfl rfl (by have := R.out.2.1; simp; omega) ?_; intro v6 w6 r6 e6 b6 x6; refine stop_of ?_))
                  unfold Stop
                  have hl6 : ([] ++ out.take q ++ [vo] ++ out.drop q).length = q + 1 := by have := R.out.2.1; simp; omega
                  obtain ⟨og2, oc2, rfl⟩ := own_some r6 hl6
                  go_wp2_with fail
                  refine ⟨b6, ?_⟩
                  have R2 := Lib.hid (show ([] ++ out.take q ++ [vo] ++ out.drop q) = objsR (vs.take (j + 1)) ∧ q + 1 = ([] ++ out.take q ++ [vo] ++ out.drop q).length ∧ Ext w w6 ∧ SRow w6 w.heap.size (.slice (some ⟨og2, 0, none⟩) (q + 1) oc2) ([] ++ out.take q ++ [vo] ++ out.drop q) from ⟨by rw [HIN.out]; rfl, hl6.symm, E3.out.trans ((Ext.drew (Ext.refl w3)).trans e6), ownsRow_base r6 hs0.out⟩)
                  clear r6 e6 b6 x6 hl6
                  (rw [wpTzR_pure]; simp only [pickOps, List.map_cons, List.map_nil, List.getD_cons_succ, List.getD_cons_zero]; (repeat (go_big_quiet_step (fail))); refine wpQuiet_nil ?_)
                  rw [wpTzR_done]
                  go_wp2_with fail
                  go_wp2
                  go_roundw
                  case rel => exact ⟨j + 1, og2, oc2, q + 1, _, by omega, by omega, by go_num, rfl, R2⟩
                  case measure => simp [RowKit.intOf]; omega
              · have hs0 := Lib.hid (show w.heap.size ≤ w3.drew.heap.size from E3.out.size)
                have TD := Lib.hid (show TextsAt w3.drew (.slice (some ⟨og, 0, none⟩) q q) out from TT.out)
                (simp only [pickOps, List.map_cons, List.map_nil, List.getD_cons_succ, List.getD_cons_zero]; go_wp2_with fail)
                refine ⟨Below.mono (ext_alloc1 w3.drew (.cells #[.string ⟨vo.toArray⟩] 9)) XD.out.size, ?_⟩
                have E1 := Lib.hid (XD.out.trans (ext_alloc1 w3.drew (.cells #[.string ⟨vo.toArray⟩] 9)))
                have CS := Lib.hid (show (w3.drew.alloc (.cells #[.string ⟨vo.toArray⟩] 9)).heap[w3.heap.size]? = some (.cells #[.string ⟨vo.toArray⟩] 9) from by have := heap_alloc_new w3.drew (.cells #[.string ⟨vo.toArray⟩] 9); simpa using this)
                (rw [wpTzR_one]; simp only [pickOps, List.map_cons, List.map_nil, List.getD_cons_succ, List.getD_cons_zero]; go_wp2_with fail)
                refine ⟨Below.mono (ext_alloc1 (w3.drew.alloc (.cells #[.string ⟨vo.toArray⟩] 9)) (.cells #[] 9)) E1.out.size, ?_⟩
                have E2 := Lib.hid (E1.out.trans (ext_alloc1 (w3.drew.alloc (.cells #[.string ⟨vo.toArray⟩] 9)) (.cells #[] 9)))
                have CS := Lib.hid ((ext_alloc1 (w3.drew.alloc (.cells #[.string ⟨vo.toArray⟩] 9)) (.cells #[] 9)).heap CS.out)
                have LE := Lib.hid (show SRow ((w3.drew.alloc (.cells #[.string ⟨vo.toArray⟩] 9)).alloc (.cells #[] 9)) w3.drew.heap.size (.slice (some ⟨(w3.heap.size + 1), 0, none⟩) 0 0) [] from by have h : SRow ((w3.drew.alloc (.cells #[.string ⟨vo.toArray⟩] 9)).alloc (.cells #[] 9)) w3.drew.heap.size (.slice (some ⟨(w3.drew.alloc (.cells #[.string ⟨vo.toArray⟩] 9)).heap.size, 0, none⟩) 0 0) [] := World.ownsRow_made (w3.drew.alloc (.cells #[.string ⟨vo.toArray⟩] 9)) #[] 0 E1.out.size (by unfold maxLen; omega) rfl; simpa using h)
                (rw [wpTzR_one]; simp only [pickOps, List.map_cons, List.map_nil, List.getD_cons_succ, List.getD_cons_zero]; go_wp2_with (at_builtin; refine wpList_appT (W0 := w3.drew) rfl _ _ rfl (.slice (some ⟨(w3.heap.size + 1), 0, none⟩) 0 0) (.slice (some ⟨og, 0, none⟩) q q) [] (out.take q) E2.out LE.out ((TextsAt.ext TD.out E2.out).takeT R.out.2.1 (Nat.le_refl _)) rfl rfl (by have := R.out.2.1; simp; omega) ?_; intro v4 w4 r4 e4 b4 x4; refine stop_of ?_))
                unfold Stop
                go_wp2_with fail
                refine ⟨b4, ?_⟩
                have R4 := Lib.hid r4; have E9 := Lib.hid e4
                have CS := Lib.hid (x4.heap CS.out (by simp [Value.ownBlock]))
                clear r4 e4 b4 x4
                (rw [wpTzR_one]; simp only [pickOps, List.map_cons, List.map_nil, List.getD_cons_succ, List.getD_cons_zero]; go_wp2_with (at_builtin; refine wpList_appT (W0 := w3.drew) rfl _ _ rfl v4 (.slice (some ⟨w3.heap.size, 0, none⟩) 1 1) ([] ++ out.take q) [vo] E9.out R4.out (src1 CS.out) rfl rfl (by have := R.out.2.1; simp; omega) ?_; intro v5 w5 r5 e5 b5 x5; refine stop_of ?_))
                unfold Stop
                go_wp2_with fail
                refine ⟨b5, ?_⟩
                have R5 := Lib.hid r5; have E10 := Lib.hid e5
                clear r5 e5 b5 x5
                (rw [wpTzR_one]; simp only [pickOps, List.map_cons, List.map_nil, List.getD_cons_succ, List.getD_cons_zero]; go_wp2_with (at_builtin; refine wpList_appT (W0 := w3.drew) rfl _ _ rfl v5 _ ([] ++ out.take q ++ [vo]) (out.drop q) E10.out R5.out (TextsAt.dropA R.out.2.1) rfl rfl (by have := R.out.2.1; simp; omega) ?_; intro v6 w6 r6 e6 b6 x6; refine stop_of ?_))
                unfold Stop
                have hl6 : ([] ++ out.take q ++ [vo] ++ out.drop q).length = q + 1 := by have := R.out.2.1; simp; omega
                obtain ⟨og2, oc2, rfl⟩ := own_some r6 hl6
                go_wp2_with fail
                refine ⟨b6, ?_⟩
                have R2 := Lib.hid (show ([] ++ out.take q ++ [vo] ++ out.drop q) = objsR (vs.take (j + 1)) ∧ q + 1 = ([] ++ out.take q ++ [vo] ++ out.drop q).length ∧ Ext w w6 ∧ SRow w6 w.heap.size (.slice (some ⟨og2, 0, none⟩) (q + 1) oc2) ([] ++ out.take q ++ [vo] ++ out.drop q) from ⟨by rw [HIN.out]; rfl, hl6.symm, E3.out.trans ((Ext.drew (Ext.refl w3)).trans e6), ownsRow_base r6 hs0.out⟩)
                clear r6 e6 b6 x6 hl6
                (rw [wpTzR_pure]; simp only [pickOps, List.map_cons, List.map_nil, List.getD_cons_succ, List.getD_cons_zero]; (repeat (go_big_quiet_step (fail))); refine wpQuiet_nil ?_)
                rw [wpTzR_done]
                go_wp2_with fail
                go_wp2
                go_roundw
                case rel => exact ⟨j + 1, og2, oc2, q + 1, _, by omega, by omega, by go_num, rfl, R2⟩
                case measure => simp [RowKit.intOf]; omega
            · go_wp2_with fail
              have XD := Lib.hid (show Ext w3.drew w3.drew from Ext.refl _)
              have G0 : ∀ y : GrowR (keepLow w3.heap.size) w3.drew, y.v.cell? ⟨x, 0, none⟩ = some (.slice (some ⟨ab, 0, none⟩) nv c) := fun y => (y.low rfl).cell D0.out
              have G1 : ∀ y : GrowR (keepLow w3.heap.size) w3.drew, y.v.cell? ⟨ab, j, none⟩ = some (.pointer (some ⟨p, 0, none⟩)) := fun y => (y.low rfl).cell D1.out
              have G2 : ∀ y : GrowR (keepLow w3.heap.size) w3.drew, y.v.cell? ⟨p, 0, none⟩ = some (.string ⟨vo.toArray⟩) := fun y => (y.low rfl).cell D2.out
              refine wp_region_trzR (keepLow w3.heap.size) [] [] (.pure [1, 2, 3, 5, 6, 7, 8, 9, 10, 11, 12, 13, 14, 17, 18, 19] (.fork 0 (.fork 4 (.one 15 (.one 16 (.one 20 (.pure [21] (.done))))) 15 (.one 4 (.one 16 (.one 20 (.pure [21] (.done)))))) 15 (.one 0 (.one 4 (.one 16 (.one 20 (.pure [21] (.done)))))))) (by kernel_rfl) (by kernel_rfl) (fun c a d v w h => by cases d <;> exact h) ?_
              (simp only [pickOps, List.map_cons, List.map_nil, List.getD_cons_succ, List.getD_cons_zero]; refine wpQuiet_nil ?_)
              (rw [wpTzR_pure]; simp only [pickOps, List.map_cons, List.map_nil, List.getD_cons_succ, List.getD_cons_zero]; (repeat (go_big_quiet_step (fail))); refine wpQuiet_nil ?_)
              clear G0 G1 G2
              rw [wpTzR_fork]
              refine ⟨?_, ?_⟩
              · have hs0 := Lib.hid (show w.heap.size ≤ w3.drew.heap.size from E3.out.size)
                have TD := Lib.hid (show TextsAt w3.drew (.slice (some ⟨og, 0, none⟩) q oc) out from TT.out)
                (simp only [pickOps, List.map_cons, List.map_nil, List.getD_cons_succ, List.getD_cons_zero]; go_wp2_with fail)
                refine ⟨Below.mono (ext_alloc1 w3.drew (.cells #[] 9)) XD.out.size, ?_⟩
                have E1 := Lib.hid (XD.out.trans (ext_alloc1 w3.drew (.cells #[] 9)))
                have LE := Lib.hid (show SRow (w3.drew.alloc (.cells #[] 9)) w3.drew.heap.size (.slice (some ⟨w3.heap.size, 0, none⟩) 0 0) [] from by have h : SRow (w3.drew.alloc (.cells #[] 9)) w3.drew.heap.size (.slice (some ⟨w3.drew.heap.size, 0, none⟩) 0 0) [] := World.ownsRow_made w3.drew #[] 0 XD.out.size (by unfold maxLen; omega) rfl; simpa using h)
                rw [wpTzR_fork]
                refine ⟨?_, ?_⟩
                · (simp only [pickOps, List.map_cons, List.map_nil, List.getD_cons_succ, List.getD_cons_zero]; go_wp2_with (at_builtin; refine wpList_appT (W0 := w3.drew) rfl _ _ rfl (.slice (some ⟨w3.heap.size, 0, none⟩) 0 0) (.slice (some ⟨og, 0, none⟩) q oc) [] (out.take q) E1.out LE.out ((TextsAt.ext TD.out E1.out).takeT R.out.2.1 (Nat.le_refl _)) rfl rfl (by have := R.out.2.1; simp; omega) ?_; intro v4 w4 r4 e4 b4 x4; refine stop_of ?_))
                  unfold Stop
                  go_wp2_with fail
                  refine ⟨b4, ?_⟩
                  have R4 := Lib.hid r4; have E9 := Lib.hid e4
                  clear r4 e4 b4 x4
                  (rw [wpTzR_one]; simp only [pickOps, List.map_cons, List.map_nil, List.getD_cons_succ, List.getD_cons_zero]; go_wp2_with fail)
                  refine ⟨Below.mono (ext_alloc1 w4 (.cells #[.string ⟨vo.toArray⟩] 9)) E9.out.size, ?_⟩
                  have CS := Lib.hid (show (w4.alloc (.cells #[.string ⟨vo.toArray⟩] 9)).heap[w4.heap.size]? = some (.cells #[.string ⟨vo.toArray⟩] 9) from heap_alloc_new w4 (.cells #[.string ⟨vo.toArray⟩] 9))
                  have R4 := Lib.hid (show SRow (w4.alloc (.cells #[.string ⟨vo.toArray⟩] 9)) w3.drew.heap.size v4 ([] ++ out.take q) from ownsRow_below R4.out (ext_alloc1 w4 (.cells #[.string ⟨vo.toArray⟩] 9)))
                  have E9 := Lib.hid (E9.out.trans (ext_alloc1 w4 (.cells #[.string ⟨vo.toArray⟩] 9)))
                  (rw [wpTzR_one]; simp only [pickOps, List.map_cons, List.map_nil, List.getD_cons_succ, List.getD_cons_zero]; go_wp2_with (at_builtin; refine wpList_appT (W0 := w3.drew) rfl _ _ rfl v4 (.slice (some ⟨w4.heap.size, 0, none⟩) 1 1) ([] ++ out.take q) [vo] E9.out R4.out (src1 CS.out) rfl rfl (by have := R.out.2.1; simp; omega) ?_; intro v5 w5 r5 e5 b5 x5; refine stop_of ?_))
                  unfold Stop
                  go_wp2_with fail
                  refine ⟨b5, ?_⟩
                  have R5 := Lib.hid r5; have E10 := Lib.hid e5
                  clear r5 e5 b5 x5
                  (rw [wpTzR_one]; simp only [pickOps, List.map_cons, List.map_nil, List.getD_cons_succ, List.getD_cons_zero]; go_wp2_with (at_builtin; refine wpList_appT (W0 := w3.drew) rfl _ _ rfl v5 _ ([] ++ out.take q ++ [vo]) (out.drop q) E10.out R5.out (TextsAt.dropA R.out.2.1) rfl rfl (by have := R.out.2.1; simp; omega) ?_; intro v6 w6 r6 e6 b6 x6; refine stop_of ?_))
                  unfold Stop
                  have hl6 : ([] ++ out.take q ++ [vo] ++ out.drop q).length = q + 1 := by have := R.out.2.1; simp; omega
                  obtain ⟨og2, oc2, rfl⟩ := own_some r6 hl6
                  go_wp2_with fail
                  refine ⟨b6, ?_⟩
                  have R2 := Lib.hid (show ([] ++ out.take q ++ [vo] ++ out.drop q) = objsR (vs.take (j + 1)) ∧ q + 1 = ([] ++ out.take q ++ [vo] ++ out.drop q).length ∧ Ext w w6 ∧ SRow w6 w.heap.size (.slice (some ⟨og2, 0, none⟩) (q + 1) oc2) ([] ++ out.take q ++ [vo] ++ out.drop q) from ⟨by rw [HIN.out]; rfl, hl6.symm, E3.out.trans ((Ext.drew (Ext.refl w3)).trans e6), ownsRow_base r6 hs0.out⟩)
                  clear r6 e6 b6 x6 hl6
                  (rw [wpTzR_pure]; simp only [pickOps, List.map_cons, List.map_nil, List.getD_cons_succ, List.getD_cons_zero]; (repeat (go_big_quiet_step (fail))); refine wpQuiet_nil ?_)
                  rw [wpTzR_done]
                  go_wp2_with fail
                  go_wp2
                  go_roundw
                  case rel => exact ⟨j + 1, og2, oc2, q + 1, _, by omega, by omega, by go_num, rfl, R2⟩
                  case measure => simp [RowKit.intOf]; omega
                · (simp only [pickOps, List.map_cons, List.map_nil, List.getD_cons_succ, List.getD_cons_zero]; go_wp2_with fail)
                  refine ⟨Below.mono (ext_alloc1 (w3.drew.alloc (.cells #[] 9)) (.cells #[.string ⟨vo.toArray⟩] 9)) E1.out.size, ?_⟩
                  have E2 := Lib.hid (E1.out.trans (ext_alloc1 (w3.drew.alloc (.cells #[] 9)) (.cells #[.string ⟨vo.toArray⟩] 9)))
                  have LE := Lib.hid (show SRow ((w3.drew.alloc (.cells #[] 9)).alloc (.cells #[.string ⟨vo.toArray⟩] 9)) w3.drew.heap.size (.slice (some ⟨w3.heap.size, 0, none⟩) 0 0) [] from ownsRow_below LE.out (ext_alloc1 (w3.drew.alloc (.cells #[] 9)) (.cells #[.string ⟨vo.toArray⟩] 9)))
                  have CS := Lib.hid (show ((w3.drew.alloc (.cells #[] 9)).alloc (.cells #[.string ⟨vo.toArray⟩] 9)).heap[(w3.heap.size + 1)]? = some (.cells #[.string ⟨vo.toArray⟩] 9) from by have := heap_alloc_new (w3.drew.alloc (.cells #[] 9)) (.cells #[.string ⟨vo.toArray⟩] 9); simpa using this)
                  (rw [wpTzR_one]; simp only [pickOps, List.map_cons, List.map_nil, List.getD_cons_succ, List.getD_cons_zero]; go_wp2_with (at_builtin; refine wpList_appT (W0 := w3.drew) rfl _ _ rfl (.slice (some ⟨w3.heap.size, 0, none⟩) 0 0) (.slice (some ⟨og, 0, none⟩) q oc) [] (out.take q) E2.out LE.out ((TextsAt.ext TD.out E2.out).takeT R.out.2.1 (Nat.le_refl _)) rfl rfl (by have := R.out.2.1; simp; omega) ?_; intro v4 w4 r4 e4 b4 x4; refine stop_of ?_))
                  unfold Stop
                  go_wp2_with fail
                  refine ⟨b4, ?_⟩
                  have R4 := Lib.hid r4; have E9 := Lib.hid e4
                  have CS := Lib.hid (x4.heap CS.out (by simp [Value.ownBlock]))
                  clear r4 e4 b4 x4
                  (rw [wpTzR_one]; simp only [pickOps, List.map_cons, List.map_nil, List.getD_cons_succ, List.getD_cons_zero]; go_wp2_with (at_builtin; refine wpList_appT (W0 := w3.drew) rfl _ _ rfl v4 (.slice (some ⟨(w3.heap.size + 1), 0, none⟩) 1 1) ([] ++ out.take q) [vo] E9.out R4.out (src1 CS.out) rfl rfl (by have := R.out.2.1; simp; omega) ?_; intro v5 w5 r5 e5 b5 x5; refine stop_of ?_))
                  unfold Stop
                  go_wp2_with fail
                  refine ⟨b5, ?_⟩
                  have R5 := Lib.hid r5; have E10 := Lib.hid e5
                  clear r5 e5 b5 x5
                  (rw [wpTzR_one]; simp only [pickOps, List.map_cons, List.map_nil, List.getD_cons_succ, List.getD_cons_zero]; go_wp2_with (at_builtin; refine wpList_appT (W0 := w3.drew) rfl _ _ rfl v5 _ ([] ++ out.take q ++ [vo]) (out.drop q) E10.out R5.out (TextsAt.dropA R.out.2.1) rfl rfl (by have := R.out.2.1; simp; omega) ?_; intro v6 w6 r6 e6 b6 x6; refine stop_of ?_))
                  unfold Stop
                  have hl6 : ([] ++ out.take q ++ [vo] ++ out.drop q).length = q + 1 := by have := R.out.2.1; simp; omega
                  obtain ⟨og2, oc2, rfl⟩ := own_some r6 hl6
                  go_wp2_with fail
                  refine ⟨b6, ?_⟩
                  have R2 := Lib.hid (show ([] ++ out.take q ++ [vo] ++ out.drop q) = objsR (vs.take (j + 1)) ∧ q + 1 = ([] ++ out.take q ++ [vo] ++ out.drop q).length ∧ Ext w w6 ∧ SRow w6 w.heap.size (.slice (some ⟨og2, 0, none⟩) (q + 1) oc2) ([] ++ out.take q ++ [vo] ++ out.drop q) from ⟨by rw [HIN.out]; rfl, hl6.symm, E3.out.trans ((Ext.drew (Ext.refl w3)).trans e6), ownsRow_base r6 hs0.out⟩)
                  clear r6 e6 b6 x6 hl6
                  (rw [wpTzR_pure]; simp only [pickOps, List.map_cons, List.map_nil, List.getD_cons_succ, List.getD_cons_zero]; (repeat (go_big_quiet_step (fail))); refine wpQuiet_nil ?_)
                  rw [wpTzR_done]
                  go_wp2_with fail
                  go_wp2
                  go_roundw
                  case rel => exact ⟨j + 1, og2, oc2, q + 1, _, by omega, by omega, by go_num, rfl, R2⟩
                  case measure => simp [RowKit.intOf]; omega
              · have hs0 := Lib.hid (show w.heap.size ≤ w3.drew.heap.size from E3.out.size)
                have TD := Lib.hid (show TextsAt w3.drew (.slice (some ⟨og, 0, none⟩) q oc) out from TT.out)
                (simp only [pickOps, List.map_cons, List.map_nil, List.getD_cons_succ, List.getD_cons_zero]; go_wp2_with fail)
                refine ⟨Below.mono (ext_alloc1 w3.drew (.cells #[.string ⟨vo.toArray⟩] 9)) XD.out.size, ?_⟩
                have E1 := Lib.hid (XD.out.trans (ext_alloc1 w3.drew (.cells #[.string ⟨vo.toArray⟩] 9)))
                have CS := Lib.hid (show (w3.drew.alloc (.cells #[.string ⟨vo.toArray⟩] 9)).heap[w3.heap.size]? = some (.cells #[.string ⟨vo.toArray⟩] 9) from by have := heap_alloc_new w3.drew (.cells #[.string ⟨vo.toArray⟩] 9); simpa using this)
                (rw [wpTzR_one]; simp only [pickOps, List.map_cons, List.map_nil, List.getD_cons_succ, List.getD_cons_zero]; go_wp2_with fail)
                refine ⟨Below.mono (ext_alloc1 (w3.drew.alloc (.cells #[.string ⟨vo.toArray⟩] 9)) (.cells #[] 9)) E1.out.size, ?_⟩
                have E2 := Lib.hid (E1.out.trans (ext_alloc1 (w3.drew.alloc (.cells #[.string ⟨vo.toArray⟩] 9)) (.cells #[] 9)))
                have CS := Lib.hid ((ext_alloc1 (w3.drew.alloc (.cells #[.string ⟨vo.toArray⟩] 9)) (.cells #[] 9)).heap CS.out)
                have LE := Lib.hid (show SRow ((w3.drew.alloc (.cells #[.string ⟨vo.toArray⟩] 9)).alloc (.cells #[] 9)) w3.drew.heap.size (.slice (some ⟨(w3.heap.size + 1), 0, none⟩) 0 0) [] from by have h : SRow ((w3.drew.alloc (.cells #[.string ⟨vo.toArray⟩] 9)).alloc (.cells #[] 9)) w3.drew.heap.size (.slice (some ⟨(w3.drew.alloc (.cells #[.string ⟨vo.toArray⟩] 9)).heap.size, 0, none⟩) 0 0) [] := World.ownsRow_made (w3.drew.alloc (.cells #[.string ⟨vo.toArray⟩] 9)) #[] 0 E1.out.size (by unfold maxLen; omega) rfl; simpa using h)
                (rw [wpTzR_one]; simp only [pickOps, List.map_cons, List.map_nil, List.getD_cons_succ, List.getD_cons_zero]; go_wp2_with (at_builtin; refine wpList_appT (W0 := w3.drew) rfl _ _ rfl (.slice (some ⟨(w3.heap.size + 1), 0, none⟩) 0 0) (.slice (some ⟨og, 0, none⟩) q oc) [] (out.take q) E2.out LE.out ((TextsAt.ext TD.out E2.out).takeT R.out.2.1 (Nat.le_refl _)) rfl rfl (by have := R.out.2.1; simp; omega) ?_; intro v4 w4 r4 e4 b4 x4; refine stop_of ?_))
                unfold Stop
                go_wp2_with fail
                refine ⟨b4, ?_⟩
                have R4 := Lib.hid r4; have E9 := Lib.hid e4
                have CS := Lib.hid (x4.heap CS.out (by simp [Value.ownBlock]))
                clear r4 e4 b4 x4
                (rw [wpTzR_one]; simp only [pickOps, List.map_cons, List.map_nil, List.getD_cons_succ, List.getD_cons_zero]; go_wp2_with (at_builtin; refine wpList_appT (W0 := w3.drew) rfl _ _ rfl v4 (.slice (some ⟨w3.heap.size, 0, none⟩) 1 1) ([] ++ out.take q) [vo] E9.out R4.out (src1 CS.out) rfl rfl (by have := R.out.2.1; simp; omega) ?_; intro v5 w5 r5 e5 b5 x5; refine stop_of ?_))
                unfold Stop
                go_wp2_with fail
                refine ⟨b5, ?_⟩
                have R5 := Lib.hid r5; have E10 := Lib.hid e5
                clear r5 e5 b5 x5
                (rw [wpTzR_one]; simp only [pickOps, List.map_cons, List.map_nil, List.getD_cons_succ, List.getD_cons_zero]; go_wp2_with (at_builtin; refine wpList_appT (W0 := w3.drew) rfl _ _ rfl v5 _ ([] ++ out.take q ++ [vo]) (out.drop q) E10.out R5.out (TextsAt.dropA R.out.2.1) rfl rfl (by have := R.out.2.1; simp; omega) ?_; intro v6 w6 r6 e6 b6 x6; refine stop_of ?_))
                unfold Stop
                have hl6 : ([] ++ out.take q ++ [vo] ++ out.drop q).length = q + 1 := by have := R.out.2.1; simp; omega
                obtain ⟨og2, oc2, rfl⟩ := own_some r6 hl6
                go_wp2_with fail
                refine ⟨b6, ?_⟩
                have R2 := Lib.hid (show ([] ++ out.take q ++ [vo] ++ out.drop q) = objsR (vs.take (j + 1)) ∧ q + 1 = ([] ++ out.take q ++ [vo] ++ out.drop q).length ∧ Ext w w6 ∧ SRow w6 w.heap.size (.slice (some ⟨og2, 0, none⟩) (q + 1) oc2) ([] ++ out.take q ++ [vo] ++ out.drop q) from ⟨by rw [HIN.out]; rfl, hl6.symm, E3.out.trans ((Ext.drew (Ext.refl w3)).trans e6), ownsRow_base r6 hs0.out⟩)
                clear r6 e6 b6 x6 hl6
                (rw [wpTzR_pure]; simp only [pickOps, List.map_cons, List.map_nil, List.getD_cons_succ, List.getD_cons_zero]; (repeat (go_big_quiet_step (fail))); refine wpQuiet_nil ?_)
                rw [wpTzR_done]
                go_wp2_with fail
                go_wp2
                go_roundw
                case rel => exact ⟨j + 1, og2, oc2, q + 1, _, by omega, by omega, by go_num, rfl, R2⟩
                case measure => simp [RowKit.intOf]; omega
    · have HO := Lib.hid (show out = objsR vs from by rw [R.out.1, List.take_of_length_le (by rw [← HNV.out]; omega)])
      go_wp2
      go_ret
      refine ⟨_, rfl, ?_, R.out.2.2.1⟩
      have := R.out.2.2.2
      rw [HO.out] at this
      have e := R.out.2.1
      rw [HO.out] at e
      exact this
end
end Go.Proofs.Ytpangoddbfiagaa
/- What Sets and Asks share: the objects of both sides. -/
namespace Go.Proofs.Ytpangoddbfiagaa
open Go.RowKit Go.Maps Go.ChangeMaps
set_option linter.unusedVariables false
set_option linter.unusedSimpArgs false

/-- Two cells and a block stay. -/
def keepC (p q : Addr) (a : Nat) : Keep := ⟨fun w w' => (∀ v, w.cell? p = some v → w'.cell? p = some v) ∧ (∀ v, w.cell? q = some v → w'.cell? q = some v) ∧ (∀ o, w.heap[a]? = some o → w'.heap[a]? = some o), fun w => ⟨fun _ h => h, fun _ h => h, fun _ h => h⟩, fun a b c h k => ⟨fun v e => k.1 v (h.1 v e), fun v e => k.2.1 v (h.2.1 v e), fun v e => k.2.2 v (h.2.2 v e)⟩⟩
theorem keepC_ext {p q : Addr} {a : Nat} {w w' : World} (x : Ext w w') : (keepC p q a).r w w' := ⟨fun _ h => x.cell h, fun _ h => x.cell h, fun _ h => x.heap h⟩
section
variable {w w' : World} {x B : Nat} {own own' : Nat → Prop} {vs : List Vn} {ss : List Sn} {sa va : List Nat} {gs : List Rg} {A : Option Addr} {c : Nat} {X : List Nat}
set_option maxRecDepth 100000 in
set_option maxHeartbeats 2000000 in
theorem rmeta_row (hI : RI w x B own vs ss sa) {o : Bs} (ho : o.length ≤ 1000000) : Calls Try.prog 27 #[.pointer (some ⟨x, 0, none⟩), .string ⟨o.toArray⟩] w fun e w' => ∃ kv, e = .returned (.tuple #[metaV (metaA vs o).1 kv, .bool (metaA vs o).2]) ∧ SRow w' B kv (metaA vs o).1.keys ∧ Ext w w' := by
  obtain ⟨gs, A, c, h⟩ := hI
  cases hn : nowI vs o with
  | none =>
    have em : metaA vs o = (zeroM, false) := by simp [metaA, hn]
    rw [em]
    have HNOW := Lib.hid fun W (y : Ext w W) => (by have h1 := rnow_any (h.ext y) ho; rw [hn, rp_none] at h1; exact h1 : Calls Try.prog 54 #[.pointer (some ⟨x, 0, none⟩), .string ⟨o.toArray⟩] W fun e w' => e = .returned (.pointer none) ∧ W = w')
    clear h hn em
    go_enter Try.func27, Try.ntmps27
    go_wp2_with (refine wpList_new 38 _ zero38 rfl rfl ?_; intro W1 x1 n1 s1; refine stop_of ?_)
    unfold Stop
    have X1 := Lib.hid x1; have N1 := Lib.hid n1
    clear x1 n1
    go_wp2_with (first | (go_at_call 54; refine (HNOW.out _ X1.out).mono ?_; rintro e w2 ⟨rfl, rfl⟩) | (refine wpList_put 38 rfl _ _ rfl _ 0 38 _ (metaC zeroM (.slice none 0 0)).toArray (metaC zeroM (.slice none 0 0)) _ N1.out rfl rfl rfl (by simp [metaC]) rfl size38 (by kernel_rfl) ?_; intro W3 x3 n3 s3; refine stop_of ?_))
    unfold Stop
    have X3 := Lib.hid (X1.out.thenB x3 (by simp)); have N3 := Lib.hid n3
    clear x3 n3
    go_wp2
    exact bodyPost_ret (results_row_tmp rfl _ _ w.heap.size 38 _ (0, 0) _ _ rfl rfl N3.out rfl Try.underlying38 size38) rfl ⟨.slice none 0 0, rfl, World.ownsRow_nil _ _ _ _, X3.out⟩
  | some i =>
    obtain ⟨v, hv, _, _⟩ := nowI_some hn
    obtain ⟨g, hg, hok⟩ := h.vers.get hv
    have em : metaA vs o = (nowM v, true) := by simp [metaA, hn, hv]
    rw [em]
    have HNOW := Lib.hid fun W (y : Ext w W) => (by have h1 := rnow_any (h.ext y) ho; rw [hn, rp_some hg] at h1; exact h1 : Calls Try.prog 54 #[.pointer (some ⟨x, 0, none⟩), .string ⟨o.toArray⟩] W fun e w' => e = .returned (.pointer (some ⟨g.b, 0, none⟩)) ∧ W = w')
    obtain ⟨m, hm⟩ : ∃ m, m = nowM v := ⟨_, rfl⟩
    have HBLK := Lib.hid hok.blk; have HKT := Lib.hid hok.keys
    have hkm : v.m.keys = m.keys := by rw [hm]; rfl
    rw [hkm] at HKT
    obtain ⟨KA, KC, hkv⟩ : ∃ KA KC, g.kv = .slice KA m.keys.length KC := own_slice HKT.out
    rw [hkv] at HBLK HKT
    rw [← hm] at HBLK ⊢
    obtain ⟨q, hq⟩ : ∃ q, q = g.b := ⟨_, rfl⟩
    rw [← hq] at HNOW HBLK
    clear h hn em hok hv hg hq hkm hkv hm
    go_enter Try.func27, Try.ntmps27
    go_wp2_with (refine wpList_new 38 _ zero38 rfl rfl ?_; intro W1 x1 n1 s1; refine stop_of ?_)
    unfold Stop
    have X1 := Lib.hid x1; have N1 := Lib.hid n1
    have B1 := Lib.hid (x1.heap HBLK.out)
    clear x1 n1
    go_wp2_with (first | (go_at_call 54; refine (HNOW.out _ X1.out).mono ?_; rintro e w2 ⟨rfl, rfl⟩) | (refine wpList_get 38 _ rfl _ rfl q 1 110 _ ([.string ⟨m.tt.toArray⟩, .bool m.tw, .int .i64 m.mod, .int .i64 m.len, .int .i64 m.hav, .int .i64 m.fr, .int .i64 m.wh, .int .i64 m.er, .slice KA m.keys.length KC, .string ⟨m.ten.toArray⟩, .bool m.keep]) B1.out rfl (by kernel_rfl) Try.underlying38 rfl size38 ?_) | (refine wpList_put 38 rfl _ _ rfl _ 0 38 _ ([.string ⟨m.tt.toArray⟩, .bool m.tw, .int .i64 m.mod, .int .i64 m.len, .int .i64 m.hav, .int .i64 m.fr, .int .i64 m.wh, .int .i64 m.er, .slice KA m.keys.length KC, .string ⟨m.ten.toArray⟩, .bool m.keep]).toArray ([.string ⟨m.tt.toArray⟩, .bool m.tw, .int .i64 m.mod, .int .i64 m.len, .int .i64 m.hav, .int .i64 m.fr, .int .i64 m.wh, .int .i64 m.er, .slice KA m.keys.length KC, .string ⟨m.ten.toArray⟩, .bool m.keep]) _ N1.out rfl rfl rfl (by simp) rfl size38 (by kernel_rfl) ?_; intro W3 x3 n3 s3; refine stop_of ?_))
    unfold Stop
    have X3 := Lib.hid (X1.out.thenB x3 (by simp)); have N3 := Lib.hid n3
    clear x3 n3
    go_wp2
    exact bodyPost_ret (results_row_tmp rfl _ _ w.heap.size 38 _ (0, 0) _ _ rfl rfl N3.out rfl Try.underlying38 size38) rfl ⟨.slice KA m.keys.length KC, rfl, ownsRow_below HKT.out X3.out, X3.out⟩
end
section
variable {w0 w w' : World} {pb b x k N : Nat} {Lx L : Nat → Prop} {vs us : List Vn} {ss ts : List Sn} {sa ra : List Nat} {hl : List (Value × Bs)} {SA RA : Option Addr} {sc rc : Nat}
theorem d_objs (h : Pl2 w0 w b x N L vs ss sa us ts ra hl) (hn : us.length ≤ 900000) : Calls Try.prog 26 #[.pointer (some ⟨x, 0, none⟩)] w fun e w' => ∃ v, e = .returned v ∧ SRow w' w.heap.size v (objsR us) ∧ Pl2 w0 w' b x N L vs ss sa us ts ra hl ∧ Ext w w' := by
  have h0 := h
  obtain ⟨rown, h1, h2, h3⟩ := h
  exact (robjects_any h2 hn).mono fun e w' ⟨v, q1, q2, q3⟩ => ⟨v, q1, q2, h0.ext q3, q3⟩
theorem d_meta_row (h : Pl2 w0 w b x N L vs ss sa us ts ra hl) {o : Bs} (ho : o.length ≤ 1000000) : Calls Try.prog 27 #[.pointer (some ⟨x, 0, none⟩), .string ⟨o.toArray⟩] w fun e w' => ∃ kv, e = .returned (.tuple #[metaV (metaA us o).1 kv, .bool (metaA us o).2]) ∧ SRow w' w0.heap.size kv (metaA us o).1.keys ∧ Ext w w' := by
  obtain ⟨rown, h1, h2, h3⟩ := h
  exact rmeta_row h2 ho
/-- Meta of both sides, in whatever world has grown out of this one. -/
theorem both_meta {w3 : World} (h : Pl2 w0 w3 b x N L vs ss sa vs ss ra hl) {o : Bs} (ho : o.length ≤ 1000000) {mm : MetaP} {mo : Bool} (hm : (mm, mo) = metaA vs o) {mk : Nat} (hk : mk = mm.keys.length) :
    (∀ W, Ext w3 W → Calls Try.prog 21 #[.pointer (some ⟨b, 0, none⟩), .string ⟨o.toArray⟩] W fun e w' => ∃ KA KC, e = .returned (.tuple #[metaV mm (.slice KA mk KC), .bool mo]) ∧ SRow w' 0 (.slice KA mk KC) mm.keys ∧ Ext W w') ∧
    (∀ W, Ext w3 W → Calls Try.prog 27 #[.pointer (some ⟨x, 0, none⟩), .string ⟨o.toArray⟩] W fun e w' => ∃ KA KC, e = .returned (.tuple #[metaV mm (.slice KA mk KC), .bool mo]) ∧ SRow w' 0 (.slice KA mk KC) mm.keys ∧ Ext W w') := by
  refine ⟨fun W xx => (p_meta (h.ext xx) ho).mono fun e w' ⟨kv, q1, q2, _, q3⟩ => ?_, fun W xx => (d_meta_row (h.ext xx) ho).mono fun e w' ⟨kv, q1, q2, q3⟩ => ?_⟩
  all_goals
    rw [← hm] at q1 q2
    obtain ⟨KA, KC, rfl⟩ := own_slice q2
    rw [← hk] at q1 q2
    exact ⟨KA, KC, q1, ownsRow_base q2 (Nat.zero_le _), q3⟩
theorem Pl2.one (h : Pl2 w0 w b x N L vs ss sa us ts ra hl) : One vs := by
  obtain ⟨rown, ⟨own, h1⟩, h2, h3⟩ := h
  obtain ⟨gs, mo, mh, H, K, h1⟩ := h1.oi
  exact h1.one
/-- Objects, of the program: the same names as the document's. -/
theorem p_objs_R (h : Pl2 w0 w b x N L vs ss sa us ts ra hl) (hN : N ≤ 900000) : Calls Try.prog 25 #[.pointer (some ⟨b, 0, none⟩)] w fun e w' => ∃ v, e = .returned v ∧ SRow w' w.heap.size v (objsR vs) ∧ Pl2 w0 w' b x N L vs ss sa us ts ra hl ∧ Ext w w' :=
  (p_objs h hN).mono fun e w' ⟨v, ns, q1, q2, q3, q4, q5, q6⟩ => ⟨v, q1, by
    have h1 := names_R h.one vs.length
    rw [List.take_length] at h1
    rw [names_same h1 q3]; exact q2, q5, q6⟩
theorem objsR_le (vs : List Vn) : (objsR vs).length ≤ vs.length := by
  have := objsR_len vs vs.length
  rwa [List.take_length] at this
theorem metaA_z (h : Pl2 w0 w b x N L vs ss sa us ts ra hl) (o : Bs) : (metaA vs o).1.keys.length ≤ 1000 := by
  unfold metaA
  split
  · simp [zeroM]
  · split
    · simp [zeroM]
    · rename_i v hv
      have := (h.verZ (List.mem_of_getElem? hv)).1.keys
      simp only [nowM]; omega
end
end Go.Proofs.Ytpangoddbfiagaa
