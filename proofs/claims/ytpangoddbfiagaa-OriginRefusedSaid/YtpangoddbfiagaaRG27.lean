import Derived.Test.YtpangoddbfiagaaRG01
import Derived.Test.YtpangoddbfiagaaRG14
import Derived.Sort.Walk0
import Derived.Test.YtpangoddbfiagaaRG22
import Derived.Test.YtpangoddbfiagaaRG26
namespace Go.Proofs.Ytpangoddbfiagaa
open Go.RowKit
def wpTzR (P : Program) (ops : Array Oper) (Q : Exit → Act → World → Prop) (R : Keep) : Tz → Act → World → Prop
 | .done, a, w => Q .normal a w
 | .pure ks t, a, w => wpQuiet P ops (InGrowR R w) (fun a' => wpTzR P ops Q R t a' w) (pickOps ops ks) a
 | .one k t, a, w => wpList P ops (Exit.then (fun a' w' => R.r w w' ∧ wpTzR P ops Q R t a' w') Q) (pickOps ops [k]) a w
 | .last k t, a, w => wpList P ops (Exit.then (fun a' w' => wpTzR P ops Q R t a' w') Q) (pickOps ops [k]) a w
 | .fork k1 t1 k2 t2, a, w => wpList P ops (Exit.then (fun a' w' => R.r w w' ∧ wpTzR P ops Q R t1 a' w') Q) (pickOps ops [k1]) a w ∧
   wpList P ops (Exit.then (fun a' w' => R.r w w' ∧ wpTzR P ops Q R t2 a' w') Q) (pickOps ops [k2]) a w
section
variable {P : Program} {ops : Array Oper} {Q : Exit → Act → World → Prop} {R : Keep} {zs ks : List Nat} {a : Act} {w : World} {k k1 k2 : Nat} {t t1 t2 : Tz}
theorem wpTzR_done : wpTzR P ops Q R .done a w = Q .normal a w := rfl
theorem wpTzR_pure : wpTzR P ops Q R (.pure ks t) a w = wpQuiet P ops (InGrowR R w) (fun a' => wpTzR P ops Q R t a' w) (pickOps ops ks) a := rfl
theorem wpTzR_one : wpTzR P ops Q R (.one k t) a w = wpList P ops (Exit.then (fun a' w' => R.r w w' ∧ wpTzR P ops Q R t a' w') Q) (pickOps ops [k]) a w := rfl
theorem wpTzR_last : wpTzR P ops Q R (.last k t) a w = wpList P ops (Exit.then (fun a' w' => wpTzR P ops Q R t a' w') Q) (pickOps ops [k]) a w := rfl
theorem wpTzR_fork : wpTzR P ops Q R (.fork k1 t1 k2 t2) a w = (wpList P ops (Exit.then (fun a' w' => R.r w w' ∧ wpTzR P ops Q R t1 a' w') Q) (pickOps ops [k1]) a w ∧
   wpList P ops (Exit.then (fun a' w' => R.r w w' ∧ wpTzR P ops Q R t2 a' w') Q) (pickOps ops [k2]) a w) := rfl
theorem tz_soundR (hsel : Region.noSelect ops = true) (hQ : ∀ c a d v w, Q (.panic c) (a.put d v) w → Q (.panic c) a w) :
  ∀ (t : Tz) (l : Array Bool) (a : Act) (w : World), Closed ops l → tzB ops zs t l = true → wpTzR P ops Q R t a w → wpAnyN P ops Q (R.r w) zs (tzLen t) l a w
 | .done, l, a, w, _, hB, h => wpAnyN_done (by simpa [tzB] using hB) h _
 | .pure ks t, l, a, w, hcl, hB, h => by
  simp only [tzB] at hB
  cases hp : pureB ops zs ks l with
  | none => rw [hp] at hB; cases hB
  | some l' =>
   rw [hp] at hB
   exact pure_soundR hsel hQ (tzLen t) ks l l' a hcl hp h fun a' hc' ha => tz_soundR hsel hQ t l' a' w hc' hB ha
 | .one k t, l, a, w, hcl, hB, h => by
  simp only [tzB, Bool.and_eq_true, decide_eq_true_eq] at hB
  have hk : k ∈ Region.ready .any ops l := by rw [hB.1.1]; simp
  obtain ⟨_, o, ho, _⟩ := mem_ready.1 hk
  rw [wpTzR_one, pick_of ho] at h
  refine ⟨fun h0 => (by rw [h0] at hk; cases hk), fun i hi => ?_⟩
  rw [hB.1.1] at hi
  obtain rfl : i = k := by simpa using hi
  exact wpOp_of_list ho h fun a' w' h' => .inr ⟨by simpa using hB.1.2, h'.1, wpAnyN_weaken (fun x hx => R.trans _ _ _ h'.1 hx) _ _ _ _ (tz_soundR hsel hQ t _ a' w' (hcl.set hk) hB.2 h'.2)⟩
 | .last k t, l, a, w, hcl, hB, h => by
  simp only [tzB, Bool.and_eq_true, decide_eq_true_eq] at hB
  obtain ⟨⟨hB1, hB3⟩, hB2⟩ := hB
  have hk : k ∈ Region.ready .any ops l := by rw [hB1]; simp
  obtain ⟨_, o, ho, _⟩ := mem_ready.1 hk
  rw [wpTzR_last, pick_of ho] at h
  refine ⟨fun h0 => (by rw [h0] at hk; cases hk), fun i hi => ?_⟩
  rw [hB1] at hi
  obtain rfl : i = k := by simpa using hi
  exact wpOp_of_list ho h fun a' w' h' => .inl ⟨hB3, wpAny_of_N _ _ _ _ (tz_soundR hsel hQ t _ a' w' (hcl.set hk) hB2 h')⟩
 | .fork k1 t1 k2 t2, l, a, w, hcl, hB, h => by
  simp only [tzB, Bool.and_eq_true, decide_eq_true_eq] at hB
  obtain ⟨⟨⟨⟨⟨hr, hlen⟩, hz1⟩, hz2⟩, hB1⟩, hB2⟩ := hB
  have hk1 : k1 ∈ Region.ready .any ops l := by rw [hr]; simp
  have hk2 : k2 ∈ Region.ready .any ops l := by rw [hr]; simp
  obtain ⟨_, o1, ho1, _⟩ := mem_ready.1 hk1
  obtain ⟨_, o2, ho2, _⟩ := mem_ready.1 hk2
  rw [wpTzR_fork, pick_of ho1, pick_of ho2] at h
  refine ⟨fun h0 => (by rw [h0] at hk1; cases hk1), fun i hi => ?_⟩
  rw [hr] at hi
  have hi' : i = k1 ∨ i = k2 := by simpa using hi
  rcases hi' with rfl | rfl
  ·exact wpOp_of_list ho1 h.1 fun a' w' h' => .inr ⟨by simpa using hz1, h'.1, wpAnyN_weaken (fun x hx => R.trans _ _ _ h'.1 hx) _ _ _ _ (tz_soundR hsel hQ t1 _ a' w' (hcl.set hk1) hB1 h'.2)⟩
  ·exact wpOp_of_list ho2 h.2 fun a' w' h' => .inr ⟨by simpa using hz2, h'.1, by rw [← hlen]; exact wpAnyN_weaken (fun x hx => R.trans _ _ _ h'.1 hx) _ _ _ _ (tz_soundR hsel hQ t2 _ a' w' (hcl.set hk2) hB2 h'.2)⟩
theorem wp_region_trzR {id : Nat} {l : List Oper} (R : Keep) (st zs : List Nat) (t : Tz) (hm : P.follows .mixedOrders = true)
  (hB : (Region.noSelect l.toArray && decide (st.length + tzLen t = l.length) && ((pureB l.toArray [] st (Array.replicate l.length false)).map fun l' => tzB l.toArray zs t l').getD false) = true)
  (hQ : ∀ c a d v w, Q (.panic c) (a.put d v) w → Q (.panic c) a w)
  (h : wpQuiet P l.toArray (fun _ => True) (fun a' => wpTzR P l.toArray Q R t a' w.drew) (pickOps l.toArray st) a) : (Code.region id l.toArray true).wp P Q a w := by
 simp only [Bool.and_eq_true, decide_eq_true_eq] at hB
 cases hp : pureB l.toArray [] st (Array.replicate l.length false) with
 | none => rw [hp] at hB; simp at hB
 | some l' =>
  rw [hp] at hB
  have := still_sound (w := w.drew) hB.1.1 hQ (tzLen t) st _ l' a (Closed.none _ _) hp h fun a' hc ha => wpAny_of_N _ _ _ _ (tz_soundR hB.1.1 hQ t l' a' w.drew hc (by simpa using hB.2) ha)
  rw [hB.1.2] at this
  refine wp_region_any hm ?_
  simpa using this
end
end Go.Proofs.Ytpangoddbfiagaa
namespace Go.Proofs.Ytpangoddbfiagaa
open Go.RowKit Go.Maps Go.ChangeMaps
set_option linter.unusedVariables false
set_option linter.unusedSimpArgs false
def insB (o : Bs) : List Bs → List Bs
 | [] => [o]
 | x :: xs => if Op.bytesLess x o = true then x :: insB o xs else o :: x :: xs
theorem insB_mem {o y : Bs} : ∀ (out : List Bs), y ∈ insB o out ↔ y = o ∨ y ∈ out
 | [] => by simp [insB]
 | x :: xs => by
  have ih := insB_mem (o := o) (y := y) xs
  unfold insB
  split
  ·simp only [List.mem_cons, ih]
   constructor
   ·rintro (h | h | h)
    ·exact .inr (.inl h)
    ·exact .inl h
    ·exact .inr (.inr h)
   ·rintro (h | h | h)
    ·exact .inr (.inl h)
    ·exact .inl h
    ·exact .inr (.inr h)
  ·simp only [List.mem_cons]
theorem insB_len {o : Bs} : ∀ (out : List Bs), (insB o out).length = out.length + 1
 | [] => rfl
 | x :: xs => by
  unfold insB
  split
  ·simp [insB_len xs]
  ·simp
theorem insB_nodup {o : Bs} : ∀ (out : List Bs), out.Nodup → o ∉ out → (insB o out).Nodup
 | [], _, _ => by simp [insB]
 | x :: xs, hn, ho => by
  rw [List.nodup_cons] at hn
  rw [List.mem_cons, not_or] at ho
  unfold insB
  split
  ·rw [List.nodup_cons, insB_mem]
   exact ⟨fun h => h.elim (fun e => ho.1 e.symm) hn.1, insB_nodup xs hn.2 ho.2⟩
  ·rw [List.nodup_cons, List.nodup_cons, List.mem_cons, not_or]
   exact ⟨ho, hn⟩
theorem bytes_lt {x y : Bs} : Op.bytesLess x y = true ↔ x < y := by rw [bytesLess_eq]; simp
theorem insB_sorted {o : Bs} : ∀ (out : List Bs), (out.Pairwise fun a b => a ≤ b) → ((insB o out).Pairwise fun a b => a ≤ b)
 | [], _ => by simp [insB]
 | x :: xs, h => by
  rw [List.pairwise_cons] at h
  unfold insB
  split
  ·rename_i hx
   rw [bytes_lt] at hx
   rw [List.pairwise_cons]
   refine ⟨fun y hy => ?_, insB_sorted xs h.2⟩
   rcases (insB_mem xs).1 hy with e | e
   ·rw [e]; exact List.le_of_lt hx
   ·exact h.1 y e
  ·rename_i hx
   rw [bytes_lt] at hx
   have hox : o ≤ x := List.not_lt.1 hx
   rw [List.pairwise_cons, List.pairwise_cons]
   refine ⟨fun y hy => ?_, h⟩
   rcases List.mem_cons.1 hy with e | e
   ·rw [e]; exact hox
   ·exact List.le_trans hox (h.1 y e)
def objsR (vs : List Vn) : List Bs := vs.foldl (fun out v => if v.went = true then out else insB v.obj out) []
theorem objsR_snoc (vs : List Vn) (v : Vn) : objsR (vs ++ [v]) = if v.went = true then objsR vs else insB v.obj (objsR vs) := by
 simp [objsR, List.foldl_append]
theorem objsR_len : ∀ (vs : List Vn) (j : Nat), (objsR (vs.take j)).length ≤ j
 | vs, 0 => by simp [objsR]
 | vs, j + 1 => by
  by_cases hj : j < vs.length
  ·rw [List.take_succ_eq_append_getElem hj, objsR_snoc]
   have := objsR_len vs j
   split
   ·omega
   ·rw [insB_len]; omega
  ·have := objsR_len vs j
   rw [List.take_of_length_le (by omega)] at this ⊢
   omega
theorem names_R {vs : List Vn} (h : One vs) : ∀ j, Names (vs.take j) (objsR (vs.take j))
 | 0 => ⟨by simp [objsR], by simp [objsR], fun o => by simp [objsR, liveB]⟩
 | j + 1 => by
  have ih := names_R h j
  by_cases hj : j < vs.length
  ·rw [List.take_succ_eq_append_getElem hj, objsR_snoc]
   have live : ∀ o, liveB (vs.take j ++ [vs[j]]) o ↔ liveB (vs.take j) o ∨ (vs[j].obj = o ∧ vs[j].went = false) := fun o => by
    unfold liveB
    constructor
    ·rintro ⟨v, hv, h1⟩
     rcases List.mem_append.1 hv with e | e
     ·exact .inl ⟨v, e, h1⟩
     ·rw [List.mem_singleton.1 e] at h1; exact .inr h1
    ·rintro (⟨v, hv, h1⟩ | h1)
     ·exact ⟨v, List.mem_append_left _ hv, h1⟩
     ·exact ⟨_, List.mem_append_right _ List.mem_cons_self, h1⟩
   cases hw : vs[j].went with
   | true =>
    rw [if_pos rfl]
    refine ⟨ih.1, ih.2.1, fun o => ?_⟩
    rw [live, ih.2.2, hw]; simp
   | false =>
    rw [if_neg (by decide)]
    have hno : vs[j].obj ∉ objsR (vs.take j) := fun hh => by
     obtain ⟨v, hv, h1, h2⟩ := (ih.2.2 _).1 hh
     obtain ⟨i, hi⟩ := List.mem_iff_getElem?.1 hv
     rw [List.getElem?_take] at hi
     split at hi
     ·rename_i hij
      have := h i j v vs[j] hi (by simp [hj]) h2 hw h1
      omega
     ·cases hi
    refine ⟨insB_nodup _ ih.1 hno, insB_sorted _ ih.2.1, fun o => ?_⟩
    rw [live, insB_mem, ih.2.2, hw]
    constructor
    ·rintro (e | e)
     ·exact .inr ⟨e.symm, rfl⟩
     ·exact .inl e
    ·rintro (e | e)
     ·exact .inr e
     ·exact .inl e.1.symm
  ·rw [List.take_of_length_le (by omega)] at ih ⊢
   exact ih
theorem names_same {vs : List Vn} {a b : List Bs} (h : Names vs a) (k : Names vs b) : a = b :=
 ((List.perm_ext_iff_of_nodup h.1 k.1).2 fun o => (h.2.2 o).trans (k.2.2 o).symm).eq_of_pairwise (fun x y _ _ h1 h2 => List.le_antisymm h1 h2) h.2.1 k.2.1
end Go.Proofs.Ytpangoddbfiagaa
namespace Go.Proofs.Ytpangoddbfiagaa
open Go.RowKit Go.Maps Go.ChangeMaps
set_option linter.unusedVariables false
set_option linter.unusedSimpArgs false
def keepLow (B : Nat) : Keep := ⟨fun a b => Below B a b, fun w => Below.refl _ _, fun _ _ _ h k => Below.trans h k⟩
theorem GrowR.low {B : Nat} {W : World} (y : GrowR (keepLow B) W) (hB : B = W.heap.size) : Ext W y.v := by
 subst hB; exact y.ext
section
variable {w w' : World} {x B : Nat} {own own' : Nat → Prop} {vs : List Vn} {ss : List Sn} {sa va : List Nat} {gs : List Rg} {A : Option Addr} {c : Nat} {X : List Nat}
end
end Go.Proofs.Ytpangoddbfiagaa
namespace Go.Proofs.Ytpangoddbfiagaa
open Go.RowKit Go.Maps Go.ChangeMaps
set_option linter.unusedVariables false
set_option linter.unusedSimpArgs false
section
variable {w w' : World} {x B : Nat} {own own' : Nat → Prop} {vs : List Vn} {ss : List Sn} {sa va : List Nat} {gs : List Rg} {A : Option Addr} {c : Nat} {X : List Nat}
end
section
variable {w0 w w' : World} {pb b x k N : Nat} {Lx L : Nat → Prop} {vs us : List Vn} {ss ts : List Sn} {sa ra : List Nat} {hl : List (Value × Bs)} {SA RA : Option Addr} {sc rc : Nat}
theorem Pl2.one (h : Pl2 w0 w b x N L vs ss sa us ts ra hl) : One vs := by
 obtain ⟨rown, ⟨own, h1⟩, h2, h3⟩ := h
 obtain ⟨gs, mo, mh, H, K, h1⟩ := h1.oi
 exact h1.one
theorem p_objs_R (h : Pl2 w0 w b x N L vs ss sa us ts ra hl) (hN : N ≤ 900000) : Calls Try.prog 25 #[.pointer (some ⟨b, 0, none⟩)] w fun e w' => ∃ v, e = .returned v ∧ SRow w' w.heap.size v (objsR vs) ∧ Pl2 w0 w' b x N L vs ss sa us ts ra hl ∧ Ext w w' :=
 (p_objs h hN).mono fun e w' ⟨v, ns, q1, q2, q3, q4, q5, q6⟩ => ⟨v, q1, by
  have h1 := names_R h.one vs.length
  rw [List.take_length] at h1
  rw [names_same h1 q3]; exact q2, q5, q6⟩
theorem objsR_le (vs : List Vn) : (objsR vs).length ≤ vs.length := by
 have := objsR_len vs vs.length
 rwa [List.take_length] at this
theorem metaA_z (h : Pl2 w0 w b x N L vs ss sa us ts ra hl) (o : Bs) : (metaA vs o).1.keys.length ≤ 1000 := by
 unfold metaA
 split
 ·simp [zeroM]
 ·split
  ·simp [zeroM]
  ·rename_i v hv
   have := (h.verZ (List.mem_of_getElem? hv)).1.keys
   simp only [nowM]; omega
end
end Go.Proofs.Ytpangoddbfiagaa
