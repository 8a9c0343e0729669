/- Sums by name: the plain law. -/
import Derived.Test.YtlddpdlebdjniaaNodesA
namespace Go.Proofs.Ytlddpdlebdjniaa
open Go.RowKit Go.Maps Go.ChangeMaps
set_option linter.unusedVariables false

def tot (adds : List (Bs × Int)) (u : Bs) : Int := (adds.map fun a => if a.1 = u then a.2 else 0).sum
theorem tot_cons (a : Bs × Int) (l : List (Bs × Int)) (u : Bs) : tot (a :: l) u = (if a.1 = u then a.2 else 0) + tot l u := by simp [tot]
theorem tot_nonneg (u : Bs) : ∀ l : List (Bs × Int), (∀ a ∈ l, 0 ≤ a.2) → 0 ≤ tot l u
  | [], _ => by simp [tot]
  | a :: l, h => by
    have h1 := tot_nonneg u l (fun b hb => h b (by simp [hb])); have h2 := h a (by simp)
    rw [tot_cons]; split <;> omega
theorem tot_mem (u : Bs) : ∀ l : List (Bs × Int), (∀ a ∈ l, 0 ≤ a.2) → ∀ a ∈ l, a.1 = u → a.2 ≤ tot l u
  | b :: l, h, a, ha, hu => by
    have h1 := tot_nonneg u l (fun b hb => h b (by simp [hb])); have h2 := h b (by simp)
    rw [tot_cons]
    rcases List.mem_cons.1 ha with rfl | ha
    · rw [if_pos hu]; omega
    · have := tot_mem u l (fun b hb => h b (by simp [hb])) a ha hu
      split <;> omega
theorem sum_add {α : Type} (f g : α → Int) : ∀ l : List α, (l.map fun x => f x + g x).sum = (l.map f).sum + (l.map g).sum
  | [] => by simp
  | x :: l => by
    have := sum_add f g l
    simp only [List.map_cons, List.sum_cons]; omega
theorem sum_one (t : Bs) (d : Int) : ∀ ts : List Bs, ts.Nodup → (ts.map fun u => if t = u then d else 0).sum = if t ∈ ts then d else 0
  | [], _ => by simp
  | x :: ts, h => by
    have h1 := sum_one t d ts (List.nodup_cons.1 h).2
    have h2 := (List.nodup_cons.1 h).1
    simp only [List.map_cons, List.sum_cons]
    rw [h1]
    by_cases hx : t = x
    · subst hx; simp [h2]
    · simp [hx]
theorem sum_keys (ts : List Bs) (h : ts.Nodup) : ∀ l : List (Bs × Int), (ts.map (tot l)).sum = (l.map fun a => if a.1 ∈ ts then a.2 else 0).sum
  | [] => by
    have : (ts.map (tot [])).sum = 0 := by
      clear h
      induction ts with
      | nil => simp
      | cons x ts ih => simp only [List.map_cons, List.sum_cons, ih]; simp [tot]
    simpa using this
  | a :: l => by
    have ih := sum_keys ts h l
    have e : tot (a :: l) = fun u => (if a.1 = u then a.2 else 0) + tot l u := by funext u; exact tot_cons a l u
    rw [e, sum_add, sum_one a.1 a.2 ts h, ih]
    simp
/-- M is what was added, name by name; v all of it. -/
def Adds (M : Bs → Int) (v : Int) : Prop := ∃ l : List (Bs × Int), (∀ a ∈ l, 0 ≤ a.2) ∧ (∀ u, M u = tot l u) ∧ (l.map (·.2)).sum = v
theorem Adds.zero : Adds (fun _ => 0) 0 := ⟨[], by simp, by simp [tot], by simp⟩
theorem Adds.step {M : Bs → Int} {v : Int} (h : Adds M v) (t : Bs) {d : Int} (hd : 0 ≤ d) : Adds (fun u => if u = t then M t + d else M u) (v + d) := by
  obtain ⟨l, h1, h2, h3⟩ := h
  refine ⟨(t, d) :: l, ?_, fun u => ?_, by simp [h3]; omega⟩
  · intro a ha
    rcases List.mem_cons.1 ha with rfl | ha
    · exact hd
    · exact h1 a ha
  · rw [tot_cons]
    by_cases hu : u = t
    · subst hu; simp [h2]; omega
    · show (if u = t then M t + d else M u) = (if t = u then d else 0) + tot l u
      rw [if_neg hu, if_neg (fun e => hu e.symm), h2]; omega
theorem Adds.nonneg {M : Bs → Int} {v : Int} (h : Adds M v) (u : Bs) : 0 ≤ M u := by
  obtain ⟨l, h1, h2, h3⟩ := h
  rw [h2]; exact tot_nonneg u l h1
theorem sum_if_all : ∀ (l : List (Bs × Int)) (ts : List Bs), (∀ a ∈ l, a.2 ≠ 0 → a.1 ∈ ts) → (l.map fun a => if a.1 ∈ ts then a.2 else 0).sum = (l.map (·.2)).sum
  | [], _, _ => by simp
  | a :: l, ts, h => by
    have ih := sum_if_all l ts (fun b hb => h b (by simp [hb]))
    simp only [List.map_cons, List.sum_cons]
    rw [ih]
    by_cases hz : a.2 = 0
    · simp [hz]
    · rw [if_pos (h a (by simp) hz)]
theorem Adds.sum {M : Bs → Int} {v : Int} (h : Adds M v) {ts : List Bs} (hn : ts.Nodup) (hm : ∀ t, t ∈ ts ↔ M t ≠ 0) : (ts.map M).sum = v := by
  obtain ⟨l, h1, h2, h3⟩ := h
  have e : M = tot l := funext h2
  rw [e, sum_keys ts hn, sum_if_all l ts, h3]
  intro a ha hz
  rw [hm, h2]
  have := tot_mem a.1 l h1 a ha rfl
  have := h1 a ha
  omega
theorem sum_take_le : ∀ (l : List Int) (k : Nat), (∀ x ∈ l, 0 ≤ x) → 0 ≤ (l.take k).sum ∧ (l.take k).sum ≤ l.sum
  | [], k, _ => by simp
  | x :: l, 0, h => by
    have := sum_take_le l 0 (fun y hy => h y (by simp [hy])); have := h x (by simp)
    simp at this ⊢; omega
  | x :: l, k + 1, h => by
    have := sum_take_le l k (fun y hy => h y (by simp [hy])); have := h x (by simp)
    simp; omega
def toldS (xs : List Ev) : Int := (xs.map fun e => (toldN e : Int)).sum
theorem toldS_snoc (xs : List Ev) (e : Ev) : toldS (xs ++ [e]) = toldS xs + toldN e := by simp [toldS]
theorem toldS_nonneg : ∀ xs : List Ev, 0 ≤ toldS xs
  | [] => by simp [toldS]
  | e :: xs => by have := toldS_nonneg xs; simp only [toldS, List.map_cons, List.sum_cons] at this ⊢; omega
theorem dlt4 (e : Ev) (f : Bool) : dlt (e, f) 4 = toldN e := by
  have hf : (if f = true ∧ (4 : Nat) = 6 then (e.nb : Int) else 0) = 0 := by simp
  by_cases h9 : e.kind = 9 ∧ e.who < 1000
  · have hc : cnt e = some (4, e.nb) := by
      unfold cnt
      simp [h9.1, h9.2]
    unfold dlt toldN
    simp only [hc, hf, if_pos h9]
    simp
  · have h4 : ∀ i n, cnt e = some (i, n) → i ≠ 4 := by
      intro i n h
      unfold cnt at h
      rw [if_neg h9] at h
      repeat (first | (split at h; · (simp only [Option.some.injEq, Prod.mk.injEq] at h; obtain ⟨rfl, rfl⟩ := h; omega)) | (cases h))
    unfold dlt toldN
    simp only [hf, if_neg h9]
    cases hc : cnt e with
    | none => rfl
    | some p =>
      obtain ⟨i, n⟩ := p
      have := h4 i n hc
      simp only
      rw [if_neg (fun h => this h.symm)]; rfl
theorem ofS_told (xs : List Ev) : ofS xs (-1) 4 = toldS xs := by
  rw [ofS, if_neg (by omega), sumF_dS]
  have : ∀ (xs : List Ev) (b : List Bool), b.length = xs.length → dS (-1) (xs.zip b) 4 = toldS xs := by
    intro xs
    induction xs with
    | nil => intro b _; simp [dS, toldS]
    | cons e xs ih =>
      intro b hb
      cases b with
      | nil => simp at hb
      | cons f b =>
        have := ih b (by simpa using hb)
        simp only [dS, toldS, List.zip_cons_cons, List.map_cons, List.sum_cons] at this ⊢
        rw [this, if_pos (by simp), dlt4]
  exact this xs (wasteL xs) (wasteL_len xs)
theorem toldS_le {xs : List EvF} (h : SmallF xs) : toldS (evs xs) ≤ 4000 := by
  have key : ∀ l : List EvF, toldS (evs l) ≤ nbF l := by
    intro l
    induction l with
    | nil => simp [toldS, evs, nbF]
    | cons x l ih =>
      have h1 : toldN x.ev ≤ x.ev.nb := by unfold toldN; split <;> omega
      simp only [toldS, evs, nbF, List.map_cons, List.sum_cons] at ih ⊢
      omega
  have := key xs; have := h.nb; omega
/-- Top's numbers. -/
theorem top_adds (xs : List Ev) : ∃ v, Adds (topF xs).M v ∧ v ≤ toldS xs := by
  have key : ∀ n, n ≤ xs.length → ∃ v, Adds (topF (xs.take n)).M v ∧ v ≤ toldS (xs.take n) := by
    intro n
    induction n with
    | zero => intro _; exact ⟨0, by simpa [topF] using Adds.zero, by simp [toldS]⟩
    | succ n ih =>
      intro hn
      obtain ⟨v, h1, h2⟩ := ih (by omega)
      have htk : xs.take (n + 1) = xs.take n ++ [xs[n]] := List.take_succ_eq_append_getElem (by omega)
      rw [htk, topF_snoc, toldS_snoc]
      unfold topStep topM
      simp only
      split
      · rename_i o ho
        split
        · exact ⟨v + toldN xs[n], h1.step o (by omega), by omega⟩
        · exact ⟨v, h1, by omega⟩
      · exact ⟨v, h1, by omega⟩
  have := key xs.length (Nat.le_refl _)
  rwa [List.take_length] at this
end Go.Proofs.Ytlddpdlebdjniaa
