/- The plain side of the budget statements: a book as a list of lines (a tenant and its bytes), what is added and taken, and the tenants by name. Nothing of the program stands here. -/
import Derived.RowKit
namespace Go.Proofs.Ytjcpmfioppopcaa

abbrev Bs := List UInt8
abbrev Ln := Bs × Int

def rOf : List Ln → Bs → Int
  | [], _ => 0
  | x :: r, t => if x.1 = t then x.2 else rOf r t
def rSum : List Ln → Int
  | [] => 0
  | x :: r => x.2 + rSum r
def rHas (L : List Ln) (t : Bs) : Bool := L.any fun x => x.1 == t
def rSet (L : List Ln) (t : Bs) (n : Int) : List Ln := L.map fun x => if x.1 = t then (x.1, n) else x
def rWith (L : List Ln) (t : Bs) (n : Int) : List Ln := if rHas L t then rSet L t n else L ++ [(t, n)]

def okN (n : Int) : Bool := decide (0 ≤ n) && decide (n ≤ 1125899906842624)
def asksB (t : Bs) (n : Int) : Bool := okN n && decide (t.length ≤ 200)

/-- 0 OK, 1 ErrArg, 4 ErrMany, 5 ErrRoom. -/
def addE (room share : Int) (L : List Ln) (t : Bs) (n : Int) : Int :=
  if asksB t n = false then 1 else if rSum L + n > room ∨ rOf L t + n > share then 5 else 0
def addL (room share : Int) (L : List Ln) (t : Bs) (n : Int) : List Ln :=
  if addE room share L t n = 0 then rWith L t (rOf L t + n) else L
def lessE (L : List Ln) (t : Bs) (n : Int) : Int :=
  if asksB t n = false then 1 else if rOf L t < n then 4 else 0
def lessL (L : List Ln) (t : Bs) (n : Int) : List Ln :=
  if lessE L t n = 0 then rWith L t (rOf L t - n) else L
def overE (share : Int) (t : Bs) (n : Int) : Int :=
  if asksB t n = false then 1 else if n > share then 4 else 0
def overOwn (share : Int) (L : List Ln) (t : Bs) (n : Int) : Int :=
  if overE share t n = 0 then max (rOf L t + n - share) 0 else 0
def overAny (room share : Int) (L : List Ln) (t : Bs) (n : Int) : Int :=
  if overE share t n = 0 then max (rSum L - max (rOf L t + n - share) 0 + n - room) 0 else 0

/-- A right book. -/
structure Inv (room share : Int) (L : List Ln) : Prop where
  s0 : 0 ≤ share
  s1 : share ≤ room
  r1 : room ≤ 1125899906842624
  one : (L.map (·.1)).Nodup
  val : ∀ x ∈ L, 0 ≤ x.2 ∧ x.2 ≤ share
  len : ∀ x ∈ L, x.1.length ≤ 200
  sum : rSum L ≤ room

theorem rOf_nil (t : Bs) : rOf [] t = 0 := rfl
theorem rOf_cons (x : Ln) (r : List Ln) (t : Bs) : rOf (x :: r) t = if x.1 = t then x.2 else rOf r t := rfl
theorem rSum_append (a b : List Ln) : rSum (a ++ b) = rSum a + rSum b := by
  induction a with
  | nil => simp [rSum]
  | cons x r ih => simp [rSum, ih]; omega

theorem rOf_none {L : List Ln} {t : Bs} (h : rHas L t = false) : rOf L t = 0 := by
  induction L with
  | nil => rfl
  | cons x r ih =>
    simp only [rHas, List.any_cons, Bool.or_eq_false_iff, beq_eq_false_iff_ne] at h
    rw [rOf_cons, if_neg h.1]
    exact ih h.2

theorem rOf_append (a b : List Ln) (t : Bs) : rOf (a ++ b) t = if rHas a t then rOf a t else rOf b t := by
  induction a with
  | nil => simp [rHas]
  | cons x r ih =>
    simp only [List.cons_append, rOf_cons, ih]
    by_cases h : x.1 = t
    · simp [h, rHas]
    · have : rHas (x :: r) t = rHas r t := by simp [rHas, h]
      rw [if_neg h, if_neg h, this]

theorem rOf_set (L : List Ln) (t : Bs) (n : Int) (u : Bs) : rOf (rSet L t n) u = if u = t ∧ rHas L t = true then n else rOf L u := by
  induction L with
  | nil => simp [rSet, rHas, rOf]
  | cons x r ih =>
    have e : rSet (x :: r) t n = (if x.1 = t then (x.1, n) else x) :: rSet r t n := rfl
    rw [e, rOf_cons, rOf_cons, ih]
    by_cases hx : x.1 = t
    · subst hx
      by_cases hu : x.1 = u
      · subst hu; simp [rHas]
      · have hu' : ¬ u = x.1 := fun h => hu h.symm
        simp [hu, hu']
    · simp only [if_neg hx]
      by_cases hu : x.1 = u
      · subst hu
        have : ¬ x.1 = t := hx
        simp [this]
      · have : rHas (x :: r) t = rHas r t := by simp [rHas, hx]
        rw [if_neg hu, if_neg hu, this]

theorem rOf_with (L : List Ln) (t : Bs) (n : Int) (u : Bs) : rOf (rWith L t n) u = if u = t then n else rOf L u := by
  unfold rWith
  split
  · rename_i h; rw [rOf_set]; simp [h]
  · rename_i h
    have h0 : rHas L t = false := by simpa using h
    rw [rOf_append]
    by_cases hu : u = t
    · subst hu; simp [h0, rOf]
    · have hu' : ¬ t = u := fun h => hu h.symm
      simp only [rOf, hu', if_false, hu]
      by_cases hh : rHas L u = true
      · simp [hh]
      · have := rOf_none (by simpa using hh : rHas L u = false)
        simp [this]

theorem keys_set (L : List Ln) (t : Bs) (n : Int) : (rSet L t n).map (·.1) = L.map (·.1) := by
  unfold rSet
  rw [List.map_map]
  apply List.map_congr_left
  intro x _
  simp only [Function.comp]
  split <;> rfl

theorem has_iff (L : List Ln) (t : Bs) : rHas L t = true ↔ t ∈ L.map (·.1) := by
  simp [rHas, List.any_eq_true]

theorem rSum_set (L : List Ln) (t : Bs) (n : Int) (h1 : (L.map (·.1)).Nodup) (h : rHas L t = true) : rSum (rSet L t n) = rSum L - rOf L t + n := by
  induction L with
  | nil => simp [rHas] at h
  | cons x r ih =>
    simp only [List.map_cons, List.nodup_cons] at h1
    have e : rSet (x :: r) t n = (if x.1 = t then (x.1, n) else x) :: rSet r t n := rfl
    rw [e]
    by_cases hx : x.1 = t
    · have hno : rSet r t n = r := by
        unfold rSet
        conv => rhs; rw [← List.map_id r]
        apply List.map_congr_left
        intro y hy
        have : y.1 ≠ t := fun hh => h1.1 (by rw [hx]; exact List.mem_map.2 ⟨y, hy, hh⟩)
        simp [this]
      rw [hno]; simp [hx, rSum, rOf_cons]; omega
    · have hr : rHas r t = true := by simpa [rHas, hx] using h
      have := ih h1.2 hr
      simp only [if_neg hx, rSum, rOf_cons]; rw [this]; omega

theorem rSum_with (L : List Ln) (t : Bs) (n : Int) (h1 : (L.map (·.1)).Nodup) : rSum (rWith L t n) = rSum L + (n - rOf L t) := by
  unfold rWith
  split
  · rename_i h; rw [rSum_set L t n h1 h]; omega
  · rename_i h
    have h0 : rHas L t = false := by simpa using h
    rw [rSum_append, rOf_none h0]; simp [rSum]

theorem rSum_nonneg {L : List Ln} (h : ∀ x ∈ L, 0 ≤ x.2) : 0 ≤ rSum L := by
  induction L with
  | nil => simp [rSum]
  | cons x r ih =>
    have h1 := h x (by simp)
    have h2 := ih (fun y hy => h y (by simp [hy]))
    simp [rSum]; omega

theorem rOf_mem (L : List Ln) (t : Bs) : rOf L t = 0 ∨ ∃ x ∈ L, x.1 = t ∧ rOf L t = x.2 := by
  induction L with
  | nil => exact .inl rfl
  | cons x r ih =>
    rw [rOf_cons]
    by_cases h : x.1 = t
    · rw [if_pos h]; exact .inr ⟨x, by simp, h, rfl⟩
    · rw [if_neg h]
      rcases ih with h0 | ⟨y, hy, hyt, he⟩
      · exact .inl h0
      · exact .inr ⟨y, by simp [hy], hyt, he⟩

theorem rOf_le_sum {L : List Ln} (h : ∀ x ∈ L, 0 ≤ x.2) (t : Bs) : 0 ≤ rOf L t ∧ rOf L t ≤ rSum L := by
  induction L with
  | nil => simp [rOf, rSum]
  | cons x r ih =>
    have h1 := h x (by simp)
    have h2 := ih (fun y hy => h y (by simp [hy]))
    have h3 := rSum_nonneg (L := r) (fun y hy => h y (by simp [hy]))
    rw [rOf_cons]; simp only [rSum]
    split <;> omega

theorem Inv.sum0 {room share : Int} {L : List Ln} (h : Inv room share L) : 0 ≤ rSum L := rSum_nonneg fun x hx => (h.val x hx).1
theorem Inv.of0 {room share : Int} {L : List Ln} (h : Inv room share L) (t : Bs) : 0 ≤ rOf L t := (rOf_le_sum (fun x hx => (h.val x hx).1) t).1
theorem Inv.ofs {room share : Int} {L : List Ln} (h : Inv room share L) (t : Bs) : rOf L t ≤ share := by
  rcases rOf_mem L t with h0 | ⟨x, hx, _, he⟩
  · rw [h0]; exact h.s0
  · rw [he]; exact (h.val x hx).2
theorem Inv.of_sum {room share : Int} {L : List Ln} (h : Inv room share L) (t : Bs) : rOf L t ≤ rSum L := (rOf_le_sum (fun x hx => (h.val x hx).1) t).2

theorem Inv.with_ {room share : Int} {L : List Ln} (h : Inv room share L) (t : Bs) (n : Int) (ht : t.length ≤ 200) (h0 : 0 ≤ n) (h1 : n ≤ share) (h2 : rSum L + (n - rOf L t) ≤ room) : Inv room share (rWith L t n) := by
  refine ⟨h.s0, h.s1, h.r1, ?_, ?_, ?_, by rw [rSum_with L t n h.one]; exact h2⟩
  · unfold rWith
    split
    · rw [keys_set]; exact h.one
    · rename_i hh
      rw [List.map_append, List.nodup_append]
      refine ⟨h.one, by simp, ?_⟩
      intro a ha b hb
      simp at hb
      subst hb
      rintro rfl
      exact hh ((has_iff L a).2 ha)
  · intro x hx
    unfold rWith at hx
    split at hx
    · simp only [rSet, List.mem_map] at hx
      obtain ⟨y, hy, rfl⟩ := hx
      split
      · exact ⟨h0, h1⟩
      · exact h.val y hy
    · rcases List.mem_append.1 hx with hx | hx
      · exact h.val x hx
      · simp at hx; subst hx; exact ⟨h0, h1⟩
  · intro x hx
    unfold rWith at hx
    split at hx
    · simp only [rSet, List.mem_map] at hx
      obtain ⟨y, hy, rfl⟩ := hx
      have := h.len y hy
      split <;> simpa using this
    · rcases List.mem_append.1 hx with hx | hx
      · exact h.len x hx
      · simp at hx; subst hx; exact ht

theorem len_with (L : List Ln) (t : Bs) (n : Int) : (rWith L t n).length ≤ L.length + 1 := by
  unfold rWith rSet
  split <;> simp

theorem asks_iff (t : Bs) (n : Int) : asksB t n = true ↔ (0 ≤ n ∧ n ≤ 1125899906842624) ∧ t.length ≤ 200 := by
  simp [asksB, okN]

theorem addE_zero {room share : Int} {L : List Ln} {t : Bs} {n : Int} (h : addE room share L t n = 0) : ((0 ≤ n ∧ n ≤ 1125899906842624) ∧ t.length ≤ 200) ∧ rSum L + n ≤ room ∧ rOf L t + n ≤ share := by
  unfold addE at h
  split at h
  · omega
  · split at h
    · omega
    · rename_i h1 h2
      exact ⟨(asks_iff t n).1 (by simpa using h1), by omega, by omega⟩
theorem lessE_zero {L : List Ln} {t : Bs} {n : Int} (h : lessE L t n = 0) : ((0 ≤ n ∧ n ≤ 1125899906842624) ∧ t.length ≤ 200) ∧ n ≤ rOf L t := by
  unfold lessE at h
  split at h
  · omega
  · split at h
    · omega
    · rename_i h1 h2
      exact ⟨(asks_iff t n).1 (by simpa using h1), by omega⟩

theorem Inv.add {room share : Int} {L : List Ln} (h : Inv room share L) (t : Bs) (n : Int) : Inv room share (addL room share L t n) := by
  unfold addL
  split
  · rename_i h0
    obtain ⟨⟨⟨a, b⟩, c⟩, d, e⟩ := addE_zero h0
    have := h.of0 t
    exact h.with_ t _ c (by omega) (by omega) (by omega)
  · exact h
theorem Inv.less {room share : Int} {L : List Ln} (h : Inv room share L) (t : Bs) (n : Int) : Inv room share (lessL L t n) := by
  unfold lessL
  split
  · rename_i h0
    obtain ⟨⟨⟨a, b⟩, c⟩, d⟩ := lessE_zero h0
    have := h.ofs t
    have := h.sum
    exact h.with_ t _ c (by omega) (by omega) (by omega)
  · exact h
theorem len_add (room share : Int) (L : List Ln) (t : Bs) (n : Int) : (addL room share L t n).length ≤ L.length + 1 := by
  unfold addL; split
  · exact len_with _ _ _
  · omega
theorem len_less (L : List Ln) (t : Bs) (n : Int) : (lessL L t n).length ≤ L.length + 1 := by
  unfold lessL; split
  · exact len_with _ _ _
  · omega

/-! ### the tenants by name -/
def ins (t : Bs) : List Bs → List Bs
  | [] => [t]
  | x :: r => if t < x then t :: x :: r else x :: ins t r
def rTen (L : List Ln) : List Bs := L.foldl (fun out x => if x.2 = 0 then out else ins x.1 out) []

theorem mem_ins (t : Bs) (l : List Bs) (u : Bs) : u ∈ ins t l ↔ u = t ∨ u ∈ l := by
  induction l with
  | nil => simp [ins]
  | cons x r ih =>
    unfold ins
    split
    · simp
    · simp [ih]; constructor
      · rintro (h | h | h) <;> simp [h]
      · rintro (h | h | h) <;> simp [h]

theorem lt_of_le_ne {a b : Bs} (h : a ≤ b) (hne : a ≠ b) : a < b := by
  by_cases hl : a < b
  · exact hl
  · exact absurd (List.le_antisymm h (List.not_lt.1 hl)) hne
theorem lt_total {a b : Bs} (h : ¬ a < b) (hne : a ≠ b) : b < a := lt_of_le_ne (List.not_lt.1 h) (fun e => hne e.symm)

theorem sorted_ins (t : Bs) (l : List Bs) (hs : l.Pairwise (· < ·)) (hn : t ∉ l) : (ins t l).Pairwise (· < ·) := by
  induction l with
  | nil => simp [ins]
  | cons x r ih =>
    obtain ⟨h1, h2⟩ := List.pairwise_cons.1 hs
    unfold ins
    split
    · rename_i hlt
      refine List.pairwise_cons.2 ⟨?_, hs⟩
      intro y hy
      rcases List.mem_cons.1 hy with rfl | hy
      · exact hlt
      · exact List.lt_trans hlt (h1 y hy)
    · rename_i hlt
      have hx : x < t := lt_total hlt (fun e => hn (by simp [e]))
      refine List.pairwise_cons.2 ⟨?_, ih h2 (fun h => hn (by simp [h]))⟩
      intro y hy
      rcases (mem_ins t r y).1 hy with rfl | hy
      · exact hx
      · exact h1 y hy

def insP (t : Bs) (l : List Bs) : Bool := l.any fun x => decide (t < x)
theorem ins_none {t : Bs} {l : List Bs} (h : insP t l = false) : ins t l = l ++ [t] := by
  induction l with
  | nil => rfl
  | cons x r ih =>
    simp only [insP, List.any_cons, Bool.or_eq_false_iff, decide_eq_false_iff_not] at h
    unfold ins
    rw [if_neg h.1, ih h.2]; rfl
theorem ins_first {t : Bs} {l : List Bs} (h : insP t l = false) {x : Bs} (hx : t < x) : ins t (l ++ [x]) = (l ++ [t]) ++ [x] := by
  induction l with
  | nil => simp [ins, hx]
  | cons y r ih =>
    simp only [insP, List.any_cons, Bool.or_eq_false_iff, decide_eq_false_iff_not] at h
    simp only [List.cons_append]
    unfold ins
    rw [if_neg h.1, ih h.2]
theorem ins_later {t : Bs} {l : List Bs} (h : insP t l = true) (x : Bs) : ins t (l ++ [x]) = ins t l ++ [x] := by
  induction l with
  | nil => simp [insP] at h
  | cons y r ih =>
    simp only [List.cons_append]
    unfold ins
    by_cases hy : t < y
    · simp [hy]
    · have hr : insP t r = true := by simpa [insP, hy] using h
      rw [if_neg hy, if_neg hy, ih hr]; rfl
theorem insP_snoc (t : Bs) (l : List Bs) (x : Bs) : insP t (l ++ [x]) = (insP t l || decide (t < x)) := by simp [insP]
theorem len_ins (t : Bs) (l : List Bs) : (ins t l).length = l.length + 1 := by
  induction l with
  | nil => rfl
  | cons x r ih => unfold ins; split <;> simp [ih]

theorem rTen_snoc (L : List Ln) (x : Ln) : rTen (L ++ [x]) = if x.2 = 0 then rTen L else ins x.1 (rTen L) := by
  simp [rTen, List.foldl_append]

theorem len_rTen (L : List Ln) : (rTen L).length ≤ L.length := by
  have : ∀ (L : List Ln) (acc : List Bs), (L.foldl (fun out x => if x.2 = 0 then out else ins x.1 out) acc).length ≤ acc.length + L.length := by
    intro L
    induction L with
    | nil => intro acc; simp
    | cons y r ih =>
      intro acc
      rw [List.foldl_cons]
      have := ih (if y.2 = 0 then acc else ins y.1 acc)
      have h2 : (if y.2 = 0 then acc else ins y.1 acc).length ≤ acc.length + 1 := by split <;> simp [len_ins]
      simp only [List.length_cons]; omega
  simpa [rTen] using this L []

theorem mem_rTen (L : List Ln) (t : Bs) : t ∈ rTen L ↔ ∃ x ∈ L, x.1 = t ∧ x.2 ≠ 0 := by
  have : ∀ (L : List Ln) (acc : List Bs), t ∈ L.foldl (fun out x => if x.2 = 0 then out else ins x.1 out) acc ↔ t ∈ acc ∨ ∃ x ∈ L, x.1 = t ∧ x.2 ≠ 0 := by
    intro L
    induction L with
    | nil => intro acc; simp
    | cons y r ih =>
      intro acc
      rw [List.foldl_cons, ih]
      by_cases hy : y.2 = 0
      · rw [if_pos hy]
        constructor
        · rintro (h | ⟨x, hx, h⟩)
          · exact .inl h
          · exact .inr ⟨x, by simp [hx], h⟩
        · rintro (h | ⟨x, hx, h1, h2⟩)
          · exact .inl h
          · rcases List.mem_cons.1 hx with rfl | hx
            · exact absurd hy h2
            · exact .inr ⟨x, hx, h1, h2⟩
      · rw [if_neg hy, mem_ins]
        constructor
        · rintro ((h | h) | ⟨x, hx, h⟩)
          · exact .inr ⟨y, by simp, h.symm, hy⟩
          · exact .inl h
          · exact .inr ⟨x, by simp [hx], h⟩
        · rintro (h | ⟨x, hx, h1, h2⟩)
          · exact .inl (.inr h)
          · rcases List.mem_cons.1 hx with rfl | hx
            · exact .inl (.inl h1.symm)
            · exact .inr ⟨x, hx, h1, h2⟩
  have h := this L []
  simpa [rTen] using h

theorem sorted_rTen (L : List Ln) (h1 : (L.map (·.1)).Nodup) : (rTen L).Pairwise (· < ·) := by
  have : ∀ (n : Nat) (L : List Ln), L.length = n → (L.map (·.1)).Nodup → (rTen L).Pairwise (· < ·) := by
    intro n
    induction n with
    | zero => intro L hl _; rw [List.eq_nil_of_length_eq_zero hl]; simp [rTen]
    | succ n ih =>
      intro L hl hn
      obtain ⟨M, x, rfl⟩ : ∃ M x, L = M ++ [x] := by
        refine ⟨L.dropLast, L.getLast (by intro h; simp [h] at hl), (List.dropLast_concat_getLast _).symm⟩
      rw [List.map_append, List.nodup_append] at hn
      have hM := ih M (by simpa using hl) hn.1
      rw [rTen_snoc]
      split
      · exact hM
      · refine sorted_ins _ _ hM (fun h => ?_)
        obtain ⟨y, hy, he, _⟩ := (mem_rTen M x.1).1 h
        exact hn.2.2 y.1 (List.mem_map.2 ⟨y, hy, rfl⟩) x.1 (by simp) he
  exact this _ L rfl h1

theorem rOf_of_mem {L : List Ln} (h1 : (L.map (·.1)).Nodup) {x : Ln} (hx : x ∈ L) : rOf L x.1 = x.2 := by
  induction L with
  | nil => simp at hx
  | cons y r ih =>
    simp only [List.map_cons, List.nodup_cons] at h1
    rw [rOf_cons]
    rcases List.mem_cons.1 hx with rfl | hx
    · simp
    · rw [if_neg (fun e => h1.1 (by rw [e]; exact List.mem_map.2 ⟨x, hx, rfl⟩))]
      exact ih h1.2 hx

theorem mem_rTen_iff {L : List Ln} (h1 : (L.map (·.1)).Nodup) (t : Bs) : t ∈ rTen L ↔ rOf L t ≠ 0 := by
  rw [mem_rTen]
  constructor
  · rintro ⟨x, hx, rfl, h⟩; rw [rOf_of_mem h1 hx]; exact h
  · intro h
    rcases rOf_mem L t with h0 | ⟨x, hx, he, h0⟩
    · exact absurd h0 h
    · exact ⟨x, hx, he, by rw [← h0]; exact h⟩

theorem sorted_unique : ∀ {a b : List Bs}, a.Pairwise (· < ·) → b.Pairwise (· < ·) → (∀ t, t ∈ a ↔ t ∈ b) → a = b
  | [], [], _, _, _ => rfl
  | [], y :: s, _, _, h => absurd ((h y).2 (by simp)) (by simp)
  | x :: r, [], _, _, h => absurd ((h x).1 (by simp)) (by simp)
  | x :: r, y :: s, h1, h2, h => by
    obtain ⟨a1, a2⟩ := List.pairwise_cons.1 h1
    obtain ⟨b1, b2⟩ := List.pairwise_cons.1 h2
    have hxy : x = y := by
      rcases List.mem_cons.1 ((h x).1 (by simp)) with e | hx
      · exact e
      · rcases List.mem_cons.1 ((h y).2 (by simp)) with e | hy
        · exact e.symm
        · exact absurd (List.lt_trans (a1 y hy) (b1 x hx)) (List.lt_irrefl _)
    subst hxy
    rw [sorted_unique a2 b2 (fun t => ?_)]
    constructor
    · intro ht
      rcases List.mem_cons.1 ((h t).1 (by simp [ht])) with e | h'
      · subst e; exact absurd (a1 t ht) (List.lt_irrefl _)
      · exact h'
    · intro ht
      rcases List.mem_cons.1 ((h t).2 (by simp [ht])) with e | h'
      · subst e; exact absurd (b1 t ht) (List.lt_irrefl _)
      · exact h'

theorem mergeSort_eq {ss : List Bs} {a : List Bs} (hn : ss.Nodup) (ha : a.Pairwise (· < ·)) (hm : ∀ t, t ∈ ss ↔ t ∈ a) : ss.mergeSort (fun x y => decide (x ≤ y)) = a := by
  have hp := List.mergeSort_perm ss (fun x y => decide (x ≤ y))
  have hs : (ss.mergeSort (fun x y => decide (x ≤ y))).Pairwise (fun x y => decide (x ≤ y) = true) :=
    List.pairwise_mergeSort (fun a b c h1 h2 => by simp at h1 h2 ⊢; exact List.le_trans h1 h2) (fun a b => by simp; exact List.le_total a b) ss
  have hnd : (ss.mergeSort (fun x y => decide (x ≤ y))).Nodup := hp.nodup_iff.2 hn
  refine sorted_unique ?_ ha (fun t => by rw [hp.mem_iff]; exact hm t)
  refine List.Pairwise.imp ?_ (hs.and hnd)
  rintro x y ⟨h1, h2⟩
  exact lt_of_le_ne (of_decide_eq_true h1) h2

/-- What the tenants have, together, is all. -/
theorem sum_tenants {L : List Ln} (h1 : (L.map (·.1)).Nodup) : ((rTen L).map (rOf L)).sum = rSum L := by
  have hperm : ∀ (L : List Ln), (L.map (·.1)).Nodup → (rTen L).Perm ((L.filter (fun x => decide (x.2 ≠ 0))).map (·.1)) := by
    intro L hL
    refine (List.perm_ext_iff_of_nodup ?_ ?_).2 ?_
    · refine (sorted_rTen L hL).imp ?_
      rintro a b h rfl
      exact List.lt_irrefl _ h
    · exact (List.filter_sublist.map _).nodup hL
    · intro t
      rw [mem_rTen]
      simp only [List.mem_map, List.mem_filter, decide_eq_true_eq]
      constructor
      · rintro ⟨x, hx, he, h⟩; exact ⟨x, ⟨hx, h⟩, he⟩
      · rintro ⟨x, ⟨hx, h⟩, he⟩; exact ⟨x, hx, he, h⟩
  have h2 : ((rTen L).map (rOf L)).Perm (((L.filter (fun x => decide (x.2 ≠ 0))).map (·.1)).map (rOf L)) := (hperm L h1).map _
  have sum_perm : ∀ {a b : List Int}, a.Perm b → a.sum = b.sum := by
    intro a b h
    induction h with
    | nil => rfl
    | cons x _ ih => simp [ih]
    | swap x y l => simp; omega
    | trans _ _ i1 i2 => rw [i1, i2]
  rw [sum_perm h2, List.map_map]
  have : ∀ (M : List Ln), (∀ x ∈ M, x ∈ L) → ((M.filter (fun x => decide (x.2 ≠ 0))).map (rOf L ∘ (·.1))).sum = rSum M := by
    intro M
    induction M with
    | nil => intro _; simp [rSum]
    | cons x r ih =>
      intro hM
      have hr := ih (fun y hy => hM y (by simp [hy]))
      by_cases h0 : x.2 = 0
      · rw [List.filter_cons_of_neg (by simp [h0])]
        simp only [rSum]; rw [hr]; omega
      · rw [List.filter_cons_of_pos (by simp [h0])]
        simp only [rSum, List.map_cons, List.sum_cons, Function.comp]
        rw [rOf_of_mem h1 (hM x (by simp))]
        have : (rOf L ∘ (fun x : Ln => x.1)) = (rOf L ∘ (·.1)) := rfl
        rw [← hr]
  exact this L (fun _ h => h)

end Go.Proofs.Ytjcpmfioppopcaa
