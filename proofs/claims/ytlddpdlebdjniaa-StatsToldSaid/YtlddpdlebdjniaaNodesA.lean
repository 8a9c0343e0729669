/- Sums by nodes: the plain law, and the calls of Add and Of in its words. -/
import Derived.Test.YtlddpdlebdjniaaSmall
namespace Go.Proofs.Ytlddpdlebdjniaa
open Go.RowKit Go.Maps Go.ChangeMaps
set_option linter.unusedVariables false

/-- What an event adds to the sum's number j. -/
def dlt (x : Ev × Bool) (j : Nat) : Int :=
  (match cnt x.1 with
  | some (i, n) => if j = i then (n : Int) else 0
  | none => 0) + (if x.2 = true ∧ j = 6 then (x.1.nb : Int) else 0)
theorem stepS_dlt (node : Int) (s : Nat → Int) (x : Ev × Bool) (j : Nat) : stepS node s x j = s j + (if node = -1 ∨ x.1.node = node then dlt x j else 0) := by
  unfold stepS dlt
  split
  · unfold cntS
    cases h : cnt x.1 with
    | none =>
      by_cases hx : x.2 = true
      · simp only [hx, if_true, bump, true_and]; split <;> simp_all
      · simp [hx]
    | some p =>
      obtain ⟨i, n⟩ := p
      by_cases hx : x.2 = true
      · simp only [hx, if_true, bump, true_and]; split <;> split <;> simp_all <;> omega
      · simp only [hx, bump]
        by_cases hj : j = i
        · simp [hj, bump]
        · simp [hj, bump]
  · simp
def dS (node : Int) (l : List (Ev × Bool)) (j : Nat) : Int := (l.map fun x => if node = -1 ∨ x.1.node = node then dlt x j else 0).sum
theorem foldl_dS (node : Int) (j : Nat) : ∀ (l : List (Ev × Bool)) (s : Nat → Int), (l.foldl (stepS node) s) j = s j + dS node l j
  | [], s => by simp [dS]
  | x :: l, s => by
    rw [List.foldl_cons, foldl_dS node j l, stepS_dlt]
    simp [dS]; omega
theorem sumF_dS (node : Int) (l : List (Ev × Bool)) (j : Nat) : sumF node l j = dS node l j := by
  unfold sumF; rw [foldl_dS]; simp
def pre (k : Nat) (l : List (Ev × Bool)) (j : Nat) : Int := (l.map fun x => if 0 ≤ x.1.node ∧ x.1.node < (k : Int) then dlt x j else 0).sum
theorem pre_succ (k : Nat) (j : Nat) : ∀ l : List (Ev × Bool), pre (k + 1) l j = pre k l j + dS k l j
  | [] => by simp [pre, dS]
  | x :: l => by
    have ih := pre_succ k j l
    simp only [pre, dS, List.map_cons, List.sum_cons] at ih ⊢
    rw [ih]
    have hk : ((k : Int) = -1) = False := by simp
    simp only [hk, false_or]
    have : (if 0 ≤ x.1.node ∧ x.1.node < ((k + 1 : Nat) : Int) then dlt x j else 0) = (if 0 ≤ x.1.node ∧ x.1.node < (k : Int) then dlt x j else 0) + (if x.1.node = (k : Int) then dlt x j else 0) := by
      by_cases h : x.1.node = (k : Int)
      · rw [if_pos (by omega), if_neg (by omega), if_pos h]; omega
      · rw [if_neg h]
        by_cases h2 : 0 ≤ x.1.node ∧ x.1.node < (k : Int)
        · rw [if_pos (by omega), if_pos h2]; omega
        · rw [if_neg (by omega), if_neg h2]; omega
    rw [this]; omega
theorem pre_zero (j : Nat) (l : List (Ev × Bool)) : pre 0 l j = 0 := by
  induction l with
  | nil => rfl
  | cons x l ih => simp only [pre, List.map_cons, List.sum_cons] at ih ⊢; rw [ih, if_neg (by omega)]; rfl
theorem pre_all (n : Nat) (j : Nat) : ∀ l : List (Ev × Bool), (∀ x ∈ l, 0 ≤ x.1.node ∧ x.1.node < (n : Int)) → pre n l j = dS (-1) l j
  | [], _ => rfl
  | x :: l, h => by
    have ih := pre_all n j l (fun y hy => h y (by simp [hy]))
    simp only [pre, dS, List.map_cons, List.sum_cons] at ih ⊢
    rw [ih, if_pos (h x (by simp)), if_pos (by simp)]
theorem pairs_mem {xs : List Ev} {x : Ev × Bool} (h : x ∈ pairs xs) : x.1 ∈ xs := (List.of_mem_zip h).1
theorem ofS_pre (xs : List Ev) (k : Nat) (j : Nat) : pre (k + 1) (pairs xs) j = pre k (pairs xs) j + ofS xs k j := by
  rw [pre_succ, ofS, if_neg (by omega), sumF_dS]
theorem ofS_all (xs : List Ev) (n : Nat) (h : ∀ x ∈ xs, 0 ≤ x.node ∧ x.node < (n : Int)) : pre n (pairs xs) = ofS xs (-1) := by
  funext j
  rw [ofS, if_neg (by omega), sumF_dS, pre_all n j _ (fun x hx => h x.1 (pairs_mem hx))]
theorem dlt_nonneg (x : Ev × Bool) (j : Nat) : 0 ≤ dlt x j ∧ dlt x j ≤ 1 + 2 * x.1.nb := by
  have h := stepS_le (-1) (fun _ => 0) x j
  rw [stepS_dlt] at h
  simp at h
  omega
theorem pre_le (k : Nat) (j : Nat) : ∀ l : List (Ev × Bool), 0 ≤ pre k l j ∧ pre k l j ≤ 2 * heft l
  | [] => by simp [pre, heft]
  | x :: l => by
    have ih := pre_le k j l
    have h1 := dlt_nonneg x j
    have h3 : heft (x :: l) = 1 + x.1.nb + heft l := by simp [heft]
    simp only [pre, List.map_cons, List.sum_cons] at ih ⊢
    rw [h3]
    split <;> omega
theorem heft_small {xs : List EvF} (h : SmallF xs) : heft (pairs (evs xs)) ≤ 4150 := by
  have key : ∀ (l : List EvF) (b : List Bool), heft ((evs l).zip b) ≤ l.length + nbF l := by
    intro l
    induction l with
    | nil => intro b; simp [heft, evs]
    | cons x l ih =>
      intro b
      cases b with
      | nil => simp [heft]
      | cons y b =>
        have h1 := ih b
        have h3 : heft ((evs (x :: l)).zip (y :: b)) = 1 + x.ev.nb + heft ((evs l).zip b) := by simp [heft, evs]
        have h4 : nbF (x :: l) = x.ev.nb + x.fs.length + nbF l := by simp [nbF]
        rw [h3, h4, List.length_cons]; omega
  have h1 := key xs (wasteL (evs xs)); have h2 := h.len; have h3 := h.nb
  unfold pairs; omega
theorem add_sums (s t : Nat → Int) (w : World) : Calls Try.prog 11 #[.agg (sumA s), .agg (sumA t)] w fun e w' => e = .returned (.agg (sumA fun j => wrap64 (s j + t j))) ∧ Ext w w' :=
  add_any (s 0) (s 1) (s 2) (s 3) (s 4) (s 5) (s 6) (s 7) (s 8) (s 9) (s 10) (s 11) (t 0) (t 1) (t 2) (t 3) (t 4) (t 5) (t 6) (t 7) (t 8) (t 9) (t 10) (t 11) w
theorem add_pre (xs : List EvF) (h : SmallF xs) (k : Nat) (w : World) : Calls Try.prog 11 #[.agg (sumA (pre k (pairs (evs xs)))), .agg (sumA (ofS (evs xs) k))] w fun e w' => e = .returned (.agg (sumA (pre (k + 1) (pairs (evs xs))))) ∧ Ext w w' := by
  have e : (fun j => wrap64 (pre k (pairs (evs xs)) j + ofS (evs xs) k j)) = pre (k + 1) (pairs (evs xs)) := by
    funext j
    rw [← ofS_pre, IntWalk.wrap64_in]
    have := pre_le (k + 1) j (pairs (evs xs)); have := heft_small h
    omega
  rw [← e]; exact add_sums _ _ w
theorem of_small {w : World} {A : Option Addr} {xs : List EvF} {c : Nat} {node : Int} (hO : EvFAt w A xs) (h : SmallF xs) (hn : (Lit.int .i64 node).wf = true) : Calls Try.prog 9 #[.slice A xs.length c, .int .i64 node] w fun e w' => e = .returned (.agg (sumA (ofS (evs xs) node))) ∧ Ext w w' := by
  have := of_walk w A (evs xs) c node hO.evs (by rw [evs_len]; have := h.len; omega) (by have := heft_small h; omega) hn
  rwa [evs_len] at this
end Go.Proofs.Ytlddpdlebdjniaa
