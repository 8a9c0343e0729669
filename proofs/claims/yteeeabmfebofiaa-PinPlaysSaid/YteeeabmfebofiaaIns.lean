/- Rising lists: insertion, uniqueness; plain laws. -/
import Derived.Test.YteeeabmfebofiaaState
namespace Go.Proofs.Yteeeabmfebofiaa
set_option linter.unusedVariables false

def insI : List Int → Int → List Int
  | [], k => [k]
  | z :: zs, k => if k < z then k :: z :: zs else z :: insI zs k
def bigB (zs : List Int) (k : Int) : Bool := zs.any fun z => decide (k < z)
/-- What the inner loop has made of a beginning. -/
def partI (zs : List Int) (k : Int) : List Int := if bigB zs k then insI zs k else zs
theorem bigB_snoc (zs : List Int) (z k : Int) : bigB (zs ++ [z]) k = (bigB zs k || decide (k < z)) := by simp [bigB]
theorem insI_big (zs : List Int) (z k : Int) (h : bigB zs k = true) : insI (zs ++ [z]) k = insI zs k ++ [z] := by
  induction zs with
  | nil => simp [bigB] at h
  | cons y ys ih =>
    simp only [List.cons_append, insI]
    split
    · rfl
    · rename_i hn
      have : bigB ys k = true := by
        simp [bigB] at h ⊢
        rcases h with h | h
        · exact absurd h hn
        · exact h
      rw [ih this]; rfl
theorem insI_small (zs : List Int) (k : Int) (h : bigB zs k = false) (ys : List Int) : insI (zs ++ ys) k = zs ++ insI ys k := by
  induction zs with
  | nil => rfl
  | cons y zs ih =>
    simp [bigB] at h
    simp only [List.cons_append, insI]
    rw [if_neg (by omega), ih (by simp [bigB]; exact h.2)]
theorem partI_put (zs : List Int) (z k : Int) (h : bigB zs k = true) : partI (zs ++ [z]) k = partI zs k ++ [z] := by
  unfold partI; rw [bigB_snoc, h]; simp [insI_big zs z k h]
theorem partI_now (zs : List Int) (z k : Int) (h : bigB zs k = false) (hz : k < z) : partI (zs ++ [z]) k = partI zs k ++ [k] ++ [z] := by
  unfold partI; rw [bigB_snoc, h]; simp [hz, insI_small zs k h, insI]
theorem partI_not (zs : List Int) (z k : Int) (h : bigB zs k = false) (hz : ¬ k < z) : partI (zs ++ [z]) k = partI zs k ++ [z] := by
  unfold partI; rw [bigB_snoc, h]; simp [hz]
theorem partI_end_big (zs : List Int) (k : Int) (h : bigB zs k = true) : partI zs k = insI zs k := by unfold partI; rw [h]; rfl
theorem partI_end_small (zs : List Int) (k : Int) (h : bigB zs k = false) : partI zs k ++ [k] = insI zs k := by
  have := insI_small zs k h []
  simp [insI] at this
  unfold partI; rw [h]; simp [this]
theorem insI_mem (zs : List Int) (k x : Int) : x ∈ insI zs k ↔ x = k ∨ x ∈ zs := by
  induction zs with
  | nil => simp [insI]
  | cons z zs ih =>
    simp only [insI]
    split
    · simp
    · simp [ih]
      constructor
      · rintro (h | h | h) <;> simp [h]
      · rintro (h | h | h) <;> simp [h]
theorem insI_len (zs : List Int) (k : Int) : (insI zs k).length = zs.length + 1 := by
  induction zs with
  | nil => rfl
  | cons z zs ih =>
    simp only [insI]
    split <;> simp [ih]
theorem insI_lt (zs : List Int) (k : Int) (h : zs.Pairwise (· < ·)) (hk : k ∉ zs) : (insI zs k).Pairwise (· < ·) := by
  induction zs with
  | nil => simp [insI]
  | cons z zs ih =>
    rw [List.pairwise_cons] at h
    simp only [insI]
    split
    · rename_i hlt
      rw [List.pairwise_cons, List.pairwise_cons]
      refine ⟨fun a ha => ?_, h⟩
      rcases List.mem_cons.1 ha with rfl | ha
      · exact hlt
      · have := h.1 a ha; omega
    · rename_i hn
      rw [List.pairwise_cons]
      simp at hk
      refine ⟨fun a ha => ?_, ih h.2 hk.2⟩
      rcases (insI_mem zs k a).1 ha with rfl | ha
      · have := hk.1; omega
      · exact h.1 a ha
def stepO (out : List Int) (x : Hold) : List Int := if x.freed = true ∨ x.key ∈ out then out else insI out x.key
def outF (L : List Hold) : List Int := L.foldl stepO []
theorem outF_snoc (L : List Hold) (x : Hold) : outF (L ++ [x]) = stepO (outF L) x := by simp [outF]
theorem outF_len (L : List Hold) : (outF L).length ≤ L.length := by
  have : ∀ (M : List Hold) (o : List Int), (M.foldl stepO o).length ≤ o.length + M.length := by
    intro M
    induction M with
    | nil => intro o; simp
    | cons x M ih =>
      intro o
      have h1 := ih (stepO o x)
      have h2 : (stepO o x).length ≤ o.length + 1 := by
        unfold stepO; split
        · omega
        · rw [insI_len]; omega
      simp; omega
  have := this L []
  simpa [outF] using this
theorem outF_spec : ∀ (n : Nat) (L : List Hold), L.length = n → (outF L).Pairwise (· < ·) ∧ ∀ k, k ∈ outF L ↔ 1 ≤ live L k
  | 0, L, h => by
    have : L = [] := List.length_eq_zero_iff.1 h
    subst this
    exact ⟨List.Pairwise.nil, fun k => by simp [outF, live]⟩
  | n + 1, L, h => by
    obtain ⟨M, x, rfl⟩ : ∃ M x, L = M ++ [x] := by
      have hne : L ≠ [] := by intro e; rw [e] at h; simp at h
      exact ⟨L.dropLast, L.getLast hne, (List.dropLast_concat_getLast hne).symm⟩
    have hM : M.length = n := by simpa using h
    obtain ⟨h1, h2⟩ := outF_spec n M hM
    rw [outF_snoc]
    unfold stepO
    split
    · rename_i hc
      refine ⟨h1, fun k => ?_⟩
      rw [h2, live_snoc]
      split
      · rename_i hk
        rcases hc with hc | hc
        · rw [hc] at hk; cases hk.2
        · have := (h2 x.key).1 hc
          rw [hk.1] at this
          omega
      · simp
    · rename_i hc
      have hf : x.freed = false := by cases hx : x.freed <;> simp_all
      have hk : x.key ∉ outF M := fun e => hc (.inr e)
      refine ⟨insI_lt _ _ h1 hk, fun k => ?_⟩
      rw [insI_mem, h2, live_snoc]
      by_cases e : x.key = k
      · rw [if_pos ⟨e, hf⟩]; simp [e]
      · rw [if_neg (fun h => e h.1)]
        constructor
        · rintro (h | h)
          · exact absurd h.symm e
          · omega
        · intro h; exact .inr (by omega)
theorem rising_unique : ∀ (xs ys : List Int), xs.Pairwise (· < ·) → ys.Pairwise (· < ·) → (∀ k, k ∈ xs ↔ k ∈ ys) → xs = ys
  | [], [], _, _, _ => rfl
  | [], y :: ys, _, _, h => by have := (h y).2 (by simp); simp at this
  | x :: xs, [], _, _, h => by have := (h x).1 (by simp); simp at this
  | x :: xs, y :: ys, hx, hy, h => by
    rw [List.pairwise_cons] at hx hy
    have hxy : x = y := by
      have h1 := (h x).1 (by simp)
      have h2 := (h y).2 (by simp)
      rcases List.mem_cons.1 h1 with e | e
      · exact e
      · rcases List.mem_cons.1 h2 with e' | e'
        · exact e'.symm
        · have := hy.1 x e; have := hx.1 y e'; omega
    subst hxy
    rw [rising_unique xs ys hx.2 hy.2 (fun k => ?_)]
    have hk := h k
    constructor
    · intro hm
      have := hx.1 k hm
      rcases List.mem_cons.1 (hk.1 (by simp [hm])) with e | e
      · omega
      · exact e
    · intro hm
      have := hy.1 k hm
      rcases List.mem_cons.1 (hk.2 (by simp [hm])) with e | e
      · omega
      · exact e
end Go.Proofs.Yteeeabmfebofiaa
