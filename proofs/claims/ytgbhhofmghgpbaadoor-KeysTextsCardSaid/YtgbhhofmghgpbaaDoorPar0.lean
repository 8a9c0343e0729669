/- Plain: the words of a text, and what is parsed of them. -/
import Derived.Lib.Bytealg
import Derived.Lib.IndexLaws
import Derived.Lib.Join
namespace Go.Proofs.YtgbhhofmghgpbaaDoor
set_option linter.unusedVariables false
abbrev Bs := List UInt8
/-- The words of a text: what lies between single spaces. -/
def splitW : List UInt8 → List (List UInt8)
  | [] => [[]]
  | c :: r => if c = 32 then [] :: splitW r else match splitW r with
    | [] => [[c]]
    | w :: ws => (c :: w) :: ws
/-- a ahead of the first word. -/
def glue (a : List UInt8) : List (List UInt8) → List (List UInt8)
  | [] => [a]
  | w :: ws => (a ++ w) :: ws
theorem splitW_ne (s : List UInt8) : ∃ w ws, splitW s = w :: ws := by
  cases s with
  | nil => exact ⟨[], [], rfl⟩
  | cons c r =>
    unfold splitW
    split
    · exact ⟨_, _, rfl⟩
    · split
      · exact ⟨_, _, rfl⟩
      · exact ⟨_, _, rfl⟩
theorem splitW_space (r : List UInt8) : splitW (32 :: r) = [] :: splitW r := by simp [splitW]
theorem splitW_cons {c : UInt8} (h : c ≠ 32) (r : List UInt8) : splitW (c :: r) = glue [c] (splitW r) := by
  obtain ⟨w, ws, e⟩ := splitW_ne r
  simp [splitW, h, e, glue]
theorem glue_nil (s : List UInt8) : glue [] (splitW s) = splitW s := by
  obtain ⟨w, ws, e⟩ := splitW_ne s
  simp [e, glue]
theorem glue_glue (a b : List UInt8) (l : List (List UInt8)) : glue a (glue b l) = glue (a ++ b) l := by
  cases l <;> simp [glue]
theorem splitW_pre : ∀ {a : List UInt8}, (∀ c ∈ a, c ≠ 32) → ∀ r, splitW (a ++ r) = glue a (splitW r)
  | [], _, r => by simp [glue_nil]
  | c :: a, h, r => by
    rw [List.cons_append, splitW_cons (h c (by simp)), splitW_pre (fun x hx => h x (by simp [hx])) r, glue_glue]; rfl
theorem splitW_none {s : List UInt8} (h : ∀ c ∈ s, c ≠ 32) : splitW s = [s] := by
  have := splitW_pre h []
  simpa [splitW, glue] using this
theorem splitW_word {a : List UInt8} (h : ∀ c ∈ a, c ≠ 32) (r : List UInt8) : splitW (a ++ 32 :: r) = a :: splitW r := by
  rw [splitW_pre h, splitW_space]; simp [glue]
theorem index_none {s : List UInt8} (h : Lib.indexByte s 32 = -1) : splitW s = [s] := splitW_none fun c hc e => by
  obtain ⟨k, hk, e2⟩ := List.getElem_of_mem hc
  exact Lib.indexByte_none h k (by rw [List.getElem?_eq_getElem hk, e2, e])
theorem index_some {s : List UInt8} {o : Nat} (h : Lib.indexByte s 32 = o) : o < s.length ∧ splitW s = s.take o :: splitW (s.drop (o + 1)) := by
  obtain ⟨h1, h2⟩ := Lib.indexByte_some h
  obtain ⟨ho, e⟩ := List.getElem?_eq_some_iff.1 h1
  refine ⟨ho, ?_⟩
  have hs : s = s.take o ++ 32 :: s.drop (o + 1) := by
    have := (List.take_append_drop o s).symm
    rw [List.drop_eq_getElem_cons ho, e] at this; exact this
  have hb : ∀ c ∈ s.take o, c ≠ 32 := fun c hc ec => by
    obtain ⟨k, hk, e2⟩ := List.getElem_of_mem hc
    rw [List.length_take] at hk
    refine h2 k (by omega) ?_
    rw [List.getElem_take] at e2
    rw [List.getElem?_eq_getElem (by omega), e2, ec]
  have := splitW_word hb (s.drop (o + 1))
  rw [← hs] at this; exact this
theorem splitW_len : ∀ s : List UInt8, (splitW s).length ≤ s.length + 1
  | [] => by simp [splitW]
  | c :: r => by
    have ih := splitW_len r
    by_cases h : c = 32
    · subst h; rw [splitW_space]; simp; omega
    · rw [splitW_cons h]
      obtain ⟨w, ws, e⟩ := splitW_ne r
      rw [e] at ih ⊢
      simp [glue] at ih ⊢; omega
theorem splitW_mem : ∀ (s : List UInt8) (w : List UInt8), w ∈ splitW s → w.length ≤ s.length
  | [], w, h => by simp [splitW] at h; subst h; simp
  | c :: r, w, h => by
    have ih := splitW_mem r
    by_cases hc : c = 32
    · subst hc; rw [splitW_space] at h
      rcases List.mem_cons.1 h with rfl | h
      · simp
      · have := ih w h; simp; omega
    · rw [splitW_cons hc] at h
      obtain ⟨v, ws, e⟩ := splitW_ne r
      rw [e] at ih h
      rcases List.mem_cons.1 h with rfl | h
      · have := ih v (by simp); simp; omega
      · have := ih w (by simp [h]); simp; omega
/-- The words taken in, one by one, behind those of L. -/
def parseL (good : List UInt8 → Bool) (L : List (List UInt8)) : List (List UInt8) → Option (List (List UInt8))
  | [] => some L
  | w :: ws => if w = [] then parseL good L ws else if good w = false then none else parseL good (if w ∈ L then L else L ++ [w]) ws
theorem parseL_cons (good : List UInt8 → Bool) (w : List UInt8) (ws L : List (List UInt8)) : parseL good L (w :: ws) = if w = [] then parseL good L ws else if good w = false then none else parseL good (if w ∈ L then L else L ++ [w]) ws := rfl
theorem parseL_append (good : List UInt8 → Bool) : ∀ (a b L : List (List UInt8)), parseL good L (a ++ b) = (parseL good L a).bind fun M => parseL good M b
  | [], b, L => rfl
  | w :: a, b, L => by
    rw [List.cons_append, parseL_cons, parseL_cons]
    split
    · exact parseL_append good a b L
    · split
      · rfl
      · exact parseL_append good a b _
theorem parseL_step {good : List UInt8 → Bool} {a L M : List (List UInt8)} (h : parseL good L a = some M) (w : List UInt8) : parseL good L (a ++ [w]) = if w = [] then some M else if good w = false then none else some (if w ∈ M then M else M ++ [w]) := by
  rw [parseL_append, h]
  simp [parseL]
theorem parseL_stop {good : List UInt8 → Bool} {a b L : List (List UInt8)} (h : parseL good L a = none) (hp : a <+: b) : parseL good L b = none := by
  obtain ⟨c, rfl⟩ := hp
  rw [parseL_append, h]; rfl
theorem parseL_len {good : List UInt8 → Bool} : ∀ {a L M : List (List UInt8)}, parseL good L a = some M → M.length ≤ L.length + a.length
  | [], L, M, h => by simp [parseL] at h; subst h; simp
  | w :: a, L, M, h => by
    unfold parseL at h
    split at h
    · have := parseL_len h; simp; omega
    · split at h
      · cases h
      · have := parseL_len h
        revert this
        split <;> simp <;> omega
theorem parseL_mem {good : List UInt8 → Bool} : ∀ {a L M : List (List UInt8)}, parseL good L a = some M → ∀ w ∈ M, w ∈ L ∨ w ∈ a
  | [], L, M, h, w, hw => by simp [parseL] at h; subst h; exact .inl hw
  | x :: a, L, M, h, w, hw => by
    unfold parseL at h
    split at h
    · rcases parseL_mem h w hw with h | h
      · exact .inl h
      · exact .inr (by simp [h])
    · split at h
      · cases h
      · rcases parseL_mem h w hw with h | h
        · split at h
          · exact .inl h
          · rcases List.mem_append.1 h with h | h
            · exact .inl h
            · exact .inr (by simp at h; simp [h])
        · exact .inr (by simp [h])
theorem parseL_nodup {good : List UInt8 → Bool} : ∀ {a L : List (List UInt8)}, (L ++ a).Nodup → (∀ w ∈ a, w ≠ [] ∧ good w = true) → parseL good L a = some (L ++ a)
  | [], L, _, _ => by simp [parseL]
  | w :: a, L, hn, hg => by
    unfold parseL
    have h1 := hg w (by simp)
    rw [if_neg h1.1, if_neg (by simp [h1.2])]
    have hw : w ∉ L := fun hw => by
      have := (List.nodup_append.1 hn).2.2 w hw w (by simp)
      exact this rfl
    rw [if_neg hw, parseL_nodup (by simpa using hn) (fun x hx => hg x (by simp [hx]))]
    simp
/-- The keys of a text: the words, or none; and the code. -/
def parseP (good : List UInt8 → Bool) (s : List UInt8) : List (List UInt8) × Int := match parseL good [] (splitW s) with
  | none => ([], 2)
  | some L => if 32 < L.length then ([], 4) else (L, 0)
theorem split_join : ∀ {ws : List (List UInt8)}, ws ≠ [] → (∀ w ∈ ws, ∀ c ∈ w, c ≠ 32) → splitW (Lib.join ws [32]) = ws
  | [], h, _ => absurd rfl h
  | [w], _, hw => by rw [Lib.join_one]; exact splitW_none (hw w (by simp))
  | w :: x :: ws, _, hw => by
    have e : Lib.join (w :: x :: ws) [32] = w ++ 32 :: Lib.join (x :: ws) [32] := by
      rw [Lib.join_cons, Lib.join_cons]
      simp [Lib.joinTail]
    rw [e, splitW_word (hw w (by simp)), split_join (by simp) (fun v hv => hw v (by simp [hv]))]
/-- As the document builds it. -/
def textL : List (List UInt8) → Nat → List UInt8
  | _, 0 => []
  | ws, j + 1 => (if j = 0 then textL ws j else textL ws j ++ [32]) ++ ws.getD j []
theorem join_snoc : ∀ (ws : List (List UInt8)) (w : List UInt8), ws ≠ [] → Lib.join (ws ++ [w]) [32] = Lib.join ws [32] ++ [32] ++ w
  | [], _, h => absurd rfl h
  | x :: ws, w, _ => by
    rw [List.cons_append, Lib.join_cons, Lib.join_cons]
    simp [Lib.joinTail]
theorem textL_join (ws : List (List UInt8)) : ∀ j, j ≤ ws.length → textL ws j = Lib.join (ws.take j) [32]
  | 0, _ => rfl
  | j + 1, h => by
    have ih := textL_join ws j (by omega)
    have ht : ws.take (j + 1) = ws.take j ++ [ws.getD j []] := by
      rw [List.take_succ_eq_append_getElem (by omega)]
      simp [List.getD, List.getElem?_eq_getElem (show j < ws.length by omega)]
    unfold textL
    by_cases h0 : j = 0
    · subst h0
      rw [if_pos rfl, ht]
      simp [textL, Lib.join_one]
    · rw [if_neg h0, ih, ht, join_snoc _ _ (fun e => by have := congrArg List.length e; rw [List.length_take, List.length_nil] at this; omega)]
theorem join_len : ∀ ws : List (List UInt8), (Lib.join ws [32]).length ≤ (ws.map List.length).sum + ws.length
  | [] => by simp [Lib.join_nil]
  | w :: ws => by
    rw [Lib.join_cons]
    have : ∀ l : List (List UInt8), (Lib.joinTail [32] l).length = (l.map List.length).sum + l.length := by
      intro l
      induction l with
      | nil => simp [Lib.joinTail]
      | cons x l ih => simp [Lib.joinTail] at ih ⊢; omega
    have := this ws
    simp; omega
/-- A text of keys is parsed as they were. -/
theorem parse_text {good : List UInt8 → Bool} {ws : List (List UInt8)} (hn : ws.Nodup) (hl : ws.length ≤ 32) (hg : ∀ w ∈ ws, w ≠ [] ∧ good w = true ∧ ∀ c ∈ w, c ≠ 32) : parseP good (Lib.join ws [32]) = (ws, 0) := by
  have h : parseL good [] (splitW (Lib.join ws [32])) = some ws := by
    cases ws with
    | nil => simp [Lib.join_nil, splitW, parseL]
    | cons w r =>
      rw [split_join (by simp) (fun v hv => (hg v hv).2.2)]
      exact parseL_nodup (L := []) (by simpa using hn) (fun v hv => ⟨(hg v hv).1, (hg v hv).2.1⟩)
  unfold parseP
  rw [h]
  simp only []
  rw [if_neg (by omega)]
end Go.Proofs.YtgbhhofmghgpbaaDoor
