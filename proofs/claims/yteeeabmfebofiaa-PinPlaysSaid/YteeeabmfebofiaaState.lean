/- Pins and the holds that were taken of them, as a list of holds and a list of shut keys; each method by that. -/
import Derived.Test.YteeeabmfebofiaaFree
namespace Go.Proofs.Yteeeabmfebofiaa
open Go.RowKit Go.ChangeMaps Go.Maps
set_option linter.unusedVariables false

structure Hold where
  blk : Nat
  key : Int
  cnt : Nat
  freed : Bool
def live (L : List Hold) (k : Int) : Nat := (L.filter fun x => x.key == k && !x.freed).length
theorem live_snoc (L : List Hold) (x : Hold) (k : Int) : live (L ++ [x]) k = live L k + if x.key = k ∧ x.freed = false then 1 else 0 := by
  unfold live
  rw [List.filter_append, List.length_append]
  by_cases h : x.key = k <;> cases hf : x.freed <;> simp [h, hf]
theorem live_le (L : List Hold) (k : Int) : live L k ≤ L.length := List.length_filter_le _ _
theorem live_pos {L : List Hold} {x : Hold} (hx : x ∈ L) (hf : x.freed = false) : 1 ≤ live L x.key := by
  unfold live
  exact List.length_pos_of_mem (List.mem_filter.2 ⟨hx, by simp [hf]⟩)
theorem live_zero {L : List Hold} {k : Int} (h : live L k = 0) : ∀ x ∈ L, x.key = k → x.freed = true := by
  intro x hx hk
  cases hf : x.freed with
  | true => rfl
  | false => have := live_pos hx hf; rw [hk] at this; omega
def endAt (L : List Hold) (i : Nat) : List Hold := L.modify i fun x => { x with freed := true }
theorem endAt_cons (x : Hold) (L : List Hold) (i : Nat) : endAt (x :: L) (i + 1) = x :: endAt L i := rfl
theorem live_cons (x : Hold) (L : List Hold) (k : Int) : live (x :: L) k = live L k + if x.key = k ∧ x.freed = false then 1 else 0 := by
  unfold live
  by_cases h : x.key = k <;> cases hf : x.freed <;> simp [h, hf]
theorem live_end : ∀ (L : List Hold) (i : Nat) (x : Hold) (k : Int), L[i]? = some x → live L k = live (endAt L i) k + if x.key = k ∧ x.freed = false then 1 else 0
  | [], i, x, k, h => by simp at h
  | y :: L, 0, x, k, h => by
    simp at h; subst h
    show live (y :: L) k = live ({ y with freed := true } :: L) k + _
    rw [live_cons, live_cons]; simp
  | y :: L, i + 1, x, k, h => by
    rw [endAt_cons, live_cons, live_cons, live_end L i x k (by simpa using h)]; omega
theorem end_freed {L : List Hold} {i : Nat} {x : Hold} (h : L[i]? = some x) (hf : x.freed = true) : endAt L i = L := by
  apply List.ext_getElem?
  intro j
  unfold endAt
  rw [List.getElem?_modify]
  split
  · rename_i e; subst e; rw [h]; obtain ⟨a, b, c, d⟩ := x; simp at hf; subst hf; rfl
  · simp
theorem end_length (L : List Hold) (i : Nat) : (endAt L i).length = L.length := by unfold endAt; simp
theorem end_get (L : List Hold) (i j : Nat) : (endAt L i)[j]? = if i = j then L[j]?.map (fun x => { x with freed := true }) else L[j]? := by
  unfold endAt; rw [List.getElem?_modify]; split <;> simp

/-- What lies below B, and every row of another type than Pins', counts' and holds', is as it was. -/
structure Fz (B : Nat) (w w' : World) : Prop where
  os : w'.os = w.os
  tape : w'.tape = w.tape
  output : w'.output = w.output
  size : w.heap.size ≤ w'.heap.size
  block : ∀ i, i < w.heap.size → (i < B ∨ ∃ cs t z, w.heap[i]? = some (.cells cs t z) ∧ t ≠ 69 ∧ t ≠ 87 ∧ t ≠ 78) → w'.heap[i]? = w.heap[i]?
section
variable {B : Nat} {a b c w : World}
theorem Fz.refl (B : Nat) (w : World) : Fz B w w := ⟨rfl, rfl, rfl, Nat.le_refl _, fun _ _ _ => rfl⟩
theorem Fz.trans (h : Fz B a b) (k : Fz B b c) : Fz B a c :=
  ⟨k.os.trans h.os, k.tape.trans h.tape, k.output.trans h.output, Nat.le_trans h.size k.size, fun i hi hc => by
    have e := h.block i hi hc
    rw [k.block i (Nat.lt_of_lt_of_le hi h.size) (by rw [e]; exact hc), e]⟩
theorem Fz.of_ext (h : Ext a b) (B : Nat) : Fz B a b := ⟨h.os, h.tape, h.output, h.size, fun i hi _ => h.block i hi⟩
theorem Fz.of_fr {X : List Nat} (h : Fr B X a b) (hX : ∀ i ∈ X, B ≤ i ∧ ∃ cs z, a.heap[i]? = some (.cells cs 78 z)) : Fz B a b :=
  ⟨h.os, h.tape, h.output, h.size, fun i hi hc => h.block i hi (fun e => by
    obtain ⟨h1, cs, z, h2⟩ := hX i e
    rcases hc with hc | ⟨cs', t, z', hc, _, _, hc4⟩
    · omega
    · rw [h2] at hc; injection hc with hc; injection hc with _ hc; exact hc4 hc.symm) (by
    rcases hc with hc | ⟨cs', t, z', hc, h1, h2, _⟩
    · exact .inl hc
    · exact .inr ⟨cs', t, z', hc, h1, h2⟩)⟩
theorem Fz.heap (h : Fz B a b) {i : Nat} {cs : Array Value} {t : TypeId} {z : Nat × Nat} (hi : a.heap[i]? = some (.cells cs t z)) (h1 : t ≠ 69) (h2 : t ≠ 87) (h3 : t ≠ 78) : b.heap[i]? = some (.cells cs t z) :=
  (h.block i (blk_lt hi) (.inr ⟨cs, t, z, hi, h1, h2, h3⟩)).trans hi
theorem Fz.below (h : Fz B a b) (hB : B ≤ a.heap.size) : Below B a b := ⟨h.os, h.tape, h.output, h.size, fun i hi => h.block i (Nat.lt_of_lt_of_le hi hB) (.inl hi)⟩
theorem Fz.owns (h : Fz B a b) {base : Nat} {e : TypeId} {size : Nat} {v : Value} {n : Nat} {xs : List Value} (ho : a.ownsRow base e size v n xs) (h1 : e ≠ 69) (h2 : e ≠ 87) (h3 : e ≠ 78) : b.ownsRow base e size v n xs := by
  refine ⟨ho.1, ?_⟩
  rcases ho.2 with hn | ⟨g, cap, cur, rfl, hb, hgg, rest⟩
  · exact .inl hn
  · exact .inr ⟨g, cap, cur, rfl, hb, h.heap hgg h1 h2 h3, rest⟩
end

/-- Blocks of the types that Pins have stay: so do Pins. -/
def Keeps (w w' : World) : Prop := ∀ (i : Nat) (o : Obj), w.heap[i]? = some o → (∀ cs t z, o = Obj.cells cs t z → t = 69 ∨ t = 87 ∨ t = 78) → w'.heap[i]? = some o
theorem Keeps.of_ext {w w' : World} (h : Ext w w') : Keeps w w' := fun i o hi _ => h.heap hi
theorem Keeps.of_grown {w w' : World} {base : Nat} {e : TypeId} {size : Nat} {v : Value} {n : Nat} {xs : List Value} (ho : w.ownsRow base e size v n xs) (h1 : e ≠ 69) (h2 : e ≠ 87) (h3 : e ≠ 78) (hg : w.grownBy w' v.ownBlock) : Keeps w w' := by
  intro i o hi hc
  refine (hg.block i (blk_lt hi) ?_).trans hi
  rcases ho.2 with ⟨rfl, _⟩ | ⟨g, cap, cur, rfl, hb, hgg, rest⟩
  · simp [Value.ownBlock]
  · simp [Value.ownBlock]
    rintro rfl
    rw [hgg] at hi
    injection hi with hi
    rcases hc _ _ _ hi.symm with e | e | e
    · exact h1 e
    · exact h2 e
    · exact h3 e
theorem PinsAt.keeps {w w' : World} {B b : Nat} {mo : Option Nat} {F : St} {N : Nat} {s rc : Int} (h : PinsAt w B b mo F N s rc) (hk : Keeps w w') : PinsAt w' B b mo F N s rc := by
  refine ⟨hk _ _ h.blk (fun cs t z e => by injection e with _ e; exact .inl e.symm), ?_, fun k g c e => ⟨hk _ _ (h.cnt k g c e).1 (fun cs t z e => by injection e with _ e; exact .inr (.inl e.symm)), (h.cnt k g c e).2⟩, h.inj, h.low, h.lowm⟩
  rcases h.map with h0 | ⟨mb, D, rfl, ⟨es, clock, he, hr⟩, ht⟩
  · exact .inl h0
  · exact .inr ⟨mb, D, rfl, ⟨es, clock, hk _ _ he (fun cs t z e => by cases e), hr⟩, ht⟩

def b01 (x : Bool) : Int := if x then 1 else 0
def CountOk (v : Option (Nat × Int)) (L : List Hold) (S : List Int) (k : Int) : Prop := match v with
  | none => live L k = 0 ∧ k ∉ S
  | some (g, c) => (k ∈ S ∧ c = -1 ∧ live L k = 0) ∨ (k ∉ S ∧ c = live L k ∧ 1 ≤ live L k ∧ ∀ x ∈ L, x.key = k → x.freed = false → x.cnt = g)
structure Held (w : World) (B b : Nat) (L : List Hold) : Prop where
  blk : ∀ x ∈ L, w.heap[x.blk]? = some (.cells (pinBlk b x.key x.cnt (b01 x.freed) 0) 78 (0, 0)) ∧ B ≤ x.blk ∧ (Lit.int .i64 x.key).wf = true
  nodup : (L.map Hold.blk).Nodup
def PI (w : World) (B b N : Nat) (L : List Hold) (S : List Int) : Prop := ∃ mo F, PinsAt w B b mo F N 0 0 ∧ Held w B b L ∧ L.length ≤ N ∧ ∀ k, CountOk (F k) L S k

theorem PI.keeps {w w' : World} {B b N : Nat} {L : List Hold} {S : List Int} (h : PI w B b N L S) (hk : Keeps w w') : PI w' B b N L S := by
  obtain ⟨mo, F, h1, h2, h3, h4⟩ := h
  exact ⟨mo, F, h1.keeps hk, ⟨fun x hx => ⟨hk _ _ (h2.blk x hx).1 (fun cs t z e => by injection e with _ e; exact .inr (.inr e.symm)), (h2.blk x hx).2⟩, h2.nodup⟩, h3, h4⟩
theorem PI.more {w : World} {B b N M : Nat} {L : List Hold} {S : List Int} (h : PI w B b N L S) (hM : N ≤ M) : PI w B b M L S := by
  obtain ⟨mo, F, h1, h2, h3, h4⟩ := h
  exact ⟨mo, F, h1.more hM, h2, by omega, h4⟩
theorem PI.low {w : World} {B b N : Nat} {L : List Hold} {S : List Int} (h : PI w B b N L S) : B ≤ w.heap.size := by
  obtain ⟨mo, F, h1, _⟩ := h
  have := blk_lt h1.blk; have := h1.low; omega
/-- The holds lie on where the blocks of another type than Pins' and counts' stay. -/
theorem Held.fr {w w' : World} {B b : Nat} {L : List Hold} {X : List Nat} (h : Held w B b L) (hf : Fr B X w w') (hX : ∀ x ∈ L, x.blk ∉ X) : Held w' B b L :=
  ⟨fun x hx => ⟨hf.heap (h.blk x hx).1 (hX x hx) (by decide) (by decide), (h.blk x hx).2⟩, h.nodup⟩

theorem pi_new (w : World) : Calls Try.prog 10 #[] w fun e w' => e = .returned (.pointer (some ⟨w.heap.size, 0, none⟩)) ∧ (PI w' w.heap.size w.heap.size 0 [] [] ∧ Ext w w') :=
  (new_any w w.heap.size (Nat.le_refl _)).mono fun e w' ⟨he, hw⟩ => ⟨he, by subst hw; exact ⟨⟨none, _, new_pins w _ (Nat.le_refl _), ⟨by simp, by simp⟩, by simp, fun k => ⟨rfl, by simp⟩⟩, Ext.alloc (Ext.refl _) _⟩⟩

def TookP (w : World) (B b N : Nat) (L : List Hold) (S : List Int) (k : Int) (e : Ending) (w' : World) : Prop :=
  ∃ h g, e = .returned (.tuple #[.pointer (some ⟨h, 0, none⟩), .int .i64 0]) ∧ PI w' B b (N + 1) (L ++ [⟨h, k, g, false⟩]) S ∧ Fz B w w'
theorem pi_take (w : World) (B b N : Nat) (L : List Hold) (S : List Int) (k : Int) (h : PI w B b N L S) (hk : (Lit.int .i64 k).wf = true) (hN : N ≤ 100000) (hS : k ∉ S) : Calls Try.prog 11 #[.pointer (some ⟨b, 0, none⟩), .int .i64 k] w (TookP w B b N L S k) := by
  have hlow := h.low
  obtain ⟨mo, F, h1, h2, h3, h4⟩ := h
  have hc : ∀ g c, F k = some (g, c) → 1 ≤ c ∧ c ≤ 100000 := fun g c e => by
    have := h4 k
    rw [e] at this
    rcases this with ⟨h, _⟩ | ⟨_, h5, h6, _⟩
    · exact absurd h hS
    · have := live_le L k; omega
  have hcnt : cntOf F k = live L k := by
    have := h4 k
    unfold cntOf
    revert this
    cases F k with
    | none => intro this; simp [CountOk] at this; simp [this.1]
    | some gc =>
      intro this
      rcases this with ⟨h, _⟩ | ⟨_, h5, h6, _⟩
      · exact absurd h hS
      · exact h5
  refine (take_any w B b mo F N k h1 hk hN hc hlow).mono ?_
  rintro e w' ⟨hh, g, mo', rfl, q1, q2, q3, q4, q5⟩
  have hnew : ∀ x ∈ L, x.blk ≠ hh := fun x hx e => by have := blk_lt (h2.blk x hx).1; omega
  have h2' := h2.fr q5 (by simp)
  refine ⟨hh, g, rfl, ⟨mo', _, q4, ⟨fun x hx => ?_, ?_⟩, by simp; omega, fun k' => ?_⟩, Fz.of_fr q5 (by simp)⟩
  · rcases List.mem_append.1 hx with hx | hx
    · exact h2'.blk x hx
    · simp at hx; subst hx; exact ⟨q1, Nat.le_trans hlow q2, hk⟩
  · rw [List.map_append, List.nodup_append]
    refine ⟨h2.nodup, by simp, ?_⟩
    intro a ha b hb
    simp at hb
    obtain ⟨x, hx, rfl⟩ := List.mem_map.1 ha
    rw [hb]; exact hnew x hx
  · by_cases e : k' = k
    · subst e
      rw [upd_same, hcnt]
      refine .inr ⟨hS, by rw [live_snoc]; simp, by rw [live_snoc]; simp, fun x hx hxk hxf => ?_⟩
      rcases List.mem_append.1 hx with hx | hx
      · have h4k := h4 k'
        cases hF : F k' with
        | none => rw [hF] at h4k; have := live_pos hx hxf; rw [hxk] at this; have := h4k.1; omega
        | some gc =>
          obtain ⟨g0, c0⟩ := gc
          rw [hF] at h4k
          have := q3 g0 c0 hF
          rcases h4k with ⟨h, _⟩ | ⟨_, _, _, h6⟩
          · exact absurd h hS
          · rw [← this]; exact h6 x hx hxk hxf
      · simp at hx; subst hx; rfl
    · rw [upd_other F e]
      have h4k := h4 k'
      have e0 : live (L ++ [⟨hh, k, g, false⟩]) k' = live L k' := by rw [live_snoc, if_neg (fun h => e h.1.symm)]; rfl
      revert h4k
      cases F k' with
      | none => intro h4k; exact ⟨by rw [e0]; exact h4k.1, h4k.2⟩
      | some gc =>
        intro h4k
        rcases h4k with ⟨a, b, c⟩ | ⟨a, b, c, d⟩
        · exact .inl ⟨a, b, by rw [e0]; exact c⟩
        · refine .inr ⟨a, by rw [e0]; exact b, by rw [e0]; exact c, fun x hx hxk hxf => ?_⟩
          rcases List.mem_append.1 hx with hx | hx
          · exact d x hx hxk hxf
          · simp at hx; subst hx; exact absurd hxk.symm e

def StaysP (w : World) (B b N : Nat) (L : List Hold) (S : List Int) (v : Value) (e : Ending) (w' : World) : Prop := e = .returned v ∧ PI w' B b N L S ∧ Fz B w w'
theorem pi_take_shut (w : World) (B b N : Nat) (L : List Hold) (S : List Int) (k : Int) (h : PI w B b N L S) (hk : (Lit.int .i64 k).wf = true) (hS : k ∈ S) : Calls Try.prog 11 #[.pointer (some ⟨b, 0, none⟩), .int .i64 k] w (StaysP w B b N L S (.tuple #[.pointer none, .int .i64 15])) := by
  obtain ⟨mo, F, h1, h2, h3, h4⟩ := h
  have hF : ∃ g, F k = some (g, -1) := by
    have := h4 k
    revert this
    cases F k with
    | none => intro this; exact absurd hS this.2
    | some gc =>
      obtain ⟨g, c⟩ := gc
      intro this
      rcases this with ⟨_, h, _⟩ | ⟨h, _⟩
      · exact ⟨g, by rw [h]⟩
      · exact absurd hS h
  obtain ⟨g, hF⟩ := hF
  refine (take_shut w B b mo F N k g h1 hk hF).mono ?_
  rintro e w' ⟨rfl, mo', q1, q2⟩
  exact ⟨rfl, ⟨mo', F, q1, h2.fr q2 (by simp), h3, h4⟩, Fz.of_fr q2 (by simp)⟩

def shutOf (L : List Hold) (S : List Int) (k : Int) : List Int := if live L k = 0 ∧ k ∉ S then S ++ [k] else S
theorem pi_shut (w : World) (B b N : Nat) (L : List Hold) (S : List Int) (k : Int) (h : PI w B b N L S) (hk : (Lit.int .i64 k).wf = true) (hN : N ≤ 100000) : Calls Try.prog 14 #[.pointer (some ⟨b, 0, none⟩), .int .i64 k] w (StaysP w B b (N + 1) L (shutOf L S k) (.bool (decide (live L k = 0)))) := by
  have hlow := h.low
  obtain ⟨mo, F, h1, h2, h3, h4⟩ := h
  have h4k := h4 k
  cases hF : F k with
  | none =>
    rw [hF] at h4k
    refine (shut_free w B b mo F N k h1 hk hF hN hlow).mono ?_
    rintro e w' ⟨rfl, mo', g, q1, q2⟩
    have e1 : shutOf L S k = S ++ [k] := by unfold shutOf; rw [if_pos ⟨h4k.1, h4k.2⟩]
    rw [e1]
    refine ⟨by rw [h4k.1]; rfl, ⟨mo', _, q1, h2.fr q2 (by simp), by omega, fun k' => ?_⟩, Fz.of_fr q2 (by simp)⟩
    by_cases e : k' = k
    · subst e; rw [upd_same]; exact .inl ⟨by simp, rfl, h4k.1⟩
    · rw [upd_other F e]
      have h4' := h4 k'
      revert h4'
      cases F k' with
      | none => intro h4'; exact ⟨h4'.1, by simp [h4'.2, e]⟩
      | some gc =>
        intro h4'
        rcases h4' with ⟨a, b⟩ | ⟨a, b⟩
        · exact .inl ⟨by simp [a], b⟩
        · exact .inr ⟨by simp [a, e], b⟩
  | some gc =>
    obtain ⟨g, c⟩ := gc
    rw [hF] at h4k
    have hc0 : c ≠ 0 := by rcases h4k with ⟨_, h, _⟩ | ⟨_, h, h', _⟩ <;> omega
    refine (shut_stays w B b mo F N k g c h1 hk hF hc0).mono ?_
    rintro e w' ⟨rfl, mo', q1, q2⟩
    have e1 : shutOf L S k = S := by
      unfold shutOf
      rcases h4k with ⟨h, _⟩ | ⟨_, _, h, _⟩
      · rw [if_neg (fun x => x.2 h)]
      · rw [if_neg (fun x => by omega)]
    rw [e1]
    refine ⟨ret_bool ?_, ⟨mo', F, q1.more (by omega), h2.fr q2 (by simp), by omega, h4⟩, Fz.of_fr q2 (by simp)⟩
    rcases h4k with ⟨_, h, h'⟩ | ⟨_, h, h', _⟩
    · rw [h, h']; rfl
    · rw [decide_eq_false (by omega), decide_eq_false (by omega)]

theorem pi_held (w : World) (B b N : Nat) (L : List Hold) (S : List Int) (k : Int) (h : PI w B b N L S) (hk : (Lit.int .i64 k).wf = true) : Calls Try.prog 13 #[.pointer (some ⟨b, 0, none⟩), .int .i64 k] w fun e w' => e = .returned (.int .i64 (live L k)) ∧ w = w' := by
  obtain ⟨mo, F, h1, h2, h3, h4⟩ := h
  have h4k := h4 k
  refine (held_any w B b mo F N k h1 hk (fun g c e => ?_)).mono fun e w' ⟨he, hw⟩ => ⟨?_, hw.symm⟩
  · rw [e] at h4k
    rcases h4k with ⟨_, h, _⟩ | ⟨_, h, h', _⟩ <;> omega
  · rw [he]
    refine ret_int ?_
    unfold heldOf
    revert h4k
    cases F k with
    | none => intro h4k; simp [h4k.1]
    | some gc =>
      intro h4k
      rcases h4k with ⟨_, h, h'⟩ | ⟨_, h, h', _⟩ <;> (simp only []; omega)

theorem pi_free (w : World) (B b N : Nat) (L : List Hold) (S : List Int) (i : Nat) (x : Hold) (h : PI w B b N L S) (hN : N ≤ 100000) (hx : L[i]? = some x) : Calls Try.prog 12 #[.pointer (some ⟨x.blk, 0, none⟩)] w (StaysP w B b N (endAt L i) S (.bool (!x.freed))) := by
  obtain ⟨mo, F, h1, h2, h3, h4⟩ := h
  have hm : x ∈ L := List.mem_of_getElem? hx
  obtain ⟨hb1, hb2, hb3⟩ := h2.blk x hm
  cases hf : x.freed with
  | true =>
    rw [hf] at hb1
    refine (free_again w b x.key x.cnt x.blk hb1).mono ?_
    rintro e w' ⟨rfl, q⟩
    rw [end_freed hx hf]
    exact ⟨rfl, PI.keeps ⟨mo, F, h1, h2, h3, h4⟩ (.of_ext q), Fz.of_ext q B⟩
  | false =>
    rw [hf] at hb1
    have h4k := h4 x.key
    have hp := live_pos hm hf
    have hll := live_le L x.key
    have hF : F x.key = some (x.cnt, (live L x.key : Int)) ∧ x.key ∉ S := by
      revert h4k
      cases F x.key with
      | none => intro h4k; have := h4k.1; omega
      | some gc =>
        obtain ⟨g, c⟩ := gc
        intro h4k
        rcases h4k with ⟨_, _, h⟩ | ⟨h0, h, h', h''⟩
        · omega
        · rw [h'' x hm rfl hf, h]; exact ⟨rfl, h0⟩
    obtain ⟨hF, hS⟩ := hF
    refine (free_first w B b mo F N x.key x.cnt x.blk _ h1 hb3 hF (by omega) (by omega) hb1).mono ?_
    rintro e w' ⟨rfl, mo', q1, q2, q3⟩
    have dist : ∀ j y, L[j]? = some y → j ≠ i → y.blk ≠ x.blk := fun j y hy hj e => by
      have hnd := h2.nodup
      rw [List.nodup_iff_pairwise_ne, List.pairwise_iff_getElem] at hnd
      obtain ⟨lj, ej⟩ := List.getElem?_eq_some_iff.1 hy
      obtain ⟨li, ei⟩ := List.getElem?_eq_some_iff.1 hx
      rcases Nat.lt_or_gt_of_ne hj with hlt | hlt
      · exact hnd j i (by simpa using lj) (by simpa using li) hlt (by simp [ej, ei, e])
      · exact hnd i j (by simpa using li) (by simpa using lj) hlt (by simp [ej, ei, e])
    have hme : ∀ y ∈ endAt L i, (∃ j, L[j]? = some y ∧ j ≠ i) ∨ y = { x with freed := true } := fun y hy => by
      obtain ⟨j, hj⟩ := List.getElem?_of_mem hy
      rw [end_get] at hj
      split at hj
      · rename_i e; subst e; rw [hx] at hj; simp at hj; exact .inr hj.symm
      · rename_i e; exact .inl ⟨j, hj, fun h => e h.symm⟩
    refine ⟨rfl, ⟨mo', _, q1, ⟨fun y hy => ?_, ?_⟩, by rw [end_length]; exact h3, fun k' => ?_⟩, Fz.of_fr q3 (fun j hj => by obtain rfl := List.mem_singleton.1 hj; exact ⟨hb2, _, _, hb1⟩)⟩
    · rcases hme y hy with ⟨j, hj, hji⟩ | rfl
      · have hb := h2.blk y (List.mem_of_getElem? hj)
        exact ⟨q3.heap hb.1 (by simp; exact dist j y hj hji) (by decide) (by decide), hb.2⟩
      · exact ⟨q2, hb2, hb3⟩
    · have : (endAt L i).map Hold.blk = L.map Hold.blk := by
        apply List.ext_getElem?
        intro j
        rw [List.getElem?_map, List.getElem?_map, end_get]
        split
        · cases L[j]? <;> rfl
        · rfl
      rw [this]; exact h2.nodup
    · have hle := live_end L i x k' hx
      by_cases e : k' = x.key
      · subst e
        rw [if_pos ⟨rfl, hf⟩] at hle
        unfold downOf
        by_cases h1' : (live L x.key : Int) = 1
        · rw [if_pos h1', upd_same]
          exact ⟨by omega, hS⟩
        · rw [if_neg h1', upd_same]
          refine .inr ⟨hS, by omega, by omega, fun y hy hyk hyf => ?_⟩
          have h4k := h4 x.key
          rw [hF] at h4k
          rcases h4k with ⟨_, _, h⟩ | ⟨h0, h, h', h''⟩
          · omega
          · rcases hme y hy with ⟨j, hj, hji⟩ | rfl
            · exact h'' y (List.mem_of_getElem? hj) hyk hyf
            · cases hyf
      · rw [if_neg (fun h => e h.1.symm)] at hle
        have e2 : downOf F x.key x.cnt (live L x.key) k' = F k' := by
          unfold downOf; split <;> exact upd_other F e _
        rw [e2]
        have h4' := h4 k'
        revert h4'
        cases F k' with
        | none => intro h4'; exact ⟨by have := h4'.1; omega, h4'.2⟩
        | some gc =>
          intro h4'
          rcases h4' with ⟨a, b, c⟩ | ⟨a, b, c, d⟩
          · exact .inl ⟨a, b, by omega⟩
          · refine .inr ⟨a, by omega, by omega, fun y hy hyk hyf => ?_⟩
            rcases hme y hy with ⟨j, hj, hji⟩ | rfl
            · exact d y (List.mem_of_getElem? hj) hyk hyf
            · cases hyf

theorem pi_key (w : World) (B b N : Nat) (L : List Hold) (S : List Int) (x : Hold) (h : PI w B b N L S) (hx : x ∈ L) : Calls Try.prog 16 #[.pointer (some ⟨x.blk, 0, none⟩)] w fun e w' => e = .returned (.int .i64 x.key) ∧ w = w' := by
  obtain ⟨mo, F, h1, h2, h3, h4⟩ := h
  exact key_any w b x.key x.cnt x.blk _ _ (h2.blk x hx).1
end Go.Proofs.Yteeeabmfebofiaa
