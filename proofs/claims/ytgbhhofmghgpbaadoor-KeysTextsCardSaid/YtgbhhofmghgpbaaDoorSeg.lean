/- A region that draws its order, walked once: operations that only compute or read are taken as soon as they may come up, in every world that has grown out of the one at hand; operations that make memory or write (calls, appends, stores) come one behind the other, as the region's own edges force them. -/
import Derived.OrdersHeld
import Derived.BigQuiet
import Derived.Below
import Derived.WalkKit
namespace Go.Proofs.YtgbhhofmghgpbaaDoor
open Go.RowKit

/-- Nothing of W has turned in w'; new blocks may lie behind it. -/
def Ext (W w' : World) : Prop := Below W.heap.size W w'
theorem Ext.refl (W : World) : Ext W W := Below.refl _ _
theorem Ext.trans {a b c : World} (h : Ext a b) (k : Ext b c) : Ext a c := Below.trans h (Below.mono k h.size)
theorem Ext.drew {a b : World} (h : Ext a b) : Ext a b.drew := Below.drew h
theorem Ext.drewN {a b : World} (h : Ext a b) (n : Nat) : Ext a (b.drewN n) := ⟨h.os, h.tape, h.output, h.size, h.block⟩
theorem Ext.alloc {a b : World} (h : Ext a b) (o : Obj) : Ext a (b.alloc o) := Below.alloc h h.size o
theorem Ext.cell {a b : World} (h : Ext a b) {p : Addr} {v : Value} (hp : a.cell? p = some v) : b.cell? p = some v := by
  rw [Below.cell h (World.block_lt_of_cell? a p hp)]; exact hp
theorem Ext.heap {a b : World} (h : Ext a b) {r : Nat} {o : Obj} (hr : a.heap[r]? = some o) : b.heap[r]? = some o :=
  (h.block r (Array.getElem?_eq_some_iff.1 hr).1).trans hr
theorem Ext.lt {a b : World} (h : Ext a b) {r : Nat} (hr : r < a.heap.size) : r < b.heap.size := Nat.lt_of_lt_of_le hr h.size

/-- Nothing of W has turned in w' but the blocks X; new blocks may lie behind it. -/
structure ExtB (X : List Nat) (W w' : World) : Prop where
  os : w'.os = W.os
  tape : w'.tape = W.tape
  output : w'.output = W.output
  size : W.heap.size ≤ w'.heap.size
  block : ∀ k, k < W.heap.size → k ∉ X → w'.heap[k]? = W.heap[k]?
section
variable {X : List Nat} {a b c W : World}
theorem ExtB.refl (X : List Nat) (W : World) : ExtB X W W := ⟨rfl, rfl, rfl, Nat.le_refl _, fun _ _ _ => rfl⟩
theorem ExtB.trans (h : ExtB X a b) (k : ExtB X b c) : ExtB X a c :=
  ⟨k.os.trans h.os, k.tape.trans h.tape, k.output.trans h.output, Nat.le_trans h.size k.size, fun i hi hx => (k.block i (Nat.lt_of_lt_of_le hi h.size) hx).trans (h.block i hi hx)⟩
theorem ExtB.of (h : Ext a b) (X : List Nat) : ExtB X a b := ⟨h.os, h.tape, h.output, h.size, fun k hk _ => h.block k hk⟩
theorem ExtB.ext (h : ExtB [] a b) : Ext a b := ⟨h.os, h.tape, h.output, h.size, fun k hk => h.block k hk (by simp)⟩
theorem ExtB.drew (h : ExtB X a b) : ExtB X a b.drew := ⟨h.os, h.tape, h.output, h.size, h.block⟩
theorem ExtB.alloc (h : ExtB X a b) (o : Obj) : ExtB X a (b.alloc o) := h.trans (.of (Ext.alloc (Ext.refl b) o) X)
theorem ExtB.setCell (h : ExtB X a b) {p : Addr} (hp : p.block ∈ X ∨ a.heap.size ≤ p.block) (u : Value) : ExtB X a (b.setCell p u) :=
  ⟨h.os, h.tape, h.output, by simpa [World.setCell] using h.size, fun k hk hx => (Below.heap_setCell b p u k (by
    rintro rfl
    rcases hp with hp | hp
    · exact hx hp
    · omega)).trans (h.block k hk hx)⟩
theorem ExtB.heap (h : ExtB X a b) {r : Nat} {o : Obj} (hr : a.heap[r]? = some o) (hx : r ∉ X) : b.heap[r]? = some o :=
  (h.block r (Array.getElem?_eq_some_iff.1 hr).1 hx).trans hr
theorem ExtB.cell (h : ExtB X a b) {p : Addr} {v : Value} (hp : a.cell? p = some v) (hx : p.block ∉ X) : b.cell? p = some v := by
  rw [World.cell?_of_block (h.block p.block (World.block_lt_of_cell? a p hp) hx)]; exact hp
theorem ExtB.mono {Y : List Nat} (h : ExtB X a b) (hXY : ∀ k ∈ X, k ∈ Y) : ExtB Y a b := ⟨h.os, h.tape, h.output, h.size, fun k hk hx => h.block k hk (fun hh => hx (hXY k hh))⟩
theorem ExtB.below {B : Nat} (h : ExtB X a b) (hB : B ≤ a.heap.size) (hX : ∀ k ∈ X, B ≤ k) : Below B a b :=
  ⟨h.os, h.tape, h.output, h.size, fun k hk => h.block k (Nat.lt_of_lt_of_le hk hB) (fun hh => by have := hX k hh; omega)⟩
end

/-- The worlds that have grown out of W, the blocks X aside. -/
structure Grow (X : List Nat) (W : World) where
  v : World
  ext : ExtB X W v
instance instNonemptyGrow (X : List Nat) (W : World) : Nonempty (Grow X W) := ⟨⟨W, ExtB.refl X W⟩⟩
def InGrow (X : List Nat) (W w' : World) : Prop := ∃ x : Grow X W, w' = x.v
attribute [go_sem] InGrow
theorem inGrow_of {X : List Nat} {W w' : World} (h : ExtB X W w') : InGrow X W w' := ⟨⟨w', h⟩, rfl⟩

def pureOp : Op → Bool
  | .move _ | .assign _ | .pick .. | .load .. | .nilCheck _ | .binOp .. | .unOp .. | .convert .. | .fieldAddr .. | .field .. | .indexAddr .. | .index .. | .lookup .. | .extract .. | .slice .. | .makeInterface .. | .makeFunc .. | .build .. => true
  | .call { callee := .builtin .len, .. } | .call { callee := .builtin .min, .. } | .call { callee := .builtin .max, .. } | .call { callee := .builtin .cap, .. } => true
  | _ => false

theorem value_of_run {P : Program} {ρ : Operand → Value} {o : Oper} (hp : pureOp o.op = true) {w w' : World} {n : Next} (h : (execOp ρ o).run P w = .ok n w') : ∃ v, n = .value v := by
  have bindv : ∀ (s : Sem Value), (do pure (Next.value (← s)) : Sem Next).run P w = .ok n w' → ∃ v, n = .value v := by
    intro s hs
    rw [Sem.run_bind] at hs
    cases hr : s.run P w with
    | ok v w1 => rw [hr] at hs; simp [Result.andThen] at hs; exact ⟨v, hs.1.symm⟩
    | halt x w1 => rw [hr] at hs; simp [Result.andThen] at hs
  obtain ⟨dst, op, type, pos, after, guard⟩ := o
  cases op <;> simp only [pureOp] at hp <;> try (exact absurd hp (by decide))
  case move x => simp [execOp] at h; exact ⟨_, h.1.symm⟩
  case assign x => simp [execOp] at h; exact ⟨_, h.1.symm⟩
  case pick c x y =>
    simp only [execOp] at h
    rw [Sem.run_bind] at h
    cases hr : (asBool (ρ c)).run P w with
    | ok v w1 => rw [hr] at h; simp [Result.andThen] at h; exact ⟨_, h.1.symm⟩
    | halt x w1 => rw [hr] at h; simp [Result.andThen] at h
  case nilCheck x =>
    simp only [execOp] at h
    split at h
    · simp [runtimePanic, goPanic] at h
    · simp [runtimePanic, goPanic] at h
    · simp [runtimePanic, goPanic] at h
    · split at h
      · simp [runtimePanic, goPanic] at h
      · rename_i t v _
        rw [Sem.run_bind] at h
        cases hr : (program).run P w with
        | ok p w1 =>
          rw [hr] at h
          simp only [Result.andThen_ok] at h
          rw [Sem.run_bind] at h
          revert h
          generalize (nilAhead _ _ _ _).run P w1 = r
          intro h
          cases r with
          | ok b w2 =>
            simp only [Result.andThen_ok] at h
            split at h
            · simp [unsupported] at h
            · simp at h; exact ⟨_, h.1.symm⟩
          | halt x w2 => simp [Result.andThen] at h
        | halt x w1 => rw [hr] at h; simp [Result.andThen] at h
      · simp at h; exact ⟨_, h.1.symm⟩
    · simp at h; exact ⟨_, h.1.symm⟩
  case call c =>
    obtain ⟨callee, args, argTypes⟩ := c
    cases callee with
    | value f => simp at hp
    | invoke r m => simp at hp
    | builtin b =>
      simp only [execOp, resolve, invoke, Sem.run_bind, Sem.run_pure, Result.andThen_ok] at h
      cases b <;> simp at hp <;> exact bindv _ h
  all_goals exact bindv _ h

/-! ### the walk by segments -/
def pickOps (ops : Array Oper) (ks : List Nat) : List Oper := ks.map fun k => ops.toList.getD k default
theorem pick_of {ops : Array Oper} {k : Nat} {o : Oper} (h : ops[k]? = some o) (ks : List Nat) : pickOps ops (k :: ks) = o :: pickOps ops ks := by
  simp [pickOps, h]

/-- '.inl ks': these only compute or read, in every world that has grown out of the one at hand; '.inr (.inl k)': this one is carried out by itself, and the world grows; '.inr (.inr k)': this one comes behind all that has been read so far, and may write. -/
def wpSegs (P : Program) (ops : Array Oper) (Q : Exit → Act → World → Prop) (X : List Nat) : List (List Nat ⊕ (Nat ⊕ Nat)) → Act → World → Prop
  | [], a, w => Q .normal a w
  | .inl ks :: r, a, w => wpQuiet P ops (InGrow X w) (fun a' => wpSegs P ops Q X r a' w) (pickOps ops ks) a
  | .inr (.inl k) :: r, a, w => wpList P ops (Exit.then (fun a' w' => ExtB X w w' ∧ wpSegs P ops Q X r a' w') Q) (pickOps ops [k]) a w
  | .inr (.inr k) :: r, a, w => wpList P ops (Exit.then (fun a' w' => wpSegs P ops Q X r a' w') Q) (pickOps ops [k]) a w

section
variable {P : Program} {ops : Array Oper} {Q : Exit → Act → World → Prop} {X : List Nat} {ks : List Nat} {k : Nat} {r : List (List Nat ⊕ (Nat ⊕ Nat))} {a : Act} {w : World}
theorem wpSegs_inl : wpSegs P ops Q X (.inl ks :: r) a w = wpQuiet P ops (InGrow X w) (fun a' => wpSegs P ops Q X r a' w) (pickOps ops ks) a := rfl
theorem wpSegs_grow : wpSegs P ops Q X (.inr (.inl k) :: r) a w = wpList P ops (Exit.then (fun a' w' => ExtB X w w' ∧ wpSegs P ops Q X r a' w') Q) (pickOps ops [k]) a w := rfl
theorem wpSegs_last : wpSegs P ops Q X (.inr (.inr k) :: r) a w = wpList P ops (Exit.then (fun a' w' => wpSegs P ops Q X r a' w') Q) (pickOps ops [k]) a w := rfl
theorem wpSegs_nil : wpSegs P ops Q X [] a w = Q .normal a w := rfl
end

/-- Operation j comes behind operation i, by the region's edges, in at most so many steps. -/
def waitsIn (ops : Array Oper) : Nat → Nat → Nat → Bool
  | 0, _, _ => false
  | f + 1, j, i => match ops[j]? with
    | some oj => oj.after.any fun e => Region.binds .any e && (e.on == i || waitsIn ops f e.on i)
    | none => false
def waits (ops : Array Oper) (j i : Nat) : Bool := waitsIn ops 8 j i
def Closed (ops : Array Oper) (listed : Array Bool) : Prop := ∀ j oj, ops[j]? = some oj → listed.getD j false = true → ∀ e ∈ oj.after, Region.binds .any e = true → listed.getD e.on false = true
theorem waitsIn_listed {ops : Array Oper} {listed : Array Bool} (hc : Closed ops listed) {i : Nat} : ∀ (f j : Nat) (oj : Oper), ops[j]? = some oj → (∀ e ∈ oj.after, Region.binds .any e = true → listed.getD e.on false = true) → waitsIn ops f j i = true → listed.getD i false = true
  | 0, j, oj, hj, hall, h => by simp [waitsIn] at h
  | f + 1, j, oj, hj, hall, h => by
    simp only [waitsIn, hj] at h
    obtain ⟨e, he, hb⟩ := Array.any_eq_true'.1 h
    simp only [Bool.and_eq_true, Bool.or_eq_true, beq_iff_eq] at hb
    have hl := hall e he hb.1
    rcases hb.2 with h1 | h1
    · rw [← h1]; exact hl
    · cases ho : ops[e.on]? with
      | none => cases f <;> simp [waitsIn, ho] at h1
      | some oe => exact waitsIn_listed hc f e.on oe ho (hc e.on oe ho hl) h1
theorem Closed.set {ops : Array Oper} {listed : Array Bool} (hc : Closed ops listed) {i : Nat} (hi : i ∈ Region.ready .any ops listed) : Closed ops (listed.setIfInBounds i true) := by
  obtain ⟨_, oi, hoi, hall⟩ := mem_ready.1 hi
  intro j oj hj hl e he hb
  by_cases hij : i = j
  · subst hij
    have : oj = oi := Option.some.inj (hj.symm.trans hoi)
    subst this
    exact getD_set_true (hall e he hb)
  · rw [getD_set_ne false hij] at hl
    exact getD_set_true (hc j oj hj hl e he hb)
theorem Closed.none (ops : Array Oper) (n : Nat) : Closed ops (Array.replicate n false) := by
  intro j oj _ hl
  rcases Nat.lt_or_ge j n with h | h
  · simp [h] at hl
  · simp [h] at hl

def pureB (ops : Array Oper) (zs : List Nat) : List Nat → Array Bool → Option (Array Bool)
  | [], listed => some listed
  | k :: ks, listed =>
    if (Region.ready .any ops listed).contains k && Region.free .any ops listed k && ((ops[k]?).map fun o => pureOp o.op).getD false && zs.all (fun j => listed.getD j true || waits ops j k) && !zs.contains k then pureB ops zs ks (listed.setIfInBounds k true) else none
def segsB (ops : Array Oper) (zs : List Nat) : List (List Nat ⊕ (Nat ⊕ Nat)) → Array Bool → Bool
  | [], listed => (Region.ready .any ops listed).isEmpty
  | .inl ks :: r, listed => match pureB ops zs ks listed with
    | some l' => segsB ops zs r l'
    | none => false
  | .inr (.inl k) :: r, listed => decide (Region.ready .any ops listed = [k]) && !zs.contains k && segsB ops zs r (listed.setIfInBounds k true)
  | .inr (.inr k) :: r, listed => decide (Region.ready .any ops listed = [k]) && zs.contains k && segsB ops zs r (listed.setIfInBounds k true)
def segLen : List (List Nat ⊕ (Nat ⊕ Nat)) → Nat
  | [] => 0
  | .inl ks :: r => ks.length + segLen r
  | .inr _ :: r => 1 + segLen r
def segZ : List (List Nat ⊕ (Nat ⊕ Nat)) → List Nat
  | [] => []
  | .inr (.inr k) :: r => k :: segZ r
  | _ :: r => segZ r

/-- Whatever order is picked from here on; S holds behind each operation but those of zs. -/
def wpAnyN (P : Program) (ops : Array Oper) (Q : Exit → Act → World → Prop) (S : World → Prop) (zs : List Nat) : Nat → Array Bool → Act → World → Prop
  | 0, listed, a, w => Region.ready .any ops listed = [] ∧ Q .normal a w
  | fuel + 1, listed, a, w => (Region.ready .any ops listed = [] → Q .normal a w) ∧
    ∀ i ∈ Region.ready .any ops listed, wpOp P ops Q i (fun a' w' => (zs.contains i = true ∧ wpAny P .any ops Q fuel (listed.setIfInBounds i true) a' w') ∨ (zs.contains i = false ∧ S w' ∧ wpAnyN P ops Q S zs fuel (listed.setIfInBounds i true) a' w')) a w

section
variable {P : Program} {ops : Array Oper} {Q : Exit → Act → World → Prop} {X : List Nat} {zs : List Nat}

theorem wpAny_of_N {S : World → Prop} : ∀ (fuel : Nat) (listed : Array Bool) (a : Act) (w : World), wpAnyN P ops Q S zs fuel listed a w → wpAny P .any ops Q fuel listed a w
  | 0, _, _, _, h => h
  | fuel + 1, _, _, _, h => ⟨h.1, fun i hi => wpOp_mono (fun a' w' h' => by
    rcases h' with h' | h'
    · exact h'.2
    · exact wpAny_of_N fuel _ a' w' h'.2.2) (h.2 i hi)⟩

theorem wpAnyN_weaken {S S' : World → Prop} (h : ∀ w, S w → S' w) : ∀ (fuel : Nat) (listed : Array Bool) (a : Act) (w : World), wpAnyN P ops Q S zs fuel listed a w → wpAnyN P ops Q S' zs fuel listed a w
  | 0, _, _, _, hh => hh
  | fuel + 1, _, _, _, hh => ⟨hh.1, fun i hi => wpOp_mono (fun a' w' h' => by
    rcases h' with h' | h'
    · exact .inl h'
    · exact .inr ⟨h'.1, h w' h'.2.1, wpAnyN_weaken h fuel _ a' w' h'.2.2⟩) (hh.2 i hi)⟩

theorem wpAnyN_done {S : World → Prop} {listed : Array Bool} {a : Act} {w : World} (hr : Region.ready .any ops listed = []) (h : Q .normal a w) : ∀ fuel, wpAnyN P ops Q S zs fuel listed a w
  | 0 => ⟨hr, h⟩
  | _ + 1 => ⟨fun _ => h, by rw [hr]; simp⟩

theorem not_listed_both {listed : Array Bool} {i : Nat} (h0 : listed.getD i true = false) (h1 : listed.getD i false = true) : False := by
  rcases Nat.lt_or_ge i listed.size with h' | h'
  · simp [h'] at h0 h1; rw [h0] at h1; cases h1
  · simp [Array.getElem?_eq_none h'] at h1

/-- What yields its value in every world that meets S may be taken first. -/
theorem wpAnyN_first {S : World → Prop} {i : Nat} {oi : Oper} {v : Value} (hi : ops[i]? = some oi) (hsel : ∀ (j : Nat) (o : Oper) cs b, ops[j]? = some o → o.op ≠ .select cs b)
    (hQ : ∀ c a w, Q (.panic c) (a.put oi.dst v) w → Q (.panic c) a w) (hiz : zs.contains i = false) :
    ∀ (fuel : Nat) (listed : Array Bool) (a : Act) (w : World),
      Closed ops listed → (∀ j ∈ zs, listed.getD j true = false → waits ops j i = true) →
      (∀ j oj, ops[j]? = some oj → j ≠ i → listed.getD j true = false → (∀ e ∈ oj.after, Region.binds .any e = true → e.on ≠ i) → oi.apart ops oj = true) →
      i ∈ Region.ready .any ops listed → YieldsIf P ops S oi v a → S w →
      wpAnyN P ops Q S zs fuel (listed.setIfInBounds i true) (a.put oi.dst v) w → wpAnyN P ops Q S zs (fuel + 1) listed a w := by
  intro fuel
  induction fuel with
  | zero =>
    intro listed a w _ _ _ hr hy hS H
    refine ⟨fun h => (by rw [h] at hr; cases hr), fun j hj => ?_⟩
    by_cases hji : j = i
    · subst hji; exact hy.wpOp hi hS (.inr ⟨hiz, hS, H⟩)
    · have hm := ready_mono hj hji
      rw [H.1] at hm; cases hm
  | succ fuel ih =>
    intro listed a w hcl hz hfree hr hy hS H
    refine ⟨fun h => (by rw [h] at hr; cases hr), fun j hj => ?_⟩
    by_cases hji : j = i
    · subst hji; exact hy.wpOp hi hS (.inr ⟨hiz, hS, H⟩)
    · obtain ⟨hjun, oj, hoj, hall⟩ := mem_ready.1 hj
      have hnot : ∀ e ∈ oj.after, Region.binds .any e = true → e.on ≠ i := fun e he hb heq =>
        not_listed_both (mem_ready.1 hr).1 (heq ▸ hall e he hb)
      have hjz : zs.contains j = false := by
        rw [← Bool.not_eq_true]
        intro hc
        exact not_listed_both (mem_ready.1 hr).1 (waitsIn_listed hcl _ j oj hoj hall (hz j (by simpa using hc) hjun))
      have h2 := wpOp_putIf hoj (hfree j oj hoj hji hjun hnot) (fun cs b => hsel i oi cs b hi) (fun cs b => hsel j oj cs b hoj) hQ hy (H.2 j (ready_mono hj hji))
      have un : ∀ k, (listed.setIfInBounds j true).getD k true = false → listed.getD k true = false := fun k hk => by
        by_cases hjk : j = k
        · subst hjk; exact hjun
        · rw [getD_set_ne true hjk] at hk; exact hk
      refine wpOp_mono (fun a' w' h3 => ?_) h2
      obtain ⟨h3a, h3b⟩ := h3
      rcases h3b with h3b | h3b
      · rw [hjz] at h3b; cases h3b.1
      · refine .inr ⟨hjz, h3b.2.1, ih (listed.setIfInBounds j true) a' w' (hcl.set hj) (fun k hk hun => hz k hk (un k hun)) (fun k ok hk hki hun hno => hfree k ok hk hki (un k hun) hno) (ready_mono hr (Ne.symm hji)) h3a h3b.2.1 ?_⟩
        rw [Array.setIfInBounds_comm _ _ hji]
        exact h3b.2.2

theorem yieldsIf_of_quiet {w : World} {o : Oper} {a : Act} {K : Act → Prop} (hp : pureOp o.op = true) (h : wpQuiet P ops (InGrow X w) K [o] a) : ∃ v, YieldsIf P ops (ExtB X w) o v a ∧ K (a.put o.dst v) := by
  unfold wpQuiet at h
  split at h
  · rename_i hw
    obtain ⟨v, hv, hK⟩ := h
    refine ⟨v, .inl ⟨hw, fun w' hE => ?_⟩, hK⟩
    have h1 := hv w' (inGrow_of hE)
    unfold Oper.quietAt at h1
    cases hr : (execOp a.eval o).run P w' with
    | ok n w1 =>
      obtain ⟨u, rfl⟩ := value_of_run hp hr
      rw [hr] at h1
      obtain ⟨rfl, rfl⟩ := h1
      rfl
    | halt x w1 => rw [hr] at h1; exact h1.elim
  · rename_i hw
    exact ⟨undef, .inr ⟨by simpa using hw, rfl⟩, h⟩

theorem wpQuiet_cons {C : World → Prop} {K : Act → Prop} {o : Oper} {l : List Oper} {a : Act} (h : wpQuiet P ops C K (o :: l) a) : wpQuiet P ops C (fun a' => wpQuiet P ops C K l a') [o] a := h

theorem pure_sound {w : World} {K : Act → Prop} (hsel : Region.noSelect ops = true) (hQ : ∀ c a d v w, Q (.panic c) (a.put d v) w → Q (.panic c) a w) (f : Nat) :
    ∀ (ks : List Nat) (listed listed' : Array Bool) (a : Act), Closed ops listed → pureB ops zs ks listed = some listed' → wpQuiet P ops (InGrow X w) K (pickOps ops ks) a →
      (∀ a', Closed ops listed' → K a' → wpAnyN P ops Q (ExtB X w) zs f listed' a' w) → wpAnyN P ops Q (ExtB X w) zs (ks.length + f) listed a w
  | [], listed, listed', a, hcl, hB, h, hK => by
    simp only [pureB, Option.some.injEq] at hB
    subst hB
    simpa using hK a hcl h
  | k :: ks, listed, listed', a, hcl, hB, h, hK => by
    simp only [pureB] at hB
    split at hB
    · rename_i hc
      simp only [Bool.and_eq_true] at hc
      obtain ⟨⟨⟨⟨h1, h2⟩, h3⟩, h4⟩, h5⟩ := hc
      cases ho : ops[k]? with
      | none => rw [ho] at h3; simp at h3
      | some o =>
        rw [ho] at h3
        have h3' : pureOp o.op = true := by simpa using h3
        rw [pick_of ho ks] at h
        obtain ⟨v, hy, hn⟩ := yieldsIf_of_quiet h3' (wpQuiet_cons h)
        have := pure_sound hsel hQ f ks (listed.setIfInBounds k true) listed' (a.put o.dst v) (hcl.set (by simpa using h1)) hB hn hK
        rw [List.length_cons, show ks.length + 1 + f = (ks.length + f) + 1 by omega]
        refine wpAnyN_first ho (Region.noSelect_spec hsel) (fun c a w => hQ c a _ _ w) (by simpa using h5) _ listed a w hcl (fun j hj hun => ?_) (Region.free_spec ho h2) (by simpa using h1) hy (ExtB.refl X w) this
        have := List.all_eq_true.1 h4 j hj
        rw [hun, Bool.false_or] at this
        exact this
    · cases hB

theorem wp_then {o : Oper} {a : Act} {w : World} {K N : Act → World → Prop} (h : o.wp P a w K (Exit.then N Q)) : o.wp P a w K Q := by
  unfold Oper.wp at *
  generalize (execOp a.eval o).run P w = r at *
  cases r with
  | ok n w' => cases n <;> exact h
  | halt x w' => cases x <;> exact h

theorem wpOp_of_list {N K : Act → World → Prop} {i : Nat} {o : Oper} {a : Act} {w : World} (ho : ops[i]? = some o) (h : wpList P ops (Exit.then N Q) [o] a w) (fin : ∀ a' w', N a' w' → K a' w') : wpOp P ops Q i K a w := by
  unfold wpOp
  simp only [ho]
  unfold wpList at h
  split
  · rename_i hw
    rw [if_pos hw] at h
    rcases h with h | ⟨h1, h2⟩
    · exact .inl (Oper.wp_mono (fun a' w' h' => fin a' w' h') (wp_then h))
    · exact .inr ⟨h1, h2⟩
  · rename_i hw
    rw [if_neg hw] at h
    exact fin _ _ h

theorem segs_sound (hsel : Region.noSelect ops = true) (hQ : ∀ c a d v w, Q (.panic c) (a.put d v) w → Q (.panic c) a w) :
    ∀ (segs : List (List Nat ⊕ (Nat ⊕ Nat))) (listed : Array Bool) (a : Act) (w : World), Closed ops listed → segsB ops zs segs listed = true → wpSegs P ops Q X segs a w → wpAnyN P ops Q (ExtB X w) zs (segLen segs) listed a w
  | [], listed, a, w, _, hB, h => wpAnyN_done (by simpa [segsB] using hB) h _
  | .inl ks :: r, listed, a, w, hcl, hB, h => by
    simp only [segsB] at hB
    cases hp : pureB ops zs ks listed with
    | none => rw [hp] at hB; cases hB
    | some l' =>
      rw [hp] at hB
      exact pure_sound hsel hQ (segLen r) ks listed l' a hcl hp h fun a' hc' ha => segs_sound hsel hQ r l' a' w hc' hB ha
  | .inr (.inl k) :: r, listed, a, w, hcl, hB, h => by
    simp only [segsB, Bool.and_eq_true, decide_eq_true_eq] at hB
    have hk : k ∈ Region.ready .any ops listed := by rw [hB.1.1]; simp
    obtain ⟨_, o, ho, _⟩ := mem_ready.1 hk
    rw [wpSegs_grow, pick_of ho] at h
    rw [segLen, Nat.add_comm]
    refine ⟨fun h0 => (by rw [h0] at hk; cases hk), fun i hi => ?_⟩
    rw [hB.1.1] at hi
    obtain rfl : i = k := by simpa using hi
    exact wpOp_of_list ho h fun a' w' h' => .inr ⟨by simpa using hB.1.2, h'.1, wpAnyN_weaken (fun x hx => h'.1.trans hx) _ _ _ _ (segs_sound hsel hQ r _ a' w' (hcl.set hk) hB.2 h'.2)⟩
  | .inr (.inr k) :: r, listed, a, w, hcl, hB, h => by
    simp only [segsB, Bool.and_eq_true, decide_eq_true_eq] at hB
    obtain ⟨⟨hB1, hB3⟩, hB2⟩ := hB
    have hk : k ∈ Region.ready .any ops listed := by rw [hB1]; simp
    obtain ⟨_, o, ho, _⟩ := mem_ready.1 hk
    rw [wpSegs_last, pick_of ho] at h
    rw [segLen, Nat.add_comm]
    refine ⟨fun h0 => (by rw [h0] at hk; cases hk), fun i hi => ?_⟩
    rw [hB1] at hi
    obtain rfl : i = k := by simpa using hi
    exact wpOp_of_list ho h fun a' w' h' => .inl ⟨hB3, wpAny_of_N _ _ _ _ (segs_sound hsel hQ r _ a' w' (hcl.set hk) hB2 h')⟩

/-- A region that draws its order, by segments; the blocks X may be written. -/
theorem wp_region_segs {id : Nat} {a : Act} {w : World} {l : List Oper} (X : List Nat) (segs : List (List Nat ⊕ (Nat ⊕ Nat))) (hm : P.follows .mixedOrders = true)
    (hB : (Region.noSelect l.toArray && decide (segLen segs = l.length) && segsB l.toArray (segZ segs) segs (Array.replicate l.length false)) = true)
    (hQ : ∀ c a d v w, Q (.panic c) (a.put d v) w → Q (.panic c) a w)
    (h : wpSegs P l.toArray Q X segs a w.drew) : (Code.region id l.toArray true).wp P Q a w := by
  simp only [Bool.and_eq_true, decide_eq_true_eq] at hB
  have := segs_sound hB.1.1 hQ segs (Array.replicate l.length false) a w.drew (Closed.none _ _) hB.2 h
  rw [hB.1.2] at this
  refine wp_region_any hm ?_
  have h2 := wpAny_of_N _ _ _ _ this
  simpa using h2
end

/-- A callee that hands back one value in whatever world, and lets the world grow. -/
theorem Calls.inGrow {P : Program} {f : FuncId} {args : Array Value} {X : List Nat} {W : World} {x : Grow X W} {v : Value}
    (h : Calls P f args x.v fun e w' => e = .returned v ∧ Below x.v.heap.size x.v w') : Calls P f args x.v fun e w'' => e = .returned v ∧ InGrow X W w'' :=
  h.mono fun _ _ ⟨he, hb⟩ => ⟨he, inGrow_of (x.ext.trans (.of hb X))⟩
theorem Calls.inGrow_same {P : Program} {f : FuncId} {args : Array Value} {X : List Nat} {W : World} {x : Grow X W} {v : Value}
    (h : Calls P f args x.v fun e w' => e = .returned v ∧ x.v = w') : Calls P f args x.v fun e w'' => e = .returned v ∧ InGrow X W w'' :=
  h.mono fun _ _ ⟨he, hb⟩ => ⟨he, inGrow_of (hb ▸ x.ext)⟩

/-- A region that draws its order, and in which each operation and each callee yields one value in every world that has grown out of the one at hand. -/
theorem wp_region_grow {P : Program} {Q : Exit → Act → World → Prop} {id : Nat} {a : Act} {w : World} {l : List Oper} (hm : P.follows .mixedOrders = true) (hB : Region.lexB .any l.toArray = true)
    (h : wpQuiet P l.toArray (InGrow [] w) (fun a' => ∀ w', Ext w w' → Q .normal a' w') l a) : (Code.region id l.toArray true).wp P Q a w :=
  wp_region_quiet (C := InGrow [] w) hm hB (inGrow_of (.of (Ext.drew (Ext.refl w)) _)) (by
    have : (fun a' => ∀ w', InGrow [] w w' → Q .normal a' w') = (fun a' => ∀ w', Ext w w' → Q .normal a' w') := by
      funext a'
      refine propext ⟨fun h w' hw => h w' (inGrow_of (.of hw _)), fun h w' hw => ?_⟩
      obtain ⟨x, rfl⟩ := hw
      exact h _ x.ext.ext
    rw [this]
    simpa using h)

end Go.Proofs.YtgbhhofmghgpbaaDoor
