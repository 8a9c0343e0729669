/- Frames of Pins. -/
import Derived.Test.YteeeabmfebofiaaTake
namespace Go.Proofs.Yteeeabmfebofiaa
open Go.RowKit Go.ChangeMaps Go.Maps
set_option linter.unusedVariables false

def upd (F : St) (k : Int) (v : Option (Nat × Int)) : St := fun k' => if k' = k then v else F k'
theorem upd_same (F : St) (k : Int) (v : Option (Nat × Int)) : upd F k v k = v := by simp [upd]
theorem upd_other (F : St) {k k' : Int} (h : k' ≠ k) (v : Option (Nat × Int)) : upd F k v k' = F k' := by simp [upd, h]
theorem upd_twice (F : St) (k : Int) (v u : Option (Nat × Int)) : upd (upd F k v) k u = upd F k u := by funext k'; unfold upd; split <;> rfl

/-- What lies below B, and every row of another type than Pins' and counts', is as it was, but the blocks X. -/
structure Fr (B : Nat) (X : List Nat) (w w' : World) : Prop where
  os : w'.os = w.os
  tape : w'.tape = w.tape
  output : w'.output = w.output
  size : w.heap.size ≤ w'.heap.size
  block : ∀ i, i < w.heap.size → i ∉ X → (i < B ∨ ∃ cs t z, w.heap[i]? = some (.cells cs t z) ∧ t ≠ 69 ∧ t ≠ 87) → w'.heap[i]? = w.heap[i]?
section
variable {B : Nat} {X : List Nat} {a b c w : World}
theorem Fr.refl (B : Nat) (X : List Nat) (w : World) : Fr B X w w := ⟨rfl, rfl, rfl, Nat.le_refl _, fun _ _ _ _ => rfl⟩
theorem Fr.trans (h : Fr B X a b) (k : Fr B X b c) : Fr B X a c :=
  ⟨k.os.trans h.os, k.tape.trans h.tape, k.output.trans h.output, Nat.le_trans h.size k.size, fun i hi hx hc => by
    have e := h.block i hi hx hc
    rw [k.block i (Nat.lt_of_lt_of_le hi h.size) hx (by rw [e]; exact hc), e]⟩
theorem Fr.of_ext (h : Ext a b) (B : Nat) (X : List Nat) : Fr B X a b := ⟨h.os, h.tape, h.output, h.size, fun i hi _ _ => h.block i hi⟩
theorem Fr.mono {Y : List Nat} (h : Fr B X a b) (hY : ∀ i ∈ X, i ∈ Y) : Fr B Y a b := ⟨h.os, h.tape, h.output, h.size, fun i hi hx hc => h.block i hi (fun e => hx (hY i e)) hc⟩
/-- Blocks that did not lie there yet need no word. -/
theorem Fr.new {Y : List Nat} (h : Fr B X a b) (hY : ∀ i ∈ X, i ∈ Y ∨ a.heap.size ≤ i) : Fr B Y a b := ⟨h.os, h.tape, h.output, h.size, fun i hi hx hc => h.block i hi (fun e => by
  rcases hY i e with h1 | h1
  · exact hx h1
  · omega) hc⟩
theorem Fr.alloc (h : Fr B X a b) (o : Obj) : Fr B X a (b.alloc o) := h.trans (.of_ext (Ext.alloc (Ext.refl b) o) B X)
theorem Fr.drew (h : Fr B X a b) : Fr B X a b.drew := ⟨h.os, h.tape, h.output, h.size, h.block⟩
theorem Fr.set (h : Fr B X a b) {p : Addr} (u : Value) (hp : p.block ∈ X ∨ (B ≤ p.block ∧ ∃ cs t z, b.heap[p.block]? = some (.cells cs t z) ∧ (t = 69 ∨ t = 87))) : Fr B X a (b.setCell p u) :=
  h.trans ⟨rfl, rfl, rfl, by simp [World.setCell], fun i hi hx hc => Below.heap_setCell b p u i (by
    rintro rfl
    rcases hp with hp | ⟨hB, cs, t, z, hh, ht⟩
    · exact hx hp
    · rcases hc with hc | ⟨cs', t', z', hh', h1, h2⟩
      · omega
      · rw [hh] at hh'; injection hh' with hh'; injection hh' with _ hh'
        rcases ht with ht | ht
        · exact h1 (by rw [← hh', ht])
        · exact h2 (by rw [← hh', ht]))⟩
theorem Fr.turned (h : Fr B X a b) {mb : Nat} (ht : b.mapTurned c mb) (hB : B ≤ mb) {es : Array MapEntry} {clock : Nat} (hm : b.heap[mb]? = some (.map es clock)) : Fr B X a c :=
  h.trans (by
    have hg := ht.grown
    refine ⟨hg.os, hg.tape, hg.output, hg.size, fun i hi hx hc => hg.block i hi ?_⟩
    intro e; injection e with e; subst e
    rcases hc with hc | ⟨cs, t, z, hh, _⟩
    · omega
    · rw [hm] at hh; cases hh)
theorem Fr.heap (h : Fr B X a b) {i : Nat} {cs : Array Value} {t : TypeId} {z : Nat × Nat} (hi : a.heap[i]? = some (.cells cs t z)) (hx : i ∉ X) (h1 : t ≠ 69) (h2 : t ≠ 87) : b.heap[i]? = some (.cells cs t z) :=
  (h.block i (blk_lt hi) hx (.inr ⟨cs, t, z, hi, h1, h2⟩)).trans hi
theorem Fr.below (h : Fr B X a b) (hX : ∀ i ∈ X, B ≤ i) (hB : B ≤ a.heap.size) : Below B a b :=
  ⟨h.os, h.tape, h.output, h.size, fun i hi => h.block i (Nat.lt_of_lt_of_le hi hB) (fun e => by have := hX i e; omega) (.inl hi)⟩
end

section
variable {w : World} {B b : Nat} {mo : Option Nat} {F : St} {N : Nat} {s rc : Int}
theorem PinsAt.ext {w' : World} (h : PinsAt w B b mo F N s rc) (hx : Ext w w') : PinsAt w' B b mo F N s rc := by
  refine ⟨hx.heap h.blk, ?_, fun k g c e => ⟨hx.heap (h.cnt k g c e).1, (h.cnt k g c e).2⟩, h.inj, h.low, h.lowm⟩
  rcases h.map with h0 | ⟨mb, D, rfl, hown, ht⟩
  · exact .inl h0
  · exact .inr ⟨mb, D, rfl, hown.kept (row := none) (Below.grownNone hx none) (by simp), ht⟩
/-- A cell of another row is written. -/
theorem PinsAt.other (h : PinsAt w B b mo F N s rc) {p : Addr} {cs : Array Value} {t : TypeId} {z : Nat × Nat} (hp : w.heap[p.block]? = some (.cells cs t z)) (h1 : t ≠ 69) (h2 : t ≠ 87) (u : Value) : PinsAt (w.setCell p u) B b mo F N s rc := by
  have hap := h.apart hp
  refine ⟨blk_far h.blk (fun e => hap.2 h1 e.symm) u, ?_, fun k g c e => ⟨blk_far (h.cnt k g c e).1 (fun e' => ?_) u, (h.cnt k g c e).2⟩, h.inj, h.low, h.lowm⟩
  · rcases h.map with h0 | ⟨mb, D, rfl, hown, ht⟩
    · exact .inl h0
    · exact .inr ⟨mb, D, rfl, hown.setCell (a := p) (fun e => hap.1 mb rfl e.symm) u, ht⟩
  · rw [← e', (h.cnt k g c e).1] at hp; injection hp with hp; injection hp with _ hp; exact h2 hp.symm
/-- A key's count is written. -/
theorem PinsAt.count (h : PinsAt w B b mo F N s rc) {k : Int} {g : Nat} {c : Int} (hk : F k = some (g, c)) (c' : Int) : PinsAt (w.setCell ⟨g, 0, none⟩ (.int .i64 c')) B b mo (upd F k (some (g, c'))) N s rc := by
  have hg := h.cnt k g c hk
  have hap := h.apart hg.1
  refine ⟨blk_far h.blk (fun e => hap.2 (by decide) e.symm) _, ?_, fun k1 g1 c1 e => ?_, fun k1 k2 g1 c1 c2 e1 e2 => ?_, h.low, h.lowm⟩
  · rcases h.map with ⟨_, h0⟩ | ⟨mb, D, rfl, hown, ht⟩
    · rw [h0] at hk; cases hk
    · refine .inr ⟨mb, D, rfl, hown.setCell (a := ⟨g, 0, none⟩) (fun e => hap.1 mb rfl e.symm) _, fun k1 => ?_⟩
      have hk1 := ht k1
      by_cases e : k1 = k
      · subst e; rw [upd_same]; rw [hk] at hk1; exact hk1
      · rw [upd_other F e]; exact hk1
  · by_cases e' : k1 = k
    · subst e'; rw [upd_same] at e; injection e with e; injection e with e1 e2; subst e1; subst e2
      exact ⟨by rw [blk_set hg.1]; rfl, hg.2⟩
    · rw [upd_other F e'] at e
      refine ⟨blk_far (h.cnt k1 g1 c1 e).1 (fun e2 => e' ?_) _, (h.cnt k1 g1 c1 e).2⟩
      simp only at e2; subst e2; exact h.inj k1 k g1 c1 c e hk
  · have key : ∀ k1 g1 c1, upd F k (some (g, c')) k1 = some (g1, c1) → ∃ c0, F k1 = some (g1, c0) := fun k1 g1 c1 e => by
      by_cases e' : k1 = k
      · subst e'; rw [upd_same] at e; injection e with e; injection e with e1 e2; subst e1; exact ⟨_, hk⟩
      · rw [upd_other F e'] at e; exact ⟨_, e⟩
    obtain ⟨_, f1⟩ := key _ _ _ e1; obtain ⟨_, f2⟩ := key _ _ _ e2
    exact h.inj _ _ _ _ _ f1 f2
end
end Go.Proofs.Yteeeabmfebofiaa
