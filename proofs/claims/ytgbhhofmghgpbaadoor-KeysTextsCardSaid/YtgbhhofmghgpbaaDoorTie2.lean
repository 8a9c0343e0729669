/- Tie of right keys, walked. Printed by gen_tie.py from Tie2.src. -/
import Derived.Test.YtgbhhofmghgpbaaDoorTieA
namespace Go.Proofs.YtgbhhofmghgpbaaDoor
open Go.RowKit Go.Sort Go.Shelf Go.Maps Go.ChangeMaps
set_option linter.unusedVariables false

def tiePart (L0 : List Pr) (id : Int) (ks : List Bs) : List Pr := L0 ++ ks.map fun k => (id, k)
theorem tiePart_mem (L0 : List Pr) (id : Int) (ks : List Bs) (i : Int) (k : Bs) : (i, k) ∈ tiePart L0 id ks ↔ (i, k) ∈ L0 ∨ (i = id ∧ k ∈ ks) := by
  unfold tiePart
  simp only [List.mem_append, List.mem_map, Prod.mk.injEq]
  constructor
  · rintro (h | ⟨a, h1, h2, h3⟩)
    · exact .inl h
    · subst h2; subst h3; exact .inr ⟨rfl, h1⟩
  · rintro (h | ⟨h1, h2⟩)
    · exact .inl h
    · exact .inr ⟨k, h2, h1.symm, rfl⟩
structure TiRel (w : World) (B b : Nat) (mo mw : Option Nat) (G : GOf) (N : Nat) (L0 : List Pr) (id : Int) (ss : List Bs) (j : Nat) (wr : World) : Prop where
  at_ : ∃ Q, KAt wr B b mo mw G Q (N + 2 * j) ∧ ∀ k, QOk (Q k) (tiePart L0 id (ss.take j)) k
  fk : Fk B b w wr
theorem ti_other {L0 : List Pr} {id : Int} {ks : List Bs} {k : Bs} {v : Option (Nat × (Int → Bool))} {x : Bs} (h : QOk v (tiePart L0 id ks) x) (hx : x ≠ k) : QOk v (tiePart L0 id (ks ++ [k])) x := by
  have e : ∀ i, ((i, x) ∈ tiePart L0 id (ks ++ [k])) ↔ (i, x) ∈ tiePart L0 id ks := fun i => by
    rw [tiePart_mem, tiePart_mem]; simp [hx]
  revert h
  cases v with
  | none => intro h i hi; exact h i ((e i).1 hi)
  | some gs =>
    rintro ⟨h1, i, h2⟩
    refine ⟨fun i => ?_, i, (e i).2 h2⟩
    rw [h1 i, decide_eq_decide]; exact (e i).symm
theorem ti_same {L0 : List Pr} {id : Int} {ks : List Bs} {k : Bs} {g : Nat} {S : Int → Bool} (h : ∀ i, S i = decide ((i, k) ∈ tiePart L0 id ks)) : QOk (some (g, fun x => S x || decide (x = id))) (tiePart L0 id (ks ++ [k])) k := by
  refine ⟨fun i => ?_, id, (tiePart_mem _ _ _ _ _).2 (.inr ⟨rfl, by simp⟩)⟩
  show (S i || decide (i = id)) = _
  rw [h i, Bool.eq_iff_iff]
  simp only [Bool.or_eq_true, decide_eq_true_eq, tiePart_mem, List.mem_append, List.mem_singleton]
  constructor
  · rintro ((h1 | ⟨h1, h2⟩) | h1)
    · exact .inl h1
    · exact .inr ⟨h1, .inl h2⟩
    · exact .inr ⟨h1, .inr trivial⟩
  · rintro (h1 | ⟨h1, h2⟩)
    · exact .inl (.inl h1)
    · exact .inr h1

/-- One round of Tie's loop: 'if m.with[k] == nil { .. }; m.with[k][id] = true'. -/
theorem ti_round {w wr : World} {B b : Nat} {mo : Option Nat} {mw : Nat} {G : GOf} {N : Nat} {L0 : List Pr} {id : Int} {ss : List Bs} {j : Nat} {k : Bs} (h : TiRel w B b mo (some mw) G N L0 id ss j wr) (hN : N + 2 * j ≤ 900000) (hid : (Lit.int .i64 id).wf = true) (hk : k.length ≤ 1000000) (htk : ss.take (j + 1) = ss.take j ++ [k]) :
    (∃ g w3, (Instr.lookup 48 (.map (some mw)) (.string ⟨k.toArray⟩) false).run Tryd.prog wr = .ok (.map (some g)) wr ∧ (Instr.mapUpdate 54 (.map (some g)) (.int .i64 id) (.bool true)).run Tryd.prog wr = .ok () w3 ∧ wr.cell? ⟨b, 1, none⟩ = some (.map (some mw)) ∧ TiRel w B b mo (some mw) G N L0 id ss (j + 1) w3) ∨
    (∃ w2 w3, (Instr.lookup 48 (.map (some mw)) (.string ⟨k.toArray⟩) false).run Tryd.prog wr = .ok (.map none) wr ∧ wr.cell? ⟨b, 1, none⟩ = some (.map (some mw)) ∧
      (Instr.mapUpdate 48 (.map (some mw)) (.string ⟨k.toArray⟩) (.map (some wr.heap.size))).run Tryd.prog (wr.alloc (.map #[] 0)) = .ok () w2 ∧ w2.cell? ⟨b, 1, none⟩ = some (.map (some mw)) ∧
      (Instr.lookup 48 (.map (some mw)) (.string ⟨k.toArray⟩) false).run Tryd.prog w2 = .ok (.map (some wr.heap.size)) w2 ∧ (Instr.mapUpdate 54 (.map (some wr.heap.size)) (.int .i64 id) (.bool true)).run Tryd.prog w2 = .ok () w3 ∧ TiRel w B b mo (some mw) G N L0 id ss (j + 1) w3) := by
  obtain ⟨⟨Q, hK, hQ⟩, hfk⟩ := h
  have c1 : wr.cell? ⟨b, 1, none⟩ = some (.map (some mw)) := blk_cell hK.blk 1
  have hq := hQ k
  cases hQk : Q k with
  | some gS =>
    obtain ⟨g, S⟩ := gS
    rw [hQk] at hq
    have hset := hK.sets k g S hQk
    obtain ⟨w3, hput, hs, ht⟩ := hset.1.put (by omega) hid
    obtain ⟨es, cl, hes⟩ := hset.1.at_
    refine .inl ⟨g, w3, (hK.wi.look hk).2 g S hQk, hput, c1, ⟨_, (hK.set hQk (Nat.le_succ _) hs ht).more (by omega), fun x => ?_⟩, hfk.trans (Fk.turned ht hes hset.2.1 b)⟩
    rw [htk]
    by_cases e : x = k
    · subst e; rw [updQ_same]; exact ti_same hq.1
    · rw [updQ_other _ e]; exact ti_other (hQ x) e
  | none =>
    rw [hQk] at hq
    have x1 : Ext wr (wr.alloc (.map #[] 0)) := Ext.alloc (Ext.refl _) _
    have hK1 := hK.ext x1
    have hI : ISet (wr.alloc (.map #[] 0)) wr.heap.size (N + 2 * j + 1) (fun _ => false) := by
      obtain ⟨D, h1, h2⟩ := ISet.made wr
      exact ⟨D, h1.mono (Nat.zero_le _), h2⟩
    have low : B ≤ wr.heap.size := hK.low
    have lt_of : ∀ m, mo = some m → m < wr.heap.size := fun m e => by
      subst e; obtain ⟨_, _, hm⟩ := hK.of.at_; exact blk_lt hm
    have ltw : mw < wr.heap.size := by obtain ⟨_, _, hm⟩ := hK.wi.at_; exact blk_lt hm
    obtain ⟨w2, hput2, hK2, fk2⟩ := hK1.putW (by omega) hk hI low (fun e => by have := lt_of _ e; omega) (by omega) (fun k' S' e => by obtain ⟨_, _, hg⟩ := (hK.sets k' _ S' e).1.at_; have := blk_lt hg; omega)
    have hset := hK2.sets k wr.heap.size (fun _ => false) (updQ_same _ _ _)
    obtain ⟨w3, hput, hs, ht⟩ := hset.1.put (by omega) hid
    obtain ⟨es, cl, hes⟩ := hset.1.at_
    refine .inr ⟨w2, w3, (hK.wi.look hk).1 hQk, c1, hput2, blk_cell hK2.blk 1, (hK2.wi.look hk).2 _ _ (updQ_same _ _ _), hput, ⟨_, (hK2.set (updQ_same _ _ _) (Nat.le_succ _) hs ht).more (by omega), fun x => ?_⟩, ((hfk.trans (.of_ext x1 B b)).trans fk2).trans (Fk.turned ht hes hset.2.1 b)⟩
    rw [htk]
    by_cases e : x = k
    · subst e; rw [updQ_same]
      exact ti_same (S := fun _ => false) (fun i => (decide_eq_false (hq i)).symm)
    · rw [updQ_other _ e, updQ_other _ e]; exact ti_other (hQ x) e
end Go.Proofs.YtgbhhofmghgpbaaDoor
