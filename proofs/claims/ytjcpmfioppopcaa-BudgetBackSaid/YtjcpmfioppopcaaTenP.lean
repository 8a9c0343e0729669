/- The program's Tenants, walked: those that have bytes, by name. -/
import Derived.Test.YtjcpmfioppopcaaBk3
import Derived.Test.YtjcpmfioppopcaaIter
namespace Go.Proofs.Ytjcpmfioppopcaa
open Go.RowKit Go.Maps Go.Sort Go.Shelf
set_option linter.unusedVariables false

theorem strKeys_nodup {w : World} {b n : Nat} {D : DataW Unit} (h : w.ownsMap Try.prog 9 (plainElem Try.prog 2) b n D) : (strKeys D).Nodup ∧ ∀ x, x ∈ strKeys D ↔ Maps.has D (.string x) = true := by
  obtain ⟨es, rfl, hp, hlit⟩ := h.canon law9
  obtain ⟨es', he, hkeys⟩ := h.keysOf
  injection he with he
  subst he
  have hk : ∀ p ∈ es, ∃ x, p.1 = .string x := fun p hpm => by
    obtain ⟨v, hv⟩ := hkeys p hpm
    obtain ⟨x, _, hx, _⟩ := Maps.keyOf_str Try.underlying9 hv
    exact ⟨x, hx⟩
  constructor
  · show (es.map fun p => strOf p.1).Nodup
    refine List.pairwise_map.2 ((apart_of_rising hp).imp_of_mem fun {p q} hp' hq' hne e => hne ?_)
    obtain ⟨a, ha⟩ := hk p hp'
    obtain ⟨b, hb⟩ := hk q hq'
    rw [ha, hb] at e ⊢
    exact congrArg _ e
  · intro x
    rw [has_eq, List.any_eq_true]
    show x ∈ es.map (fun p => strOf p.1) ↔ _
    rw [List.mem_map]
    constructor
    · rintro ⟨p, hpm, rfl⟩
      obtain ⟨a, ha⟩ := hk p hpm
      refine ⟨p, hpm, ?_⟩
      rw [ha]; exact WideAt.sameKey_self (isKey a)
    · rintro ⟨p, hpm, hs⟩
      exact ⟨p, hpm, by rw [WideAt.sameKey_eq hs]; rfl⟩

set_option maxHeartbeats 1000000 in
theorem tenants_some (b mb N : Nat) (D : DataW Unit) (L : List Ln) (room share : Int) (w : World) (hblk : w.heap[b]? = some (.cells #[.int .i64 room, .int .i64 share, .int .i64 (rSum L), .map (some mb)] 57 (0, 0)))
    (hown : w.ownsMap Try.prog 9 (plainElem Try.prog 2) mb N D) (hti : Ties D L) (hN : N ≤ 100000) (hI : Inv room share L) :
    Calls Try.prog 15 #[.pointer (some ⟨b, 0, none⟩)] w fun e w' => ∃ v, e = .returned v ∧ Strs w' 0 v (rTen L) ∧ Ext w w' := by
  have c3 : w.cell? ⟨b, 3, none⟩ = some (.map (some mb)) := blk_cell hblk 3
  have hsz := hown.size_le
  refine (callsIn_wide (n := 6)).1 ?_
  have hfK : Fence.wide.fn 29 := trivial
  have hfS : Fence.wide.fn 28 := trivial
  refine callsIn_of_wp Try.func15 rfl trivial ?_ rfl
  simp only [Try.ntmps15, List.size_toArray, List.length_cons, List.length_nil, Nat.reduceAdd, Nat.reduceSub, Array.replicate_succ, Array.replicate_zero, List.push_toArray, List.append_toArray, List.nil_append, List.cons_append]
  gi_wp2_with (first
    | (gi_at_call 29; refine (Try.maps_Keys_29 _ _).mono ?_; rintro e w' ⟨rfl, rfl⟩)
    | (gi_at_call 28; refine (Try.slices_Sorted_keys_28_29 mb N D (plainElem Try.prog 2) w hown (by unfold maxLen; omega) (by omega)).mono ?_; rintro e w' ⟨v, ss, rfl, hS, hrow, hnil, hb⟩))
  go_ret
  refine ⟨v, rfl, ?_, Ext.trans (Ext.alloc (Ext.refl w) _) hb⟩
  have hm : ss.mergeSort (fun x y => decide (x ≤ y)) = rTen L := by
    obtain ⟨h1, h2⟩ := strKeys_nodup hown
    refine mergeSort_eq (hS.nodup_iff.2 h1) (sorted_rTen L hI.one) fun t => ?_
    rw [hS.mem_iff, h2, (hti t).2, mem_rTen_iff hI.one]
    simp
  rw [hm] at hrow
  have hlen : ss.length = (rTen L).length := by rw [← hm, List.length_mergeSort]
  rw [hlen] at hrow
  exact ownsRow_base hrow (Nat.zero_le _)

set_option maxHeartbeats 1000000 in
theorem tenants_none (b : Nat) (L : List Ln) (room share : Int) (w : World) (hblk : w.heap[b]? = some (.cells #[.int .i64 room, .int .i64 share, .int .i64 (rSum L), .map none] 57 (0, 0)))
    (h0 : ∀ t, rOf L t = 0) (hI : Inv room share L) :
    Calls Try.prog 15 #[.pointer (some ⟨b, 0, none⟩)] w fun e w' => ∃ v, e = .returned v ∧ Strs w' 0 v (rTen L) ∧ Ext w w' := by
  have c3 : w.cell? ⟨b, 3, none⟩ = some (.map none) := blk_cell hblk 3
  have hten : rTen L = [] := by
    refine List.eq_nil_iff_forall_not_mem.2 fun t ht => ?_
    exact (mem_rTen_iff hI.one t).1 ht (h0 t)
  rw [hten]
  refine (callsIn_wide (n := 6)).1 ?_
  have hfK : Fence.wide.fn 29 := trivial
  have hfS : Fence.wide.fn 28 := trivial
  refine callsIn_of_wp Try.func15 rfl trivial ?_ rfl
  simp only [Try.ntmps15, List.size_toArray, List.length_cons, List.length_nil, Nat.reduceAdd, Nat.reduceSub, Array.replicate_succ, Array.replicate_zero, List.push_toArray, List.append_toArray, List.nil_append, List.cons_append]
  clear h0 hten
  gi_wp2_with (first
    | (gi_at_call 29; refine (Try.maps_Keys_29 _ _).mono ?_; rintro e w' ⟨rfl, rfl⟩)
    | (gi_at_call 28; refine (Try.slices_Sorted_keys_nil_28_29 w).mono ?_; rintro e w' ⟨v, ss, rfl, hS, hrow, hnil, hb⟩))
  go_ret
  have hv := hnil.2 hS
  subst hv
  exact ⟨_, rfl, Strs.nil _ _, Ext.trans (Ext.alloc (Ext.refl w) _) hb⟩

theorem tenants_any (b : Nat) (mo : Option Nat) (L : List Ln) (N : Nat) (room share : Int) (w : World) (hBA : BookAt w b mo room share L N) (hN : N ≤ 100000) (hI : Inv room share L) :
    Calls Try.prog 15 #[.pointer (some ⟨b, 0, none⟩)] w fun e w' => ∃ v, e = .returned v ∧ Strs w' 0 v (rTen L) ∧ Ext w w' := by
  rcases hBA.map with ⟨rfl, h00⟩ | ⟨mb, D, rfl, hown, hti⟩
  · exact tenants_none b L room share w hBA.blk h00 hI
  · exact tenants_some b mb N D L room share w hBA.blk hown hti hN hI

end Go.Proofs.Ytjcpmfioppopcaa
