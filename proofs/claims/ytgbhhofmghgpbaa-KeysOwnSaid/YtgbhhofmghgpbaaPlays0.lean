/- KeysPlays and KeysOwn: the program's map and the reference's beside each other; each call of both as one contract. -/
import Derived.Test.YtgbhhofmghgpbaaRefW
import Derived.Test.YtgbhhofmghgpbaaSegR
namespace Go.Proofs.Ytgbhhofmghgpbaa
open Go.RowKit Go.Sort Go.Shelf Go.Maps Go.ChangeMaps
set_option linter.unusedVariables false

/-- One block is kept as it is. -/
def keepB (o : Nat) (ob : Obj) : Keep where
  r w w' := w.heap[o]? = some ob → w'.heap[o]? = some ob
  refl _ h := h
  trans _ _ _ h k e := k (h e)
theorem texts_same {n0 n1 : Nat} {w : World} {a b : List Bs} (h1 : a.Nodup) (h2 : b.Pairwise (· < ·)) (hs : a.Pairwise fun x y => x ≤ y) (hm : ∀ x, x ∈ a ↔ x ∈ b) : a = b := by
  have hb : b.Nodup := h2.imp fun h e => by subst e; exact List.lt_irrefl _ h
  exact ((List.perm_ext_iff_of_nodup h1 hb).2 hm).eq_of_pairwise (fun a b _ _ h1 h2 => List.le_antisymm h1 h2) hs (h2.imp fun h => List.le_of_lt h)
theorem nums_same {a b : List Int} (h1 : a.Nodup) (h2 : b.Pairwise (· < ·)) (hs : a.Pairwise fun x y => x ≤ y) (hm : ∀ x, x ∈ a ↔ x ∈ b) : a = b := by
  have hb : b.Nodup := h2.imp fun h e => by omega
  exact ((List.perm_ext_iff_of_nodup h1 hb).2 hm).eq_of_pairwise (fun a b _ _ h1 h2 => by omega) hs (h2.imp fun h => by omega)

/-- Both maps in one world. -/
structure Two (w : World) (B x N : Nat) (L : List Pr) (wr : World) : Prop where
  ki : KI wr B B N L
  rat : RAt wr B x L
  few : L.length ≤ 120
  room : N ≤ 1000
  bel : Below B w wr
  low : B ≤ wr.heap.size
section
variable {w w' wr : World} {B x N : Nat} {L : List Pr}
theorem Two.ext (h : Two w B x N L wr) (hx : Ext wr w') : Two w B x N L w' := ⟨h.ki.ext hx, h.rat.ext hx, h.few, h.room, h.bel.trans (Below.mono hx h.low), Nat.le_trans h.low hx.size⟩
theorem Two.more {M : Nat} (h : Two w B x N L wr) (hM : N ≤ M) (hM2 : M ≤ 1000) : Two w B x M L wr := ⟨h.ki.more hM, h.rat, h.few, hM2, h.bel, h.low⟩
theorem Two.blk (h : Two w B x N L wr) : ∃ cs t z, wr.heap[B]? = some (.cells cs t z) ∧ t ≠ 66 ∧ t ≠ 40 := by
  obtain ⟨p, q, hb⟩ := h.ki.blk
  exact ⟨_, _, _, hb, by decide, by decide⟩
theorem Two.ids (h : Two w B x N L wr) : ∀ p ∈ L, (1 : Int) ≤ p.1 := fun p hp => (h.ki.good.ids p hp).2
theorem Two.ofs (h : Two w B x N L wr) {id : Int} {ys : List Bs} (h2 : ys.Pairwise (· < ·)) (hm : ∀ t, t ∈ ys ↔ (id, t) ∈ L) : sortS (keysL L id) = ys :=
  sortS_put (keysL_nodup h.ki.good.nodup id) h2 fun t => (hm t).trans (keysL_mem L id t).symm
end
end Go.Proofs.Ytgbhhofmghgpbaa
