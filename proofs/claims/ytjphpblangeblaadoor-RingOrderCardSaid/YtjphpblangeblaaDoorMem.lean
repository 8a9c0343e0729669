/- A ring in memory: the program's, the document's. -/
import Derived.Test.YtjphpblangeblaaDoorMaps
import Derived.Test.YtjphpblangeblaaDoorDig
namespace Go.Proofs.YtjphpblangeblaaDoor
open Go.RowKit Go.Maps Go.ChangeMaps
set_option linter.unusedVariables false
set_option linter.unusedSimpArgs false

def encPt (p : Pt) : List Value := [.int .u64 p.at_, .string ⟨p.nm.toArray⟩]
def encNm (x : Nm × Nat) : List Value := [.string ⟨x.1.toArray⟩, .int .i64 x.2]
theorem encPt_len (p : Pt) : (encPt p).length = 2 := rfl
theorem encNm_len (p : Nm × Nat) : (encNm p).length = 2 := rfl
theorem encPt_one (p : Pt) : ∀ u ∈ encPt p, u.oneCell' = true := by intro u hu; simp [encPt] at hu; rcases hu with rfl | rfl <;> rfl
theorem encNm_one (p : Nm × Nat) : ∀ u ∈ encNm p, u.oneCell' = true := by intro u hu; simp [encNm] at hu; rcases hu with rfl | rfl <;> rfl
abbrev PRow (w : World) (B : Nat) (v : Value) (P : List Pt) : Prop := KRow encPt 2 59 w B v P
abbrev NRow (w : World) (B : Nat) (v : Value) (L : NL) : Prop := KRow encNm 2 69 w B v L
def ptsF (each : Nat) (L : NL) (n : Nm) : Option Nat := if wt L n = 0 then none else some (each * wt L n)
structure RgIx (w : World) (B b N : Nat) (own : Nat → Prop) (each : Nat) (L : NL) (P : List Pt) (mo : Option Nat) (sv : Value) : Prop where
  blk : w.heap[b]? = some (.cells #[.int .i64 each, .map mo, sv] 62 (0, 0))
  names : OMap naE w mo N (ptsF each L)
  row : PRow w B sv P
  ob : own b
  om : ∀ m, mo = some m → own m
  os : ∀ g, sv.ownBlock = some g → own g
  lt : ∀ g, own g → g < w.heap.size
  low : ∀ g, own g → B ≤ g
  e1 : 1 ≤ each ∧ each ≤ 200
  ok : LOk L
  pts : PtsOf pd each L P
  srt : Rise P
  many : P.length ≤ 4000 * N
  nb : N ≤ 100
def RgI (w : World) (B b N : Nat) (own : Nat → Prop) (each : Nat) (L : NL) : Prop := ∃ P mo sv, RgIx w B b N own each L P mo sv
structure RRx (w : World) (B x : Nat) (own : Nat → Prop) (each : Nat) (L : NL) (sv : Value) : Prop where
  blk : w.heap[x]? = some (.cells #[.int .i64 each, sv] 53 (0, 0))
  row : NRow w B sv L
  ox : own x
  os : ∀ g, sv.ownBlock = some g → own g
  lt : ∀ g, own g → g < w.heap.size
  low : ∀ g, own g → B ≤ g
  e1 : 1 ≤ each ∧ each ≤ 200
  ok : LOk L
def RRI (w : World) (B x : Nat) (own : Nat → Prop) (each : Nat) (L : NL) : Prop := ∃ sv, RRx w B x own each L sv
section
variable {w w' : World} {B b x N each : Nat} {own own2 : Nat → Prop} {L : NL} {P : List Pt} {mo : Option Nat} {sv : Value}
theorem RgIx.extP (h : RgIx w B b N own each L P mo sv) (hx : ExtP own2 w w') (hd : ∀ g, own g → ¬ own2 g) : RgIx w' B b N own each L P mo sv :=
  ⟨(hx.block b (blk_lt h.blk) (hd b h.ob)).trans h.blk, h.names.same fun m e => by
      have hn := h.names
      subst e
      obtain ⟨es, cl, e2⟩ := hn.lt
      exact hx.block m (blk_lt e2) (hd m (h.om m rfl)), h.row.extP hx fun g e => hd g (h.os g e), h.ob, h.om, h.os, fun g hg => Nat.lt_of_lt_of_le (h.lt g hg) hx.size, h.low, h.e1, h.ok, h.pts, h.srt, h.many, h.nb⟩
theorem RgIx.ext (h : RgIx w B b N own each L P mo sv) (hx : Ext w w') : RgIx w' B b N own each L P mo sv := h.extP (own2 := fun _ => False) (.of hx) (fun _ _ h => h)
theorem RgI.extP (h : RgI w B b N own each L) (hx : ExtP own2 w w') (hd : ∀ g, own g → ¬ own2 g) : RgI w' B b N own each L := by
  obtain ⟨P, mo, sv, h⟩ := h; exact ⟨P, mo, sv, h.extP hx hd⟩
theorem RgI.ext (h : RgI w B b N own each L) (hx : Ext w w') : RgI w' B b N own each L := by
  obtain ⟨P, mo, sv, h⟩ := h; exact ⟨P, mo, sv, h.ext hx⟩
theorem RRx.extP (h : RRx w B x own each L sv) (hx : ExtP own2 w w') (hd : ∀ g, own g → ¬ own2 g) : RRx w' B x own each L sv :=
  ⟨(hx.block x (blk_lt h.blk) (hd x h.ox)).trans h.blk, h.row.extP hx fun g e => hd g (h.os g e), h.ox, h.os, fun g hg => Nat.lt_of_lt_of_le (h.lt g hg) hx.size, h.low, h.e1, h.ok⟩
theorem RRx.ext (h : RRx w B x own each L sv) (hx : Ext w w') : RRx w' B x own each L sv := h.extP (own2 := fun _ => False) (.of hx) (fun _ _ h => h)
theorem RRI.extP (h : RRI w B x own each L) (hx : ExtP own2 w w') (hd : ∀ g, own g → ¬ own2 g) : RRI w' B x own each L := by
  obtain ⟨sv, h⟩ := h; exact ⟨sv, h.extP hx hd⟩
theorem RRI.ext (h : RRI w B x own each L) (hx : Ext w w') : RRI w' B x own each L := by
  obtain ⟨sv, h⟩ := h; exact ⟨sv, h.ext hx⟩
theorem RgIx.far (h : RgIx w B b N own each L P mo sv) : sv.ownBlock ≠ some b := fun e => by
  obtain ⟨cur, h1, _⟩ := h.row.kind e
  rw [h.blk] at h1
  injection h1 with h1
  injection h1 with _ h1
  exact absurd h1 (by decide)
theorem RRx.far (h : RRx w B x own each L sv) : sv.ownBlock ≠ some x := fun e => by
  obtain ⟨cur, h1, _⟩ := h.row.kind e
  rw [h.blk] at h1
  injection h1 with h1
  injection h1 with _ h1
  exact absurd h1 (by decide)
theorem RgIx.mapFar (h : RgIx w B b N own each L P mo sv) {m : Nat} (e : mo = some m) : b ≠ m ∧ sv.ownBlock ≠ some m := by
  have hn := h.names
  subst e
  obtain ⟨es, cl, e2⟩ := hn.lt
  refine ⟨?_, fun e => ?_⟩
  · rintro rfl; rw [h.blk] at e2; cases e2
  · obtain ⟨cur, h1, _⟩ := h.row.kind e
    rw [h1] at e2; cases e2
end
end Go.Proofs.YtjphpblangeblaaDoor
