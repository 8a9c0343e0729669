/- Texts put together: TagA, TagB, TagC, TagD. -/
import Derived.Test.YtpangoddbfiagaaTG28
namespace Go.Proofs.Ytpangoddbfiagaa
open Go.RowKit Go.Maps Go.ChangeMaps
set_option linter.unusedVariables false
set_option linter.unusedSimpArgs false

structure PlayTX (w0 w : World) (pb b x k N : Nat) (vs : List Vn) (ss ts : List Sn) (sa ra : List Nat) (SA : Option Addr) (sc : Nat) (RA : Option Addr) (rc : Nat) (hl : List (Value × Bs)) (Lx : Nat → Prop) : Prop where
  hN : N ≤ 2 * k
  st : Pl2 w0 w b x N (playL pb (.slice SA ss.length sc) (.slice RA ss.length rc) Lx) vs ss sa [] ts ra hl
  blk : w.heap[pb]? = some (.cells #[ptrV b, ptrV x, .slice SA ss.length sc, .slice RA ss.length rc] 68 (0, 0))
  srow : w.ownsRow w0.heap.size 45 1 (.slice SA ss.length sc) ss.length (sa.map ptrV)
  rrow : w.ownsRow w0.heap.size 73 1 (.slice RA ss.length rc) ss.length (ra.map ptrV)
  nb : ¬ Lx pb
  ns : ∀ g, (Value.slice SA ss.length sc).ownBlock = some g → ¬ Lx g
  nr : ∀ g, (Value.slice RA ss.length rc).ownBlock = some g → ¬ Lx g
  good : GoodA k vs ss
  tl : ts.length = ss.length
  tz : ∀ t ∈ ts, t.at_ ≤ 1000000
/-- A play behind k acts, the document without objects. -/
def PlayT (w0 w : World) (pb b x k : Nat) (vs : List Vn) (ss : List Sn) (hl : List (Value × Bs)) (Lx : Nat → Prop) : Prop := ∃ N ts sa ra SA sc RA rc, PlayTX w0 w pb b x k N vs ss ts sa ra SA sc RA rc hl Lx
section
variable {w0 w w' W : World} {pb b x k N : Nat} {L Lx Lx' : Nat → Prop} {vs us : List Vn} {ss ts : List Sn} {sa ra : List Nat} {hl hl' : List (Value × Bs)} {SA RA : Option Addr} {sc rc : Nat}
theorem Play.toT (h : Play w0 w pb b x k [] [] hl Lx) : PlayT w0 w pb b x k [] [] hl Lx := by
  obtain ⟨N, sa, ra, SA, sc, RA, rc, h⟩ := h
  exact ⟨N, [], sa, ra, SA, sc, RA, rc, h.hN, h.st, h.blk, h.srow, h.rrow, h.nb, h.ns, h.nr, h.good, rfl, by simp⟩
theorem PlayTX.lt (h : PlayTX w0 w pb b x k N vs ss ts sa ra SA sc RA rc hl Lx) : ∀ g, Lx g → g < w.heap.size := fun g hg => h.st.plt (.inr (.inr (.inr hg)))
/-- The law turns blocks of its own, or takes new ones. -/
theorem PlayTX.other (h : PlayTX w0 w pb b x k N vs ss ts sa ra SA sc RA rc hl Lx) (xp : ExtP Lx w w') (hP : ∀ g, Lx' g → Lx g ∨ (w.heap.size ≤ g ∧ g < w'.heap.size)) : PlayTX w0 w' pb b x k N vs ss ts sa ra SA sc RA rc hl Lx' := by
  have hpl : pb < w.heap.size := blk_lt h.blk
  refine ⟨h.hN, h.st.other (xp.weak fun g hg => .inr (.inr (.inr hg))) (fun g hg => ?_), (xp.block pb hpl h.nb).trans h.blk, own_keep h.srow fun g e => xp.block g (h.srow.lt g e).2 (h.ns g e), own_keep h.rrow fun g e => xp.block g (h.rrow.lt g e).2 (h.nr g e), fun hh => ?_, fun g e hh => ?_, fun g e hh => ?_, h.good, h.tl, h.tz⟩
  · rcases hg with hg | hg | hg | hg
    · exact .inl (.inl hg)
    · exact .inl (.inr (.inl hg))
    · exact .inl (.inr (.inr (.inl hg)))
    · exact (hP g hg).imp (fun e => .inr (.inr (.inr e))) id
  · rcases hP _ hh with e | e
    · exact h.nb e
    · omega
  · rcases hP _ hh with e1 | e1
    · exact h.ns g e e1
    · have := (h.srow.lt g e).2; omega
  · rcases hP _ hh with e1 | e1
    · exact h.nr g e e1
    · have := (h.rrow.lt g e).2; omega
theorem PlayTX.box (h : PlayTX w0 w pb b x k N vs ss ts sa ra SA sc RA rc hl Lx) (xx : Ext w w') {ab : Nat} (h1 : w.heap.size ≤ ab) (h2 : ab < w'.heap.size) : PlayTX w0 w' pb b x k N vs ss ts sa ra SA sc RA rc hl (fun g => g = ab ∨ Lx g) :=
  h.other (.of xx) fun g hg => by
    rcases hg with e | e
    · rw [e]; exact .inr ⟨h1, h2⟩
    · exact .inl e
theorem PlayTX.ext (h : PlayTX w0 w pb b x k N vs ss ts sa ra SA sc RA rc hl Lx) (xx : Ext w w') : PlayTX w0 w' pb b x k N vs ss ts sa ra SA sc RA rc hl Lx := h.other (.of xx) fun g hg => .inl hg
theorem PlayTX.fin {N' : Nat} {ss' ts' : List Sn} (h : PlayTX w0 w pb b x k N vs ss ts sa ra SA sc RA rc hl Lx) (hP : Pl2 w0 w' b x N' (playL pb (.slice SA ss.length sc) (.slice RA ss.length rc) Lx) us ss' sa [] ts' ra hl') (hK : KeepP (playL pb (.slice SA ss.length sc) (.slice RA ss.length rc) Lx) w w') (hh : ∀ p ∈ hl, p ∈ hl') (hN : N' ≤ 2 * (k + 1)) (hlen : ss'.length = ss.length) (hg : GoodA (k + 1) us ss') (htl : ts'.length = ss.length) (htz : ∀ t ∈ ts', t.at_ ≤ 1000000) : PlayTX w0 w' pb b x (k + 1) N' us ss' ts' sa ra SA sc RA rc hl Lx :=
  ⟨hN, by rw [hlen]; exact hP.drop hh, by rw [hlen]; exact (hK pb (.inl rfl)).trans h.blk, by rw [hlen]; exact hK.row h.srow fun g e => .inr (.inl e), by rw [hlen]; exact hK.row h.rrow fun g e => .inr (.inr (.inl e)), h.nb, by rw [hlen]; exact h.ns, by rw [hlen]; exact h.nr, hg, by rw [hlen]; exact htl, htz⟩
theorem PlayTX.less (h : PlayTX w0 w pb b x k N vs ss ts sa ra SA sc RA rc hl Lx) (hs : ∀ g, Lx' g → Lx g) : PlayTX w0 w pb b x k N vs ss ts sa ra SA sc RA rc hl Lx' := h.other (ExtP.refl _ _) fun g hg => .inl (hs g hg)
theorem PlayT.other (h : PlayT w0 w pb b x k vs ss hl Lx) (xp : ExtP Lx w w') (hP : ∀ g, Lx' g → Lx g ∨ (w.heap.size ≤ g ∧ g < w'.heap.size)) : PlayT w0 w' pb b x k vs ss hl Lx' := by
  obtain ⟨N, ts, sa, ra, SA, sc, RA, rc, h⟩ := h
  exact ⟨N, ts, sa, ra, SA, sc, RA, rc, h.other xp hP⟩
theorem PlayT.ext (h : PlayT w0 w pb b x k vs ss hl Lx) (xx : Ext w w') : PlayT w0 w' pb b x k vs ss hl Lx := h.other (.of xx) fun g hg => .inl hg
theorem PlayT.lt (h : PlayT w0 w pb b x k vs ss hl Lx) : ∀ g, Lx g → g < w.heap.size := by
  obtain ⟨N, ts, sa, ra, SA, sc, RA, rc, h⟩ := h
  exact h.lt
theorem PlayT.base (h : PlayT w0 w pb b x k vs ss hl Lx) : Ext w0 w := by
  obtain ⟨N, ts, sa, ra, SA, sc, RA, rc, h⟩ := h
  exact h.st.base
theorem PlayT.good (h : PlayT w0 w pb b x k vs ss hl Lx) : GoodA k vs ss := by
  obtain ⟨N, ts, sa, ra, SA, sc, RA, rc, h⟩ := h
  exact h.good
theorem PlayT.drop (h : PlayT w0 w pb b x k vs ss hl Lx) (hs : ∀ p ∈ hl', p ∈ hl) : PlayT w0 w pb b x k vs ss hl' Lx := by
  obtain ⟨N, ts, sa, ra, SA, sc, RA, rc, h⟩ := h
  exact ⟨N, ts, sa, ra, SA, sc, RA, rc, h.hN, h.st.drop hs, h.blk, h.srow, h.rrow, h.nb, h.ns, h.nr, h.good, h.tl, h.tz⟩
theorem PlayT.more (h : PlayT w0 w pb b x k vs ss hl Lx) : PlayT w0 w pb b x (k + 1) vs ss hl Lx := by
  obtain ⟨N, ts, sa, ra, SA, sc, RA, rc, h⟩ := h
  exact ⟨N, ts, sa, ra, SA, sc, RA, rc, by have := h.hN; omega, h.st, h.blk, h.srow, h.rrow, h.nb, h.ns, h.nr, good_more h.good, h.tl, h.tz⟩
/-- What do leaves. -/
def DoRT (w0 w : World) (pb b x k : Nat) (vs : List Vn) (ss : List Sn) (hl : List (Value × Bs)) (Lx : Nat → Prop) (e : Ending) (w' : World) : Prop :=
  (∃ r, e = .returned (.bool r)) ∧ PlayT w0 w' pb b x k vs ss hl Lx ∧ KeepP Lx w w'
theorem do_finT {w W w' : World} {N N' ab : Nat} {ts sa ra} {SA RA : Option Addr} {sc rc : Nat} {us : List Vn} {ss' ts' : List Sn} {hl' : List (Value × Bs)} {r : Bool} (h : PlayTX w0 w pb b x k N vs ss ts sa ra SA sc RA rc hl Lx) (hx : Ext w W) (hW : PlayTX w0 W pb b x k N vs ss ts sa ra SA sc RA rc hl (fun g => g = ab ∨ Lx g)) (hP : Pl2 w0 w' b x N' (playL pb (.slice SA ss.length sc) (.slice RA ss.length rc) (fun g => g = ab ∨ Lx g)) us ss' sa [] ts' ra hl') (hK : KeepP (playL pb (.slice SA ss.length sc) (.slice RA ss.length rc) (fun g => g = ab ∨ Lx g)) W w')
    (hh : ∀ p ∈ hl, p ∈ hl') (hN : N' ≤ 2 * (k + 1)) (hlen : ss'.length = ss.length) (hg : GoodA (k + 1) us ss') (htl : ts'.length = ss.length) (htz : ∀ t ∈ ts', t.at_ ≤ 1000000) : DoRT w0 w pb b x (k + 1) us ss' hl Lx (.returned (.bool r)) w' :=
  ⟨⟨r, rfl⟩, ⟨N', ts', sa, ra, SA, sc, RA, rc, (hW.fin hP hK hh hN hlen hg htl htz).less fun g hg => .inr hg⟩, fun g hg => (hK g (.inr (.inr (.inr (.inr hg))))).trans (hx.block g (h.lt g hg))⟩
theorem wf_nil : Wf [] := fun v hv => by simp at hv
theorem askS_404 {vs : List Vn} {f : Ft} (h : (askS vs f).st = 404) : askS vs f = ⟨404, zeroM, 0, 0, 0, none⟩ := by
  unfold askS at *
  split at h
  · rfl
  · split at h
    · rfl
    · exfalso
      unfold askV at h
      repeat' split at h
      all_goals simp at h
theorem takeB_nil (s : Sn) (n : Int) : takeB [] s n = [] := by
  unfold takeB
  split
  · rfl
  · rfl
theorem movS_nil (s : Sn) (n : Int) : (movS [] s n).at_ = s.at_ := by unfold movS; rw [takeB_nil]; simp
end
section
variable {w0 W W2 W8 : World} {pb b x k N : Nat} {Lx : Nat → Prop} {vs : List Vn} {ss ts : List Sn} {sa ra : List Nat} {hl : List (Value × Bs)} {SA RA SA' RA' : Option Addr} {sc rc sc' rc' sb rb : Nat} {S T : Sn}
/-- The play with a stream more. -/
theorem PlayTX.askd (h : PlayTX w0 W pb b x k N vs ss ts sa ra SA sc RA rc hl Lx) (hx : W.heap.size ≤ W2.heap.size) (hP : Pl2 w0 W2 b x N (playL pb (.slice SA ss.length sc) (.slice RA ss.length rc) Lx) vs (ss ++ [S]) (sa ++ [sb]) [] (ts ++ [T]) (ra ++ [rb]) hl)
    (hB : ExtB (pb :: ((Value.slice SA ss.length sc).ownBlock.toList ++ (Value.slice RA ss.length rc).ownBlock.toList)) W2 W8) (hblk : W8.heap[pb]? = some (.cells #[ptrV b, ptrV x, .slice SA' (ss.length + 1) sc', .slice RA' (ss.length + 1) rc'] 68 (0, 0)))
    (hs : W8.ownsRow w0.heap.size 45 1 (.slice SA' (ss.length + 1) sc') (ss.length + 1) ((sa ++ [sb]).map ptrV)) (hr : W8.ownsRow w0.heap.size 73 1 (.slice RA' (ss.length + 1) rc') (ss.length + 1) ((ra ++ [rb]).map ptrV))
    (ws : ∀ g, (Value.slice SA' (ss.length + 1) sc').ownBlock = some g → (Value.slice SA ss.length sc).ownBlock = some g ∨ W2.heap.size ≤ g) (wr : ∀ g, (Value.slice RA' (ss.length + 1) rc').ownBlock = some g → (Value.slice RA ss.length rc).ownBlock = some g ∨ W2.heap.size ≤ g) (hg : GoodA (k + 1) vs (ss ++ [S])) (hT : T.at_ ≤ 1000000) : PlayTX w0 W8 pb b x (k + 1) N vs (ss ++ [S]) (ts ++ [T]) (sa ++ [sb]) (ra ++ [rb]) SA' sc' RA' rc' hl Lx := by
  have e1 : (ss ++ [S]).length = ss.length + 1 := by simp
  have hlt : ∀ g, Lx g → g < W2.heap.size := fun g hg => Nat.lt_of_lt_of_le (h.lt g hg) hx
  refine ⟨by have := h.hN; omega, ?_, by rw [e1]; exact hblk, by rw [e1]; exact hs, by rw [e1]; exact hr, h.nb, fun g e hh => ?_, fun g e hh => ?_, hg, by simp [h.tl], fun t ht => (by rcases List.mem_append.1 ht with e | e; exact h.tz t e; rw [List.mem_singleton.1 e]; exact hT)⟩
  · rw [e1]
    refine hP.other (.ofB hB fun g hg => .inl ?_) fun g hg => ?_
    · rcases List.mem_cons.1 hg with e | e
      · exact .inl e
      · rcases List.mem_append.1 e with e | e
        · exact .inr (.inl (by simpa using e))
        · exact .inr (.inr (.inl (by simpa using e)))
    · rcases hg with hg | hg | hg | hg
      · exact .inl (.inl hg)
      · exact (ws g hg).imp (fun e => .inr (.inl e)) fun e => ⟨e, (hs.lt g hg).2⟩
      · exact (wr g hg).imp (fun e => .inr (.inr (.inl e))) fun e => ⟨e, (hr.lt g hg).2⟩
      · exact .inl (.inr (.inr (.inr hg)))
  · rw [e1] at e
    rcases ws g e with h1 | h1
    · exact h.ns g h1 hh
    · have := hlt g hh; omega
  · rw [e1] at e
    rcases wr g e with h1 | h1
    · exact h.nr g h1 hh
    · have := hlt g hh; omega
end
end Go.Proofs.Ytpangoddbfiagaa
namespace Go.Proofs.Ytpangoddbfiagaa
open Go.RowKit Go.Maps Go.ChangeMaps
set_option linter.unusedVariables false
set_option linter.unusedSimpArgs false

section
variable {w0 w : World} {pb b x k : Nat} {Lx : Nat → Prop} {vs : List Vn} {ss : List Sn} {hl : List (Value × Bs)}
set_option maxRecDepth 100000 in
set_option maxHeartbeats 4000000 in
theorem doT_k2 (h : PlayT w0 w pb b x k vs ss hl Lx) (hk : k ≤ 1000) {obj tt ten bs fo mt nt : Bs} {tw keep mw nw : Bool} {mod len hav fr wh er ff fto n : Int} {keys : List Bs} {kv bv : Value} {st : Nat} (ha : ActAt w0 ⟨2, obj, ⟨tt, tw, mod, len, hav, fr, wh, er, keys, ten, keep⟩, kv, bs, bv, ⟨fo, ff, fto, mt, mw, nt, nw⟩, st, n⟩) :
    Calls Try.prog 23 #[.pointer (some ⟨pb, 0, none⟩), .agg (actC ⟨2, obj, ⟨tt, tw, mod, len, hav, fr, wh, er, keys, ten, keep⟩, kv, bs, bv, ⟨fo, ff, fto, mt, mw, nt, nw⟩, st, n⟩).toArray] w (DoRT w0 w pb b x (k + 1) (doV vs ⟨2, obj, ⟨tt, tw, mod, len, hav, fr, wh, er, keys, ten, keep⟩, kv, bs, bv, ⟨fo, ff, fto, mt, mw, nt, nw⟩, st, n⟩) (doS vs ss ⟨2, obj, ⟨tt, tw, mod, len, hav, fr, wh, er, keys, ten, keep⟩, kv, bs, bv, ⟨fo, ff, fto, mt, mw, nt, nw⟩, st, n⟩) hl Lx) := by
  obtain ⟨N, ts, sa, ra, SA, sc, RA, rc, h⟩ := h
  have hg' := Lib.hid (good_do h.good hk (a := ⟨2, obj, ⟨tt, tw, mod, len, hav, fr, wh, er, keys, ten, keep⟩, kv, bs, bv, ⟨fo, ff, fto, mt, mw, nt, nw⟩, st, n⟩) ha.z.bytes)
  obtain ⟨hz, hkt, hkl, hbt, hbl, hst⟩ := ha
  simp only at hkt hkl hbt hbl hst
  obtain ⟨nu, hnu⟩ : ∃ n, n = bs.length := ⟨_, rfl⟩
  obtain ⟨UA, uc, rfl⟩ : ∃ UA uc, bv = .slice UA nu uc := by obtain ⟨A, c, e, _⟩ := hbt; exact ⟨A, c, by rw [e, hnu]; simp⟩
  obtain ⟨nk, hnk⟩ : ∃ nk, nk = keys.length := ⟨_, rfl⟩
  obtain ⟨KA, KC, rfl⟩ : ∃ KA KC, kv = .slice KA nk KC := by obtain ⟨A, c, e, _⟩ := hkt; exact ⟨A, c, by rw [e, hnk]⟩
  have HZ := Lib.hid hz; have HKT := Lib.hid hkt; have HKL := Lib.hid hkl; have HBT := Lib.hid hbt; have HBL := Lib.hid hbl
  have HK := Lib.hid hk; have HP := Lib.hid h
  clear hz hkt hkl hbt hbl hk hnu hnk h hst
  simp only [actC]
  go_enter Try.func23, Try.ntmps23
  go_wp2_with (refine wpList_boxA 40 rfl _ rfl #[.int .i64 2, .string ⟨obj.toArray⟩, .string ⟨tt.toArray⟩, .bool tw, .int .i64 mod, .int .i64 len, .int .i64 hav, .int .i64 fr, .int .i64 wh, .int .i64 er, .slice KA nk KC, .string ⟨ten.toArray⟩, .bool keep, .slice UA nu uc, .string ⟨fo.toArray⟩, .int .i64 ff, .int .i64 fto, .string ⟨mt.toArray⟩, .bool mw, .string ⟨nt.toArray⟩, .bool nw, .int .u8 st, .int .i64 n] rfl ?_; intro W0 x0 n0 s0; refine stop_of ?_)
  unfold Stop
  obtain ⟨ab, hab⟩ : ∃ p, p = w.heap.size := ⟨_, rfl⟩
  rw [← hab] at n0 ⊢
  have H0 := Lib.hid (HP.out.box x0 (Nat.le_of_eq hab.symm) (blk_lt n0))
  have N0 := Lib.hid n0
  have X0 := Lib.hid x0
  have k0 := blk_cell n0 0
  simp at k0
  clear x0 n0 s0 hab
  go_wp2_with fail
  have P0 : W0.drew.heap[pb]? = some (.cells #[ptrV b, ptrV x, .slice SA ss.length sc, .slice RA ss.length rc] 68) := H0.out.blk
  have A0 : W0.drew.heap[ab]? = some (.cells #[.int .i64 2, .string ⟨obj.toArray⟩, .string ⟨tt.toArray⟩, .bool tw, .int .i64 mod, .int .i64 len, .int .i64 hav, .int .i64 fr, .int .i64 wh, .int .i64 er, .slice KA nk KC, .string ⟨ten.toArray⟩, .bool keep, .slice UA nu uc, .string ⟨fo.toArray⟩, .int .i64 ff, .int .i64 fto, .string ⟨mt.toArray⟩, .bool mw, .string ⟨nt.toArray⟩, .bool nw, .int .u8 st, .int .i64 n] 40) := N0.out
  have HD := Lib.hid (H0.out.ext (Ext.drew (Ext.refl W0)))
  have XD := Lib.hid (X0.out.trans (Ext.drew (Ext.refl W0)))
  have G0 : ∀ y : GrowR (keepB2 pb ab (.cells #[ptrV b, ptrV x, .slice SA ss.length sc, .slice RA ss.length rc] 68) (.cells #[.int .i64 2, .string ⟨obj.toArray⟩, .string ⟨tt.toArray⟩, .bool tw, .int .i64 mod, .int .i64 len, .int .i64 hav, .int .i64 fr, .int .i64 wh, .int .i64 er, .slice KA nk KC, .string ⟨ten.toArray⟩, .bool keep, .slice UA nu uc, .string ⟨fo.toArray⟩, .int .i64 ff, .int .i64 fto, .string ⟨mt.toArray⟩, .bool mw, .string ⟨nt.toArray⟩, .bool nw, .int .u8 st, .int .i64 n] 40)) W0.drew, y.v.cell? ⟨pb, 0, none⟩ = some (.pointer (some ⟨b, 0, none⟩)) := fun y => blk_cell (y.ext.1 P0) 0
  have G1 : ∀ y : GrowR (keepB2 pb ab (.cells #[ptrV b, ptrV x, .slice SA ss.length sc, .slice RA ss.length rc] 68) (.cells #[.int .i64 2, .string ⟨obj.toArray⟩, .string ⟨tt.toArray⟩, .bool tw, .int .i64 mod, .int .i64 len, .int .i64 hav, .int .i64 fr, .int .i64 wh, .int .i64 er, .slice KA nk KC, .string ⟨ten.toArray⟩, .bool keep, .slice UA nu uc, .string ⟨fo.toArray⟩, .int .i64 ff, .int .i64 fto, .string ⟨mt.toArray⟩, .bool mw, .string ⟨nt.toArray⟩, .bool nw, .int .u8 st, .int .i64 n] 40)) W0.drew, y.v.cell? ⟨pb, 1, none⟩ = some (.pointer (some ⟨x, 0, none⟩)) := fun y => blk_cell (y.ext.1 P0) 1
  have G2 : ∀ y : GrowR (keepB2 pb ab (.cells #[ptrV b, ptrV x, .slice SA ss.length sc, .slice RA ss.length rc] 68) (.cells #[.int .i64 2, .string ⟨obj.toArray⟩, .string ⟨tt.toArray⟩, .bool tw, .int .i64 mod, .int .i64 len, .int .i64 hav, .int .i64 fr, .int .i64 wh, .int .i64 er, .slice KA nk KC, .string ⟨ten.toArray⟩, .bool keep, .slice UA nu uc, .string ⟨fo.toArray⟩, .int .i64 ff, .int .i64 fto, .string ⟨mt.toArray⟩, .bool mw, .string ⟨nt.toArray⟩, .bool nw, .int .u8 st, .int .i64 n] 40)) W0.drew, y.v.cell? ⟨ab, 1, none⟩ = some (.string ⟨obj.toArray⟩) := fun y => blk_cell (y.ext.2 A0) 1
  have G3 : ∀ y : GrowR (keepB2 pb ab (.cells #[ptrV b, ptrV x, .slice SA ss.length sc, .slice RA ss.length rc] 68) (.cells #[.int .i64 2, .string ⟨obj.toArray⟩, .string ⟨tt.toArray⟩, .bool tw, .int .i64 mod, .int .i64 len, .int .i64 hav, .int .i64 fr, .int .i64 wh, .int .i64 er, .slice KA nk KC, .string ⟨ten.toArray⟩, .bool keep, .slice UA nu uc, .string ⟨fo.toArray⟩, .int .i64 ff, .int .i64 fto, .string ⟨mt.toArray⟩, .bool mw, .string ⟨nt.toArray⟩, .bool nw, .int .u8 st, .int .i64 n] 40)) W0.drew, y.v.cell? ⟨ab, 13, none⟩ = some (.slice UA nu uc) := fun y => blk_cell (y.ext.2 A0) 13
  refine wp_region_segsR (keepB2 pb ab (.cells #[ptrV b, ptrV x, .slice SA ss.length sc, .slice RA ss.length rc] 68) (.cells #[.int .i64 2, .string ⟨obj.toArray⟩, .string ⟨tt.toArray⟩, .bool tw, .int .i64 mod, .int .i64 len, .int .i64 hav, .int .i64 fr, .int .i64 wh, .int .i64 er, .slice KA nk KC, .string ⟨ten.toArray⟩, .bool keep, .slice UA nu uc, .string ⟨fo.toArray⟩, .int .i64 ff, .int .i64 fto, .string ⟨mt.toArray⟩, .bool mw, .string ⟨nt.toArray⟩, .bool nw, .int .u8 st, .int .i64 n] 40)) [.inl [0, 1, 2, 3, 4, 5, 7, 8, 11, 12, 13, 14, 15, 16, 17, 18], .inr (.inl 6), .inr (.inl 9), .inr (.inl 10), .inr (.inl 19), .inl [20, 21]] (by kernel_rfl) (by kernel_rfl) (fun c a d v w h => by cases d <;> exact h) ?_
  (rw [wpSegsR_inl]; simp only [pickOps, List.map_cons, List.map_nil, List.getD_cons_succ, List.getD_cons_zero]; (repeat (go_big_quiet_step (fail))); refine wpQuiet_nil ?_)
  clear G0 G1 G2 G3 A0 P0
  (rw [wpSegsR_grow]; simp only [pickOps, List.map_cons, List.map_nil, List.getD_cons_succ, List.getD_cons_zero]; go_wp2_with (fail))
  refine ⟨keepB2_of ((ext_alloc1 _ _).heap HD.out.blk) ((ext_alloc1 _ _).heap N0.out), ?_⟩
  have HBD := Lib.hid (BytesAt.ext HBT.out HD.out.st.base)
  have HCAP := Lib.hid (fun (i : Nat) (v : Vn) (hn : nowI vs obj = some i) (hv : vs[i]? = some v) => (show v.bytes.length + bs.length ≤ 100000 from by have := HP.out.good.bytes v (List.mem_of_getElem? hv); have := HK.out; have := HZ.out.bytes; simp only at this; omega))
  (rw [wpSegsR_grow]; simp only [pickOps, List.map_cons, List.map_nil, List.getD_cons_succ, List.getD_cons_zero]; go_wp2_with ((at_builtin; refine wpList_copyE rfl _ _ rfl _ bs HBD.out rfl rfl (by have := HZ.out.bytes; simp only at this; omega) ?_; intro v6 W6 r6 x6; refine stop_of ?_)))
  unfold Stop
  have H6 := Lib.hid (HD.out.st.hold x6 r6 (Nat.le_refl _))
  have K6 := Lib.hid (KeepP.ext x6 (fun g hg => HD.out.st.plt hg))
  have N6 := Lib.hid (x6.heap N0.out)
  go_wp2_with fail
  refine ⟨keepB2_of (x6.heap HD.out.blk) (x6.heap N0.out), ?_⟩
  clear x6 r6
  (rw [wpSegsR_grow]; simp only [pickOps, List.map_cons, List.map_nil, List.getD_cons_succ, List.getD_cons_zero]; go_wp2_with ((go_at_call 17; refine (p_grow H6.out (by have := HZ.out.obj; simp only at this; omega) List.mem_cons_self (by have := HZ.out.bytes; simp only at this; omega) HCAP.out).mono ?_; rintro e w7 ⟨rfl, h7, q7⟩; refine stop_of ?_)))
  unfold Stop
  have K7 := Lib.hid (K6.out.trans q7); have H7 := Lib.hid h7
  go_wp2_with fail
  refine ⟨keepB2_of ((K7.out pb (.inl rfl)).trans HD.out.blk) ((K7.out ab (.inr (.inr (.inr (.inl rfl))))).trans N0.out), ?_⟩
  clear q7 h7 HBD K6 H6 N6
  have HBT7 := Lib.hid (BytesAt.ext HBT.out H7.out.base)
  (rw [wpSegsR_grow]; simp only [pickOps, List.map_cons, List.map_nil, List.getD_cons_succ, List.getD_cons_zero]; go_wp2_with ((go_at_call 47; refine (d_grow H7.out (by have := HZ.out.obj; simp only at this; omega) HBT7.out (by have := HZ.out.bytes; simp only at this; omega) (fun i v hn => by cases hn)).mono ?_; rintro e w8 ⟨rfl, h8, q8⟩; refine stop_of ?_)))
  unfold Stop
  have K8 := Lib.hid (K7.out.trans q8); have H8 := Lib.hid h8
  go_wp2_with fail
  refine ⟨keepB2_of ((K8.out pb (.inl rfl)).trans HD.out.blk) ((K8.out ab (.inr (.inr (.inr (.inl rfl))))).trans N0.out), ?_⟩
  clear q8 h8 HBT7 K7 H7
  (rw [wpSegsR_inl]; simp only [pickOps, List.map_cons, List.map_nil, List.getD_cons_succ, List.getD_cons_zero]; (repeat (go_big_quiet_step (fail))); refine wpQuiet_nil ?_)
  rw [wpSegsR_nil]
  go_wp2
  go_ret
  exact do_finT HP.out XD.out HD.out H8.out K8.out (fun p hp => List.mem_cons_of_mem _ hp) (by have := HP.out.hN; omega) rfl hg'.out HP.out.tl HP.out.tz
set_option maxRecDepth 100000 in
set_option maxHeartbeats 4000000 in
theorem doT_k3 (h : PlayT w0 w pb b x k vs ss hl Lx) (hk : k ≤ 1000) {obj tt ten bs fo mt nt : Bs} {tw keep mw nw : Bool} {mod len hav fr wh er ff fto n : Int} {keys : List Bs} {kv bv : Value} {st : Nat} (ha : ActAt w0 ⟨3, obj, ⟨tt, tw, mod, len, hav, fr, wh, er, keys, ten, keep⟩, kv, bs, bv, ⟨fo, ff, fto, mt, mw, nt, nw⟩, st, n⟩) :
    Calls Try.prog 23 #[.pointer (some ⟨pb, 0, none⟩), .agg (actC ⟨3, obj, ⟨tt, tw, mod, len, hav, fr, wh, er, keys, ten, keep⟩, kv, bs, bv, ⟨fo, ff, fto, mt, mw, nt, nw⟩, st, n⟩).toArray] w (DoRT w0 w pb b x (k + 1) (doV vs ⟨3, obj, ⟨tt, tw, mod, len, hav, fr, wh, er, keys, ten, keep⟩, kv, bs, bv, ⟨fo, ff, fto, mt, mw, nt, nw⟩, st, n⟩) (doS vs ss ⟨3, obj, ⟨tt, tw, mod, len, hav, fr, wh, er, keys, ten, keep⟩, kv, bs, bv, ⟨fo, ff, fto, mt, mw, nt, nw⟩, st, n⟩) hl Lx) := by
  obtain ⟨N, ts, sa, ra, SA, sc, RA, rc, h⟩ := h
  have hg' := Lib.hid (good_do h.good hk (a := ⟨3, obj, ⟨tt, tw, mod, len, hav, fr, wh, er, keys, ten, keep⟩, kv, bs, bv, ⟨fo, ff, fto, mt, mw, nt, nw⟩, st, n⟩) ha.z.bytes)
  obtain ⟨hz, hkt, hkl, hbt, hbl, hst⟩ := ha
  simp only at hkt hkl hbt hbl hst
  obtain ⟨nu, hnu⟩ : ∃ n, n = bs.length := ⟨_, rfl⟩
  obtain ⟨UA, uc, rfl⟩ : ∃ UA uc, bv = .slice UA nu uc := by obtain ⟨A, c, e, _⟩ := hbt; exact ⟨A, c, by rw [e, hnu]; simp⟩
  obtain ⟨nk, hnk⟩ : ∃ nk, nk = keys.length := ⟨_, rfl⟩
  obtain ⟨KA, KC, rfl⟩ : ∃ KA KC, kv = .slice KA nk KC := by obtain ⟨A, c, e, _⟩ := hkt; exact ⟨A, c, by rw [e, hnk]⟩
  have HZ := Lib.hid hz; have HKT := Lib.hid hkt; have HKL := Lib.hid hkl; have HBT := Lib.hid hbt; have HBL := Lib.hid hbl
  have HK := Lib.hid hk; have HP := Lib.hid h
  clear hz hkt hkl hbt hbl hk hnu hnk h hst
  simp only [actC]
  go_enter Try.func23, Try.ntmps23
  go_wp2_with (refine wpList_boxA 40 rfl _ rfl #[.int .i64 3, .string ⟨obj.toArray⟩, .string ⟨tt.toArray⟩, .bool tw, .int .i64 mod, .int .i64 len, .int .i64 hav, .int .i64 fr, .int .i64 wh, .int .i64 er, .slice KA nk KC, .string ⟨ten.toArray⟩, .bool keep, .slice UA nu uc, .string ⟨fo.toArray⟩, .int .i64 ff, .int .i64 fto, .string ⟨mt.toArray⟩, .bool mw, .string ⟨nt.toArray⟩, .bool nw, .int .u8 st, .int .i64 n] rfl ?_; intro W0 x0 n0 s0; refine stop_of ?_)
  unfold Stop
  obtain ⟨ab, hab⟩ : ∃ p, p = w.heap.size := ⟨_, rfl⟩
  rw [← hab] at n0 ⊢
  have H0 := Lib.hid (HP.out.box x0 (Nat.le_of_eq hab.symm) (blk_lt n0))
  have N0 := Lib.hid n0
  have X0 := Lib.hid x0
  have k0 := blk_cell n0 0
  simp at k0
  clear x0 n0 s0 hab
  go_wp2_with fail
  have P0 : W0.drew.heap[pb]? = some (.cells #[ptrV b, ptrV x, .slice SA ss.length sc, .slice RA ss.length rc] 68) := H0.out.blk
  have A0 : W0.drew.heap[ab]? = some (.cells #[.int .i64 3, .string ⟨obj.toArray⟩, .string ⟨tt.toArray⟩, .bool tw, .int .i64 mod, .int .i64 len, .int .i64 hav, .int .i64 fr, .int .i64 wh, .int .i64 er, .slice KA nk KC, .string ⟨ten.toArray⟩, .bool keep, .slice UA nu uc, .string ⟨fo.toArray⟩, .int .i64 ff, .int .i64 fto, .string ⟨mt.toArray⟩, .bool mw, .string ⟨nt.toArray⟩, .bool nw, .int .u8 st, .int .i64 n] 40) := N0.out
  have HD := Lib.hid (H0.out.ext (Ext.drew (Ext.refl W0)))
  have XD := Lib.hid (X0.out.trans (Ext.drew (Ext.refl W0)))
  have G0 : ∀ y : GrowR (keepB2 pb ab (.cells #[ptrV b, ptrV x, .slice SA ss.length sc, .slice RA ss.length rc] 68) (.cells #[.int .i64 3, .string ⟨obj.toArray⟩, .string ⟨tt.toArray⟩, .bool tw, .int .i64 mod, .int .i64 len, .int .i64 hav, .int .i64 fr, .int .i64 wh, .int .i64 er, .slice KA nk KC, .string ⟨ten.toArray⟩, .bool keep, .slice UA nu uc, .string ⟨fo.toArray⟩, .int .i64 ff, .int .i64 fto, .string ⟨mt.toArray⟩, .bool mw, .string ⟨nt.toArray⟩, .bool nw, .int .u8 st, .int .i64 n] 40)) W0.drew, y.v.cell? ⟨pb, 0, none⟩ = some (.pointer (some ⟨b, 0, none⟩)) := fun y => blk_cell (y.ext.1 P0) 0
  have G1 : ∀ y : GrowR (keepB2 pb ab (.cells #[ptrV b, ptrV x, .slice SA ss.length sc, .slice RA ss.length rc] 68) (.cells #[.int .i64 3, .string ⟨obj.toArray⟩, .string ⟨tt.toArray⟩, .bool tw, .int .i64 mod, .int .i64 len, .int .i64 hav, .int .i64 fr, .int .i64 wh, .int .i64 er, .slice KA nk KC, .string ⟨ten.toArray⟩, .bool keep, .slice UA nu uc, .string ⟨fo.toArray⟩, .int .i64 ff, .int .i64 fto, .string ⟨mt.toArray⟩, .bool mw, .string ⟨nt.toArray⟩, .bool nw, .int .u8 st, .int .i64 n] 40)) W0.drew, y.v.cell? ⟨pb, 1, none⟩ = some (.pointer (some ⟨x, 0, none⟩)) := fun y => blk_cell (y.ext.1 P0) 1
  have G2 : ∀ y : GrowR (keepB2 pb ab (.cells #[ptrV b, ptrV x, .slice SA ss.length sc, .slice RA ss.length rc] 68) (.cells #[.int .i64 3, .string ⟨obj.toArray⟩, .string ⟨tt.toArray⟩, .bool tw, .int .i64 mod, .int .i64 len, .int .i64 hav, .int .i64 fr, .int .i64 wh, .int .i64 er, .slice KA nk KC, .string ⟨ten.toArray⟩, .bool keep, .slice UA nu uc, .string ⟨fo.toArray⟩, .int .i64 ff, .int .i64 fto, .string ⟨mt.toArray⟩, .bool mw, .string ⟨nt.toArray⟩, .bool nw, .int .u8 st, .int .i64 n] 40)) W0.drew, y.v.cell? ⟨ab, 1, none⟩ = some (.string ⟨obj.toArray⟩) := fun y => blk_cell (y.ext.2 A0) 1
  refine wp_region_segsR (keepB2 pb ab (.cells #[ptrV b, ptrV x, .slice SA ss.length sc, .slice RA ss.length rc] 68) (.cells #[.int .i64 3, .string ⟨obj.toArray⟩, .string ⟨tt.toArray⟩, .bool tw, .int .i64 mod, .int .i64 len, .int .i64 hav, .int .i64 fr, .int .i64 wh, .int .i64 er, .slice KA nk KC, .string ⟨ten.toArray⟩, .bool keep, .slice UA nu uc, .string ⟨fo.toArray⟩, .int .i64 ff, .int .i64 fto, .string ⟨mt.toArray⟩, .bool mw, .string ⟨nt.toArray⟩, .bool nw, .int .u8 st, .int .i64 n] 40)) [.inl [0, 1, 2, 3, 4, 5, 7, 8, 9, 10, 11, 12], .inr (.inl 6), .inr (.inl 13), .inl [14, 15]] (by kernel_rfl) (by kernel_rfl) (fun c a d v w h => by cases d <;> exact h) ?_
  (rw [wpSegsR_inl]; simp only [pickOps, List.map_cons, List.map_nil, List.getD_cons_succ, List.getD_cons_zero]; (repeat (go_big_quiet_step (fail))); refine wpQuiet_nil ?_)
  clear G0 G1 G2 A0 P0
  (rw [wpSegsR_grow]; simp only [pickOps, List.map_cons, List.map_nil, List.getD_cons_succ, List.getD_cons_zero]; go_wp2_with ((go_at_call 19; refine (p_seal HD.out.st (by have := HZ.out.obj; simp only at this; omega)).mono ?_; rintro e w7 ⟨rfl, h7, q7⟩; refine stop_of ?_)))
  unfold Stop
  have K7 := Lib.hid q7; have H7 := Lib.hid h7
  go_wp2_with fail
  refine ⟨keepB2_of ((K7.out pb (.inl rfl)).trans HD.out.blk) ((K7.out ab (.inr (.inr (.inr (.inl rfl))))).trans N0.out), ?_⟩
  clear q7 h7
  (rw [wpSegsR_grow]; simp only [pickOps, List.map_cons, List.map_nil, List.getD_cons_succ, List.getD_cons_zero]; go_wp2_with ((go_at_call 48; refine (d_seal H7.out (by have := HZ.out.obj; simp only at this; omega)).mono ?_; rintro e w8 ⟨rfl, h8, q8⟩; refine stop_of ?_)))
  unfold Stop
  have K8 := Lib.hid (K7.out.trans q8); have H8 := Lib.hid h8
  go_wp2_with fail
  refine ⟨keepB2_of ((K8.out pb (.inl rfl)).trans HD.out.blk) ((K8.out ab (.inr (.inr (.inr (.inl rfl))))).trans N0.out), ?_⟩
  clear q8 h8 K7 H7
  (rw [wpSegsR_inl]; simp only [pickOps, List.map_cons, List.map_nil, List.getD_cons_succ, List.getD_cons_zero]; (repeat (go_big_quiet_step (fail))); refine wpQuiet_nil ?_)
  rw [wpSegsR_nil]
  go_wp2
  go_ret
  exact do_finT HP.out XD.out HD.out H8.out K8.out (fun p hp => hp) (by have := HP.out.hN; omega) rfl hg'.out HP.out.tl HP.out.tz
set_option maxRecDepth 100000 in
set_option maxHeartbeats 4000000 in
theorem doT_k4 (h : PlayT w0 w pb b x k vs ss hl Lx) (hk : k ≤ 1000) {obj tt ten bs fo mt nt : Bs} {tw keep mw nw : Bool} {mod len hav fr wh er ff fto n : Int} {keys : List Bs} {kv bv : Value} {st : Nat} (ha : ActAt w0 ⟨4, obj, ⟨tt, tw, mod, len, hav, fr, wh, er, keys, ten, keep⟩, kv, bs, bv, ⟨fo, ff, fto, mt, mw, nt, nw⟩, st, n⟩) :
    Calls Try.prog 23 #[.pointer (some ⟨pb, 0, none⟩), .agg (actC ⟨4, obj, ⟨tt, tw, mod, len, hav, fr, wh, er, keys, ten, keep⟩, kv, bs, bv, ⟨fo, ff, fto, mt, mw, nt, nw⟩, st, n⟩).toArray] w (DoRT w0 w pb b x (k + 1) (doV vs ⟨4, obj, ⟨tt, tw, mod, len, hav, fr, wh, er, keys, ten, keep⟩, kv, bs, bv, ⟨fo, ff, fto, mt, mw, nt, nw⟩, st, n⟩) (doS vs ss ⟨4, obj, ⟨tt, tw, mod, len, hav, fr, wh, er, keys, ten, keep⟩, kv, bs, bv, ⟨fo, ff, fto, mt, mw, nt, nw⟩, st, n⟩) hl Lx) := by
  obtain ⟨N, ts, sa, ra, SA, sc, RA, rc, h⟩ := h
  have hg' := Lib.hid (good_do h.good hk (a := ⟨4, obj, ⟨tt, tw, mod, len, hav, fr, wh, er, keys, ten, keep⟩, kv, bs, bv, ⟨fo, ff, fto, mt, mw, nt, nw⟩, st, n⟩) ha.z.bytes)
  obtain ⟨hz, hkt, hkl, hbt, hbl, hst⟩ := ha
  simp only at hkt hkl hbt hbl hst
  obtain ⟨nu, hnu⟩ : ∃ n, n = bs.length := ⟨_, rfl⟩
  obtain ⟨UA, uc, rfl⟩ : ∃ UA uc, bv = .slice UA nu uc := by obtain ⟨A, c, e, _⟩ := hbt; exact ⟨A, c, by rw [e, hnu]; simp⟩
  obtain ⟨nk, hnk⟩ : ∃ nk, nk = keys.length := ⟨_, rfl⟩
  obtain ⟨KA, KC, rfl⟩ : ∃ KA KC, kv = .slice KA nk KC := by obtain ⟨A, c, e, _⟩ := hkt; exact ⟨A, c, by rw [e, hnk]⟩
  have HZ := Lib.hid hz; have HKT := Lib.hid hkt; have HKL := Lib.hid hkl; have HBT := Lib.hid hbt; have HBL := Lib.hid hbl
  have HK := Lib.hid hk; have HP := Lib.hid h
  clear hz hkt hkl hbt hbl hk hnu hnk h hst
  simp only [actC]
  go_enter Try.func23, Try.ntmps23
  go_wp2_with (refine wpList_boxA 40 rfl _ rfl #[.int .i64 4, .string ⟨obj.toArray⟩, .string ⟨tt.toArray⟩, .bool tw, .int .i64 mod, .int .i64 len, .int .i64 hav, .int .i64 fr, .int .i64 wh, .int .i64 er, .slice KA nk KC, .string ⟨ten.toArray⟩, .bool keep, .slice UA nu uc, .string ⟨fo.toArray⟩, .int .i64 ff, .int .i64 fto, .string ⟨mt.toArray⟩, .bool mw, .string ⟨nt.toArray⟩, .bool nw, .int .u8 st, .int .i64 n] rfl ?_; intro W0 x0 n0 s0; refine stop_of ?_)
  unfold Stop
  obtain ⟨ab, hab⟩ : ∃ p, p = w.heap.size := ⟨_, rfl⟩
  rw [← hab] at n0 ⊢
  have H0 := Lib.hid (HP.out.box x0 (Nat.le_of_eq hab.symm) (blk_lt n0))
  have N0 := Lib.hid n0
  have X0 := Lib.hid x0
  have k0 := blk_cell n0 0
  simp at k0
  clear x0 n0 s0 hab
  go_wp2_with fail
  have P0 : W0.drew.heap[pb]? = some (.cells #[ptrV b, ptrV x, .slice SA ss.length sc, .slice RA ss.length rc] 68) := H0.out.blk
  have A0 : W0.drew.heap[ab]? = some (.cells #[.int .i64 4, .string ⟨obj.toArray⟩, .string ⟨tt.toArray⟩, .bool tw, .int .i64 mod, .int .i64 len, .int .i64 hav, .int .i64 fr, .int .i64 wh, .int .i64 er, .slice KA nk KC, .string ⟨ten.toArray⟩, .bool keep, .slice UA nu uc, .string ⟨fo.toArray⟩, .int .i64 ff, .int .i64 fto, .string ⟨mt.toArray⟩, .bool mw, .string ⟨nt.toArray⟩, .bool nw, .int .u8 st, .int .i64 n] 40) := N0.out
  have HD := Lib.hid (H0.out.ext (Ext.drew (Ext.refl W0)))
  have XD := Lib.hid (X0.out.trans (Ext.drew (Ext.refl W0)))
  have G0 : ∀ y : GrowR (keepB2 pb ab (.cells #[ptrV b, ptrV x, .slice SA ss.length sc, .slice RA ss.length rc] 68) (.cells #[.int .i64 4, .string ⟨obj.toArray⟩, .string ⟨tt.toArray⟩, .bool tw, .int .i64 mod, .int .i64 len, .int .i64 hav, .int .i64 fr, .int .i64 wh, .int .i64 er, .slice KA nk KC, .string ⟨ten.toArray⟩, .bool keep, .slice UA nu uc, .string ⟨fo.toArray⟩, .int .i64 ff, .int .i64 fto, .string ⟨mt.toArray⟩, .bool mw, .string ⟨nt.toArray⟩, .bool nw, .int .u8 st, .int .i64 n] 40)) W0.drew, y.v.cell? ⟨pb, 0, none⟩ = some (.pointer (some ⟨b, 0, none⟩)) := fun y => blk_cell (y.ext.1 P0) 0
  have G1 : ∀ y : GrowR (keepB2 pb ab (.cells #[ptrV b, ptrV x, .slice SA ss.length sc, .slice RA ss.length rc] 68) (.cells #[.int .i64 4, .string ⟨obj.toArray⟩, .string ⟨tt.toArray⟩, .bool tw, .int .i64 mod, .int .i64 len, .int .i64 hav, .int .i64 fr, .int .i64 wh, .int .i64 er, .slice KA nk KC, .string ⟨ten.toArray⟩, .bool keep, .slice UA nu uc, .string ⟨fo.toArray⟩, .int .i64 ff, .int .i64 fto, .string ⟨mt.toArray⟩, .bool mw, .string ⟨nt.toArray⟩, .bool nw, .int .u8 st, .int .i64 n] 40)) W0.drew, y.v.cell? ⟨pb, 1, none⟩ = some (.pointer (some ⟨x, 0, none⟩)) := fun y => blk_cell (y.ext.1 P0) 1
  have G2 : ∀ y : GrowR (keepB2 pb ab (.cells #[ptrV b, ptrV x, .slice SA ss.length sc, .slice RA ss.length rc] 68) (.cells #[.int .i64 4, .string ⟨obj.toArray⟩, .string ⟨tt.toArray⟩, .bool tw, .int .i64 mod, .int .i64 len, .int .i64 hav, .int .i64 fr, .int .i64 wh, .int .i64 er, .slice KA nk KC, .string ⟨ten.toArray⟩, .bool keep, .slice UA nu uc, .string ⟨fo.toArray⟩, .int .i64 ff, .int .i64 fto, .string ⟨mt.toArray⟩, .bool mw, .string ⟨nt.toArray⟩, .bool nw, .int .u8 st, .int .i64 n] 40)) W0.drew, y.v.cell? ⟨ab, 1, none⟩ = some (.string ⟨obj.toArray⟩) := fun y => blk_cell (y.ext.2 A0) 1
  refine wp_region_segsR (keepB2 pb ab (.cells #[ptrV b, ptrV x, .slice SA ss.length sc, .slice RA ss.length rc] 68) (.cells #[.int .i64 4, .string ⟨obj.toArray⟩, .string ⟨tt.toArray⟩, .bool tw, .int .i64 mod, .int .i64 len, .int .i64 hav, .int .i64 fr, .int .i64 wh, .int .i64 er, .slice KA nk KC, .string ⟨ten.toArray⟩, .bool keep, .slice UA nu uc, .string ⟨fo.toArray⟩, .int .i64 ff, .int .i64 fto, .string ⟨mt.toArray⟩, .bool mw, .string ⟨nt.toArray⟩, .bool nw, .int .u8 st, .int .i64 n] 40)) [.inl [0, 1, 2, 3, 4, 5, 7, 8, 9, 10, 11, 12], .inr (.inl 6), .inr (.inl 13), .inl [14, 15]] (by kernel_rfl) (by kernel_rfl) (fun c a d v w h => by cases d <;> exact h) ?_
  (rw [wpSegsR_inl]; simp only [pickOps, List.map_cons, List.map_nil, List.getD_cons_succ, List.getD_cons_zero]; (repeat (go_big_quiet_step (fail))); refine wpQuiet_nil ?_)
  clear G0 G1 G2 A0 P0
  (rw [wpSegsR_grow]; simp only [pickOps, List.map_cons, List.map_nil, List.getD_cons_succ, List.getD_cons_zero]; go_wp2_with ((go_at_call 33; refine (p_gone HD.out.st (by have := HZ.out.obj; simp only at this; omega)).mono ?_; rintro e w7 ⟨rfl, h7, q7⟩; refine stop_of ?_)))
  unfold Stop
  have K7 := Lib.hid q7; have H7 := Lib.hid h7
  go_wp2_with fail
  refine ⟨keepB2_of ((K7.out pb (.inl rfl)).trans HD.out.blk) ((K7.out ab (.inr (.inr (.inr (.inl rfl))))).trans N0.out), ?_⟩
  clear q7 h7
  (rw [wpSegsR_grow]; simp only [pickOps, List.map_cons, List.map_nil, List.getD_cons_succ, List.getD_cons_zero]; go_wp2_with ((go_at_call 49; refine (d_gone H7.out (by have := HZ.out.obj; simp only at this; omega)).mono ?_; rintro e w8 ⟨rfl, h8, q8⟩; refine stop_of ?_)))
  unfold Stop
  have K8 := Lib.hid (K7.out.trans q8); have H8 := Lib.hid h8
  go_wp2_with fail
  refine ⟨keepB2_of ((K8.out pb (.inl rfl)).trans HD.out.blk) ((K8.out ab (.inr (.inr (.inr (.inl rfl))))).trans N0.out), ?_⟩
  clear q8 h8 K7 H7
  (rw [wpSegsR_inl]; simp only [pickOps, List.map_cons, List.map_nil, List.getD_cons_succ, List.getD_cons_zero]; (repeat (go_big_quiet_step (fail))); refine wpQuiet_nil ?_)
  rw [wpSegsR_nil]
  go_wp2
  go_ret
  exact do_finT HP.out XD.out HD.out H8.out K8.out (fun p hp => hp) (by have := HP.out.hN; omega) rfl hg'.out HP.out.tl HP.out.tz
set_option maxRecDepth 100000 in
set_option maxHeartbeats 4000000 in
theorem doT_k0 (h : PlayT w0 w pb b x k vs ss hl Lx) (hk : k ≤ 1000) {obj tt ten bs fo mt nt : Bs} {tw keep mw nw : Bool} {mod len hav fr wh er ff fto n kd : Int} {keys : List Bs} {kv bv : Value} {st : Nat} (ha : ActAt w0 ⟨kd, obj, ⟨tt, tw, mod, len, hav, fr, wh, er, keys, ten, keep⟩, kv, bs, bv, ⟨fo, ff, fto, mt, mw, nt, nw⟩, st, n⟩) (e1 : ¬ kd = 1) (e2 : ¬ kd = 2) (e3 : ¬ kd = 3) (e4 : ¬ kd = 4) (e5 : ¬ kd = 5) (e6 : ¬ kd = 6) :
    Calls Try.prog 23 #[.pointer (some ⟨pb, 0, none⟩), .agg (actC ⟨kd, obj, ⟨tt, tw, mod, len, hav, fr, wh, er, keys, ten, keep⟩, kv, bs, bv, ⟨fo, ff, fto, mt, mw, nt, nw⟩, st, n⟩).toArray] w (DoRT w0 w pb b x (k + 1) (doV vs ⟨kd, obj, ⟨tt, tw, mod, len, hav, fr, wh, er, keys, ten, keep⟩, kv, bs, bv, ⟨fo, ff, fto, mt, mw, nt, nw⟩, st, n⟩) (doS vs ss ⟨kd, obj, ⟨tt, tw, mod, len, hav, fr, wh, er, keys, ten, keep⟩, kv, bs, bv, ⟨fo, ff, fto, mt, mw, nt, nw⟩, st, n⟩) hl Lx) := by
  obtain ⟨N, ts, sa, ra, SA, sc, RA, rc, h⟩ := h
  have hg' := Lib.hid (good_do h.good hk (a := ⟨kd, obj, ⟨tt, tw, mod, len, hav, fr, wh, er, keys, ten, keep⟩, kv, bs, bv, ⟨fo, ff, fto, mt, mw, nt, nw⟩, st, n⟩) ha.z.bytes)
  obtain ⟨hz, hkt, hkl, hbt, hbl, hst⟩ := ha
  simp only at hkt hkl hbt hbl hst
  obtain ⟨nu, hnu⟩ : ∃ n, n = bs.length := ⟨_, rfl⟩
  obtain ⟨UA, uc, rfl⟩ : ∃ UA uc, bv = .slice UA nu uc := by obtain ⟨A, c, e, _⟩ := hbt; exact ⟨A, c, by rw [e, hnu]; simp⟩
  obtain ⟨nk, hnk⟩ : ∃ nk, nk = keys.length := ⟨_, rfl⟩
  obtain ⟨KA, KC, rfl⟩ : ∃ KA KC, kv = .slice KA nk KC := by obtain ⟨A, c, e, _⟩ := hkt; exact ⟨A, c, by rw [e, hnk]⟩
  have HZ := Lib.hid hz; have HKT := Lib.hid hkt; have HKL := Lib.hid hkl; have HBT := Lib.hid hbt; have HBL := Lib.hid hbl
  have HK := Lib.hid hk; have HP := Lib.hid h
  have EV := Lib.hid (show doV vs ⟨kd, obj, ⟨tt, tw, mod, len, hav, fr, wh, er, keys, ten, keep⟩, .slice KA nk KC, bs, .slice UA nu uc, ⟨fo, ff, fto, mt, mw, nt, nw⟩, st, n⟩ = vs by simp [doV, e1, e2, e3, e4])
  have ES := Lib.hid (show doS vs ss ⟨kd, obj, ⟨tt, tw, mod, len, hav, fr, wh, er, keys, ten, keep⟩, .slice KA nk KC, bs, .slice UA nu uc, ⟨fo, ff, fto, mt, mw, nt, nw⟩, st, n⟩ = ss by simp [doS, e5, e6])
  clear hz hkt hkl hbt hbl hk hnu hnk h hst
  simp only [actC]
  go_enter Try.func23, Try.ntmps23
  go_wp2_with (refine wpList_boxA 40 rfl _ rfl #[.int .i64 kd, .string ⟨obj.toArray⟩, .string ⟨tt.toArray⟩, .bool tw, .int .i64 mod, .int .i64 len, .int .i64 hav, .int .i64 fr, .int .i64 wh, .int .i64 er, .slice KA nk KC, .string ⟨ten.toArray⟩, .bool keep, .slice UA nu uc, .string ⟨fo.toArray⟩, .int .i64 ff, .int .i64 fto, .string ⟨mt.toArray⟩, .bool mw, .string ⟨nt.toArray⟩, .bool nw, .int .u8 st, .int .i64 n] rfl ?_; intro W0 x0 n0 s0; refine stop_of ?_)
  unfold Stop
  obtain ⟨ab, hab⟩ : ∃ p, p = w.heap.size := ⟨_, rfl⟩
  rw [← hab] at n0 ⊢
  have H0 := Lib.hid (HP.out.box x0 (Nat.le_of_eq hab.symm) (blk_lt n0))
  have N0 := Lib.hid n0
  have X0 := Lib.hid x0
  have k0 := blk_cell n0 0
  simp at k0
  clear x0 n0 s0 hab
  go_wp2
  go_ret
  rw [EV.out, ES.out]
  exact ⟨⟨_, rfl⟩, ⟨N, ts, sa, ra, SA, sc, RA, rc, (HP.out.ext X0.out)⟩ |> PlayT.more, KeepP.ext X0.out HP.out.lt⟩
end
end Go.Proofs.Ytpangoddbfiagaa
namespace Go.Proofs.Ytpangoddbfiagaa
open Go.RowKit Go.Maps Go.ChangeMaps
set_option linter.unusedVariables false
set_option linter.unusedSimpArgs false

section
variable {w0 w : World} {pb b x k : Nat} {Lx : Nat → Prop} {vs : List Vn} {ss : List Sn} {hl : List (Value × Bs)}
set_option maxRecDepth 100000 in
set_option maxHeartbeats 4000000 in
theorem doT_k5 (h : PlayT w0 w pb b x k vs ss hl Lx) (hk : k ≤ 1000) {obj tt ten bs fo mt nt : Bs} {tw keep mw nw : Bool} {mod len hav fr wh er ff fto n : Int} {keys : List Bs} {kv bv : Value} {st : Nat} (ha : ActAt w0 ⟨5, obj, ⟨tt, tw, mod, len, hav, fr, wh, er, keys, ten, keep⟩, kv, bs, bv, ⟨fo, ff, fto, mt, mw, nt, nw⟩, st, n⟩) :
    Calls Try.prog 23 #[.pointer (some ⟨pb, 0, none⟩), .agg (actC ⟨5, obj, ⟨tt, tw, mod, len, hav, fr, wh, er, keys, ten, keep⟩, kv, bs, bv, ⟨fo, ff, fto, mt, mw, nt, nw⟩, st, n⟩).toArray] w (DoRT w0 w pb b x (k + 1) (doV vs ⟨5, obj, ⟨tt, tw, mod, len, hav, fr, wh, er, keys, ten, keep⟩, kv, bs, bv, ⟨fo, ff, fto, mt, mw, nt, nw⟩, st, n⟩) (doS vs ss ⟨5, obj, ⟨tt, tw, mod, len, hav, fr, wh, er, keys, ten, keep⟩, kv, bs, bv, ⟨fo, ff, fto, mt, mw, nt, nw⟩, st, n⟩) hl Lx) := by
  obtain ⟨N, ts, sa, ra, SA, sc, RA, rc, h⟩ := h
  have hg' := Lib.hid (good_do h.good hk (a := ⟨5, obj, ⟨tt, tw, mod, len, hav, fr, wh, er, keys, ten, keep⟩, kv, bs, bv, ⟨fo, ff, fto, mt, mw, nt, nw⟩, st, n⟩) ha.z.bytes)
  obtain ⟨hz, hkt, hkl, hbt, hbl, hst⟩ := ha
  simp only at hkt hkl hbt hbl hst
  obtain ⟨nu, hnu⟩ : ∃ n, n = bs.length := ⟨_, rfl⟩
  obtain ⟨UA, uc, rfl⟩ : ∃ UA uc, bv = .slice UA nu uc := by obtain ⟨A, c, e, _⟩ := hbt; exact ⟨A, c, by rw [e, hnu]; simp⟩
  obtain ⟨nk, hnk⟩ : ∃ nk, nk = keys.length := ⟨_, rfl⟩
  obtain ⟨KA, KC, rfl⟩ : ∃ KA KC, kv = .slice KA nk KC := by obtain ⟨A, c, e, _⟩ := hkt; exact ⟨A, c, by rw [e, hnk]⟩
  have HZ := Lib.hid hz; have HKT := Lib.hid hkt; have HKL := Lib.hid hkl; have HBT := Lib.hid hbt; have HBL := Lib.hid hbl
  have HK := Lib.hid hk; have HP := Lib.hid h
  clear hz hkt hkl hbt hbl hk hnu hnk h hst
  simp only [actC]
  go_enter Try.func23, Try.ntmps23
  go_wp2_with (refine wpList_boxA 40 rfl _ rfl #[.int .i64 5, .string ⟨obj.toArray⟩, .string ⟨tt.toArray⟩, .bool tw, .int .i64 mod, .int .i64 len, .int .i64 hav, .int .i64 fr, .int .i64 wh, .int .i64 er, .slice KA nk KC, .string ⟨ten.toArray⟩, .bool keep, .slice UA nu uc, .string ⟨fo.toArray⟩, .int .i64 ff, .int .i64 fto, .string ⟨mt.toArray⟩, .bool mw, .string ⟨nt.toArray⟩, .bool nw, .int .u8 st, .int .i64 n] rfl ?_; intro W0 x0 n0 s0; refine stop_of ?_)
  unfold Stop
  obtain ⟨ab, hab⟩ : ∃ p, p = w.heap.size := ⟨_, rfl⟩
  rw [← hab] at n0 ⊢
  have H0 := Lib.hid (HP.out.box x0 (Nat.le_of_eq hab.symm) (blk_lt n0))
  have N0 := Lib.hid n0
  have X0 := Lib.hid x0
  have k0 := blk_cell n0 0
  simp at k0
  clear x0 n0 s0 hab
  obtain ⟨nn, hnn⟩ : ∃ n, n = ss.length := ⟨_, rfl⟩
  have HNN := Lib.hid hnn
  have HPB := Lib.hid (show W0.heap[pb]? = some (.cells #[ptrV b, ptrV x, .slice SA nn sc, .slice RA nn rc] 68) from by rw [hnn]; exact H0.out.blk)
  have HKB := Lib.hid H0.out.good.ns
  have HF := Lib.hid (show FtZ ⟨fo, ff, fto, mt, mw, nt, nw⟩ from HZ.out.ft)
  clear hnn
  go_wp2_with fail
  cases hft : ftB ⟨fo, ff, fto, mt, mw, nt, nw⟩ with
  | false =>
    have HFT := Lib.hid hft
    have EV := Lib.hid (show doV vs ⟨(5 : Int), obj, ⟨tt, tw, mod, len, hav, fr, wh, er, keys, ten, keep⟩, .slice KA nk KC, bs, .slice UA nu uc, ⟨fo, ff, fto, mt, mw, nt, nw⟩, st, n⟩ = vs by simp [doV])
    have ES := Lib.hid (show doS vs ss ⟨(5 : Int), obj, ⟨tt, tw, mod, len, hav, fr, wh, er, keys, ten, keep⟩, .slice KA nk KC, bs, .slice UA nu uc, ⟨fo, ff, fto, mt, mw, nt, nw⟩, st, n⟩ = ss by simp [doS, hft])
    clear hft
    have GP : ∀ y : Grow [] W0.drew, y.v.cell? ⟨pb, 0, none⟩ = some (.pointer (some ⟨b, 0, none⟩)) := fun y => blk_cell (y.ext.heap (a := W0.drew) HPB.out (by simp)) 0
    have HD := Lib.hid (H0.out.st.ext (Ext.drew (Ext.refl W0)))
    refine wp_region_segs [] [.inl [0, 1, 2, 3, 4, 5], .inr (.inl 6), .inl [7, 8, 9, 10, 11]] (by kernel_rfl) (by kernel_rfl) (fun c a d v w h => by cases d <;> exact h) ?_
    (rw [wpSegs_inl]; simp only [pickOps, List.map_cons, List.map_nil, List.getD_cons_succ, List.getD_cons_zero]; (repeat (go_big_quiet_step (fail))); (refine wpQuiet_get 29 _ rfl _ rfl ab 14 40 _ [.string ⟨fo.toArray⟩, .int .i64 ff, .int .i64 fto, .string ⟨mt.toArray⟩, .bool mw, .string ⟨nt.toArray⟩, .bool nw] rfl (fun W hW => by obtain ⟨y, rfl⟩ := hW; exact y.ext.heap (a := W0.drew) N0.out (by simp)) (by kernel_rfl) Try.underlying29 rfl size29r ?_; simp only [Act.put, List.setIfInBounds_toArray, List.set_cons_succ, List.set_cons_zero]); (repeat (go_big_quiet_step (fail))); refine wpQuiet_nil ?_)
    clear GP
    (rw [wpSegs_grow]; simp only [pickOps, List.map_cons, List.map_nil, List.getD_cons_succ, List.getD_cons_zero]; go_wp2_with ((go_at_call 15; refine (p_ask_no HD.out ⟨fo, ff, fto, mt, mw, nt, nw⟩ HF.out HFT.out).mono ?_; rintro e w3 ⟨rfl, h3, x3⟩; refine stop_of ?_)))
    unfold Stop
    go_wp2_with fail
    refine ⟨.of x3 _, ?_⟩
    have H3 := Lib.hid h3
    have HPB3 := Lib.hid (x3.heap (show W0.drew.heap[pb]? = _ from HPB.out)); have N3 := Lib.hid (x3.heap (show W0.drew.heap[ab]? = _ from N0.out))
    have X3 := Lib.hid ((Ext.refl W0).trans ((Ext.drew (Ext.refl W0)).trans x3))
    clear h3 x3 HD
    (rw [wpSegs_inl]; simp only [pickOps, List.map_cons, List.map_nil, List.getD_cons_succ, List.getD_cons_zero]; (repeat (go_big_quiet_step (fail))); refine wpQuiet_nil ?_)
    rw [wpSegs_nil]
    go_wp2_with fail
    have GP : ∀ y : Grow [] w3.drew, y.v.cell? ⟨pb, 1, none⟩ = some (.pointer (some ⟨x, 0, none⟩)) := fun y => blk_cell (y.ext.heap (a := w3.drew) HPB3.out (by simp)) 1
    have HD := Lib.hid (H3.out.ext (Ext.drew (Ext.refl w3)))
    refine wp_region_segs [] [.inl [0, 1, 2, 3, 4, 5], .inr (.inl 6), .inl [7, 8, 9, 10, 11]] (by kernel_rfl) (by kernel_rfl) (fun c a d v w h => by cases d <;> exact h) ?_
    (rw [wpSegs_inl]; simp only [pickOps, List.map_cons, List.map_nil, List.getD_cons_succ, List.getD_cons_zero]; (repeat (go_big_quiet_step (fail))); (refine wpQuiet_get 29 _ rfl _ rfl ab 14 40 _ [.string ⟨fo.toArray⟩, .int .i64 ff, .int .i64 fto, .string ⟨mt.toArray⟩, .bool mw, .string ⟨nt.toArray⟩, .bool nw] rfl (fun W hW => by obtain ⟨y, rfl⟩ := hW; exact y.ext.heap (a := w3.drew) N3.out (by simp)) (by kernel_rfl) Try.underlying29 rfl size29r ?_; simp only [Act.put, List.setIfInBounds_toArray, List.set_cons_succ, List.set_cons_zero]); (repeat (go_big_quiet_step (fail))); refine wpQuiet_nil ?_)
    clear GP
    (rw [wpSegs_grow]; simp only [pickOps, List.map_cons, List.map_nil, List.getD_cons_succ, List.getD_cons_zero]; go_wp2_with ((go_at_call 50; refine (d_ask_no HD.out ⟨fo, ff, fto, mt, mw, nt, nw⟩ HF.out HFT.out).mono ?_; rintro e w4 ⟨rfl, h3, x3⟩; refine stop_of ?_)))
    unfold Stop
    go_wp2_with fail
    refine ⟨.of x3 _, ?_⟩
    have H4 := Lib.hid h3
    have HPB4 := Lib.hid (x3.heap (show w3.drew.heap[pb]? = _ from HPB3.out)); have N4 := Lib.hid (x3.heap (show w3.drew.heap[ab]? = _ from N3.out))
    have X4 := Lib.hid ((X3.out).trans ((Ext.drew (Ext.refl w3)).trans x3))
    clear h3 x3 HD
    (rw [wpSegs_inl]; simp only [pickOps, List.map_cons, List.map_nil, List.getD_cons_succ, List.getD_cons_zero]; (repeat (go_big_quiet_step (fail))); refine wpQuiet_nil ?_)
    rw [wpSegs_nil]
    go_wp2_with fail
    go_wp2
    go_ret
    rw [EV.out, ES.out]
    exact ⟨⟨_, rfl⟩, PlayT.more ⟨N, ts, sa, ra, SA, sc, RA, rc, HP.out.ext (X0.out.trans X4.out)⟩, KeepP.ext (X0.out.trans X4.out) HP.out.lt⟩
  | true =>
    have HFT := Lib.hid hft
    have EV := Lib.hid (show doV vs ⟨(5 : Int), obj, ⟨tt, tw, mod, len, hav, fr, wh, er, keys, ten, keep⟩, .slice KA nk KC, bs, .slice UA nu uc, ⟨fo, ff, fto, mt, mw, nt, nw⟩, st, n⟩ = vs by simp [doV])
    have ES := Lib.hid (show doS vs ss ⟨(5 : Int), obj, ⟨tt, tw, mod, len, hav, fr, wh, er, keys, ten, keep⟩, .slice KA nk KC, bs, .slice UA nu uc, ⟨fo, ff, fto, mt, mw, nt, nw⟩, st, n⟩ = ss ++ [askS vs ⟨fo, ff, fto, mt, mw, nt, nw⟩] by simp [doS, hft])
    rw [EV.out, ES.out] at hg'
    clear hft
    have GP : ∀ y : Grow [] W0.drew, y.v.cell? ⟨pb, 0, none⟩ = some (.pointer (some ⟨b, 0, none⟩)) := fun y => blk_cell (y.ext.heap (a := W0.drew) HPB.out (by simp)) 0
    have HD := Lib.hid (H0.out.st.ext (Ext.drew (Ext.refl W0)))
    refine wp_region_segs [] [.inl [0, 1, 2, 3, 4, 5], .inr (.inl 6), .inl [7, 8, 9, 10, 11]] (by kernel_rfl) (by kernel_rfl) (fun c a d v w h => by cases d <;> exact h) ?_
    (rw [wpSegs_inl]; simp only [pickOps, List.map_cons, List.map_nil, List.getD_cons_succ, List.getD_cons_zero]; (repeat (go_big_quiet_step (fail))); (refine wpQuiet_get 29 _ rfl _ rfl ab 14 40 _ [.string ⟨fo.toArray⟩, .int .i64 ff, .int .i64 fto, .string ⟨mt.toArray⟩, .bool mw, .string ⟨nt.toArray⟩, .bool nw] rfl (fun W hW => by obtain ⟨y, rfl⟩ := hW; exact y.ext.heap (a := W0.drew) N0.out (by simp)) (by kernel_rfl) Try.underlying29 rfl size29r ?_; simp only [Act.put, List.setIfInBounds_toArray, List.set_cons_succ, List.set_cons_zero]); (repeat (go_big_quiet_step (fail))); refine wpQuiet_nil ?_)
    clear GP
    (rw [wpSegs_grow]; simp only [pickOps, List.map_cons, List.map_nil, List.getD_cons_succ, List.getD_cons_zero]; go_wp2_with ((go_at_call 15; refine (p_ask HD.out H0.out.good.wf ⟨fo, ff, fto, mt, mw, nt, nw⟩ HF.out HFT.out).mono ?_; rintro e w3 ⟨sb, rfl, h3, x3⟩; refine stop_of ?_)))
    unfold Stop
    go_wp2_with fail
    refine ⟨.of x3 _, ?_⟩
    have H3 := Lib.hid h3
    have HPB3 := Lib.hid (x3.heap (show W0.drew.heap[pb]? = _ from HPB.out)); have N3 := Lib.hid (x3.heap (show W0.drew.heap[ab]? = _ from N0.out))
    have X3 := Lib.hid ((Ext.refl W0).trans ((Ext.drew (Ext.refl W0)).trans x3))
    clear h3 x3 HD
    (rw [wpSegs_inl]; simp only [pickOps, List.map_cons, List.map_nil, List.getD_cons_succ, List.getD_cons_zero]; (repeat (go_big_quiet_step (fail))); refine wpQuiet_nil ?_)
    rw [wpSegs_nil]
    go_wp2_with fail
    have GP : ∀ y : Grow [] w3.drew, y.v.cell? ⟨pb, 1, none⟩ = some (.pointer (some ⟨x, 0, none⟩)) := fun y => blk_cell (y.ext.heap (a := w3.drew) HPB3.out (by simp)) 1
    have HD := Lib.hid (H3.out.ext (Ext.drew (Ext.refl w3)))
    refine wp_region_segs [] [.inl [0, 1, 2, 3, 4, 5], .inr (.inl 6), .inl [7, 8, 9, 10, 11]] (by kernel_rfl) (by kernel_rfl) (fun c a d v w h => by cases d <;> exact h) ?_
    (rw [wpSegs_inl]; simp only [pickOps, List.map_cons, List.map_nil, List.getD_cons_succ, List.getD_cons_zero]; (repeat (go_big_quiet_step (fail))); (refine wpQuiet_get 29 _ rfl _ rfl ab 14 40 _ [.string ⟨fo.toArray⟩, .int .i64 ff, .int .i64 fto, .string ⟨mt.toArray⟩, .bool mw, .string ⟨nt.toArray⟩, .bool nw] rfl (fun W hW => by obtain ⟨y, rfl⟩ := hW; exact y.ext.heap (a := w3.drew) N3.out (by simp)) (by kernel_rfl) Try.underlying29 rfl size29r ?_; simp only [Act.put, List.setIfInBounds_toArray, List.set_cons_succ, List.set_cons_zero]); (repeat (go_big_quiet_step (fail))); refine wpQuiet_nil ?_)
    clear GP
    (rw [wpSegs_grow]; simp only [pickOps, List.map_cons, List.map_nil, List.getD_cons_succ, List.getD_cons_zero]; go_wp2_with ((go_at_call 50; refine (d_ask HD.out wf_nil ⟨fo, ff, fto, mt, mw, nt, nw⟩ HF.out HFT.out).mono ?_; rintro e w4 ⟨rb, rfl, h3, x3⟩; refine stop_of ?_)))
    unfold Stop
    go_wp2_with fail
    refine ⟨.of x3 _, ?_⟩
    have H4 := Lib.hid h3
    have HPB4 := Lib.hid (x3.heap (show w3.drew.heap[pb]? = _ from HPB3.out)); have N4 := Lib.hid (x3.heap (show w3.drew.heap[ab]? = _ from N3.out))
    have X4 := Lib.hid ((X3.out).trans ((Ext.drew (Ext.refl w3)).trans x3))
    clear h3 x3 HD
    (rw [wpSegs_inl]; simp only [pickOps, List.map_cons, List.map_nil, List.getD_cons_succ, List.getD_cons_zero]; (repeat (go_big_quiet_step (fail))); refine wpQuiet_nil ?_)
    rw [wpSegs_nil]
    go_wp2_with fail
    obtain ⟨S, hS⟩ : ∃ S, S = askS vs ⟨fo, ff, fto, mt, mw, nt, nw⟩ := ⟨_, rfl⟩
    rw [← hS] at hg' ES
    obtain ⟨T, hT⟩ : ∃ T : Sn, T = ⟨404, zeroM, 0, 0, 0, none⟩ := ⟨_, rfl⟩
    have HST := Lib.hid (show S = T ∨ S.st ≠ T.st from by rw [hS, hT]; by_cases e : (askS vs ⟨fo, ff, fto, mt, mw, nt, nw⟩).st = 404; exact .inl (askS_404 e); exact .inr e)
    have HTA := Lib.hid (show T.at_ ≤ 1000000 from by rw [hT]; decide)
    have HE := Lib.hid ES.out
    have H5 := Lib.hid (show Pl2 w0 w4 b x N (playL pb (.slice SA ss.length sc) (.slice RA ss.length rc) (fun g => g = ab ∨ Lx g)) vs (ss ++ [S]) (sa ++ [sb]) [] (ts ++ [T]) (ra ++ [rb]) hl from by rw [hS, hT]; exact H4.out)
    clear hS hT ES H3 H4 HPB3 N3 HFT
    have RS := Lib.hid (show w4.ownsRow w0.heap.size 45 1 (.slice SA nn sc) nn (sa.map ptrV) from by rw [HNN.out]; exact ownsRow_below H0.out.srow X4.out)
    have RR := Lib.hid (show w4.ownsRow w0.heap.size 73 1 (.slice RA nn rc) nn (ra.map ptrV) from by rw [HNN.out]; exact ownsRow_below H0.out.rrow X4.out)
    obtain ⟨XS, hXS⟩ : ∃ XS, XS = (Value.slice SA nn sc).ownBlock.toList := ⟨_, rfl⟩
    obtain ⟨XR, hXR⟩ : ∃ XR, XR = (Value.slice RA nn rc).ownBlock.toList := ⟨_, rfl⟩
    have kS : ∀ y ∈ XS, kindOf w4 y = 45 := fun y hy => kind_row RS.out (by rw [hXS] at hy; simpa using hy)
    have kR : ∀ y ∈ XR, kindOf w4 y = 73 := fun y hy => kind_row RR.out (by rw [hXR] at hy; simpa using hy)
    have kP : kindOf w4 pb = 68 := kind_cells HPB4.out
    have hpb : pb ∉ XS ++ XR := fun hh => by
      rcases List.mem_append.1 hh with e | e
      · rw [kS pb e] at kP; cases kP
      · rw [kR pb e] at kP; cases kP
    have HXS := Lib.hid hXS; have HXR := Lib.hid hXR; have KS := Lib.hid kS; have KR := Lib.hid kR; have HPN := Lib.hid hpb
    have hbase := Lib.hid H5.out.base.size
    have hnn := Lib.hid (show nn ≤ 10000 from by have := HKB.out; have := HNN.out; have := HK.out; omega)
    have G2 : ∀ y : Grow (XS ++ XR) w4.drew, y.v.cell? ⟨pb, 2, none⟩ = some (.slice SA nn sc) := fun y => blk_cell (y.ext.heap (a := w4.drew) HPB4.out HPN.out) 2
    have G3 : ∀ y : Grow (XS ++ XR) w4.drew, y.v.cell? ⟨pb, 3, none⟩ = some (.slice RA nn rc) := fun y => blk_cell (y.ext.heap (a := w4.drew) HPB4.out HPN.out) 3
    have E4 := Lib.hid (show ExtB (XS ++ XR) w4 w4.drew from .of (Ext.drew (Ext.refl _)) _)
    have RSd := Lib.hid (show w4.drew.ownsRow w0.heap.size 45 1 (.slice SA nn sc) nn (sa.map ptrV) from RS.out)
    have RRd := Lib.hid (show w4.drew.ownsRow w0.heap.size 73 1 (.slice RA nn rc) nn (ra.map ptrV) from RR.out)
    clear hXS hXR kS kR kP hpb
    refine wp_region_trz (XS ++ XR) [1] [18, 21] (.pure [0, 2, 3, 4, 5, 6, 9, 10, 11, 12, 13] (.fork 7 (.fork 8 (.one 14 (.one 15 (.pure [16, 17] (.last 18 (.pure [19, 20] (.last 21 (.done))))))) 14 (.one 8 (.one 15 (.pure [16, 17] (.last 18 (.pure [19, 20] (.last 21 (.done)))))))) 14 (.one 7 (.one 8 (.one 15 (.pure [16, 17] (.last 18 (.pure [19, 20] (.last 21 (.done)))))))))) (by kernel_rfl) (by kernel_rfl) (fun c a d v w h => by cases d <;> exact h) ?_
    (simp only [pickOps, List.map_cons, List.map_nil, List.getD_cons_succ, List.getD_cons_zero]; (repeat (go_big_quiet_step (fail))); refine wpQuiet_nil ?_)
    (rw [wpTz_pure]; simp only [pickOps, List.map_cons, List.map_nil, List.getD_cons_succ, List.getD_cons_zero]; (repeat (go_big_quiet_step (fail))); refine wpQuiet_nil ?_)
    clear G2 G3
    rw [wpTz_fork]
    refine ⟨?_, ?_⟩
    · (simp only [pickOps, List.map_cons, List.map_nil, List.getD_cons_succ, List.getD_cons_zero]; go_wp2_with fail)
      refine ⟨.of (ext_alloc1 _ _) _, ?_⟩
      have E5 := Lib.hid (E4.out.trans (.of (ext_alloc1 w4.drew (.cells #[.pointer (some ⟨sb, 0, none⟩)] 45)) _))
      have RS5 := Lib.hid (ownsRow_below RSd.out (ext_alloc1 w4.drew (.cells #[.pointer (some ⟨sb, 0, none⟩)] 45)))
      have RR5 := Lib.hid (ownsRow_below RRd.out (ext_alloc1 w4.drew (.cells #[.pointer (some ⟨sb, 0, none⟩)] 45)))
      have Cs := Lib.hid (show (w4.drew.alloc (.cells #[.pointer (some ⟨sb, 0, none⟩)] 45)).heap[w4.heap.size]? = some (.cells #[.pointer (some ⟨sb, 0, none⟩)] 45) from by have := heap_alloc_new w4.drew (.cells #[.pointer (some ⟨sb, 0, none⟩)] 45); simpa using this)
      rw [wpTz_fork]
      refine ⟨?_, ?_⟩
      · (simp only [pickOps, List.map_cons, List.map_nil, List.getD_cons_succ, List.getD_cons_zero]; go_wp2_with (at_builtin; refine wpList_push1 65 45 Try.underlying65 info45 rfl _ _ rfl w0.heap.size SA nn sc sa sb w4.heap.size RS5.out Cs.out rfl rfl hnn.out (Nat.le_trans hbase.out E5.out.size) ?_; intro A6 c6 w6 r6 b6 l6; refine stop_of ?_))
        unfold Stop
        go_wp2_with fail
        have B6 := Lib.hid (show ExtB (XS ++ XR) (w4.drew.alloc (.cells #[.pointer (some ⟨sb, 0, none⟩)] 45)) w6 from b6.mono fun y hy => List.mem_append_left _ (by rw [HXS.out]; exact hy))
        refine ⟨B6.out, ?_⟩
        have E6 := Lib.hid (E5.out.trans B6.out)
        have L6 := Lib.hid l6
        have RS6 := Lib.hid r6
        have RR6 := Lib.hid (own_extB RR5.out b6 (fun y hy e => by have h1 := kind_row RR5.out e; have h2 := kind_row RS5.out (show (Value.slice SA nn sc).ownBlock = some y by simpa using hy); rw [h1] at h2; cases h2))
        clear Cs r6 b6 l6
        (rw [wpTz_one]; simp only [pickOps, List.map_cons, List.map_nil, List.getD_cons_succ, List.getD_cons_zero]; go_wp2_with fail)
        refine ⟨.of (ext_alloc1 _ _) _, ?_⟩
        have E7 := Lib.hid (E6.out.trans (.of (ext_alloc1 w6 (.cells #[.pointer (some ⟨rb, 0, none⟩)] 73)) _))
        have RS7 := Lib.hid (ownsRow_below RS6.out (ext_alloc1 w6 (.cells #[.pointer (some ⟨rb, 0, none⟩)] 73)))
        have RR7 := Lib.hid (ownsRow_below RR6.out (ext_alloc1 w6 (.cells #[.pointer (some ⟨rb, 0, none⟩)] 73)))
        have Cr := Lib.hid (show (w6.alloc (.cells #[.pointer (some ⟨rb, 0, none⟩)] 73)).heap[w6.heap.size]? = some (.cells #[.pointer (some ⟨rb, 0, none⟩)] 73) from by have := heap_alloc_new w6 (.cells #[.pointer (some ⟨rb, 0, none⟩)] 73); simpa using this)
        (rw [wpTz_one]; simp only [pickOps, List.map_cons, List.map_nil, List.getD_cons_succ, List.getD_cons_zero]; go_wp2_with (at_builtin; refine wpList_push1 66 73 Try.underlying66 info73 rfl _ _ rfl w0.heap.size RA nn rc ra rb w6.heap.size RR7.out Cr.out rfl rfl hnn.out (Nat.le_trans hbase.out E7.out.size) ?_; intro A8 c8 w8 r8 b8 l8; refine stop_of ?_))
        unfold Stop
        go_wp2_with fail
        have B8 := Lib.hid (show ExtB (XS ++ XR) (w6.alloc (.cells #[.pointer (some ⟨rb, 0, none⟩)] 73)) w8 from b8.mono fun y hy => List.mem_append_right _ (by rw [HXR.out]; exact hy))
        refine ⟨B8.out, ?_⟩
        have E8 := Lib.hid (E7.out.trans B8.out)
        have L8 := Lib.hid l8
        have RR8 := Lib.hid r8
        have RS8 := Lib.hid (own_extB RS7.out b8 (fun y hy e => by have h1 := kind_row RS7.out e; have h2 := kind_row RR7.out (show (Value.slice RA nn rc).ownBlock = some y by simpa using hy); rw [h1] at h2; cases h2))
        clear Cr r8 b8 l8
        (rw [wpTz_pure]; simp only [pickOps, List.map_cons, List.map_nil, List.getD_cons_succ, List.getD_cons_zero]; (repeat (go_big_quiet_step (fail))); refine wpQuiet_nil ?_)
        have P8 := Lib.hid (E8.out.heap HPB4.out HPN.out)
        (rw [wpTz_last]; simp only [pickOps, List.map_cons, List.map_nil, List.getD_cons_succ, List.getD_cons_zero]; go_wp2_with (refine wpList_put 65 rfl _ _ rfl pb 2 68 _ #[ptrV b, ptrV x, .slice A6 (nn + 1) c6, .slice RA nn rc] [.slice A6 (nn + 1) c6] _ P8.out rfl rfl rfl (by simp) rfl size65 (by simp [putA]) ?_; intro wa xa na sz; refine stop_of ?_))
        unfold Stop
        have XA := Lib.hid xa; have NA := Lib.hid na
        clear xa na sz
        go_wp2_with fail
        (rw [wpTz_pure]; simp only [pickOps, List.map_cons, List.map_nil, List.getD_cons_succ, List.getD_cons_zero]; (repeat (go_big_quiet_step (fail))); refine wpQuiet_nil ?_)
        (rw [wpTz_last]; simp only [pickOps, List.map_cons, List.map_nil, List.getD_cons_succ, List.getD_cons_zero]; go_wp2_with (refine wpList_put 66 rfl _ _ rfl pb 3 68 _ #[ptrV b, ptrV x, .slice A6 (nn + 1) c6, .slice A8 (nn + 1) c8] [.slice A8 (nn + 1) c8] _ NA.out rfl rfl rfl (by simp) rfl size66 (by simp [putA]) ?_; intro wb xb nb sz; refine stop_of ?_))
        unfold Stop
        have XBB := Lib.hid xb; have NB := Lib.hid nb
        clear xb nb sz
        go_wp2_with fail
        rw [wpTz_done]
        have HEB := Lib.hid (show ExtB (pb :: (XS ++ XR)) w4 wb from ((E8.out.mono fun y hy => List.mem_cons_of_mem _ hy).trans ((XA.out.mono fun y hy => by rw [show y = pb by simpa using hy]; exact List.mem_cons_self).trans (XBB.out.mono fun y hy => by rw [show y = pb by simpa using hy]; exact List.mem_cons_self))))
        have HP9 := Lib.hid (show PlayTX w0 wb pb b x (k + 1) N vs (ss ++ [S]) (ts ++ [T]) (sa ++ [sb]) (ra ++ [rb]) A6 c6 A8 c8 hl (fun g => g = ab ∨ Lx g) from by
          have h1 := HEB.out; have h2 := NB.out
          have h3 := own_extB (own_extB RS8.out XA.out (fun y hy e => by have h1 := kind_row RS8.out e; rw [show y = pb by simpa using hy, kind_cells P8.out] at h1; cases h1)) XBB.out (fun y hy e => by have h1 := kind_row RS8.out e; rw [show y = pb by simpa using hy, kind_cells P8.out] at h1; cases h1)
          have h4 := own_extB (own_extB RR8.out XA.out (fun y hy e => by have h1 := kind_row RR8.out e; rw [show y = pb by simpa using hy, kind_cells P8.out] at h1; cases h1)) XBB.out (fun y hy e => by have h1 := kind_row RR8.out e; rw [show y = pb by simpa using hy, kind_cells P8.out] at h1; cases h1)
          have h5 : ∀ y, (Value.slice A6 (nn + 1) c6).ownBlock = some y → (Value.slice SA nn sc).ownBlock = some y ∨ w4.heap.size ≤ y := fun y e => (L6.out y e).imp id fun h => Nat.le_trans E5.out.size h
          have h6 : ∀ y, (Value.slice A8 (nn + 1) c8).ownBlock = some y → (Value.slice RA nn rc).ownBlock = some y ∨ w4.heap.size ≤ y := fun y e => (L8.out y e).imp id fun h => Nat.le_trans E7.out.size h
          rw [HXS.out, HXR.out] at h1
          rw [HNN.out] at h1 h2 h3 h4 h5 h6
          exact (H0.out.ext X4.out).askd (Nat.le_refl _) H5.out h1 h2 h3 h4 h5 h6 hg'.out HTA.out)
        have hl1 : sa.length = ss.length := by have := HP9.out.st.lens.1; simpa using this
        have hl2 : ra.length = ss.length := by have h1 := HP9.out.st.lens.2; have h2 := HP.out.tl; simp at h1; omega
        have J1 := Lib.hid (show (ss ++ [S])[ss.length]? = some S by simp)
        have J2 := Lib.hid (show (sa ++ [sb])[ss.length]? = some sb by rw [← hl1]; simp)
        have J3 := Lib.hid (show (ra ++ [rb])[ss.length]? = some rb by rw [← hl2]; simp)
        have JT := Lib.hid (show (ts ++ [T])[ss.length]? = some T by rw [← HP.out.tl]; simp)
        clear hl1 hl2
        rcases HST.out with hst | hst
        · clear HST
          subst hst
          obtain ⟨kv2, p2, q1, q2, q3⟩ := d_head HP9.out.st JT.out J3.out
          have Q1 := Lib.hid q1; have Q2 := Lib.hid q2; have Q3 := Lib.hid q3
          clear q1 q2 q3
          have H10 := Lib.hid (HP9.out.st.ext (Ext.drew (Ext.refl wb)))
          have QD := Lib.hid (TextsAt.ext Q2.out (Ext.drew (Ext.refl wb)))
          go_wp2_with fail
          refine wp_region_segs [] [.inl [0, 2, 3, 4, 5], .inr (.inl 1), .inr (.inl 6), .inl [7, 8, 10], .inr (.inl 9), .inr (.inl 11), .inl [12, 13, 14]] (by kernel_rfl) (by kernel_rfl) (fun c a d v w h => by cases d <;> exact h) ?_
          (rw [wpSegs_inl]; simp only [pickOps, List.map_cons, List.map_nil, List.getD_cons_succ, List.getD_cons_zero]; (repeat (go_big_quiet_step (fail))); (refine wpQuiet_get 49 _ rfl _ rfl rb 0 77 _ (replyC S.st S.m kv2 S.fr S.to) rfl (fun W hW => by obtain ⟨y, rfl⟩ := hW; exact y.ext.heap (a := wb.drew) Q1.out (by simp)) (by kernel_rfl) Try.underlying49 rfl size49 ?_; simp only [Act.put, List.setIfInBounds_toArray, List.set_cons_succ, List.set_cons_zero]); (repeat (go_big_quiet_step (fail))); refine wpQuiet_nil ?_)
          (rw [wpSegs_grow]; simp only [pickOps, List.map_cons, List.map_nil, List.getD_cons_succ, List.getD_cons_zero]; go_wp2_with ((go_at_call 16; refine (p_head H10.out J1.out J2.out).mono ?_; rintro e wc ⟨kv1, rfl, r10, h10, x10⟩; refine stop_of ?_)))
          unfold Stop
          have H11 := Lib.hid h10; have R11 := Lib.hid (SRow.texts r10); have XX11 := Lib.hid ((Ext.drew (Ext.refl wb)).trans x10); have Q11 := Lib.hid (TextsAt.ext QD.out x10)
          go_wp2_with fail
          refine ⟨.of x10 _, ?_⟩
          clear r10 h10 x10 QD H10
          (rw [wpSegs_grow]; simp only [pickOps, List.map_cons, List.map_nil, List.getD_cons_succ, List.getD_cons_zero]; go_wp2_with ((go_at_call 32; refine (ralike_eq S.st S.fr S.to S.m kv1 kv2 _ (by have := Q3.out.keys; omega) R11.out Q11.out).mono ?_; rintro e wd ⟨rfl, x11⟩; refine stop_of ?_)))
          unfold Stop
          have H12 := Lib.hid (H11.out.ext x11); have XX12 := Lib.hid (XX11.out.trans x11)
          go_wp2_with fail
          refine ⟨.of x11 _, ?_⟩
          clear x11 H11 XX11 Q11 R11
          (rw [wpSegs_inl]; simp only [pickOps, List.map_cons, List.map_nil, List.getD_cons_succ, List.getD_cons_zero]; (repeat (go_big_quiet_step (fail))); refine wpQuiet_nil ?_)
          (rw [wpSegs_grow]; simp only [pickOps, List.map_cons, List.map_nil, List.getD_cons_succ, List.getD_cons_zero]; go_wp2_with ((go_at_call 30; refine (p_has H12.out J1.out J2.out).mono ?_; rintro e we ⟨rfl, h13, x13⟩; refine stop_of ?_)))
          unfold Stop
          have H13 := Lib.hid h13; have XX13 := Lib.hid (XX12.out.trans x13)
          go_wp2_with fail
          refine ⟨.of x13 _, ?_⟩
          clear x13 h13 H12 XX12
          (rw [wpSegs_grow]; simp only [pickOps, List.map_cons, List.map_nil, List.getD_cons_succ, List.getD_cons_zero]; go_wp2_with ((go_at_call 31; refine (d_has H13.out JT.out J3.out).mono ?_; rintro e wf ⟨rfl, h14, x14⟩; refine stop_of ?_)))
          unfold Stop
          have XX14 := Lib.hid (XX13.out.trans x14)
          go_wp2_with fail
          refine ⟨.of x14 _, ?_⟩
          clear x14 h14 H13 XX13
          (rw [wpSegs_inl]; simp only [pickOps, List.map_cons, List.map_nil, List.getD_cons_succ, List.getD_cons_zero]; (repeat (go_big_quiet_step (fail))); refine wpQuiet_nil ?_)
          rw [wpSegs_nil]
          go_wp2
          go_ret
          rw [EV.out, HE.out]
          refine ⟨⟨_, rfl⟩, ⟨_, _, _, _, _, _, _, _, (HP9.out.ext XX14.out).less fun g hg => .inr hg⟩, fun g hg => ?_⟩
          have g0 := HP.out.lt g hg
          have x04 := X0.out.trans X4.out
          have g4 : g < w4.heap.size := Nat.lt_of_lt_of_le g0 x04.size
          refine (XX14.out.block g (Nat.lt_of_lt_of_le g4 HEB.out.size)).trans ((HEB.out.block g g4 fun hh => ?_).trans (x04.block g g0))
          rcases List.mem_cons.1 hh with e | e
          · exact HP.out.nb (e ▸ hg)
          · rcases List.mem_append.1 e with e | e
            · rw [HXS.out, HNN.out] at e; exact HP.out.ns g (by simpa using e) hg
            · rw [HXR.out, HNN.out] at e; exact HP.out.nr g (by simpa using e) hg
        · clear HST
          obtain ⟨kv2, p2, q1, q2, q3⟩ := d_head HP9.out.st JT.out J3.out
          have Q1 := Lib.hid q1; have Q2 := Lib.hid q2; have Q3 := Lib.hid q3
          clear q1 q2 q3
          have H10 := Lib.hid (HP9.out.st.ext (Ext.drew (Ext.refl wb)))
          have QD := Lib.hid (TextsAt.ext Q2.out (Ext.drew (Ext.refl wb)))
          go_wp2_with fail
          refine wp_region_segs [] [.inl [0, 2, 3, 4, 5], .inr (.inl 1), .inr (.inl 6), .inl [7, 8, 10], .inr (.inl 9), .inr (.inl 11), .inl [12, 13, 14]] (by kernel_rfl) (by kernel_rfl) (fun c a d v w h => by cases d <;> exact h) ?_
          (rw [wpSegs_inl]; simp only [pickOps, List.map_cons, List.map_nil, List.getD_cons_succ, List.getD_cons_zero]; (repeat (go_big_quiet_step (fail))); (refine wpQuiet_get 49 _ rfl _ rfl rb 0 77 _ (replyC T.st T.m kv2 T.fr T.to) rfl (fun W hW => by obtain ⟨y, rfl⟩ := hW; exact y.ext.heap (a := wb.drew) Q1.out (by simp)) (by kernel_rfl) Try.underlying49 rfl size49 ?_; simp only [Act.put, List.setIfInBounds_toArray, List.set_cons_succ, List.set_cons_zero]); (repeat (go_big_quiet_step (fail))); refine wpQuiet_nil ?_)
          (rw [wpSegs_grow]; simp only [pickOps, List.map_cons, List.map_nil, List.getD_cons_succ, List.getD_cons_zero]; go_wp2_with ((go_at_call 16; refine (p_head H10.out J1.out J2.out).mono ?_; rintro e wc ⟨kv1, rfl, r10, h10, x10⟩; refine stop_of ?_)))
          unfold Stop
          have H11 := Lib.hid h10; have R11 := Lib.hid (SRow.texts r10); have XX11 := Lib.hid ((Ext.drew (Ext.refl wb)).trans x10); have Q11 := Lib.hid (TextsAt.ext QD.out x10)
          go_wp2_with fail
          refine ⟨.of x10 _, ?_⟩
          clear r10 h10 x10 QD H10
          (rw [wpSegs_grow]; simp only [pickOps, List.map_cons, List.map_nil, List.getD_cons_succ, List.getD_cons_zero]; go_wp2_with ((go_at_call 32; refine (ralike_ne S.st S.fr S.to T.st T.fr T.to S.m T.m kv1 kv2 _ hst).mono ?_; rintro e wd ⟨rfl, x11⟩; refine stop_of ?_)))
          unfold Stop
          have H12 := Lib.hid (H11.out.ext x11); have XX12 := Lib.hid (XX11.out.trans x11)
          go_wp2_with fail
          refine ⟨.of x11 _, ?_⟩
          clear x11 H11 XX11 Q11 R11
          (rw [wpSegs_inl]; simp only [pickOps, List.map_cons, List.map_nil, List.getD_cons_succ, List.getD_cons_zero]; (repeat (go_big_quiet_step (fail))); refine wpQuiet_nil ?_)
          (rw [wpSegs_grow]; simp only [pickOps, List.map_cons, List.map_nil, List.getD_cons_succ, List.getD_cons_zero]; go_wp2_with (fail))
          refine ⟨.of (Ext.refl _) _, ?_⟩
          (rw [wpSegs_grow]; simp only [pickOps, List.map_cons, List.map_nil, List.getD_cons_succ, List.getD_cons_zero]; go_wp2_with (fail))
          refine ⟨.of (Ext.refl _) _, ?_⟩
          (rw [wpSegs_inl]; simp only [pickOps, List.map_cons, List.map_nil, List.getD_cons_succ, List.getD_cons_zero]; (repeat (go_big_quiet_step (fail))); refine wpQuiet_nil ?_)
          rw [wpSegs_nil]
          go_wp2
          go_ret
          rw [EV.out, HE.out]
          refine ⟨⟨_, rfl⟩, ⟨_, _, _, _, _, _, _, _, (HP9.out.ext XX12.out).less fun g hg => .inr hg⟩, fun g hg => ?_⟩
          have g0 := HP.out.lt g hg
          have x04 := X0.out.trans X4.out
          have g4 : g < w4.heap.size := Nat.lt_of_lt_of_le g0 x04.size
          refine (XX12.out.block g (Nat.lt_of_lt_of_le g4 HEB.out.size)).trans ((HEB.out.block g g4 fun hh => ?_).trans (x04.block g g0))
          rcases List.mem_cons.1 hh with e | e
          · exact HP.out.nb (e ▸ hg)
          · rcases List.mem_append.1 e with e | e
            · rw [HXS.out, HNN.out] at e; exact HP.out.ns g (by simpa using e) hg
            · rw [HXR.out, HNN.out] at e; exact HP.out.nr g (by simpa using e) hg
      · (simp only [pickOps, List.map_cons, List.map_nil, List.getD_cons_succ, List.getD_cons_zero]; go_wp2_with fail)
        refine ⟨.of (ext_alloc1 _ _) _, ?_⟩
        have E6 := Lib.hid (E5.out.trans (.of (ext_alloc1 (w4.drew.alloc (.cells #[.pointer (some ⟨sb, 0, none⟩)] 45)) (.cells #[.pointer (some ⟨rb, 0, none⟩)] 73)) _))
        have RS6 := Lib.hid (ownsRow_below RS5.out (ext_alloc1 (w4.drew.alloc (.cells #[.pointer (some ⟨sb, 0, none⟩)] 45)) (.cells #[.pointer (some ⟨rb, 0, none⟩)] 73)))
        have RR6 := Lib.hid (ownsRow_below RR5.out (ext_alloc1 (w4.drew.alloc (.cells #[.pointer (some ⟨sb, 0, none⟩)] 45)) (.cells #[.pointer (some ⟨rb, 0, none⟩)] 73)))
        have Cs := Lib.hid ((ext_alloc1 (w4.drew.alloc (.cells #[.pointer (some ⟨sb, 0, none⟩)] 45)) (.cells #[.pointer (some ⟨rb, 0, none⟩)] 73)).heap Cs.out)
        have Cr := Lib.hid (show ((w4.drew.alloc (.cells #[.pointer (some ⟨sb, 0, none⟩)] 45)).alloc (.cells #[.pointer (some ⟨rb, 0, none⟩)] 73)).heap[(w4.heap.size + 1)]? = some (.cells #[.pointer (some ⟨rb, 0, none⟩)] 73) from by have := heap_alloc_new (w4.drew.alloc (.cells #[.pointer (some ⟨sb, 0, none⟩)] 45)) (.cells #[.pointer (some ⟨rb, 0, none⟩)] 73); simpa using this)
        (rw [wpTz_one]; simp only [pickOps, List.map_cons, List.map_nil, List.getD_cons_succ, List.getD_cons_zero]; go_wp2_with (at_builtin; refine wpList_push1 65 45 Try.underlying65 info45 rfl _ _ rfl w0.heap.size SA nn sc sa sb w4.heap.size RS6.out Cs.out rfl rfl hnn.out (Nat.le_trans hbase.out E6.out.size) ?_; intro A7 c7 w7 r7 b7 l7; refine stop_of ?_))
        unfold Stop
        go_wp2_with fail
        have B7 := Lib.hid (show ExtB (XS ++ XR) ((w4.drew.alloc (.cells #[.pointer (some ⟨sb, 0, none⟩)] 45)).alloc (.cells #[.pointer (some ⟨rb, 0, none⟩)] 73)) w7 from b7.mono fun y hy => List.mem_append_left _ (by rw [HXS.out]; exact hy))
        refine ⟨B7.out, ?_⟩
        have E7 := Lib.hid (E6.out.trans B7.out)
        have L7 := Lib.hid l7
        have RS7 := Lib.hid r7
        have RR7 := Lib.hid (own_extB RR6.out b7 (fun y hy e => by have h1 := kind_row RR6.out e; have h2 := kind_row RS6.out (show (Value.slice SA nn sc).ownBlock = some y by simpa using hy); rw [h1] at h2; cases h2))
        have Cr := Lib.hid (b7.heap Cr.out (fun hh => by have h2 := (RS.out.lt _ (show (Value.slice SA nn sc).ownBlock = some ((w4.heap.size + 1)) by simpa using hh)).2; omega))
        clear Cs r7 b7 l7
        (rw [wpTz_one]; simp only [pickOps, List.map_cons, List.map_nil, List.getD_cons_succ, List.getD_cons_zero]; go_wp2_with (at_builtin; refine wpList_push1 66 73 Try.underlying66 info73 rfl _ _ rfl w0.heap.size RA nn rc ra rb (w4.heap.size + 1) RR7.out Cr.out rfl rfl hnn.out (Nat.le_trans hbase.out E7.out.size) ?_; intro A8 c8 w8 r8 b8 l8; refine stop_of ?_))
        unfold Stop
        go_wp2_with fail
        have B8 := Lib.hid (show ExtB (XS ++ XR) w7 w8 from b8.mono fun y hy => List.mem_append_right _ (by rw [HXR.out]; exact hy))
        refine ⟨B8.out, ?_⟩
        have E8 := Lib.hid (E7.out.trans B8.out)
        have L8 := Lib.hid l8
        have RR8 := Lib.hid r8
        have RS8 := Lib.hid (own_extB RS7.out b8 (fun y hy e => by have h1 := kind_row RS7.out e; have h2 := kind_row RR7.out (show (Value.slice RA nn rc).ownBlock = some y by simpa using hy); rw [h1] at h2; cases h2))
        clear Cr r8 b8 l8
        (rw [wpTz_pure]; simp only [pickOps, List.map_cons, List.map_nil, List.getD_cons_succ, List.getD_cons_zero]; (repeat (go_big_quiet_step (fail))); refine wpQuiet_nil ?_)
        have P8 := Lib.hid (E8.out.heap HPB4.out HPN.out)
        (rw [wpTz_last]; simp only [pickOps, List.map_cons, List.map_nil, List.getD_cons_succ, List.getD_cons_zero]; go_wp2_with (refine wpList_put 65 rfl _ _ rfl pb 2 68 _ #[ptrV b, ptrV x, .slice A7 (nn + 1) c7, .slice RA nn rc] [.slice A7 (nn + 1) c7] _ P8.out rfl rfl rfl (by simp) rfl size65 (by simp [putA]) ?_; intro wa xa na sz; refine stop_of ?_))
        unfold Stop
        have XA := Lib.hid xa; have NA := Lib.hid na
        clear xa na sz
        go_wp2_with fail
        (rw [wpTz_pure]; simp only [pickOps, List.map_cons, List.map_nil, List.getD_cons_succ, List.getD_cons_zero]; (repeat (go_big_quiet_step (fail))); refine wpQuiet_nil ?_)
        (rw [wpTz_last]; simp only [pickOps, List.map_cons, List.map_nil, List.getD_cons_succ, List.getD_cons_zero]; go_wp2_with (refine wpList_put 66 rfl _ _ rfl pb 3 68 _ #[ptrV b, ptrV x, .slice A7 (nn + 1) c7, .slice A8 (nn + 1) c8] [.slice A8 (nn + 1) c8] _ NA.out rfl rfl rfl (by simp) rfl size66 (by simp [putA]) ?_; intro wb xb nb sz; refine stop_of ?_))
        unfold Stop
        have XBB := Lib.hid xb; have NB := Lib.hid nb
        clear xb nb sz
        go_wp2_with fail
        rw [wpTz_done]
        have HEB := Lib.hid (show ExtB (pb :: (XS ++ XR)) w4 wb from ((E8.out.mono fun y hy => List.mem_cons_of_mem _ hy).trans ((XA.out.mono fun y hy => by rw [show y = pb by simpa using hy]; exact List.mem_cons_self).trans (XBB.out.mono fun y hy => by rw [show y = pb by simpa using hy]; exact List.mem_cons_self))))
        have HP9 := Lib.hid (show PlayTX w0 wb pb b x (k + 1) N vs (ss ++ [S]) (ts ++ [T]) (sa ++ [sb]) (ra ++ [rb]) A7 c7 A8 c8 hl (fun g => g = ab ∨ Lx g) from by
          have h1 := HEB.out; have h2 := NB.out
          have h3 := own_extB (own_extB RS8.out XA.out (fun y hy e => by have h1 := kind_row RS8.out e; rw [show y = pb by simpa using hy, kind_cells P8.out] at h1; cases h1)) XBB.out (fun y hy e => by have h1 := kind_row RS8.out e; rw [show y = pb by simpa using hy, kind_cells P8.out] at h1; cases h1)
          have h4 := own_extB (own_extB RR8.out XA.out (fun y hy e => by have h1 := kind_row RR8.out e; rw [show y = pb by simpa using hy, kind_cells P8.out] at h1; cases h1)) XBB.out (fun y hy e => by have h1 := kind_row RR8.out e; rw [show y = pb by simpa using hy, kind_cells P8.out] at h1; cases h1)
          have h5 : ∀ y, (Value.slice A7 (nn + 1) c7).ownBlock = some y → (Value.slice SA nn sc).ownBlock = some y ∨ w4.heap.size ≤ y := fun y e => (L7.out y e).imp id fun h => Nat.le_trans E6.out.size h
          have h6 : ∀ y, (Value.slice A8 (nn + 1) c8).ownBlock = some y → (Value.slice RA nn rc).ownBlock = some y ∨ w4.heap.size ≤ y := fun y e => (L8.out y e).imp id fun h => Nat.le_trans E7.out.size h
          rw [HXS.out, HXR.out] at h1
          rw [HNN.out] at h1 h2 h3 h4 h5 h6
          exact (H0.out.ext X4.out).askd (Nat.le_refl _) H5.out h1 h2 h3 h4 h5 h6 hg'.out HTA.out)
        have hl1 : sa.length = ss.length := by have := HP9.out.st.lens.1; simpa using this
        have hl2 : ra.length = ss.length := by have h1 := HP9.out.st.lens.2; have h2 := HP.out.tl; simp at h1; omega
        have J1 := Lib.hid (show (ss ++ [S])[ss.length]? = some S by simp)
        have J2 := Lib.hid (show (sa ++ [sb])[ss.length]? = some sb by rw [← hl1]; simp)
        have J3 := Lib.hid (show (ra ++ [rb])[ss.length]? = some rb by rw [← hl2]; simp)
        have JT := Lib.hid (show (ts ++ [T])[ss.length]? = some T by rw [← HP.out.tl]; simp)
        clear hl1 hl2
        rcases HST.out with hst | hst
        · clear HST
          subst hst
          obtain ⟨kv2, p2, q1, q2, q3⟩ := d_head HP9.out.st JT.out J3.out
          have Q1 := Lib.hid q1; have Q2 := Lib.hid q2; have Q3 := Lib.hid q3
          clear q1 q2 q3
          have H10 := Lib.hid (HP9.out.st.ext (Ext.drew (Ext.refl wb)))
          have QD := Lib.hid (TextsAt.ext Q2.out (Ext.drew (Ext.refl wb)))
          go_wp2_with fail
          refine wp_region_segs [] [.inl [0, 2, 3, 4, 5], .inr (.inl 1), .inr (.inl 6), .inl [7, 8, 10], .inr (.inl 9), .inr (.inl 11), .inl [12, 13, 14]] (by kernel_rfl) (by kernel_rfl) (fun c a d v w h => by cases d <;> exact h) ?_
          (rw [wpSegs_inl]; simp only [pickOps, List.map_cons, List.map_nil, List.getD_cons_succ, List.getD_cons_zero]; (repeat (go_big_quiet_step (fail))); (refine wpQuiet_get 49 _ rfl _ rfl rb 0 77 _ (replyC S.st S.m kv2 S.fr S.to) rfl (fun W hW => by obtain ⟨y, rfl⟩ := hW; exact y.ext.heap (a := wb.drew) Q1.out (by simp)) (by kernel_rfl) Try.underlying49 rfl size49 ?_; simp only [Act.put, List.setIfInBounds_toArray, List.set_cons_succ, List.set_cons_zero]); (repeat (go_big_quiet_step (fail))); refine wpQuiet_nil ?_)
          (rw [wpSegs_grow]; simp only [pickOps, List.map_cons, List.map_nil, List.getD_cons_succ, List.getD_cons_zero]; go_wp2_with ((go_at_call 16; refine (p_head H10.out J1.out J2.out).mono ?_; rintro e wc ⟨kv1, rfl, r10, h10, x10⟩; refine stop_of ?_)))
          unfold Stop
          have H11 := Lib.hid h10; have R11 := Lib.hid (SRow.texts r10); have XX11 := Lib.hid ((Ext.drew (Ext.refl wb)).trans x10); have Q11 := Lib.hid (TextsAt.ext QD.out x10)
          go_wp2_with fail
          refine ⟨.of x10 _, ?_⟩
          clear r10 h10 x10 QD H10
          (rw [wpSegs_grow]; simp only [pickOps, List.map_cons, List.map_nil, List.getD_cons_succ, List.getD_cons_zero]; go_wp2_with ((go_at_call 32; refine (ralike_eq S.st S.fr S.to S.m kv1 kv2 _ (by have := Q3.out.keys; omega) R11.out Q11.out).mono ?_; rintro e wd ⟨rfl, x11⟩; refine stop_of ?_)))
          unfold Stop
          have H12 := Lib.hid (H11.out.ext x11); have XX12 := Lib.hid (XX11.out.trans x11)
          go_wp2_with fail
          refine ⟨.of x11 _, ?_⟩
          clear x11 H11 XX11 Q11 R11
          (rw [wpSegs_inl]; simp only [pickOps, List.map_cons, List.map_nil, List.getD_cons_succ, List.getD_cons_zero]; (repeat (go_big_quiet_step (fail))); refine wpQuiet_nil ?_)
          (rw [wpSegs_grow]; simp only [pickOps, List.map_cons, List.map_nil, List.getD_cons_succ, List.getD_cons_zero]; go_wp2_with ((go_at_call 30; refine (p_has H12.out J1.out J2.out).mono ?_; rintro e we ⟨rfl, h13, x13⟩; refine stop_of ?_)))
          unfold Stop
          have H13 := Lib.hid h13; have XX13 := Lib.hid (XX12.out.trans x13)
          go_wp2_with fail
          refine ⟨.of x13 _, ?_⟩
          clear x13 h13 H12 XX12
          (rw [wpSegs_grow]; simp only [pickOps, List.map_cons, List.map_nil, List.getD_cons_succ, List.getD_cons_zero]; go_wp2_with ((go_at_call 31; refine (d_has H13.out JT.out J3.out).mono ?_; rintro e wf ⟨rfl, h14, x14⟩; refine stop_of ?_)))
          unfold Stop
          have XX14 := Lib.hid (XX13.out.trans x14)
          go_wp2_with fail
          refine ⟨.of x14 _, ?_⟩
          clear x14 h14 H13 XX13
          (rw [wpSegs_inl]; simp only [pickOps, List.map_cons, List.map_nil, List.getD_cons_succ, List.getD_cons_zero]; (repeat (go_big_quiet_step (fail))); refine wpQuiet_nil ?_)
          rw [wpSegs_nil]
          go_wp2
          go_ret
          rw [EV.out, HE.out]
          refine ⟨⟨_, rfl⟩, ⟨_, _, _, _, _, _, _, _, (HP9.out.ext XX14.out).less fun g hg => .inr hg⟩, fun g hg => ?_⟩
          have g0 := HP.out.lt g hg
          have x04 := X0.out.trans X4.out
          have g4 : g < w4.heap.size := Nat.lt_of_lt_of_le g0 x04.size
          refine (XX14.out.block g (Nat.lt_of_lt_of_le g4 HEB.out.size)).trans ((HEB.out.block g g4 fun hh => ?_).trans (x04.block g g0))
          rcases List.mem_cons.1 hh with e | e
          · exact HP.out.nb (e ▸ hg)
          · rcases List.mem_append.1 e with e | e
            · rw [HXS.out, HNN.out] at e; exact HP.out.ns g (by simpa using e) hg
            · rw [HXR.out, HNN.out] at e; exact HP.out.nr g (by simpa using e) hg
        · clear HST
          obtain ⟨kv2, p2, q1, q2, q3⟩ := d_head HP9.out.st JT.out J3.out
          have Q1 := Lib.hid q1; have Q2 := Lib.hid q2; have Q3 := Lib.hid q3
          clear q1 q2 q3
          have H10 := Lib.hid (HP9.out.st.ext (Ext.drew (Ext.refl wb)))
          have QD := Lib.hid (TextsAt.ext Q2.out (Ext.drew (Ext.refl wb)))
          go_wp2_with fail
          refine wp_region_segs [] [.inl [0, 2, 3, 4, 5], .inr (.inl 1), .inr (.inl 6), .inl [7, 8, 10], .inr (.inl 9), .inr (.inl 11), .inl [12, 13, 14]] (by kernel_rfl) (by kernel_rfl) (fun c a d v w h => by cases d <;> exact h) ?_
          (rw [wpSegs_inl]; simp only [pickOps, List.map_cons, List.map_nil, List.getD_cons_succ, List.getD_cons_zero]; (repeat (go_big_quiet_step (fail))); (refine wpQuiet_get 49 _ rfl _ rfl rb 0 77 _ (replyC T.st T.m kv2 T.fr T.to) rfl (fun W hW => by obtain ⟨y, rfl⟩ := hW; exact y.ext.heap (a := wb.drew) Q1.out (by simp)) (by kernel_rfl) Try.underlying49 rfl size49 ?_; simp only [Act.put, List.setIfInBounds_toArray, List.set_cons_succ, List.set_cons_zero]); (repeat (go_big_quiet_step (fail))); refine wpQuiet_nil ?_)
          (rw [wpSegs_grow]; simp only [pickOps, List.map_cons, List.map_nil, List.getD_cons_succ, List.getD_cons_zero]; go_wp2_with ((go_at_call 16; refine (p_head H10.out J1.out J2.out).mono ?_; rintro e wc ⟨kv1, rfl, r10, h10, x10⟩; refine stop_of ?_)))
          unfold Stop
          have H11 := Lib.hid h10; have R11 := Lib.hid (SRow.texts r10); have XX11 := Lib.hid ((Ext.drew (Ext.refl wb)).trans x10); have Q11 := Lib.hid (TextsAt.ext QD.out x10)
          go_wp2_with fail
          refine ⟨.of x10 _, ?_⟩
          clear r10 h10 x10 QD H10
          (rw [wpSegs_grow]; simp only [pickOps, List.map_cons, List.map_nil, List.getD_cons_succ, List.getD_cons_zero]; go_wp2_with ((go_at_call 32; refine (ralike_ne S.st S.fr S.to T.st T.fr T.to S.m T.m kv1 kv2 _ hst).mono ?_; rintro e wd ⟨rfl, x11⟩; refine stop_of ?_)))
          unfold Stop
          have H12 := Lib.hid (H11.out.ext x11); have XX12 := Lib.hid (XX11.out.trans x11)
          go_wp2_with fail
          refine ⟨.of x11 _, ?_⟩
          clear x11 H11 XX11 Q11 R11
          (rw [wpSegs_inl]; simp only [pickOps, List.map_cons, List.map_nil, List.getD_cons_succ, List.getD_cons_zero]; (repeat (go_big_quiet_step (fail))); refine wpQuiet_nil ?_)
          (rw [wpSegs_grow]; simp only [pickOps, List.map_cons, List.map_nil, List.getD_cons_succ, List.getD_cons_zero]; go_wp2_with (fail))
          refine ⟨.of (Ext.refl _) _, ?_⟩
          (rw [wpSegs_grow]; simp only [pickOps, List.map_cons, List.map_nil, List.getD_cons_succ, List.getD_cons_zero]; go_wp2_with (fail))
          refine ⟨.of (Ext.refl _) _, ?_⟩
          (rw [wpSegs_inl]; simp only [pickOps, List.map_cons, List.map_nil, List.getD_cons_succ, List.getD_cons_zero]; (repeat (go_big_quiet_step (fail))); refine wpQuiet_nil ?_)
          rw [wpSegs_nil]
          go_wp2
          go_ret
          rw [EV.out, HE.out]
          refine ⟨⟨_, rfl⟩, ⟨_, _, _, _, _, _, _, _, (HP9.out.ext XX12.out).less fun g hg => .inr hg⟩, fun g hg => ?_⟩
          have g0 := HP.out.lt g hg
          have x04 := X0.out.trans X4.out
          have g4 : g < w4.heap.size := Nat.lt_of_lt_of_le g0 x04.size
          refine (XX12.out.block g (Nat.lt_of_lt_of_le g4 HEB.out.size)).trans ((HEB.out.block g g4 fun hh => ?_).trans (x04.block g g0))
          rcases List.mem_cons.1 hh with e | e
          · exact HP.out.nb (e ▸ hg)
          · rcases List.mem_append.1 e with e | e
            · rw [HXS.out, HNN.out] at e; exact HP.out.ns g (by simpa using e) hg
            · rw [HXR.out, HNN.out] at e; exact HP.out.nr g (by simpa using e) hg
    · (simp only [pickOps, List.map_cons, List.map_nil, List.getD_cons_succ, List.getD_cons_zero]; go_wp2_with fail)
      refine ⟨.of (ext_alloc1 _ _) _, ?_⟩
      have E5 := Lib.hid (E4.out.trans (.of (ext_alloc1 w4.drew (.cells #[.pointer (some ⟨rb, 0, none⟩)] 73)) _))
      have RS5 := Lib.hid (ownsRow_below RSd.out (ext_alloc1 w4.drew (.cells #[.pointer (some ⟨rb, 0, none⟩)] 73)))
      have RR5 := Lib.hid (ownsRow_below RRd.out (ext_alloc1 w4.drew (.cells #[.pointer (some ⟨rb, 0, none⟩)] 73)))
      have Cr := Lib.hid (show (w4.drew.alloc (.cells #[.pointer (some ⟨rb, 0, none⟩)] 73)).heap[w4.heap.size]? = some (.cells #[.pointer (some ⟨rb, 0, none⟩)] 73) from by have := heap_alloc_new w4.drew (.cells #[.pointer (some ⟨rb, 0, none⟩)] 73); simpa using this)
      (rw [wpTz_one]; simp only [pickOps, List.map_cons, List.map_nil, List.getD_cons_succ, List.getD_cons_zero]; go_wp2_with fail)
      refine ⟨.of (ext_alloc1 _ _) _, ?_⟩
      have E6 := Lib.hid (E5.out.trans (.of (ext_alloc1 (w4.drew.alloc (.cells #[.pointer (some ⟨rb, 0, none⟩)] 73)) (.cells #[.pointer (some ⟨sb, 0, none⟩)] 45)) _))
      have RS6 := Lib.hid (ownsRow_below RS5.out (ext_alloc1 (w4.drew.alloc (.cells #[.pointer (some ⟨rb, 0, none⟩)] 73)) (.cells #[.pointer (some ⟨sb, 0, none⟩)] 45)))
      have RR6 := Lib.hid (ownsRow_below RR5.out (ext_alloc1 (w4.drew.alloc (.cells #[.pointer (some ⟨rb, 0, none⟩)] 73)) (.cells #[.pointer (some ⟨sb, 0, none⟩)] 45)))
      have Cr := Lib.hid ((ext_alloc1 (w4.drew.alloc (.cells #[.pointer (some ⟨rb, 0, none⟩)] 73)) (.cells #[.pointer (some ⟨sb, 0, none⟩)] 45)).heap Cr.out)
      have Cs := Lib.hid (show ((w4.drew.alloc (.cells #[.pointer (some ⟨rb, 0, none⟩)] 73)).alloc (.cells #[.pointer (some ⟨sb, 0, none⟩)] 45)).heap[(w4.heap.size + 1)]? = some (.cells #[.pointer (some ⟨sb, 0, none⟩)] 45) from by have := heap_alloc_new (w4.drew.alloc (.cells #[.pointer (some ⟨rb, 0, none⟩)] 73)) (.cells #[.pointer (some ⟨sb, 0, none⟩)] 45); simpa using this)
      (rw [wpTz_one]; simp only [pickOps, List.map_cons, List.map_nil, List.getD_cons_succ, List.getD_cons_zero]; go_wp2_with (at_builtin; refine wpList_push1 65 45 Try.underlying65 info45 rfl _ _ rfl w0.heap.size SA nn sc sa sb (w4.heap.size + 1) RS6.out Cs.out rfl rfl hnn.out (Nat.le_trans hbase.out E6.out.size) ?_; intro A7 c7 w7 r7 b7 l7; refine stop_of ?_))
      unfold Stop
      go_wp2_with fail
      have B7 := Lib.hid (show ExtB (XS ++ XR) ((w4.drew.alloc (.cells #[.pointer (some ⟨rb, 0, none⟩)] 73)).alloc (.cells #[.pointer (some ⟨sb, 0, none⟩)] 45)) w7 from b7.mono fun y hy => List.mem_append_left _ (by rw [HXS.out]; exact hy))
      refine ⟨B7.out, ?_⟩
      have E7 := Lib.hid (E6.out.trans B7.out)
      have L7 := Lib.hid l7
      have RS7 := Lib.hid r7
      have RR7 := Lib.hid (own_extB RR6.out b7 (fun y hy e => by have h1 := kind_row RR6.out e; have h2 := kind_row RS6.out (show (Value.slice SA nn sc).ownBlock = some y by simpa using hy); rw [h1] at h2; cases h2))
      have Cr := Lib.hid (b7.heap Cr.out (fun hh => by have h2 := (RS.out.lt _ (show (Value.slice SA nn sc).ownBlock = some (w4.heap.size) by simpa using hh)).2; omega))
      clear Cs r7 b7 l7
      (rw [wpTz_one]; simp only [pickOps, List.map_cons, List.map_nil, List.getD_cons_succ, List.getD_cons_zero]; go_wp2_with (at_builtin; refine wpList_push1 66 73 Try.underlying66 info73 rfl _ _ rfl w0.heap.size RA nn rc ra rb w4.heap.size RR7.out Cr.out rfl rfl hnn.out (Nat.le_trans hbase.out E7.out.size) ?_; intro A8 c8 w8 r8 b8 l8; refine stop_of ?_))
      unfold Stop
      go_wp2_with fail
      have B8 := Lib.hid (show ExtB (XS ++ XR) w7 w8 from b8.mono fun y hy => List.mem_append_right _ (by rw [HXR.out]; exact hy))
      refine ⟨B8.out, ?_⟩
      have E8 := Lib.hid (E7.out.trans B8.out)
      have L8 := Lib.hid l8
      have RR8 := Lib.hid r8
      have RS8 := Lib.hid (own_extB RS7.out b8 (fun y hy e => by have h1 := kind_row RS7.out e; have h2 := kind_row RR7.out (show (Value.slice RA nn rc).ownBlock = some y by simpa using hy); rw [h1] at h2; cases h2))
      clear Cr r8 b8 l8
      (rw [wpTz_pure]; simp only [pickOps, List.map_cons, List.map_nil, List.getD_cons_succ, List.getD_cons_zero]; (repeat (go_big_quiet_step (fail))); refine wpQuiet_nil ?_)
      have P8 := Lib.hid (E8.out.heap HPB4.out HPN.out)
      (rw [wpTz_last]; simp only [pickOps, List.map_cons, List.map_nil, List.getD_cons_succ, List.getD_cons_zero]; go_wp2_with (refine wpList_put 65 rfl _ _ rfl pb 2 68 _ #[ptrV b, ptrV x, .slice A7 (nn + 1) c7, .slice RA nn rc] [.slice A7 (nn + 1) c7] _ P8.out rfl rfl rfl (by simp) rfl size65 (by simp [putA]) ?_; intro wa xa na sz; refine stop_of ?_))
      unfold Stop
      have XA := Lib.hid xa; have NA := Lib.hid na
      clear xa na sz
      go_wp2_with fail
      (rw [wpTz_pure]; simp only [pickOps, List.map_cons, List.map_nil, List.getD_cons_succ, List.getD_cons_zero]; (repeat (go_big_quiet_step (fail))); refine wpQuiet_nil ?_)
      (rw [wpTz_last]; simp only [pickOps, List.map_cons, List.map_nil, List.getD_cons_succ, List.getD_cons_zero]; go_wp2_with (refine wpList_put 66 rfl _ _ rfl pb 3 68 _ #[ptrV b, ptrV x, .slice A7 (nn + 1) c7, .slice A8 (nn + 1) c8] [.slice A8 (nn + 1) c8] _ NA.out rfl rfl rfl (by simp) rfl size66 (by simp [putA]) ?_; intro wb xb nb sz; refine stop_of ?_))
      unfold Stop
      have XBB := Lib.hid xb; have NB := Lib.hid nb
      clear xb nb sz
      go_wp2_with fail
      rw [wpTz_done]
      have HEB := Lib.hid (show ExtB (pb :: (XS ++ XR)) w4 wb from ((E8.out.mono fun y hy => List.mem_cons_of_mem _ hy).trans ((XA.out.mono fun y hy => by rw [show y = pb by simpa using hy]; exact List.mem_cons_self).trans (XBB.out.mono fun y hy => by rw [show y = pb by simpa using hy]; exact List.mem_cons_self))))
      have HP9 := Lib.hid (show PlayTX w0 wb pb b x (k + 1) N vs (ss ++ [S]) (ts ++ [T]) (sa ++ [sb]) (ra ++ [rb]) A7 c7 A8 c8 hl (fun g => g = ab ∨ Lx g) from by
        have h1 := HEB.out; have h2 := NB.out
        have h3 := own_extB (own_extB RS8.out XA.out (fun y hy e => by have h1 := kind_row RS8.out e; rw [show y = pb by simpa using hy, kind_cells P8.out] at h1; cases h1)) XBB.out (fun y hy e => by have h1 := kind_row RS8.out e; rw [show y = pb by simpa using hy, kind_cells P8.out] at h1; cases h1)
        have h4 := own_extB (own_extB RR8.out XA.out (fun y hy e => by have h1 := kind_row RR8.out e; rw [show y = pb by simpa using hy, kind_cells P8.out] at h1; cases h1)) XBB.out (fun y hy e => by have h1 := kind_row RR8.out e; rw [show y = pb by simpa using hy, kind_cells P8.out] at h1; cases h1)
        have h5 : ∀ y, (Value.slice A7 (nn + 1) c7).ownBlock = some y → (Value.slice SA nn sc).ownBlock = some y ∨ w4.heap.size ≤ y := fun y e => (L7.out y e).imp id fun h => Nat.le_trans E6.out.size h
        have h6 : ∀ y, (Value.slice A8 (nn + 1) c8).ownBlock = some y → (Value.slice RA nn rc).ownBlock = some y ∨ w4.heap.size ≤ y := fun y e => (L8.out y e).imp id fun h => Nat.le_trans E7.out.size h
        rw [HXS.out, HXR.out] at h1
        rw [HNN.out] at h1 h2 h3 h4 h5 h6
        exact (H0.out.ext X4.out).askd (Nat.le_refl _) H5.out h1 h2 h3 h4 h5 h6 hg'.out HTA.out)
      have hl1 : sa.length = ss.length := by have := HP9.out.st.lens.1; simpa using this
      have hl2 : ra.length = ss.length := by have h1 := HP9.out.st.lens.2; have h2 := HP.out.tl; simp at h1; omega
      have J1 := Lib.hid (show (ss ++ [S])[ss.length]? = some S by simp)
      have J2 := Lib.hid (show (sa ++ [sb])[ss.length]? = some sb by rw [← hl1]; simp)
      have J3 := Lib.hid (show (ra ++ [rb])[ss.length]? = some rb by rw [← hl2]; simp)
      have JT := Lib.hid (show (ts ++ [T])[ss.length]? = some T by rw [← HP.out.tl]; simp)
      clear hl1 hl2
      rcases HST.out with hst | hst
      · clear HST
        subst hst
        obtain ⟨kv2, p2, q1, q2, q3⟩ := d_head HP9.out.st JT.out J3.out
        have Q1 := Lib.hid q1; have Q2 := Lib.hid q2; have Q3 := Lib.hid q3
        clear q1 q2 q3
        have H10 := Lib.hid (HP9.out.st.ext (Ext.drew (Ext.refl wb)))
        have QD := Lib.hid (TextsAt.ext Q2.out (Ext.drew (Ext.refl wb)))
        go_wp2_with fail
        refine wp_region_segs [] [.inl [0, 2, 3, 4, 5], .inr (.inl 1), .inr (.inl 6), .inl [7, 8, 10], .inr (.inl 9), .inr (.inl 11), .inl [12, 13, 14]] (by kernel_rfl) (by kernel_rfl) (fun c a d v w h => by cases d <;> exact h) ?_
        (rw [wpSegs_inl]; simp only [pickOps, List.map_cons, List.map_nil, List.getD_cons_succ, List.getD_cons_zero]; (repeat (go_big_quiet_step (fail))); (refine wpQuiet_get 49 _ rfl _ rfl rb 0 77 _ (replyC S.st S.m kv2 S.fr S.to) rfl (fun W hW => by obtain ⟨y, rfl⟩ := hW; exact y.ext.heap (a := wb.drew) Q1.out (by simp)) (by kernel_rfl) Try.underlying49 rfl size49 ?_; simp only [Act.put, List.setIfInBounds_toArray, List.set_cons_succ, List.set_cons_zero]); (repeat (go_big_quiet_step (fail))); refine wpQuiet_nil ?_)
        (rw [wpSegs_grow]; simp only [pickOps, List.map_cons, List.map_nil, List.getD_cons_succ, List.getD_cons_zero]; go_wp2_with ((go_at_call 16; refine (p_head H10.out J1.out J2.out).mono ?_; rintro e wc ⟨kv1, rfl, r10, h10, x10⟩; refine stop_of ?_)))
        unfold Stop
        have H11 := Lib.hid h10; have R11 := Lib.hid (SRow.texts r10); have XX11 := Lib.hid ((Ext.drew (Ext.refl wb)).trans x10); have Q11 := Lib.hid (TextsAt.ext QD.out x10)
        go_wp2_with fail
        refine ⟨.of x10 _, ?_⟩
        clear r10 h10 x10 QD H10
        (rw [wpSegs_grow]; simp only [pickOps, List.map_cons, List.map_nil, List.getD_cons_succ, List.getD_cons_zero]; go_wp2_with ((go_at_call 32; refine (ralike_eq S.st S.fr S.to S.m kv1 kv2 _ (by have := Q3.out.keys; omega) R11.out Q11.out).mono ?_; rintro e wd ⟨rfl, x11⟩; refine stop_of ?_)))
        unfold Stop
        have H12 := Lib.hid (H11.out.ext x11); have XX12 := Lib.hid (XX11.out.trans x11)
        go_wp2_with fail
        refine ⟨.of x11 _, ?_⟩
        clear x11 H11 XX11 Q11 R11
        (rw [wpSegs_inl]; simp only [pickOps, List.map_cons, List.map_nil, List.getD_cons_succ, List.getD_cons_zero]; (repeat (go_big_quiet_step (fail))); refine wpQuiet_nil ?_)
        (rw [wpSegs_grow]; simp only [pickOps, List.map_cons, List.map_nil, List.getD_cons_succ, List.getD_cons_zero]; go_wp2_with ((go_at_call 30; refine (p_has H12.out J1.out J2.out).mono ?_; rintro e we ⟨rfl, h13, x13⟩; refine stop_of ?_)))
        unfold Stop
        have H13 := Lib.hid h13; have XX13 := Lib.hid (XX12.out.trans x13)
        go_wp2_with fail
        refine ⟨.of x13 _, ?_⟩
        clear x13 h13 H12 XX12
        (rw [wpSegs_grow]; simp only [pickOps, List.map_cons, List.map_nil, List.getD_cons_succ, List.getD_cons_zero]; go_wp2_with ((go_at_call 31; refine (d_has H13.out JT.out J3.out).mono ?_; rintro e wf ⟨rfl, h14, x14⟩; refine stop_of ?_)))
        unfold Stop
        have XX14 := Lib.hid (XX13.out.trans x14)
        go_wp2_with fail
        refine ⟨.of x14 _, ?_⟩
        clear x14 h14 H13 XX13
        (rw [wpSegs_inl]; simp only [pickOps, List.map_cons, List.map_nil, List.getD_cons_succ, List.getD_cons_zero]; (repeat (go_big_quiet_step (fail))); refine wpQuiet_nil ?_)
        rw [wpSegs_nil]
        go_wp2
        go_ret
        rw [EV.out, HE.out]
        refine ⟨⟨_, rfl⟩, ⟨_, _, _, _, _, _, _, _, (HP9.out.ext XX14.out).less fun g hg => .inr hg⟩, fun g hg => ?_⟩
        have g0 := HP.out.lt g hg
        have x04 := X0.out.trans X4.out
        have g4 : g < w4.heap.size := Nat.lt_of_lt_of_le g0 x04.size
        refine (XX14.out.block g (Nat.lt_of_lt_of_le g4 HEB.out.size)).trans ((HEB.out.block g g4 fun hh => ?_).trans (x04.block g g0))
        rcases List.mem_cons.1 hh with e | e
        · exact HP.out.nb (e ▸ hg)
        · rcases List.mem_append.1 e with e | e
          · rw [HXS.out, HNN.out] at e; exact HP.out.ns g (by simpa using e) hg
          · rw [HXR.out, HNN.out] at e; exact HP.out.nr g (by simpa using e) hg
      · clear HST
        obtain ⟨kv2, p2, q1, q2, q3⟩ := d_head HP9.out.st JT.out J3.out
        have Q1 := Lib.hid q1; have Q2 := Lib.hid q2; have Q3 := Lib.hid q3
        clear q1 q2 q3
        have H10 := Lib.hid (HP9.out.st.ext (Ext.drew (Ext.refl wb)))
        have QD := Lib.hid (TextsAt.ext Q2.out (Ext.drew (Ext.refl wb)))
        go_wp2_with fail
        refine wp_region_segs [] [.inl [0, 2, 3, 4, 5], .inr (.inl 1), .inr (.inl 6), .inl [7, 8, 10], .inr (.inl 9), .inr (.inl 11), .inl [12, 13, 14]] (by kernel_rfl) (by kernel_rfl) (fun c a d v w h => by cases d <;> exact h) ?_
        (rw [wpSegs_inl]; simp only [pickOps, List.map_cons, List.map_nil, List.getD_cons_succ, List.getD_cons_zero]; (repeat (go_big_quiet_step (fail))); (refine wpQuiet_get 49 _ rfl _ rfl rb 0 77 _ (replyC T.st T.m kv2 T.fr T.to) rfl (fun W hW => by obtain ⟨y, rfl⟩ := hW; exact y.ext.heap (a := wb.drew) Q1.out (by simp)) (by kernel_rfl) Try.underlying49 rfl size49 ?_; simp only [Act.put, List.setIfInBounds_toArray, List.set_cons_succ, List.set_cons_zero]); (repeat (go_big_quiet_step (fail))); refine wpQuiet_nil ?_)
        (rw [wpSegs_grow]; simp only [pickOps, List.map_cons, List.map_nil, List.getD_cons_succ, List.getD_cons_zero]; go_wp2_with ((go_at_call 16; refine (p_head H10.out J1.out J2.out).mono ?_; rintro e wc ⟨kv1, rfl, r10, h10, x10⟩; refine stop_of ?_)))
        unfold Stop
        have H11 := Lib.hid h10; have R11 := Lib.hid (SRow.texts r10); have XX11 := Lib.hid ((Ext.drew (Ext.refl wb)).trans x10); have Q11 := Lib.hid (TextsAt.ext QD.out x10)
        go_wp2_with fail
        refine ⟨.of x10 _, ?_⟩
        clear r10 h10 x10 QD H10
        (rw [wpSegs_grow]; simp only [pickOps, List.map_cons, List.map_nil, List.getD_cons_succ, List.getD_cons_zero]; go_wp2_with ((go_at_call 32; refine (ralike_ne S.st S.fr S.to T.st T.fr T.to S.m T.m kv1 kv2 _ hst).mono ?_; rintro e wd ⟨rfl, x11⟩; refine stop_of ?_)))
        unfold Stop
        have H12 := Lib.hid (H11.out.ext x11); have XX12 := Lib.hid (XX11.out.trans x11)
        go_wp2_with fail
        refine ⟨.of x11 _, ?_⟩
        clear x11 H11 XX11 Q11 R11
        (rw [wpSegs_inl]; simp only [pickOps, List.map_cons, List.map_nil, List.getD_cons_succ, List.getD_cons_zero]; (repeat (go_big_quiet_step (fail))); refine wpQuiet_nil ?_)
        (rw [wpSegs_grow]; simp only [pickOps, List.map_cons, List.map_nil, List.getD_cons_succ, List.getD_cons_zero]; go_wp2_with (fail))
        refine ⟨.of (Ext.refl _) _, ?_⟩
        (rw [wpSegs_grow]; simp only [pickOps, List.map_cons, List.map_nil, List.getD_cons_succ, List.getD_cons_zero]; go_wp2_with (fail))
        refine ⟨.of (Ext.refl _) _, ?_⟩
        (rw [wpSegs_inl]; simp only [pickOps, List.map_cons, List.map_nil, List.getD_cons_succ, List.getD_cons_zero]; (repeat (go_big_quiet_step (fail))); refine wpQuiet_nil ?_)
        rw [wpSegs_nil]
        go_wp2
        go_ret
        rw [EV.out, HE.out]
        refine ⟨⟨_, rfl⟩, ⟨_, _, _, _, _, _, _, _, (HP9.out.ext XX12.out).less fun g hg => .inr hg⟩, fun g hg => ?_⟩
        have g0 := HP.out.lt g hg
        have x04 := X0.out.trans X4.out
        have g4 : g < w4.heap.size := Nat.lt_of_lt_of_le g0 x04.size
        refine (XX12.out.block g (Nat.lt_of_lt_of_le g4 HEB.out.size)).trans ((HEB.out.block g g4 fun hh => ?_).trans (x04.block g g0))
        rcases List.mem_cons.1 hh with e | e
        · exact HP.out.nb (e ▸ hg)
        · rcases List.mem_append.1 e with e | e
          · rw [HXS.out, HNN.out] at e; exact HP.out.ns g (by simpa using e) hg
          · rw [HXR.out, HNN.out] at e; exact HP.out.nr g (by simpa using e) hg
end
end Go.Proofs.Ytpangoddbfiagaa
namespace Go.Proofs.Ytpangoddbfiagaa
open Go.RowKit Go.Maps Go.ChangeMaps
set_option linter.unusedVariables false
set_option linter.unusedSimpArgs false

section
variable {w0 w : World} {pb b x k : Nat} {Lx : Nat → Prop} {vs : List Vn} {ss : List Sn} {hl : List (Value × Bs)}
set_option maxRecDepth 100000 in
set_option maxHeartbeats 4000000 in
theorem doT_k6 (h : PlayT w0 w pb b x k vs ss hl Lx) (hk : k ≤ 1000) {obj tt ten bs fo mt nt : Bs} {tw keep mw nw : Bool} {mod len hav fr wh er ff fto n : Int} {keys : List Bs} {kv bv : Value} {st : Nat} (ha : ActAt w0 ⟨6, obj, ⟨tt, tw, mod, len, hav, fr, wh, er, keys, ten, keep⟩, kv, bs, bv, ⟨fo, ff, fto, mt, mw, nt, nw⟩, st, n⟩) :
    Calls Try.prog 23 #[.pointer (some ⟨pb, 0, none⟩), .agg (actC ⟨6, obj, ⟨tt, tw, mod, len, hav, fr, wh, er, keys, ten, keep⟩, kv, bs, bv, ⟨fo, ff, fto, mt, mw, nt, nw⟩, st, n⟩).toArray] w (DoRT w0 w pb b x (k + 1) (doV vs ⟨6, obj, ⟨tt, tw, mod, len, hav, fr, wh, er, keys, ten, keep⟩, kv, bs, bv, ⟨fo, ff, fto, mt, mw, nt, nw⟩, st, n⟩) (doS vs ss ⟨6, obj, ⟨tt, tw, mod, len, hav, fr, wh, er, keys, ten, keep⟩, kv, bs, bv, ⟨fo, ff, fto, mt, mw, nt, nw⟩, st, n⟩) hl Lx) := by
  obtain ⟨N, ts, sa, ra, SA, sc, RA, rc, h⟩ := h
  have hg' := Lib.hid (good_do h.good hk (a := ⟨6, obj, ⟨tt, tw, mod, len, hav, fr, wh, er, keys, ten, keep⟩, kv, bs, bv, ⟨fo, ff, fto, mt, mw, nt, nw⟩, st, n⟩) ha.z.bytes)
  obtain ⟨hz, hkt, hkl, hbt, hbl, hst⟩ := ha
  simp only at hkt hkl hbt hbl hst
  obtain ⟨nu, hnu⟩ : ∃ n, n = bs.length := ⟨_, rfl⟩
  obtain ⟨UA, uc, rfl⟩ : ∃ UA uc, bv = .slice UA nu uc := by obtain ⟨A, c, e, _⟩ := hbt; exact ⟨A, c, by rw [e, hnu]; simp⟩
  obtain ⟨nk, hnk⟩ : ∃ nk, nk = keys.length := ⟨_, rfl⟩
  obtain ⟨KA, KC, rfl⟩ : ∃ KA KC, kv = .slice KA nk KC := by obtain ⟨A, c, e, _⟩ := hkt; exact ⟨A, c, by rw [e, hnk]⟩
  have HZ := Lib.hid hz; have HKT := Lib.hid hkt; have HKL := Lib.hid hkl; have HBT := Lib.hid hbt; have HBL := Lib.hid hbl
  have HK := Lib.hid hk; have HP := Lib.hid h
  have HST := Lib.hid hst
  clear hz hkt hkl hbt hbl hk hnu hnk h hst
  simp only [actC]
  go_enter Try.func23, Try.ntmps23
  go_wp2_with (refine wpList_boxA 40 rfl _ rfl #[.int .i64 6, .string ⟨obj.toArray⟩, .string ⟨tt.toArray⟩, .bool tw, .int .i64 mod, .int .i64 len, .int .i64 hav, .int .i64 fr, .int .i64 wh, .int .i64 er, .slice KA nk KC, .string ⟨ten.toArray⟩, .bool keep, .slice UA nu uc, .string ⟨fo.toArray⟩, .int .i64 ff, .int .i64 fto, .string ⟨mt.toArray⟩, .bool mw, .string ⟨nt.toArray⟩, .bool nw, .int .u8 st, .int .i64 n] rfl ?_; intro W0 x0 n0 s0; refine stop_of ?_)
  unfold Stop
  obtain ⟨ab, hab⟩ : ∃ p, p = w.heap.size := ⟨_, rfl⟩
  rw [← hab] at n0 ⊢
  have H0 := Lib.hid (HP.out.box x0 (Nat.le_of_eq hab.symm) (blk_lt n0))
  have N0 := Lib.hid n0
  have X0 := Lib.hid x0
  have k0 := blk_cell n0 0
  simp at k0
  clear x0 n0 s0 hab
  obtain ⟨nn, hnn⟩ : ∃ n, n = ss.length := ⟨_, rfl⟩
  have HNN := Lib.hid hnn
  have HPB := Lib.hid (show W0.heap[pb]? = some (.cells #[ptrV b, ptrV x, .slice SA nn sc, .slice RA nn rc] 68) from by rw [hnn]; exact H0.out.blk)
  have hnl : nn ≤ 10000 := by have := H0.out.good.ns; have := HK.out; omega
  have kp := blk_cell HPB.out 2
  simp at kp
  clear hnn
  have EV := Lib.hid (show doV vs ⟨(6 : Int), obj, ⟨tt, tw, mod, len, hav, fr, wh, er, keys, ten, keep⟩, .slice KA nk KC, bs, .slice UA nu uc, ⟨fo, ff, fto, mt, mw, nt, nw⟩, st, n⟩ = vs by simp [doV])
  by_cases h0 : (0 : Int) < nn
  · have hs6 : st % nn < ss.length := by rw [← HNN.out]; exact Nat.mod_lt _ (by omega)
    obtain ⟨j, hj⟩ : ∃ j, j = st % nn := ⟨_, rfl⟩
    have hjm := Lib.hid hj
    obtain ⟨S, hS⟩ : ∃ S, S = ss[st % nn] := ⟨_, rfl⟩
    have J1 := Lib.hid (show ss[j]? = some S by rw [hS, hj]; simp [hs6])
    have ES := Lib.hid (show doS vs ss ⟨(6 : Int), obj, ⟨tt, tw, mod, len, hav, fr, wh, er, keys, ten, keep⟩, .slice KA nk KC, bs, .slice UA nu uc, ⟨fo, ff, fto, mt, mw, nt, nw⟩, st, n⟩ = ss.set j (movS vs S n) by
      unfold doS
      rw [if_neg (by simp only; decide), if_pos rfl]
      have e : st % ss.length = j := by rw [hj, HNN.out]
      simp only [e, J1.out])
    rw [EV.out, ES.out] at hg'
    obtain ⟨sb, J2⟩ := H0.out.st.at J1.out
    have htl : ts.length = ss.length := HP.out.tl
    obtain ⟨T, JT⟩ : ∃ T, ts[j]? = some T := ⟨ts[j]'(by rw [htl, hj]; exact hs6), by simp [htl, hj, hs6]⟩
    obtain ⟨rb, J3⟩ := H0.out.st.rat JT
    have JT := Lib.hid JT
    clear htl
    have hjn : j < nn := by rw [hj]; exact Nat.mod_lt _ (by omega)
    obtain ⟨g1, rfl, c1, l1⟩ := row_ptr (by rw [HNN.out]; exact H0.out.srow : W0.ownsRow w0.heap.size 45 1 (.slice SA nn sc) nn (sa.map ptrV)) J2 hjn
    obtain ⟨g2, rfl, c2, l2⟩ := row_ptr (by rw [HNN.out]; exact H0.out.rrow : W0.ownsRow w0.heap.size 73 1 (.slice RA nn rc) nn (ra.map ptrV)) J3 hjn
    have J2 := Lib.hid J2; have J3 := Lib.hid J3
    have CC1 := Lib.hid c1; have CC2 := Lib.hid c2
    clear hj hS c1 c2
    go_wp2_with fail
    have GP : ∀ y : Grow [] W0.drew, y.v.cell? ⟨pb, 2, none⟩ = some (.slice (some ⟨g1, 0, none⟩) nn sc) := fun y => blk_cell (y.ext.heap (a := W0.drew) HPB.out (by simp)) 2
    have GA : ∀ y : Grow [] W0.drew, y.v.cell? ⟨ab, 21, none⟩ = some (.int .u8 st) := fun y => blk_cell (y.ext.heap (a := W0.drew) N0.out (by simp)) 21
    refine wp_region_segs [] [.inl [0, 1, 2, 3, 4, 5, 6, 7, 8, 9]] (by kernel_rfl) (by kernel_rfl) (fun c a d v w h => by cases d <;> exact h) ?_
    (rw [wpSegs_inl]; simp only [pickOps, List.map_cons, List.map_nil, List.getD_cons_succ, List.getD_cons_zero]; (repeat (go_big_quiet_step (fail))); refine wpQuiet_nil ?_)
    clear GP GA
    rw [wpSegs_nil]
    go_wp2_with fail
    have ew : (wrap64 (st : Int)).tmod (nn : Int) = (j : Int) := by
      have h1 : wrap64 (st : Int) = st := by have := HST.out; unfold wrap64; omega
      rw [h1, hjm.out]; exact (Int.ofNat_tmod st nn).symm
    rw [ew]
    clear ew kp hnl h0 hs6
    obtain ⟨W1, hW1⟩ : ∃ W, W = W0.drew := ⟨_, rfl⟩
    rw [← hW1]
    have XD := Lib.hid (show Ext W0 W1 from by rw [hW1]; exact Ext.drew (Ext.refl W0))
    have H1 := Lib.hid (H0.out.ext XD.out)
    have HPB1 := Lib.hid (XD.out.heap HPB.out); have N1 := Lib.hid (XD.out.heap N0.out)
    have CC1 := Lib.hid (XD.out.cell CC1.out); have CC2 := Lib.hid (XD.out.cell CC2.out)
    clear hW1
    obtain ⟨LL, hLL⟩ : ∃ LL, LL = playL pb (.slice (some ⟨g1, 0, none⟩) ss.length sc) (.slice (some ⟨g2, 0, none⟩) ss.length rc) (fun g => g = ab ∨ Lx g) := ⟨_, rfl⟩
    have HLL := Lib.hid hLL
    have M1 := Lib.hid (show LL pb from by rw [hLL]; exact .inl rfl)
    have M2 := Lib.hid (show LL ab from by rw [hLL]; exact .inr (.inr (.inr (.inl rfl))))
    have M3 := Lib.hid (show LL g1 from by rw [hLL]; exact .inr (.inl rfl))
    have M4 := Lib.hid (show LL g2 from by rw [hLL]; exact .inr (.inr (.inl rfl)))
    have HD := Lib.hid (show Pl2 w0 W1.drew b x N LL vs ss sa [] ts ra hl from by rw [hLL]; exact (H1.out.ext (Ext.drew (Ext.refl W1))).st)
    have HAT := Lib.hid (show T.at_ ≤ 1000000 from H1.out.tz T (List.mem_of_getElem? JT.out))
    clear hLL
    have GP : ∀ y : GrowR (keepP LL) W1.drew, y.v.cell? ⟨pb, 2, none⟩ = some (.slice (some ⟨g1, 0, none⟩) nn sc) := fun y => blk_cell ((y.ext pb M1.out).trans HPB1.out) 2
    have GA : ∀ y : GrowR (keepP LL) W1.drew, y.v.cell? ⟨ab, 22, none⟩ = some (.int .i64 n) := fun y => blk_cell ((y.ext ab M2.out).trans N1.out) 22
    have GR : ∀ y : GrowR (keepP LL) W1.drew, y.v.cell? ⟨g1, j, none⟩ = some (.pointer (some ⟨sb, 0, none⟩)) := fun y => (World.cell?_of_block (y.ext g1 M3.out)).trans CC1.out
    refine wp_region_segsR (keepP LL) [.inl [0, 1, 2, 3, 4, 5, 6, 7, 8], .inr (.inl 9), .inl [10, 11, 12, 13, 14]] (by kernel_rfl) (by kernel_rfl) (fun c a d v w h => by cases d <;> exact h) ?_
    (rw [wpSegsR_inl]; simp only [pickOps, List.map_cons, List.map_nil, List.getD_cons_succ, List.getD_cons_zero]; (repeat (go_big_quiet_step (fail))); refine wpQuiet_nil ?_)
    clear GP GA GR
    (rw [wpSegsR_grow]; simp only [pickOps, List.map_cons, List.map_nil, List.getD_cons_succ, List.getD_cons_zero]; go_wp2_with ((go_at_call 18; refine (p_take HD.out J1.out J2.out n).mono ?_; rintro e w3 ⟨v3, rfl, r3, h3, q3⟩; refine stop_of ?_)))
    unfold Stop
    have K3 := Lib.hid (show KeepP LL W1 w3 from q3); have H3 := Lib.hid h3
    go_wp2_with fail
    refine ⟨q3, ?_⟩
    clear q3 h3 r3 HD
    (rw [wpSegsR_inl]; simp only [pickOps, List.map_cons, List.map_nil, List.getD_cons_succ, List.getD_cons_zero]; (repeat (go_big_quiet_step (fail))); refine wpQuiet_nil ?_)
    rw [wpSegsR_nil]
    go_wp2_with fail
    have HD := Lib.hid (H3.out.ext (Ext.drew (Ext.refl w3)))
    have GP : ∀ y : GrowR (keepP LL) w3.drew, y.v.cell? ⟨pb, 3, none⟩ = some (.slice (some ⟨g2, 0, none⟩) nn rc) := fun y => blk_cell ((y.ext pb M1.out).trans ((K3.out pb M1.out).trans HPB1.out)) 3
    have GA : ∀ y : GrowR (keepP LL) w3.drew, y.v.cell? ⟨ab, 22, none⟩ = some (.int .i64 n) := fun y => blk_cell ((y.ext ab M2.out).trans ((K3.out ab M2.out).trans N1.out)) 22
    have GR : ∀ y : GrowR (keepP LL) w3.drew, y.v.cell? ⟨g2, j, none⟩ = some (.pointer (some ⟨rb, 0, none⟩)) := fun y => (World.cell?_of_block ((y.ext g2 M4.out).trans (K3.out g2 M4.out))).trans CC2.out
    refine wp_region_segsR (keepP LL) [.inl [0, 1, 2, 3, 4, 5, 6, 7, 8], .inr (.inl 9), .inl [10, 11, 12, 13, 14]] (by kernel_rfl) (by kernel_rfl) (fun c a d v w h => by cases d <;> exact h) ?_
    (rw [wpSegsR_inl]; simp only [pickOps, List.map_cons, List.map_nil, List.getD_cons_succ, List.getD_cons_zero]; (repeat (go_big_quiet_step (fail))); refine wpQuiet_nil ?_)
    clear GP GA GR
    (rw [wpSegsR_grow]; simp only [pickOps, List.map_cons, List.map_nil, List.getD_cons_succ, List.getD_cons_zero]; go_wp2_with ((go_at_call 51; refine (d_take HD.out JT.out J3.out HAT.out n).mono ?_; rintro e w4 ⟨v4, rfl, r4, h4, q4⟩; refine stop_of ?_)))
    unfold Stop
    have K4 := Lib.hid (show KeepP LL W1 w4 from K3.out.trans q4); have H4 := Lib.hid h4
    have c1 := run_str (H4.out.bytes List.mem_cons_self)
    have c2 := run_str r4.at_
    go_wp2_with fail
    refine ⟨q4, ?_⟩
    clear q4 h4 r4 HD
    (rw [wpSegsR_inl]; simp only [pickOps, List.map_cons, List.map_nil, List.getD_cons_succ, List.getD_cons_zero]; (repeat (go_big_quiet_step (fail))); refine wpQuiet_nil ?_)
    rw [wpSegsR_nil]
    go_wp2
    all_goals
      go_ret
      rw [EV.out, ES.out]
      have hK := K4.out
      have hP := H4.out
      rw [HLL.out] at hK hP
      exact do_finT HP.out (X0.out.trans XD.out) H1.out hP hK (fun p hp => List.mem_cons_of_mem _ hp) (by have := HP.out.hN; omega) (by simp) hg'.out (by rw [List.length_set]; exact HP.out.tl) (fun t ht => (by rcases List.mem_or_eq_of_mem_set ht with e | e; exact HP.out.tz t e; rw [e, movS_nil]; exact HAT.out))
  · have hn0 : ss = [] := List.eq_nil_of_length_eq_zero (by rw [← HNN.out]; omega)
    have ES := Lib.hid (show doS vs ss ⟨(6 : Int), obj, ⟨tt, tw, mod, len, hav, fr, wh, er, keys, ten, keep⟩, .slice KA nk KC, bs, .slice UA nu uc, ⟨fo, ff, fto, mt, mw, nt, nw⟩, st, n⟩ = ss by
      unfold doS
      rw [if_neg (by simp only; decide), if_pos rfl, hn0]
      rfl)
    clear hn0
    go_wp2
    go_ret
    rw [EV.out, ES.out]
    exact ⟨⟨_, rfl⟩, PlayT.more ⟨N, ts, sa, ra, SA, sc, RA, rc, HP.out.ext X0.out⟩, KeepP.ext X0.out HP.out.lt⟩
/-- do, beside a document without objects. -/
theorem doT_any (h : PlayT w0 w pb b x k vs ss hl Lx) (hk : k ≤ 1000) {a : ActP} (ha : ActAt w0 a) (h1 : a.kind ≠ 1) : Calls Try.prog 23 #[.pointer (some ⟨pb, 0, none⟩), .agg (actC a).toArray] w (DoRT w0 w pb b x (k + 1) (doV vs a) (doS vs ss a) hl Lx) := by
  obtain ⟨kd, obj, ⟨tt, tw, mod, len, hav, fr, wh, er, keys, ten, keep⟩, kv, bs, bv, ⟨fo, ff, fto, mt, mw, nt, nw⟩, st, n⟩ := a
  have e1 : ¬ kd = 1 := h1
  by_cases e2 : kd = 2
  · subst e2; exact doT_k2 h hk ha
  by_cases e3 : kd = 3
  · subst e3; exact doT_k3 h hk ha
  by_cases e4 : kd = 4
  · subst e4; exact doT_k4 h hk ha
  by_cases e5 : kd = 5
  · subst e5; exact doT_k5 h hk ha
  by_cases e6 : kd = 6
  · subst e6; exact doT_k6 h hk ha
  exact doT_k0 h hk ha e1 e2 e3 e4 e5 e6
end
end Go.Proofs.Ytpangoddbfiagaa
