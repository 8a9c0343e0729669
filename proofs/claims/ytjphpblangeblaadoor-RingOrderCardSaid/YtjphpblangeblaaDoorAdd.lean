/- The program's Add, walked (printed by gen_add.py). -/
import Derived.Test.YtjphpblangeblaaDoorKeys
namespace Go.Proofs.YtjphpblangeblaaDoor
open Go.RowKit Go.Maps Go.ChangeMaps
set_option linter.unusedVariables false
set_option linter.unusedSimpArgs false
/-- The table of powers of ten, as it is laid. -/
def Tab (w : World) : Prop := w.var? Tryd.prog "internal/strconv.uint64pow10" = some (((List.range 20).map fun i => ((10 ^ i : Nat) : Int)).map fun z => Value.int .u64 z).toArray
theorem gTab : Tryd.prog.globalNamed "internal/strconv.uint64pow10" = some 0 := by kernel_rfl
theorem Tab.lt {w : World} (h : Tab w) : 0 < w.heap.size := by
  unfold Tab World.var? at h
  rw [gTab, Option.bind_some] at h
  rcases Nat.eq_zero_or_pos w.heap.size with e | e
  · rw [Array.getElem?_eq_none (by omega)] at h; cases h
  · exact e
theorem Tab.same {w w' : World} (h : Tab w) (hs : w'.heap[0]? = w.heap[0]?) : Tab w' := by
  unfold Tab World.var? at *
  rw [gTab, Option.bind_some] at *
  rw [hs]; exact h
theorem Tab.ext {w w' : World} (h : Tab w) (hx : Ext w w') : Tab w' := h.same (hx.block 0 h.lt)
theorem Tab.extP {own : Nat → Prop} {w w' : World} {B : Nat} (h : Tab w) (hx : ExtP own w w') (hl : ∀ g, own g → B ≤ g) (hB : 1 ≤ B) : Tab w' := h.same (hx.block 0 h.lt fun hh => by have := hl 0 hh; omega)
/-- What strconv.Itoa does. -/
def ItoaC : Prop := ∀ (i : Nat) (w : World), i ≤ 1000000 → Tab w → Calls Tryd.prog 32 #[.int .i64 i] w fun e w' => e = .returned (.string ⟨(decL i).toArray⟩) ∧ Ext w w'
/-- What slices.SortFunc does to points. -/
def SortC : Prop := ∀ (w : World) (B : Nat) (sv : Value) (P : List Pt), PRow w B sv P → P.length ≤ 1000000 → 0 < P.length → Calls Tryd.prog 33 #[sv, .func (.func 34) #[] #[]] w fun e w' => e = .returned (.tuple #[]) ∧ (∃ Q, Q.Perm P ∧ Rise Q ∧ PRow w' B sv Q) ∧ w.grownBy w' sv.ownBlock

/-- The points are being laid. -/
structure AddS (w wr : World) (B b N m each : Nat) (own : Nat → Prop) (L : NL) (P : List Pt) (n : Nm) (k i : Nat) (sv : Value) : Prop where
  blk : wr.heap[b]? = some (.cells #[.int .i64 each, .map (some m), sv] 62 (0, 0))
  names : GMap naE wr m (N + 1) (upd (ptsF each L) n (some (each * k)))
  row : PRow wr B sv (P ++ newP pd n i)
  ob : own b
  om : grownOwn own w wr m
  os : ∀ g, sv.ownBlock = some g → grownOwn own w wr g
  x : ExtP own w wr
  low : ∀ g, own g → B ≤ g
  szB : B ≤ w.heap.size
  lt : ∀ g, own g → g < w.heap.size
section
variable {w wr w' : World} {B b N m each M : Nat} {own : Nat → Prop} {L : NL} {P : List Pt} {n : Nm} {k i : Nat} {sv sv' : Value}
theorem grownOwn.sub (hx : wr.heap.size ≤ w'.heap.size) {g : Nat} (h : grownOwn own w wr g) : grownOwn own w w' g := by
  rcases h with h | ⟨h1, h2⟩
  · exact .inl h
  · exact .inr ⟨h1, by omega⟩
theorem AddS.far (h : AddS w wr B b N m each own L P n k i sv) : sv.ownBlock ≠ some b := fun e => by
  obtain ⟨cur, h1, _⟩ := h.row.kind e
  rw [h.blk] at h1
  injection h1 with h1
  injection h1 with _ h1
  exact absurd h1 (by decide)
theorem AddS.mapFar (h : AddS w wr B b N m each own L P n k i sv) : b ≠ m ∧ sv.ownBlock ≠ some m := by
  obtain ⟨es, cl, e2⟩ := h.names.at_
  refine ⟨?_, fun e => ?_⟩
  · rintro rfl; rw [h.blk] at e2; cases e2
  · obtain ⟨cur, h1, _⟩ := h.row.kind e
    rw [h1] at e2; cases e2
theorem AddS.start {mo : Option Nat} {W4 : World} (hI : RgIx w B b N own each L P mo sv) (hBs : B ≤ w.heap.size) (hx : ExtP own w wr) (hb : wr.heap[b]? = some (.cells #[.int .i64 each, .map (some m), sv] 62 (0, 0))) (hm : grownOwn own w wr m) (hr : PRow wr B sv P) (hg : GMap naE W4 m (N + 1) (upd (ptsF each L) n (some M))) (hM : M = each * k) (ht : wr.mapTurned W4 m) (hgw : ∃ es cl, wr.heap[m]? = some (.map es cl)) : AddS w W4 B b N m each own L P n k 0 sv := by
  have x2 := turned_ext ht
  obtain ⟨es, cl, e2⟩ := hgw
  have hbm : b ≠ m := by rintro rfl; rw [hb] at e2; cases e2
  have hsm : sv.ownBlock ≠ some m := fun e => by
    obtain ⟨cur, h1, _⟩ := hr.kind e
    rw [h1] at e2; cases e2
  refine ⟨(x2.block b (blk_lt hb) (by simpa using hbm)).trans hb, by rw [← hM]; exact hg, ?_, hI.ob, grownOwn.sub x2.size hm, fun g e => .inl (hI.os g e), ?_, hI.low, hBs, hI.lt⟩
  · have e : P ++ newP pd n 0 = P := by simp [newP]
    rw [e]
    exact hr.extB x2 fun g hg e => hsm (by rw [e]; simpa using hg)
  · exact hx.trans (own1 := grownOwn own w wr) (ExtP.ofB x2 fun g hh => .inl (by rw [show g = m by simpa using hh]; exact hm)) fun i hi => by
      rcases hi with hi | hi
      · exact .inl hi
      · exact .inr hi.1
/-- A point more. -/
theorem AddS.step (h : AddS w wr B b N m each own L P n k i sv) {w1 w2 : World} (hx : Ext wr w1) (hg : w1.grownBy w2 sv.ownBlock) (hr : PRow w2 B sv' (P ++ newP pd n i ++ [⟨pd i n, n⟩])) (hw : ∀ g, sv'.ownBlock = some g → sv.ownBlock = some g ∨ w1.heap.size ≤ g)
    (hx3 : ExtB [b] w2 w') (hb : w'.heap[b]? = some (.cells #[.int .i64 each, .map (some m), sv'] 62 (0, 0))) : AddS w w' B b N m each own L P n k (i + 1) sv' := by
  have hgb := grownBy_extB hg
  have s1 := hx.size; have s2 := hg.size; have s3 := hx3.size
  obtain ⟨f1, f2⟩ := h.mapFar
  have hbn : ∀ g, sv'.ownBlock = some g → g ≠ b := fun g e hh => by
    subst hh
    obtain ⟨cur, h1, _⟩ := hr.kind e
    have h2 : w2.heap[g]? = wr.heap[g]? := (hg.block g (Nat.lt_of_lt_of_le (blk_lt h.blk) s1) (fun e2 => h.far e2.symm)).trans (hx.block g (blk_lt h.blk))
    rw [h2, h.blk] at h1
    injection h1 with h1
    injection h1 with _ h1
    exact absurd h1 (by decide)
  refine ⟨hb, ?_, ?_, h.ob, grownOwn.sub (by omega) h.om, fun g e => ?_, ?_, h.low, h.szB, h.lt⟩
  · obtain ⟨es, cl, e2⟩ := h.names.at_
    have hm : m < wr.heap.size := blk_lt e2
    exact h.names.same (((hx3.block m (by omega) (by simpa using Ne.symm f1)).trans (hg.block m (by omega) (fun e => f2 e.symm))).trans (hx.block m hm))
  · rw [newP_snoc, ← List.append_assoc]
    exact hr.extB hx3 fun g hg e => hbn g e (by simpa using hg)
  · rcases hw g e with h1 | h1
    · exact grownOwn.sub (by omega) (h.os g h1)
    · obtain ⟨cur, h2, _⟩ := hr.kind e
      have := blk_lt h2
      have := h.x.size
      exact .inr ⟨by omega, by omega⟩
  · have x1 : ExtP own w w1 := h.x.trans (ExtP.of (own := own) hx) fun i hi => .inl hi
    have x2 : ExtP own w w2 := x1.trans (own1 := grownOwn own w wr) (ExtP.ofB hgb fun g hh => .inl (h.os g (by simpa using hh))) fun i hi => by
      rcases hi with hi | hi
      · exact .inl hi
      · exact .inr hi.1
    exact x2.trans (own1 := own) (ExtP.ofB hx3 fun g hh => .inl (by rw [show g = b by simpa using hh]; exact h.ob)) fun i hi => .inl hi
/-- All of it. -/
theorem AddS.fin {mo : Option Nat} {sv0 : Value} (h : AddS w wr B b N m each own L P n k (each * k) sv) (hI : RgIx w B b N own each L P mo sv0) (hc : addC L n k = 0) (hN : N + 1 ≤ 100) {Q : List Pt} (hp : Q.Perm (P ++ newP pd n (each * k))) (hr : Rise Q) (hq : PRow w' B sv Q) (hg : wr.grownBy w' sv.ownBlock) :
    RgI w' B b (N + 1) (grownOwn own w w') each (addL L n k) ∧ ExtP own w w' := by
  have hgb := grownBy_extB hg
  obtain ⟨f1, f2⟩ := h.mapFar
  have s1 := hg.size
  have x2 : ExtP own w w' := h.x.trans (own1 := grownOwn own w wr) (ExtP.ofB hgb fun g hh => .inl (h.os g (by simpa using hh))) fun i hi => by
    rcases hi with hi | hi
    · exact .inl hi
    · exact .inr hi.1
  obtain ⟨es, cl, e2⟩ := h.names.at_
  have hm : m < wr.heap.size := blk_lt e2
  have eL : addL L n k = L ++ [(n, k)] := by unfold addL; rw [if_pos hc]; rfl
  have hk := addC_ok hc
  refine ⟨⟨Q, some m, sv, ⟨(hg.block b (blk_lt h.blk) (fun e => h.far e.symm)).trans h.blk, ?_, hq, .inl h.ob, fun m' e => ?_, fun g e => grownOwn.sub s1 (h.os g e), fun g hg => ?_, fun g hg => ?_, hI.e1, hI.ok.add n k, ?_, hr, ?_, hN⟩⟩, x2⟩
  · refine .inr ⟨m, rfl, ?_⟩
    have e : upd (ptsF each L) n (some (each * k)) = ptsF each (addL L n k) := by
      funext x
      unfold upd ptsF
      rw [eL]
      have hw := wt_add hI.ok hc x
      have e3 : (k : Int).toNat = k := rfl
      rw [e3] at hw
      rw [hw]
      by_cases ex : x = n
      · subst ex; simp; omega
      · simp [ex]
    rw [← e]
    exact h.names.same (hg.block m hm (fun e => f2 e.symm))
  · cases e; exact grownOwn.sub s1 h.om
  · rcases hg with hg | hg
    · have := h.lt g hg; have := h.x.size; omega
    · exact hg.2
  · rcases hg with hg | hg
    · exact h.low g hg
    · have := h.szB; omega
  · rw [eL]; exact pts_add hI.pts hp
  · rw [hp.length_eq, List.length_append, newP_len]
    have h1 := hI.many; have h2 := hI.e1.2
    have h3 : each * k ≤ 200 * 20 := Nat.mul_le_mul h2 (by omega)
    omega
end
theorem grownOwn_self {own : Nat → Prop} {w : World} {g : Nat} (h : grownOwn own w w g) : own g := by
  rcases h with h | h
  · exact h
  · omega
theorem RgIx.sub {w : World} {B b N M each : Nat} {own own' : Nat → Prop} {L : NL} {P : List Pt} {mo : Option Nat} {sv : Value} (h : RgIx w B b N own each L P mo sv) (hM : N ≤ M) (hM2 : M ≤ 100) (h1 : ∀ g, own g → own' g) (h2 : ∀ g, own' g → g < w.heap.size) (h3 : ∀ g, own' g → B ≤ g) : RgIx w B b M own' each L P mo sv :=
  ⟨h.blk, h.names.more hM, h.row, h1 _ h.ob, fun m e => h1 _ (h.om m e), fun g e => h1 _ (h.os g e), h2, h3, h.e1, h.ok, h.pts, h.srt, Nat.le_trans h.many (Nat.mul_le_mul_left _ hM), hM2⟩
theorem RgIx.stay {w : World} {B b N each : Nat} {own : Nat → Prop} {L : NL} {P : List Pt} {mo : Option Nat} {sv : Value} (h : RgIx w B b N own each L P mo sv) (hN : N + 1 ≤ 100) : RgI w B b (N + 1) (grownOwn own w w) each L :=
  ⟨P, mo, sv, h.sub (Nat.le_succ _) hN (fun g hg => .inl hg) (fun g hg => h.lt g (grownOwn_self hg)) (fun g hg => h.low g (grownOwn_self hg))⟩
section
variable {w : World} {B b N each : Nat} {own : Nat → Prop} {L : NL} {n : Nm} {P : List Pt} {mo : Option Nat} {sv : Value}
set_option maxRecDepth 100000 in
set_option maxHeartbeats 2000000 in
/-- What may not be. -/
theorem add_arg (h : RgIx w B b N own each L P mo sv) (hn : n.length ≤ 1000000) (hN : N + 1 ≤ 100) (k : Int) (hc : rightN n = false ∨ k < 1 ∨ 20 < k) : Calls Tryd.prog 16 #[.pointer (some ⟨b, 0, none⟩), .string ⟨n.toArray⟩, .int .i64 k] w fun e w' => e = .returned (.int .i64 (addC L n k)) ∧ RgI w' B b (N + 1) (grownOwn own w w') each (addL L n k) ∧ ExtP own w w' := by
  have e0 : addC L n k = 1 := by unfold addC; rw [if_pos hc]
  have e1 : addL L n k = L := by unfold addL; rw [e0]; rfl
  rw [e0, e1]
  have HI := Lib.hid (h.stay hN)
  have HR := right_any n w hn
  clear h e0 e1
  cases hr : rightN n with
  | false =>
    rw [hr] at HR
    have HR := Lib.hid HR
    clear hr hc
    go_enter Tryd.func16, Tryd.ntmps16
    go_wp2_with (go_at_call 31; refine HR.out.mono ?_; rintro e w1 ⟨rfl, rfl⟩)
    go_ret
    exact ⟨rfl, HI.out, .of (Ext.refl _)⟩
  | true =>
    rw [hr] at HR hc
    have HR := Lib.hid HR
    clear hr
    by_cases h1 : k < 1
    · clear hc
      go_enter Tryd.func16, Tryd.ntmps16
      go_wp2_with (go_at_call 31; refine HR.out.mono ?_; rintro e w1 ⟨rfl, rfl⟩)
      go_ret
      exact ⟨rfl, HI.out, .of (Ext.refl _)⟩
    · have h2 : 20 < k := by
        rcases hc with hc | hc | hc
        · cases hc
        · exact absurd hc h1
        · exact hc
      clear hc
      go_enter Tryd.func16, Tryd.ntmps16
      go_wp2_with (go_at_call 31; refine HR.out.mono ?_; rintro e w1 ⟨rfl, rfl⟩)
      go_ret
      exact ⟨rfl, HI.out, .of (Ext.refl _)⟩
set_option maxRecDepth 100000 in
set_option maxHeartbeats 2000000 in
/-- What is there already. -/
theorem add_twice (h : RgIx w B b N own each L P mo sv) (hn : n.length ≤ 1000000) (hN : N + 1 ≤ 100) (k : Int) (hr : rightN n = true) (h1 : 1 ≤ k) (h2 : k ≤ 20) (hw : wt L n ≠ 0) : Calls Tryd.prog 16 #[.pointer (some ⟨b, 0, none⟩), .string ⟨n.toArray⟩, .int .i64 k] w fun e w' => e = .returned (.int .i64 (addC L n k)) ∧ RgI w' B b (N + 1) (grownOwn own w w') each (addL L n k) ∧ ExtP own w w' := by
  have e0 : addC L n k = 7 := by unfold addC; rw [if_neg (by rw [hr]; simp; omega), if_pos hw]
  have e1 : addL L n k = L := by unfold addL; rw [e0]; rfl
  rw [e0, e1]
  have HR := right_any n w hn
  rw [hr] at HR
  have HR := Lib.hid HR
  have hl := h.names.look_ok Tryd.underlying60 (zeroI w) hn
  have ef : ptsF each L n = some (each * wt L n) := by unfold ptsF; rw [if_neg hw]
  rw [ef] at hl
  have k1 := blk_cell h.blk 1
  simp at k1
  have HI := Lib.hid (h.stay hN)
  clear h e0 e1 hr hw ef
  obtain ⟨vv, hvv⟩ : ∃ v, v = naE.enc (each * wt L n) := ⟨_, rfl⟩
  simp only at hl
  rw [← hvv] at hl
  clear hvv
  go_enter Tryd.func16, Tryd.ntmps16
  go_wp2_with (go_at_call 31; refine HR.out.mono ?_; rintro e w1 ⟨rfl, rfl⟩)
  go_ret
  exact ⟨rfl, HI.out, .of (Ext.refl _)⟩
set_option maxRecDepth 100000 in
set_option maxHeartbeats 2000000 in
/-- Too many. -/
theorem add_many (h : RgIx w B b N own each L P mo sv) (hn : n.length ≤ 1000000) (hN : N + 1 ≤ 100) (k : Int) (hr : rightN n = true) (h1 : 1 ≤ k) (h2 : k ≤ 20) (hw : wt L n = 0) (h64 : L.length = 64) : Calls Tryd.prog 16 #[.pointer (some ⟨b, 0, none⟩), .string ⟨n.toArray⟩, .int .i64 k] w fun e w' => e = .returned (.int .i64 (addC L n k)) ∧ RgI w' B b (N + 1) (grownOwn own w w') each (addL L n k) ∧ ExtP own w w' := by
  have e0 : addC L n k = 4 := by unfold addC; rw [if_neg (by rw [hr]; simp; omega), if_neg (by simp [hw]), if_pos h64]
  have e1 : addL L n k = L := by unfold addL; rw [e0]; rfl
  rw [e0, e1]
  have HR := right_any n w hn
  rw [hr] at HR
  have HR := Lib.hid HR
  have hl := h.names.look_ok Tryd.underlying60 (zeroI w) hn
  have ef : ptsF each L n = none := by unfold ptsF; rw [if_pos hw]
  rw [ef] at hl
  have hlen := names_len h.names h.e1.1 h.ok
  rw [h64] at hlen
  have k1 := blk_cell h.blk 1
  simp at k1
  have HI := Lib.hid (h.stay hN)
  clear h e0 e1 hr hw ef h64
  simp only at hl
  have hl : (Instr.lookup 60 (.map mo) (.string ⟨n.toArray⟩) true).run Tryd.prog w = .ok (.tuple #[.int .i64 0, .bool false]) w := hl
  go_enter Tryd.func16, Tryd.ntmps16
  go_wp2_with (go_at_call 31; refine HR.out.mono ?_; rintro e w1 ⟨rfl, rfl⟩)
  go_ret
  exact ⟨rfl, HI.out, .of (Ext.refl _)⟩
set_option maxRecDepth 100000 in
set_option maxHeartbeats 4000000 in
theorem add_nil (hIC : ItoaC) (hSC : SortC) (h : RgIx w B b N own each L P none sv) (hT : Tab w) (hB : 1 ≤ B) (hBs : B ≤ w.heap.size) (hN : N + 1 ≤ 100) (k : Nat) (hr : rightN n = true) (h1 : 1 ≤ k) (h2 : k ≤ 20) (hw : wt L n = 0) (h64 : L.length ≠ 64) : Calls Tryd.prog 16 #[.pointer (some ⟨b, 0, none⟩), .string ⟨n.toArray⟩, .int .i64 (k : Int)] w fun e w' => e = .returned (.int .i64 (addC L n (k : Int))) ∧ RgI w' B b (N + 1) (grownOwn own w w') each (addL L n (k : Int)) ∧ ExtP own w w' := by
  have e0 : addC L n (k : Int) = 0 := by unfold addC; rw [if_neg (by rw [hr]; simp; omega), if_neg (by simp [hw]), if_neg h64]
  have hnl : n.length ≤ 1000 := by unfold rightN at hr; simp at hr; omega
  have hn : n.length ≤ 1000000 := by omega
  have HR := right_any n w hn
  rw [hr] at HR
  have HR := Lib.hid HR
  have hl := h.names.look_ok Tryd.underlying60 (zeroI w) hn
  have ef : ptsF each L n = none := by unfold ptsF; rw [if_pos hw]
  rw [ef] at hl
  simp only at hl
  replace hl : (Instr.lookup 60 (.map none) (.string ⟨n.toArray⟩) true).run Tryd.prog w = .ok (.tuple #[.int .i64 0, .bool false]) w := hl
  have hlen := names_len h.names h.e1.1 h.ok
  obtain ⟨len, hlen0⟩ : ∃ len, len = L.length := ⟨_, rfl⟩
  rw [← hlen0] at hlen h64
  have h64b : ((len : Int) == 64) = false := by simp; omega
  have k1 := blk_cell h.blk 1
  have k0 := blk_cell h.blk 0
  simp at k1 k0
  have HI := Lib.hid h; have E0 := Lib.hid e0; have HTAB := Lib.hid hT; have HB := Lib.hid hB; have HIC := Lib.hid hIC; have HSC := Lib.hid hSC; have HN := Lib.hid hN; have H1 := Lib.hid h1; have HNL : Hid (n.length ≤ 100000) := Lib.hid (by omega)
  have hM0 : each * k ≤ 200 * 20 := Nat.mul_le_mul h.e1.2 h2
  obtain ⟨M, hM⟩ : ∃ M, M = each * k := ⟨_, rfl⟩
  have e9 : IntKind.i64.wrap ((each : Int) * (k : Int)) = (M : Int) := by
    have : (each : Int) * (k : Int) = (M : Int) := by rw [hM]; push_cast; rfl
    rw [this]; exact IntWalk.i64_in _ (by rw [← hM] at hM0; omega)
  have hMl : M ≤ 4000 := by rw [hM]; exact hM0
  have HM := Lib.hid hM
  have HPL : Hid (P.length ≤ 400000) := Lib.hid (by have := h.many; have := h.nb; omega)
  have hF : ∀ x, ptsF each L x = none := by
    rcases h.names with ⟨_, h0⟩ | ⟨m', e, _⟩
    · exact h0
    · cases e
  have hFe : ptsF each L = fun _ => none := funext hF
  have HFE := Lib.hid hFe
  have HBLK := Lib.hid h.blk; have HROW := Lib.hid h.row; have HBS := Lib.hid hBs; have HNB := Lib.hid h.nb; have HNN := Lib.hid hn
  have hbl2 : (w.alloc (.map #[] 0)).heap[b]? = some (.cells #[.int .i64 each, .map none, sv] 62 (0, 0)) := (ext_alloc1 w _).heap h.blk
  obtain ⟨A0, c0, rfl⟩ := h.row.slice
  have HBL2 := Lib.hid hbl2; have HFAR := Lib.hid h.far
  clear h e0 hr hw ef h64 hlen0 hT hB hIC hSC hN hM hM0 hF hFe hbl2
  have hmm := @run_makeMap Tryd.prog
  have q60 := q60
  go_enter Tryd.func16, Tryd.ntmps16
  go_wp2_with (first | (go_at_call 31; refine HR.out.mono ?_; rintro e w1 ⟨rfl, rfl⟩) | (refine wpList_put 60 rfl _ _ rfl b 1 62 _ #[.int .i64 each, .map (some w.heap.size), .slice A0 P.length c0] [.map (some w.heap.size)] (.map (some w.heap.size)) HBL2.out rfl rfl rfl (by simp) rfl size60 (by kernel_rfl) ?_; intro W3 x3 n3 s3; refine stop_of ?_))
  unfold Stop
  obtain ⟨m, hm⟩ : ∃ m, m = w.heap.size := ⟨_, rfl⟩
  rw [← hm] at n3 ⊢
  have g3 : GMap naE W3 m N (ptsF each L) := by
    rw [HFE.out]
    have h0 := GMap.made naE w
    rw [← hm] at h0
    refine (h0.same (x3.block m (by simp; omega) ?_)).more (by have := HNB.out; omega)
    simp; rw [hm]; intro e; have := blk_lt HBLK.out; omega
  obtain ⟨W4, hrun, hg4, ht4⟩ := g3.put (by have := HNB.out; omega) Tryd.underlying60 HNN.out M
  replace hrun : (Instr.mapUpdate 60 (.map (some m)) (.string ⟨n.toArray⟩) (.int .i64 M)).run Tryd.prog W3 = .ok () W4 := hrun
  have k0 := blk_cell n3 0
  have k1 := blk_cell n3 1
  simp at k0 k1
  have x30 : ExtP own w W3 := (ExtP.of (own := own) (ext_alloc1 w (.map #[] 0))).trans (own1 := own) (ExtP.ofB x3 fun g hh => .inl (by rw [show g = b by simpa using hh]; exact HI.out.ob)) fun i hi => .inl hi
  have HS0 := Lib.hid (AddS.start (n := n) HI.out HBS.out x30 n3 (.inr ⟨by omega, by rw [s3]; simp; omega⟩) ((HROW.out.ext (ext_alloc1 w (.map #[] 0))).extB x3 fun g hg e => HFAR.out (by rw [e]; simpa using hg)) hg4 HM.out ht4 g3.at_)
  obtain ⟨sv, hsv⟩ : ∃ v, v = Value.slice A0 P.length c0 := ⟨_, rfl⟩
  rw [← hsv] at HS0
  clear x3 n3 s3 g3 hg4 ht4 x30 hm hsv
  go_wp2_with fail
  go_loopw [60, 10] (fun i _ wr => ∃ j : Nat, ∃ sv : Value, j ≤ M ∧ i = .int .i64 j ∧ Hid (AddS w wr B b N m each own L P n k j sv)) (fun i _ _ => M - (RowKit.intOf i).toNat)
  case atStart => exact ⟨0, sv, by omega, rfl, HS0⟩
  case round =>
    obtain ⟨j, sv1, hj, rfl, hS⟩ := hrel
    by_cases hlt : j < M
    · have HT := Lib.hid (HTAB.out.extP hS.out.x hS.out.low HB.out)
      have hdl := decL_len j j (Nat.le_refl _)
      obtain ⟨ds, hds⟩ : ∃ ds, ds = decL j := ⟨_, rfl⟩
      have HIT := Lib.hid (fun W (x : Ext wr W) => HIC.out j W (by omega) (HT.out.ext x))
      rw [← hds] at hdl HIT
      have hd1 : ds.length ≤ 100000 := by omega
      have hsum : (ds ++ [35] ++ n).length ≤ 1000000 := by simp; omega
      have HH := Lib.hid (fun W => hash_any (ds ++ [35] ++ n) W hsum)
      obtain ⟨p, hp⟩ : ∃ p, p = hashL (ds ++ [35] ++ n) := ⟨_, rfl⟩
      rw [← hp] at HH
      have HPD : Hid (p = pd j n) := Lib.hid (by rw [hp, hds]; rfl)
      have k0 := blk_cell hS.out.blk 2
      simp at k0
      have hfar := hS.out.far
      have hX : ∀ g ∈ sv1.ownBlock.toList, b ≠ g := fun g hg e => hfar (by rw [e]; simpa using hg)
      have HX := Lib.hid hX; have HBL := Lib.hid hS.out.blk; have HROW := Lib.hid hS.out.row
      have hnl : n.length ≤ 100000 := HNL.out
      obtain ⟨t1, ht1⟩ : ∃ t, t = ds ++ [35] := ⟨_, rfl⟩
      rw [← ht1] at HH
      obtain ⟨t2, ht2⟩ : ∃ t, t = t1 ++ n := ⟨_, rfl⟩
      rw [← ht2] at HH
      have HT1 := Lib.hid ht1; have HT2 := Lib.hid ht2; have HD1 := Lib.hid hd1
      clear hdl hds hd1 hsum hp hfar hX hnl ht1 ht2
      go_wp2_with fail
      refine wp_region_segs sv1.ownBlock.toList [.inl [0, 1, 2, 3, 4, 5, 8, 11], .inr (.inl 6), .inl [7, 9], .inr (.inl 10), .inl [12], .inr (.inl 13), .inr (.inl 14), .inl [15, 16], .inr (.inr 17)] (by kernel_rfl) (by kernel_rfl) (fun c a d v w h => by cases d <;> exact h) ?_
      have G0 : ∀ x : Grow sv1.ownBlock.toList wr.drew, x.v.cell? ⟨b, 2, none⟩ = some sv1 := fun x => x.ext.cell k0 (fun hh => HX.out b hh rfl)
      (rw [wpSegs_inl]; simp only [pickOps, List.map_cons, List.map_nil, List.getD_cons_succ, List.getD_cons_zero]; (repeat (go_big_quiet_step (fail))); refine wpQuiet_nil ?_)
      clear G0
      (rw [wpSegs_grow]; simp only [pickOps, List.map_cons, List.map_nil, List.getD_cons_succ, List.getD_cons_zero]; go_wp2_with ((go_at_call 32; refine (HIT.out _ ((Ext.refl wr).drew)).mono ?_; rintro e w1 ⟨rfl, hx1⟩)))
      refine ⟨.of hx1 _, ?_⟩
      have HX1 := Lib.hid hx1
      clear hx1
      (rw [wpSegs_inl]; simp only [pickOps, List.map_cons, List.map_nil, List.getD_cons_succ, List.getD_cons_zero]; (repeat (go_big_quiet_step (fail))); (refine wpQuiet_add rfl _ _ rfl ds [35] t1 rfl rfl (by have := HD1.out; omega) (by simp) HT1.out ?_; simp only [Act.put, List.setIfInBounds_toArray, List.set_cons_succ, List.set_cons_zero]); (repeat (go_big_quiet_step (fail))); (refine wpQuiet_add rfl _ _ rfl t1 n t2 rfl rfl (by have := HD1.out; rw [HT1.out]; simp; omega) (by have := HNL.out; omega) HT2.out ?_; simp only [Act.put, List.setIfInBounds_toArray, List.set_cons_succ, List.set_cons_zero]); (repeat (go_big_quiet_step (fail))); refine wpQuiet_nil ?_)
      (rw [wpSegs_grow]; simp only [pickOps, List.map_cons, List.map_nil, List.getD_cons_succ, List.getD_cons_zero]; go_wp2_with ((go_at_call 27; refine (HH.out _).mono ?_; rintro e w2 ⟨rfl, rfl⟩)))
      refine ⟨ExtB.refl _ _, ?_⟩
      (rw [wpSegs_inl]; simp only [pickOps, List.map_cons, List.map_nil, List.getD_cons_succ, List.getD_cons_zero]; (repeat (go_big_quiet_step (fail))); refine wpQuiet_nil ?_)
      (rw [wpSegs_grow]; simp only [pickOps, List.map_cons, List.map_nil, List.getD_cons_succ, List.getD_cons_zero]; go_wp2_with (fail))
      refine ⟨.of (ext_alloc1 _ _) _, ?_⟩
      have XA := Lib.hid (((Ext.refl wr).drew.trans HX1.out).trans (ext_alloc1 w1 (.cells #[.int .u64 p, .string ⟨n.toArray⟩] 59)))
      have RA := Lib.hid (HROW.out.ext XA.out)
      (rw [wpSegs_grow]; simp only [pickOps, List.map_cons, List.map_nil, List.getD_cons_succ, List.getD_cons_zero])
      (refine wpList_appendK (enc := encPt) (k := 2) (e := 59) 56 _ 24 Tryd.underlying56 info59 rfl (by decide) (by decide) rfl _ _ rfl ⟨p, n⟩ rfl (encPt_one _) RA.out rfl #[.int .u64 p, .string ⟨n.toArray⟩] w1.heap.size rfl (heap_alloc_new w1 _) rfl (by have := HPL.out; rw [List.length_append, newP_len]; omega) (Nat.le_trans hS.out.szB (Nat.le_trans hS.out.x.size XA.out.size)) ?_; intro v3 w3 r3 g3 f3)
      go_wp2_with fail
      refine ⟨grownBy_extB g3, ?_⟩
      simp only [Act.put, List.setIfInBounds_toArray, List.set_cons_succ, List.set_cons_zero]
      obtain ⟨A3, c3, rfl⟩ := KRow.slice r3
      have BL3 := Lib.hid (((grownBy_extB g3).heap (XA.out.heap HBL.out) (fun hh => HX.out b hh rfl)))
      have HST := Lib.hid (fun w' hx3 hb => hS.out.step (sv' := .slice A3 _ c3) (w' := w') XA.out g3 (by rw [← HPD.out]; exact r3) f3 hx3 hb)
      obtain ⟨q3, hq3⟩ : ∃ q, q = (P ++ newP pd n j ++ [(⟨p, n⟩ : Pt)]).length := ⟨_, rfl⟩
      rw [← hq3] at HST ⊢
      clear r3 g3 f3 hq3
      (rw [wpSegs_inl]; simp only [pickOps, List.map_cons, List.map_nil, List.getD_cons_succ, List.getD_cons_zero]; (repeat (go_big_quiet_step (fail))); refine wpQuiet_nil ?_)
      (rw [wpSegs_last]; simp only [pickOps, List.map_cons, List.map_nil, List.getD_cons_succ, List.getD_cons_zero])
      (refine wpList_put 56 rfl _ _ rfl b 2 62 _ #[.int .i64 each, .map (some m), .slice A3 q3 c3] [.slice A3 q3 c3] (.slice A3 q3 c3) BL3.out rfl rfl rfl (by simp) rfl size56 (by kernel_rfl) ?_; intro w4 x4 b4 s4)
      go_wp2_with fail
      have H4 := Lib.hid (HST.out w4 x4 b4)
      clear x4 b4 s4 BL3 HST
      rw [wpSegs_nil]
      go_wp2
      go_roundw
      case rel => exact ⟨j + 1, _, by omega, by go_num, H4⟩
      case measure => simp [RowKit.intOf]; omega
    · have hjM : j = M := by omega
      subst hjM
      have hS2 := hS.out
      obtain ⟨A1, c1, e1⟩ := hS2.row.slice
      obtain ⟨q3, hq3⟩ : ∃ q, q = (P ++ newP pd n j).length := ⟨_, rfl⟩
      rw [← hq3] at e1
      clear hq3
      subst e1
      have hsort := HSC.out wr B _ _ hS2.row (by have := HPL.out; rw [List.length_append, newP_len]; omega) (by rw [List.length_append, newP_len]; have h3 := Nat.mul_le_mul HI.out.e1.1 H1.out; have := HM.out; omega)
      have k0 := blk_cell hS2.blk 2
      simp at k0
      have HSO := Lib.hid hsort
      clear hsort hS2
      go_wp2_with (go_at_call 33; refine HSO.out.mono ?_; rintro e w3 ⟨rfl, h3, g3⟩; refine stop_of ?_)
      unfold Stop
      obtain ⟨Q, hp, hri, hq⟩ := h3
      have HF := Lib.hid (AddS.fin (k := k) (by rw [← HM.out]; exact hS.out) HI.out E0.out HN.out (by rw [← HM.out]; exact hp) hri hq g3)
      clear hp hri hq g3
      go_wp2
      go_ret
      exact ⟨by rw [E0.out]; rfl, HF.out.1, HF.out.2⟩
set_option maxRecDepth 100000 in
set_option maxHeartbeats 4000000 in
theorem add_ok (hIC : ItoaC) (hSC : SortC) {m : Nat} (h : RgIx w B b N own each L P (some m) sv) (hT : Tab w) (hB : 1 ≤ B) (hBs : B ≤ w.heap.size) (hN : N + 1 ≤ 100) (k : Nat) (hr : rightN n = true) (h1 : 1 ≤ k) (h2 : k ≤ 20) (hw : wt L n = 0) (h64 : L.length ≠ 64) : Calls Tryd.prog 16 #[.pointer (some ⟨b, 0, none⟩), .string ⟨n.toArray⟩, .int .i64 (k : Int)] w fun e w' => e = .returned (.int .i64 (addC L n (k : Int))) ∧ RgI w' B b (N + 1) (grownOwn own w w') each (addL L n (k : Int)) ∧ ExtP own w w' := by
  have e0 : addC L n (k : Int) = 0 := by unfold addC; rw [if_neg (by rw [hr]; simp; omega), if_neg (by simp [hw]), if_neg h64]
  have hnl : n.length ≤ 1000 := by unfold rightN at hr; simp at hr; omega
  have hn : n.length ≤ 1000000 := by omega
  have HR := right_any n w hn
  rw [hr] at HR
  have HR := Lib.hid HR
  have hl := h.names.look_ok Tryd.underlying60 (zeroI w) hn
  have ef : ptsF each L n = none := by unfold ptsF; rw [if_pos hw]
  rw [ef] at hl
  simp only at hl
  replace hl : (Instr.lookup 60 (.map (some m)) (.string ⟨n.toArray⟩) true).run Tryd.prog w = .ok (.tuple #[.int .i64 0, .bool false]) w := hl
  have hlen := names_len h.names h.e1.1 h.ok
  obtain ⟨len, hlen0⟩ : ∃ len, len = L.length := ⟨_, rfl⟩
  rw [← hlen0] at hlen h64
  have h64b : ((len : Int) == 64) = false := by simp; omega
  have k1 := blk_cell h.blk 1
  have k0 := blk_cell h.blk 0
  simp at k1 k0
  have HI := Lib.hid h; have E0 := Lib.hid e0; have HTAB := Lib.hid hT; have HB := Lib.hid hB; have HIC := Lib.hid hIC; have HSC := Lib.hid hSC; have HN := Lib.hid hN; have H1 := Lib.hid h1; have HNL : Hid (n.length ≤ 100000) := Lib.hid (by omega)
  have hM0 : each * k ≤ 200 * 20 := Nat.mul_le_mul h.e1.2 h2
  obtain ⟨M, hM⟩ : ∃ M, M = each * k := ⟨_, rfl⟩
  have e9 : IntKind.i64.wrap ((each : Int) * (k : Int)) = (M : Int) := by
    have : (each : Int) * (k : Int) = (M : Int) := by rw [hM]; push_cast; rfl
    rw [this]; exact IntWalk.i64_in _ (by rw [← hM] at hM0; omega)
  have hMl : M ≤ 4000 := by rw [hM]; exact hM0
  have HM := Lib.hid hM
  have HPL : Hid (P.length ≤ 400000) := Lib.hid (by have := h.many; have := h.nb; omega)
  obtain ⟨W4, hrun, hg4, ht4⟩ : ∃ W4, (Instr.mapUpdate 60 (.map (some m)) (.string ⟨n.toArray⟩) (.int .i64 M)).run Tryd.prog w = .ok () W4 ∧ GMap naE W4 m (N + 1) (upd (ptsF each L) n (some M)) ∧ w.mapTurned W4 m := by
    rcases h.names with ⟨e, _⟩ | ⟨m', e, hg⟩
    · cases e
    · cases e; exact hg.put (by have := h.nb; omega) Tryd.underlying60 hn M
  have hgw : ∃ es cl, w.heap[m]? = some (.map es cl) := by
    rcases h.names with ⟨e, _⟩ | ⟨m', e, hg⟩
    · cases e
    · cases e; exact hg.at_
  have HS0 := Lib.hid (AddS.start (n := n) h hBs (.of (Ext.refl w)) h.blk (.inl (h.om m rfl)) h.row hg4 hM ht4 hgw)
  clear h e0 hr hw ef h64 hlen0 hT hB hIC hSC hN hM hM0 hg4 ht4 hgw
  have q60 := q60
  go_enter Tryd.func16, Tryd.ntmps16
  go_wp2_with (first | (go_at_call 31; refine HR.out.mono ?_; rintro e w1 ⟨rfl, rfl⟩))
  go_loopw [60, 10] (fun i _ wr => ∃ j : Nat, ∃ sv : Value, j ≤ M ∧ i = .int .i64 j ∧ Hid (AddS w wr B b N m each own L P n k j sv)) (fun i _ _ => M - (RowKit.intOf i).toNat)
  case atStart => exact ⟨0, sv, by omega, rfl, HS0⟩
  case round =>
    obtain ⟨j, sv1, hj, rfl, hS⟩ := hrel
    by_cases hlt : j < M
    · have HT := Lib.hid (HTAB.out.extP hS.out.x hS.out.low HB.out)
      have hdl := decL_len j j (Nat.le_refl _)
      obtain ⟨ds, hds⟩ : ∃ ds, ds = decL j := ⟨_, rfl⟩
      have HIT := Lib.hid (fun W (x : Ext wr W) => HIC.out j W (by omega) (HT.out.ext x))
      rw [← hds] at hdl HIT
      have hd1 : ds.length ≤ 100000 := by omega
      have hsum : (ds ++ [35] ++ n).length ≤ 1000000 := by simp; omega
      have HH := Lib.hid (fun W => hash_any (ds ++ [35] ++ n) W hsum)
      obtain ⟨p, hp⟩ : ∃ p, p = hashL (ds ++ [35] ++ n) := ⟨_, rfl⟩
      rw [← hp] at HH
      have HPD : Hid (p = pd j n) := Lib.hid (by rw [hp, hds]; rfl)
      have k0 := blk_cell hS.out.blk 2
      simp at k0
      have hfar := hS.out.far
      have hX : ∀ g ∈ sv1.ownBlock.toList, b ≠ g := fun g hg e => hfar (by rw [e]; simpa using hg)
      have HX := Lib.hid hX; have HBL := Lib.hid hS.out.blk; have HROW := Lib.hid hS.out.row
      have hnl : n.length ≤ 100000 := HNL.out
      obtain ⟨t1, ht1⟩ : ∃ t, t = ds ++ [35] := ⟨_, rfl⟩
      rw [← ht1] at HH
      obtain ⟨t2, ht2⟩ : ∃ t, t = t1 ++ n := ⟨_, rfl⟩
      rw [← ht2] at HH
      have HT1 := Lib.hid ht1; have HT2 := Lib.hid ht2; have HD1 := Lib.hid hd1
      clear hdl hds hd1 hsum hp hfar hX hnl ht1 ht2
      go_wp2_with fail
      refine wp_region_segs sv1.ownBlock.toList [.inl [0, 1, 2, 3, 4, 5, 8, 11], .inr (.inl 6), .inl [7, 9], .inr (.inl 10), .inl [12], .inr (.inl 13), .inr (.inl 14), .inl [15, 16], .inr (.inr 17)] (by kernel_rfl) (by kernel_rfl) (fun c a d v w h => by cases d <;> exact h) ?_
      have G0 : ∀ x : Grow sv1.ownBlock.toList wr.drew, x.v.cell? ⟨b, 2, none⟩ = some sv1 := fun x => x.ext.cell k0 (fun hh => HX.out b hh rfl)
      (rw [wpSegs_inl]; simp only [pickOps, List.map_cons, List.map_nil, List.getD_cons_succ, List.getD_cons_zero]; (repeat (go_big_quiet_step (fail))); refine wpQuiet_nil ?_)
      clear G0
      (rw [wpSegs_grow]; simp only [pickOps, List.map_cons, List.map_nil, List.getD_cons_succ, List.getD_cons_zero]; go_wp2_with ((go_at_call 32; refine (HIT.out _ ((Ext.refl wr).drew)).mono ?_; rintro e w1 ⟨rfl, hx1⟩)))
      refine ⟨.of hx1 _, ?_⟩
      have HX1 := Lib.hid hx1
      clear hx1
      (rw [wpSegs_inl]; simp only [pickOps, List.map_cons, List.map_nil, List.getD_cons_succ, List.getD_cons_zero]; (repeat (go_big_quiet_step (fail))); (refine wpQuiet_add rfl _ _ rfl ds [35] t1 rfl rfl (by have := HD1.out; omega) (by simp) HT1.out ?_; simp only [Act.put, List.setIfInBounds_toArray, List.set_cons_succ, List.set_cons_zero]); (repeat (go_big_quiet_step (fail))); (refine wpQuiet_add rfl _ _ rfl t1 n t2 rfl rfl (by have := HD1.out; rw [HT1.out]; simp; omega) (by have := HNL.out; omega) HT2.out ?_; simp only [Act.put, List.setIfInBounds_toArray, List.set_cons_succ, List.set_cons_zero]); (repeat (go_big_quiet_step (fail))); refine wpQuiet_nil ?_)
      (rw [wpSegs_grow]; simp only [pickOps, List.map_cons, List.map_nil, List.getD_cons_succ, List.getD_cons_zero]; go_wp2_with ((go_at_call 27; refine (HH.out _).mono ?_; rintro e w2 ⟨rfl, rfl⟩)))
      refine ⟨ExtB.refl _ _, ?_⟩
      (rw [wpSegs_inl]; simp only [pickOps, List.map_cons, List.map_nil, List.getD_cons_succ, List.getD_cons_zero]; (repeat (go_big_quiet_step (fail))); refine wpQuiet_nil ?_)
      (rw [wpSegs_grow]; simp only [pickOps, List.map_cons, List.map_nil, List.getD_cons_succ, List.getD_cons_zero]; go_wp2_with (fail))
      refine ⟨.of (ext_alloc1 _ _) _, ?_⟩
      have XA := Lib.hid (((Ext.refl wr).drew.trans HX1.out).trans (ext_alloc1 w1 (.cells #[.int .u64 p, .string ⟨n.toArray⟩] 59)))
      have RA := Lib.hid (HROW.out.ext XA.out)
      (rw [wpSegs_grow]; simp only [pickOps, List.map_cons, List.map_nil, List.getD_cons_succ, List.getD_cons_zero])
      (refine wpList_appendK (enc := encPt) (k := 2) (e := 59) 56 _ 24 Tryd.underlying56 info59 rfl (by decide) (by decide) rfl _ _ rfl ⟨p, n⟩ rfl (encPt_one _) RA.out rfl #[.int .u64 p, .string ⟨n.toArray⟩] w1.heap.size rfl (heap_alloc_new w1 _) rfl (by have := HPL.out; rw [List.length_append, newP_len]; omega) (Nat.le_trans hS.out.szB (Nat.le_trans hS.out.x.size XA.out.size)) ?_; intro v3 w3 r3 g3 f3)
      go_wp2_with fail
      refine ⟨grownBy_extB g3, ?_⟩
      simp only [Act.put, List.setIfInBounds_toArray, List.set_cons_succ, List.set_cons_zero]
      obtain ⟨A3, c3, rfl⟩ := KRow.slice r3
      have BL3 := Lib.hid (((grownBy_extB g3).heap (XA.out.heap HBL.out) (fun hh => HX.out b hh rfl)))
      have HST := Lib.hid (fun w' hx3 hb => hS.out.step (sv' := .slice A3 _ c3) (w' := w') XA.out g3 (by rw [← HPD.out]; exact r3) f3 hx3 hb)
      obtain ⟨q3, hq3⟩ : ∃ q, q = (P ++ newP pd n j ++ [(⟨p, n⟩ : Pt)]).length := ⟨_, rfl⟩
      rw [← hq3] at HST ⊢
      clear r3 g3 f3 hq3
      (rw [wpSegs_inl]; simp only [pickOps, List.map_cons, List.map_nil, List.getD_cons_succ, List.getD_cons_zero]; (repeat (go_big_quiet_step (fail))); refine wpQuiet_nil ?_)
      (rw [wpSegs_last]; simp only [pickOps, List.map_cons, List.map_nil, List.getD_cons_succ, List.getD_cons_zero])
      (refine wpList_put 56 rfl _ _ rfl b 2 62 _ #[.int .i64 each, .map (some m), .slice A3 q3 c3] [.slice A3 q3 c3] (.slice A3 q3 c3) BL3.out rfl rfl rfl (by simp) rfl size56 (by kernel_rfl) ?_; intro w4 x4 b4 s4)
      go_wp2_with fail
      have H4 := Lib.hid (HST.out w4 x4 b4)
      clear x4 b4 s4 BL3 HST
      rw [wpSegs_nil]
      go_wp2
      go_roundw
      case rel => exact ⟨j + 1, _, by omega, by go_num, H4⟩
      case measure => simp [RowKit.intOf]; omega
    · have hjM : j = M := by omega
      subst hjM
      have hS2 := hS.out
      obtain ⟨A1, c1, e1⟩ := hS2.row.slice
      obtain ⟨q3, hq3⟩ : ∃ q, q = (P ++ newP pd n j).length := ⟨_, rfl⟩
      rw [← hq3] at e1
      clear hq3
      subst e1
      have hsort := HSC.out wr B _ _ hS2.row (by have := HPL.out; rw [List.length_append, newP_len]; omega) (by rw [List.length_append, newP_len]; have h3 := Nat.mul_le_mul HI.out.e1.1 H1.out; have := HM.out; omega)
      have k0 := blk_cell hS2.blk 2
      simp at k0
      have HSO := Lib.hid hsort
      clear hsort hS2
      go_wp2_with (go_at_call 33; refine HSO.out.mono ?_; rintro e w3 ⟨rfl, h3, g3⟩; refine stop_of ?_)
      unfold Stop
      obtain ⟨Q, hp, hri, hq⟩ := h3
      have HF := Lib.hid (AddS.fin (k := k) (by rw [← HM.out]; exact hS.out) HI.out E0.out HN.out (by rw [← HM.out]; exact hp) hri hq g3)
      clear hp hri hq g3
      go_wp2
      go_ret
      exact ⟨by rw [E0.out]; rfl, HF.out.1, HF.out.2⟩
/-- Adding. -/
theorem add_any (hIC : ItoaC) (hSC : SortC) (hI : RgI w B b N own each L) (hT : Tab w) (hB : 1 ≤ B) (hBs : B ≤ w.heap.size) (hN : N + 1 ≤ 100) (hn : n.length ≤ 1000000) (k : Int) : Calls Tryd.prog 16 #[.pointer (some ⟨b, 0, none⟩), .string ⟨n.toArray⟩, .int .i64 k] w fun e w' => e = .returned (.int .i64 (addC L n k)) ∧ RgI w' B b (N + 1) (grownOwn own w w') each (addL L n k) ∧ ExtP own w w' := by
  obtain ⟨P, mo, sv, h⟩ := hI
  by_cases hc : rightN n = false ∨ k < 1 ∨ 20 < k
  · exact add_arg h hn hN k hc
  · have hr : rightN n = true := by cases e : rightN n; exact absurd (.inl e) hc; rfl
    have h1 : 1 ≤ k := by have := fun e => hc (.inr (.inl e)); omega
    have h2 : k ≤ 20 := by have := fun e => hc (.inr (.inr e)); omega
    by_cases hw : wt L n = 0
    · by_cases h64 : L.length = 64
      · exact add_many h hn hN k hr h1 h2 hw h64
      · obtain ⟨k', rfl⟩ : ∃ k' : Nat, k = k' := ⟨k.toNat, by omega⟩
        cases mo with
        | none => exact add_nil hIC hSC h hT hB hBs hN k' hr (by omega) (by omega) hw h64
        | some m => exact add_ok hIC hSC h hT hB hBs hN k' hr (by omega) (by omega) hw h64
    · exact add_twice h hn hN k hr h1 h2 hw
end
end Go.Proofs.YtjphpblangeblaaDoor
