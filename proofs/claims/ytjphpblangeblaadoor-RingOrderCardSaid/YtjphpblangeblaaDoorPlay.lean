/- Both rings: the program's beside the document's; awake. -/
import Derived.Test.YtjphpblangeblaaDoorRefD
namespace Go.Proofs.YtjphpblangeblaaDoor
open Go.RowKit Go.Maps Go.ChangeMaps
set_option linter.unusedVariables false
set_option linter.unusedSimpArgs false
def noQ : Nat → Prop := fun _ => False
/-- The program's ring has L, the document's has M; Q: further blocks, that stay. -/
def Pl2 (w0 w : World) (b x N each : Nat) (L M : NL) (Q : Nat → Prop) : Prop := ∃ own rown : Nat → Prop, RgI w w0.heap.size b N own each L ∧ RRI w w0.heap.size x rown each M ∧ (∀ g, own g → ¬ rown g) ∧ (∀ g, Q g → g < w.heap.size ∧ ¬ own g ∧ ¬ rown g) ∧ Ext w0 w ∧ Tab w ∧ 1 ≤ w0.heap.size
def KeepQ (Q : Nat → Prop) (w w' : World) : Prop := ∀ g, Q g → w'.heap[g]? = w.heap[g]?
section
variable {w0 w w' : World} {b x N each : Nat} {L M : NL} {Q Q' : Nat → Prop} {n : Nm} {ob : Bs}
theorem RgI.lt {B : Nat} {own : Nat → Prop} (h : RgI w B b N own each L) {g : Nat} (hg : own g) : g < w.heap.size ∧ B ≤ g := by
  obtain ⟨P, mo, sv, h⟩ := h; exact ⟨h.lt g hg, h.low g hg⟩
theorem RRI.lt {B : Nat} {own : Nat → Prop} (h : RRI w B x own each L) {g : Nat} (hg : own g) : g < w.heap.size ∧ B ≤ g := by
  obtain ⟨sv, h⟩ := h; exact ⟨h.lt g hg, h.low g hg⟩
theorem Pl2.base (h : Pl2 w0 w b x N each L M Q) : Ext w0 w := by obtain ⟨_, _, _, _, _, _, h, _⟩ := h; exact h
theorem Pl2.tab (h : Pl2 w0 w b x N each L M Q) : Tab w := by obtain ⟨_, _, _, _, _, _, _, h, _⟩ := h; exact h
theorem Pl2.ok (h : Pl2 w0 w b x N each L M Q) : LOk L := by obtain ⟨_, _, ⟨_, _, _, h⟩, _⟩ := h; exact h.ok
theorem Pl2.qlt (h : Pl2 w0 w b x N each L M Q) {g : Nat} (hg : Q g) : g < w.heap.size := by obtain ⟨_, _, _, _, _, hq, _⟩ := h; exact (hq g hg).1
theorem Pl2.ext (h : Pl2 w0 w b x N each L M Q) (hx : Ext w w') : Pl2 w0 w' b x N each L M Q := by
  obtain ⟨own, rown, h1, h2, h3, h4, h5, h6, h7⟩ := h
  exact ⟨own, rown, h1.ext hx, h2.ext hx, h3, fun g hg => ⟨Nat.lt_of_lt_of_le (h4 g hg).1 hx.size, (h4 g hg).2⟩, h5.trans hx, h6.ext hx, h7⟩
theorem Pl2.weak (h : Pl2 w0 w b x N each L M Q) (hq : ∀ g, Q' g → Q g) : Pl2 w0 w b x N each L M Q' := by
  obtain ⟨own, rown, h1, h2, h3, h4, h5⟩ := h
  exact ⟨own, rown, h1, h2, h3, fun g hg => h4 g (hq g hg), h5⟩
/-- What is new is held. -/
theorem Pl2.hold (h : Pl2 w0 w b x N each L M Q) (hx : Ext w w') : Pl2 w0 w' b x N each L M (fun g => Q g ∨ (w.heap.size ≤ g ∧ g < w'.heap.size)) := by
  obtain ⟨own, rown, h1, h2, h3, h4, h5, h6, h7⟩ := h
  refine ⟨own, rown, h1.ext hx, h2.ext hx, h3, fun g hg => ?_, h5.trans hx, h6.ext hx, h7⟩
  rcases hg with hg | ⟨hg1, hg2⟩
  · exact ⟨Nat.lt_of_lt_of_le (h4 g hg).1 hx.size, (h4 g hg).2⟩
  · exact ⟨hg2, fun e => by have := (h1.lt e).1; omega, fun e => by have := (h2.lt e).1; omega⟩
theorem KeepQ.ext (hx : Ext w w') (hq : ∀ g, Q g → g < w.heap.size) : KeepQ Q w w' := fun g hg => hx.block g (hq g hg)
/-- The program's ring is turned. -/
theorem Pl2.turnP {own rown : Nat → Prop} {N' : Nat} {L' : NL} (h2 : RRI w w0.heap.size x rown each M) (h1 : ∀ g, own g → g < w.heap.size ∧ w0.heap.size ≤ g) (h3 : ∀ g, own g → ¬ rown g) (h4 : ∀ g, Q g → g < w.heap.size ∧ ¬ own g ∧ ¬ rown g) (h5 : Ext w0 w) (h6 : Tab w) (h7 : 1 ≤ w0.heap.size)
    (hn : RgI w' w0.heap.size b N' (grownOwn own w w') each L') (hx : ExtP own w w') : Pl2 w0 w' b x N' each L' M Q ∧ KeepQ Q w w' := by
  refine ⟨⟨grownOwn own w w', rown, hn, h2.extP hx fun g hg e => h3 g e hg, fun g hg e => ?_, fun g hg => ⟨Nat.lt_of_lt_of_le (h4 g hg).1 hx.size, fun e => ?_, (h4 g hg).2.2⟩, RowKit.Below.trans h5 (hx.below h5.size fun k hk => (h1 k hk).2), h6.extP hx (fun k hk => (h1 k hk).2) h7, h7⟩, fun g hg => hx.block g (h4 g hg).1 (h4 g hg).2.1⟩
  · rcases hg with hg | ⟨hg, _⟩
    · exact h3 g hg e
    · have := (h2.lt e).1; omega
  · rcases e with e | ⟨e, _⟩
    · exact (h4 g hg).2.1 e
    · have := (h4 g hg).1; omega
theorem Pl2.turnD {own rown : Nat → Prop} {M' : NL} (h1 : RgI w w0.heap.size b N own each L) (h2 : ∀ g, rown g → g < w.heap.size ∧ w0.heap.size ≤ g) (h3 : ∀ g, own g → ¬ rown g) (h4 : ∀ g, Q g → g < w.heap.size ∧ ¬ own g ∧ ¬ rown g) (h5 : Ext w0 w) (h6 : Tab w) (h7 : 1 ≤ w0.heap.size)
    (hn : RRI w' w0.heap.size x (grownOwn rown w w') each M') (hx : ExtP rown w w') : Pl2 w0 w' b x N each L M' Q ∧ KeepQ Q w w' := by
  refine ⟨⟨own, grownOwn rown w w', h1.extP hx fun g hg e => h3 g hg e, hn, fun g hg e => ?_, fun g hg => ⟨Nat.lt_of_lt_of_le (h4 g hg).1 hx.size, (h4 g hg).2.1, fun e => ?_⟩, RowKit.Below.trans h5 (hx.below h5.size fun k hk => (h2 k hk).2), h6.extP hx (fun k hk => (h2 k hk).2) h7, h7⟩, fun g hg => hx.block g (h4 g hg).1 (h4 g hg).2.2⟩
  · rcases e with e | ⟨e, _⟩
    · exact h3 g hg e
    · have := (h1.lt hg).1; omega
  · rcases e with e | ⟨e, _⟩
    · exact (h4 g hg).2.2 e
    · have := (h4 g hg).1; omega
theorem p_add (h : Pl2 w0 w b x N each L M Q) (hN : N + 1 ≤ 100) (hn : n.length ≤ 1000000) (k : Int) : Calls Tryd.prog 16 #[.pointer (some ⟨b, 0, none⟩), .string ⟨n.toArray⟩, .int .i64 k] w fun e w' => e = .returned (.int .i64 (addC L n k)) ∧ Pl2 w0 w' b x (N + 1) each (addL L n k) M Q ∧ KeepQ Q w w' := by
  obtain ⟨own, rown, h1, h2, h3, h4, h5, h6, h7⟩ := h
  refine (add_any itoa_any sortP_any h1 h6 h7 h5.size hN hn k).mono ?_
  rintro e w' ⟨he, hr, hx⟩
  exact ⟨he, Pl2.turnP h2 (fun g hg => h1.lt hg) h3 h4 h5 h6 h7 hr hx⟩
theorem d_add (h : Pl2 w0 w b x N each L M Q) (hn : n.length ≤ 1000000) (k : Int) : Calls Tryd.prog 24 #[.pointer (some ⟨x, 0, none⟩), .string ⟨n.toArray⟩, .int .i64 k] w fun e w' => e = .returned (.int .i64 (addC M n k)) ∧ Pl2 w0 w' b x N each L (addL M n k) Q ∧ KeepQ Q w w' := by
  obtain ⟨own, rown, h1, h2, h3, h4, h5, h6, h7⟩ := h
  refine (radd_any h2 hn k).mono ?_
  rintro e w' ⟨he, hr, hx⟩
  exact ⟨he, Pl2.turnD h1 (fun g hg => h2.lt hg) h3 h4 h5 h6 h7 hr hx⟩
theorem p_rem (h : Pl2 w0 w b x N each L M Q) (hn : n.length ≤ 1000000) : Calls Tryd.prog 21 #[.pointer (some ⟨b, 0, none⟩), .string ⟨n.toArray⟩] w fun e w' => e = .returned (.bool (decide (wt L n ≠ 0))) ∧ Pl2 w0 w' b x N each (remL L n) M Q ∧ KeepQ Q w w' := by
  obtain ⟨own, rown, h1, h2, h3, h4, h5, h6, h7⟩ := h
  refine (rem_any h1 hn).mono ?_
  rintro e w' ⟨he, hr, hx⟩
  exact ⟨he, Pl2.turnP h2 (fun g hg => h1.lt hg) h3 h4 h5 h6 h7 hr hx⟩
theorem d_rem (h : Pl2 w0 w b x N each L M Q) (hn : n.length ≤ 1000000) : Calls Tryd.prog 25 #[.pointer (some ⟨x, 0, none⟩), .string ⟨n.toArray⟩] w fun e w' => e = .returned (.int .i64 (if wt M n = 0 then 0 else 1)) ∧ Pl2 w0 w' b x N each L (remL M n) Q ∧ KeepQ Q w w' := by
  obtain ⟨own, rown, h1, h2, h3, h4, h5, h6, h7⟩ := h
  refine (rrem_any h2 hn).mono ?_
  rintro e w' ⟨he, hr, hx⟩
  exact ⟨he, Pl2.turnD h1 (fun g hg => h2.lt hg) h3 h4 h5 h6 h7 hr hx⟩
theorem p_points (h : Pl2 w0 w b x N each L M Q) (hn : n.length ≤ 1000000) : Calls Tryd.prog 22 #[.pointer (some ⟨b, 0, none⟩), .string ⟨n.toArray⟩] w fun e w' => e = .returned (.int .i64 ((each * wt L n : Nat) : Int)) ∧ w = w' := by
  obtain ⟨own, rown, h1, _⟩ := h; exact points_any h1 hn
theorem d_has (h : Pl2 w0 w b x N each L M Q) (hn : n.length ≤ 1000000) : Calls Tryd.prog 17 #[.pointer (some ⟨x, 0, none⟩), .string ⟨n.toArray⟩] w fun e w' => e = .returned (.int .i64 (wt M n : Int)) ∧ Ext w w' := by
  obtain ⟨own, rown, _, ⟨sv, h2⟩, _⟩ := h; exact rhas_any h2 hn
theorem p_owners (h : Pl2 w0 w b x N each L M Q) (ho : ob.length ≤ 1000000) (k : Int) : Calls Tryd.prog 12 #[.pointer (some ⟨b, 0, none⟩), .string ⟨ob.toArray⟩, .int .i64 k] w fun e w' => ∃ v, e = .returned v ∧ SRow w' w.heap.size v ((ordL pd each (hashL ob) L).take (min k L.length).toNat) ∧ Ext w w' := by
  obtain ⟨own, rown, h1, _⟩ := h; exact owners_any h1 ho k
theorem p_owner (h : Pl2 w0 w b x N each L M Q) (ho : ob.length ≤ 1000000) : Calls Tryd.prog 13 #[.pointer (some ⟨b, 0, none⟩), .string ⟨ob.toArray⟩] w fun e w' => e = .returned (.tuple #[.string ⟨(whoL (ordL pd each (hashL ob) L)).toArray⟩, .bool (decide (L ≠ []))]) ∧ Ext w w' := by
  obtain ⟨own, rown, h1, _⟩ := h; exact owner_any h1 ho
theorem p_names (h : Pl2 w0 w b x N each L M Q) : Calls Tryd.prog 19 #[.pointer (some ⟨b, 0, none⟩)] w fun e w' => ∃ v, e = .returned v ∧ SRow w' w.heap.size v (namL L) ∧ Ext w w' := by
  obtain ⟨own, rown, h1, _⟩ := h; exact names_any h1
theorem d_owners (h : Pl2 w0 w b x N each L M Q) (ho : ob.length ≤ 1000000) (k : Int) : Calls Tryd.prog 14 #[.pointer (some ⟨x, 0, none⟩), .string ⟨ob.toArray⟩, .int .i64 k] w fun e w' => ∃ v, e = .returned v ∧ SRow w' w.heap.size v ((ordL pd each (hashL ob) M).take (min k M.length).toNat) ∧ Ext w w' := by
  obtain ⟨own, rown, _, h2, _⟩ := h; exact rowners_any h2 ho k
theorem d_names (h : Pl2 w0 w b x N each L M Q) : Calls Tryd.prog 20 #[.pointer (some ⟨x, 0, none⟩)] w fun e w' => ∃ v, e = .returned v ∧ SRow w' w.heap.size v (namL M) ∧ Ext w w' := by
  obtain ⟨own, rown, _, h2, _⟩ := h; exact rnames_any h2
end
theorem who_one (H : Int) : whoL (ordL pd 3 H [([112], 2)]) = [112] := by
  have hl := ordL_len (pd := pd) 3 H (L := [([112], 2)]) (by simp)
  have hm := (ordL_mem (pd := pd) 3 H (L := [([112], 2)]) (by simp) [112]).2 (by simp)
  match h : ordL pd 3 H [([112], 2)], hl, hm with
  | [y], _, hm => simp at hm; simp [whoL, hm]
theorem who_none (each : Nat) (H : Int) : whoL (ordL pd each H []) = [] := by
  have hl := ordL_len (pd := pd) each H (L := []) (by simp)
  rw [List.eq_nil_of_length_eq_zero hl]; rfl
set_option maxRecDepth 100000 in
set_option maxHeartbeats 4000000 in
/-- The document's examples. -/
theorem awake_any {w : World} (hT : Tab w) : Calls Tryd.prog 10 #[] w fun e w' => e = .returned (.bool true) ∧ Ext w w' := by
  have HT := Lib.hid hT
  have HNEW := Lib.hid (new_any 3 (by omega) (by omega) w)
  clear hT
  go_enter Tryd.func10, Tryd.ntmps10
  go_wp2_with (go_at_call 18; refine HNEW.out.mono ?_; rintro e w1 ⟨rfl, h1, x1⟩; refine stop_of ?_)
  unfold Stop
  have H1 := Lib.hid h1; have X1 := Lib.hid x1
  have h13 := owner_any h1 (ob := [47, 97]) (by simp)
  rw [who_none] at h13
  have H13 := Lib.hid h13
  clear h1 x1 h13 HNEW
  go_wp2_with (go_at_call 13; refine H13.out.mono ?_; rintro e w2 ⟨rfl, x2⟩; refine stop_of ?_)
  unfold Stop
  have X2 := Lib.hid (X1.out.trans x2)
  have HADD := Lib.hid (add_any itoa_any sortP_any (H1.out.ext x2) (HT.out.ext (X1.out.trans x2)) HT.out.lt (by have := X2.out.size; exact this) (by omega) (n := [112]) (by simp) 2)
  clear x2 H13
  go_wp2_with (go_at_call 16; refine HADD.out.mono ?_; rintro e w3 ⟨rfl, h3, x3⟩; refine stop_of ?_)
  unfold Stop
  have eC : addC [] [112] 2 = 0 := by decide
  have eL : addL [] [112] 2 = [([112], 2)] := by decide
  rw [eL] at h3
  rw [eC]
  have h14 := owner_any h3 (ob := [47, 97]) (by simp)
  rw [who_one] at h14
  have H14 := Lib.hid h14; have H3 := Lib.hid h3
  have X3 := Lib.hid (show Ext w w3 from RowKit.Below.trans X2.out (x3.below X2.out.size fun k hk => by omega))
  clear h3 x3 h14 HADD eC eL
  go_wp2_with (go_at_call 13; refine H14.out.mono ?_; rintro e w4 ⟨rfl, x4⟩; refine stop_of ?_)
  unfold Stop
  have h15 := points_any (H3.out.ext x4) (n := [112]) (by simp)
  have e6 : (3 * wt [([112], 2)] [112] : Nat) = 6 := by decide
  rw [e6] at h15
  have H15 := Lib.hid h15; have X4 := Lib.hid (X3.out.trans x4)
  clear x4 h15 e6 H14
  go_wp2_with (go_at_call 22; refine H15.out.mono ?_; rintro e w5 ⟨rfl, rfl⟩)
  go_ret
  exact ⟨rfl, X4.out⟩
end Go.Proofs.YtjphpblangeblaaDoor
