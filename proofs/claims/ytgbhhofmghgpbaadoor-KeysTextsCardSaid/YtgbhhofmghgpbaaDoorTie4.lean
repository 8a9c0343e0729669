/- Tie, whole. -/
import Derived.Test.YtgbhhofmghgpbaaDoorTie3
namespace Go.Proofs.YtgbhhofmghgpbaaDoor
open Go.RowKit Go.Sort Go.Shelf Go.Maps Go.ChangeMaps
set_option linter.unusedVariables false

theorem keysL_part_same (L : List Pr) (id : Int) (ss : List Bs) : keysL (tiePart (untieL L id) id ss) id = ss := by
  have h1 : keysL (tiePart (untieL L id) id ss) id = keysL (untieL L id) id ++ keysL (ss.map fun k => (id, k)) id := by simp [keysL, tiePart]
  rw [h1, keysL_untie_same, List.nil_append]
  unfold keysL
  rw [List.filter_eq_self.2 (by simp), List.map_map]
  exact List.map_id'' (fun _ => rfl) ss
theorem keysL_part_other (L : List Pr) {id id' : Int} (h : id' ≠ id) (ss : List Bs) : keysL (tiePart (untieL L id) id ss) id' = keysL (untieL L id) id' := by
  have h1 : keysL (tiePart (untieL L id) id ss) id' = keysL (untieL L id) id' ++ keysL (ss.map fun k => (id, k)) id' := by simp [keysL, tiePart]
  rw [h1]
  have : keysL (ss.map fun k => (id, k)) id' = [] := by
    unfold keysL
    rw [List.filter_eq_nil_iff.2 (by intro p hp; simp at hp; obtain ⟨k, _, rfl⟩ := hp; simp; exact fun e => h e.symm)]
    rfl
  rw [this, List.append_nil]
theorem check_zero {ss : List Bs} (h : checkN ss = 0) : ss.all rightB = true ∧ ss.Nodup ∧ ss.length ≤ 32 := by
  unfold checkN at h
  split at h
  · rename_i hc
    split at h
    · omega
    · exact ⟨hc.1, hc.2, by omega⟩
  · omega
theorem good_tie {L : List Pr} (h : Good L) {id : Int} (h1 : 1 ≤ id) (hid : (Lit.int .i64 id).wf = true) {ss : List Bs} (hc : checkN ss = 0) : Good (tiePart (untieL L id) id ss) := by
  obtain ⟨c1, c2, c3⟩ := check_zero hc
  have h0 := good_filter h (fun p => !(p.1 == id))
  refine ⟨?_, ?_, ?_, fun i => ?_⟩
  · unfold tiePart
    rw [List.nodup_append]
    refine ⟨h0.nodup, List.pairwise_map.2 (c2.imp fun hne e => hne (by simpa using e)), ?_⟩
    rintro ⟨a, k⟩ ha ⟨a', k'⟩ hb e
    have := (untieL_mem L id _).1 ha
    simp at hb
    injection e with e1 e2
    exact this.2 (by rw [show (a, k).1 = a from rfl, e1]; exact hb.2.symm)
  · rintro ⟨a, k⟩ hp
    rcases (tiePart_mem _ _ _ _ _).1 hp with hp | ⟨rfl, _⟩
    · exact h0.ids _ hp
    · exact ⟨hid, h1⟩
  · rintro ⟨a, k⟩ hp
    rcases (tiePart_mem _ _ _ _ _).1 hp with hp | ⟨rfl, hk⟩
    · exact h0.keys _ hp
    · have := List.all_eq_true.1 c1 k hk
      unfold rightB at this
      simp at this
      exact this.1.2
  · by_cases e : i = id
    · subst e; rw [keysL_part_same]; omega
    · rw [keysL_part_other L e]; exact h0.few i
theorem tieEnd_ki {w w' : World} {B b N : Nat} {L : List Pr} {id : Int} {ss : List Bs} (h : TieEnd w B b N (untieL L id) id ss w') (hG : Good L) (h1 : 1 ≤ id) (hid : (Lit.int .i64 id).wf = true) (hc : checkN ss = 0) (hne : 0 < ss.length) : KI w' B b N (tiePart (untieL L id) id ss) ∧ Fk B b w w' := by
  obtain ⟨mo, mw, G', Q, g, c, G, k1, rfl, k3, k4, k5⟩ := h
  refine ⟨⟨some mo, some mw, _, Q, k1, by simp, fun i => ?_, k3, good_tie hG h1 hid hc⟩, k5⟩
  by_cases e : i = id
  · subst e
    rw [updG_same]
    refine ⟨by rw [keysL_part_same], fun e => ?_⟩
    have := congrArg List.length e
    rw [sortS_len] at this
    simp at this
    rw [this] at hne; simp at hne
  · rw [updG_other G e]
    have := k4 i
    revert this
    unfold GOk
    rw [keysL_part_other L e]
    exact fun x => x

set_option maxRecDepth 100000 in
set_option maxHeartbeats 2000000 in
/-- Tie to no keys. -/
theorem tie_empty (w : World) (B b N : Nat) (L : List Pr) (id : Int) (sv : Value) (hKI : KI w B b N L) (hid1 : 1 ≤ id) (hid : (Lit.int .i64 id).wf = true) (hT : Texts w.heap.size w sv []) :
    Calls Tryd.prog 13 #[.pointer (some ⟨b, 0, none⟩), .int .i64 id, sv] w fun e w' => e = .returned (.int .i64 0) ∧ (KI w' B b N (untieL L id) ∧ Fk B b w w') := by
  have hch : Calls Tryd.prog 21 #[sv] w fun e w' => e = .returned (.int .i64 0) ∧ Ext w w' := check_any w sv [] hT (by simp) (by simp)
  obtain ⟨A, c, rfl, _⟩ := hT
  have hsl : (Value.slice A ([] : List Bs).length c) = .slice A 0 c := rfl
  rw [hsl] at hch ⊢
  have HCH := Lib.hid hch; have HKI0 := Lib.hid hKI
  clear hch hKI hsl
  go_enter Tryd.func13, Tryd.ntmps13
  go_wp2_with fail
  refine HCH.out.mono ?_
  rintro e w1 ⟨rfl, x1⟩
  have HU := Lib.hid (ki_untie w1 B b N L id (HKI0.out.ext x1) hid)
  have X1 := Lib.hid x1
  clear x1
  go_wp2_with fail
  refine HU.out.mono ?_
  rintro e w2 ⟨rfl, hK2, fk2⟩
  have HK2 := Lib.hid hK2; have FK2 := Lib.hid fk2
  clear hK2 fk2
  go_wp2
  go_ret
  exact ⟨rfl, HK2.out, (Fk.of_ext X1.out B b).trans FK2.out⟩
theorem KI.more {w : World} {B b N M : Nat} {L : List Pr} (h : KI w B b N L) (hM : N ≤ M) : KI w B b M L := by
  obtain ⟨mo, mw, G, Q, h1, h2⟩ := h
  exact ⟨mo, mw, G, Q, h1.more hM, h2⟩
/-- What Tie tells, and what the pairs are then. -/
def tieN (id : Int) (ss : List Bs) : Int := if id < 1 then 1 else checkN ss
def tieL (L : List Pr) (id : Int) (ss : List Bs) : List Pr := if tieN id ss = 0 then tiePart (untieL L id) id ss else L
def TieP (w : World) (B b N : Nat) (L : List Pr) (id : Int) (ss : List Bs) (e : Ending) (w' : World) : Prop := e = .returned (.int .i64 (tieN id ss)) ∧ KI w' B b (N + 1 + 2 * ss.length) (tieL L id ss) ∧ Fk B b w w'
theorem KI.good {w : World} {B b N : Nat} {L : List Pr} (h : KI w B b N L) : Good L := by
  obtain ⟨mo, mw, G, Q, h1, h2, h3, h4, h5⟩ := h
  exact h5
theorem ki_tie (w : World) (B b N : Nat) (L : List Pr) (id : Int) (sv : Value) (ss : List Bs) (hKI : KI w B b N L) (hid : (Lit.int .i64 id).wf = true) (hT : Texts w.heap.size w sv ss) (hl : ss.length ≤ 100000) (hk : ∀ k ∈ ss, k.length ≤ 1000000) (hN : N ≤ 100000) :
    Calls Tryd.prog 13 #[.pointer (some ⟨b, 0, none⟩), .int .i64 id, sv] w (TieP w B b N L id ss) := by
  by_cases h1 : id < 1
  · have e1 : tieN id ss = 1 := by unfold tieN; rw [if_pos h1]
    have e2 : tieL L id ss = L := by unfold tieL; rw [e1, if_neg (by decide)]
    refine (tie_low w b id sv h1).mono fun e w' ⟨he, hw⟩ => ?_
    subst hw
    exact ⟨by rw [e1]; exact he, by rw [e2]; exact hKI.more (by omega), Fk.refl _ _ _⟩
  · have e1 : tieN id ss = checkN ss := by unfold tieN; rw [if_neg h1]
    by_cases h2 : checkN ss = 0
    · have e2 : tieL L id ss = tiePart (untieL L id) id ss := by unfold tieL; rw [e1, if_pos h2]
      by_cases h3 : 0 < ss.length
      · refine (tie_ok w B b N L id sv ss hKI (by omega) hid hT hl hk h2 h3 hN).mono fun e w' ⟨he, hw⟩ => ?_
        have := tieEnd_ki hw hKI.good (by omega) hid h2 h3
        exact ⟨by rw [e1, h2]; exact he, by rw [e2]; exact this.1, this.2⟩
      · have : ss = [] := List.length_eq_zero_iff.1 (by omega)
        subst this
        refine (tie_empty w B b N L id sv hKI (by omega) hid hT).mono fun e w' ⟨he, hw, hf⟩ => ?_
        exact ⟨by rw [e1, h2]; exact he, by rw [e2]; simp [tiePart]; exact hw.more (by omega), hf⟩
    · have e2 : tieL L id ss = L := by unfold tieL; rw [e1, if_neg h2]
      refine (tie_bad w b id sv ss (by omega) hT hl hk h2).mono fun e w' ⟨he, hx⟩ => ?_
      exact ⟨by rw [e1]; exact he, by rw [e2]; exact (hKI.ext hx).more (by omega), Fk.of_ext hx B b⟩
end Go.Proofs.YtgbhhofmghgpbaaDoor
