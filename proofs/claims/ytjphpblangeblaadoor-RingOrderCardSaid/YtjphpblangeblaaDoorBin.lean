/- slices.BinarySearchFunc at points, walked. -/
import Derived.Test.YtjphpblangeblaaDoorDel
namespace Go.Proofs.YtjphpblangeblaaDoor
open Go.RowKit Go.Maps Go.ChangeMaps
set_option linter.unusedVariables false
set_option linter.unusedSimpArgs false
/-- Where the points at H or beyond begin. -/
def FirstP (P : List Pt) (H : Int) (f : Nat) : Prop := f ≤ P.length ∧ (∀ p ∈ P.take f, p.at_ < H) ∧ ∀ p ∈ P.drop f, H ≤ p.at_
theorem rise_at {P : List Pt} (h : Rise P) {i j : Nat} (hij : i ≤ j) (hj : j < P.length) : (P[i]'(by omega)).at_ ≤ P[j].at_ := by
  rcases Nat.eq_or_lt_of_le hij with rfl | hlt
  · exact Int.le_refl _
  · have := (List.pairwise_iff_getElem.1 h) i j (by omega) hj hlt
    have h2 : ¬ (P[j].at_ < P[i].at_) := fun hh => this (.inl hh)
    omega
section
variable {w : World} {B : Nat} {P : List Pt} {A : Option Addr} {c : Nat}
set_option maxRecDepth 100000 in
set_option maxHeartbeats 4000000 in
theorem bs_any (h : PRow w B (.slice A P.length c) P) (hr : Rise P) (hl : P.length ≤ 1000000) (H : Int) : Calls Tryd.prog 26 #[.slice A P.length c, .int .u64 H, .func (.func 28) #[] #[]] w fun e w' => ∃ (f : Nat) (b : Bool), e = .returned (.tuple #[.int .i64 f, .bool b]) ∧ FirstP P H f ∧ Ext w w' := by
  obtain ⟨m, hm⟩ : ∃ m, m = P.length := ⟨_, rfl⟩
  have HR := Lib.hid h; have HM := Lib.hid hm; have HRI := Lib.hid hr
  rw [← hm] at hl ⊢
  clear h hr hm
  go_enter Tryd.func26, Tryd.ntmps26
  go_wp2
  go_loopw [9, 10] (fun s9 s10 wr => ∃ lo hi : Nat, s9 = .int .i64 lo ∧ s10 = .int .i64 hi ∧ lo ≤ hi ∧ hi ≤ m ∧ Hid (∀ p ∈ P.take lo, p.at_ < H) ∧ Hid (∀ p ∈ P.drop hi, H ≤ p.at_) ∧ Hid (Ext w wr)) (fun s9 s10 _ => (RowKit.intOf s10).toNat - (RowKit.intOf s9).toNat)
  case atStart => exact ⟨0, m, rfl, rfl, by omega, by omega, Lib.hid (by simp), Lib.hid (by rw [HM.out]; simp), Lib.hid (Ext.refl _)⟩
  case round =>
    obtain ⟨lo, hi, rfl, rfl, hlh, him, R1, R2, HX⟩ := hrel
    by_cases hlt : lo < hi
    · obtain ⟨md, hmd⟩ : ∃ md, md = (lo + hi) / 2 := ⟨_, rfl⟩
      have hmi : ((lo : Int) + (hi : Int)) / 2 = (md : Int) := by omega
      have hmm : lo ≤ md ∧ md < hi := by omega
      have hjs : md < P.length := by have := HM.out; omega
      obtain ⟨g, pa, pn, rfl, k0, k1, hle, hge⟩ : ∃ (g : Nat) (pa : Int) (pn : Nm), A = some ⟨g, 0, none⟩ ∧ wr.cell? ⟨g, md * 2, none⟩ = some (.int .u64 pa) ∧ wr.cell? ⟨g, md * 2 + 1, none⟩ = some (.string ⟨pn.toArray⟩) ∧ (∀ q ∈ P.take (md + 1), q.at_ ≤ pa) ∧ (∀ q ∈ P.drop md, pa ≤ q.at_) := by
        obtain ⟨g, hA, _, _, hc⟩ := (HR.out.ext HX.out).at_ encPt_len hjs
        refine ⟨g, P[md].at_, P[md].nm, hA, hc 0 (by omega), hc 1 (by omega), fun q hq => ?_, fun q hq => ?_⟩
        · obtain ⟨k, hk, rfl⟩ := List.mem_take_iff_getElem.1 hq
          exact rise_at HRI.out (by omega) hjs
        · obtain ⟨k, hk, rfl⟩ := List.mem_iff_getElem.1 hq
          rw [List.getElem_drop]
          exact rise_at HRI.out (by omega) (by simp at hk; omega)
      have HL := Lib.hid (lit28 ⟨pa, pn⟩ H wr)
      have hci := cmpI_neg pa H
      obtain ⟨ci, hci0⟩ : ∃ ci, ci = cmpI pa H := ⟨_, rfl⟩
      unfold ptV at HL
      simp only at HL
      rw [← hci0] at hci HL
      have HCI := Lib.hid hci; have HLE := Lib.hid hle; have HGE := Lib.hid hge
      obtain ⟨hm1, hm2⟩ := hmm
      clear hci hci0 hle hge hjs hmd
      by_cases hn : ci < 0
      · go_wp2_with (go_at_call 28; refine HL.out.mono ?_; rintro e w1 ⟨rfl, hx1⟩)
        have HX1 := Lib.hid (HX.out.trans hx1)
        clear hx1 HL
        go_roundw
        case rel => exact ⟨md + 1, hi, by go_num, rfl, by omega, him, Lib.hid fun q hq => by have := HLE.out q hq; have := HCI.out.1 hn; omega, R2, HX1⟩
        case measure => simp [RowKit.intOf]; omega
      · go_wp2_with (go_at_call 28; refine HL.out.mono ?_; rintro e w1 ⟨rfl, hx1⟩)
        have HX1 := Lib.hid (HX.out.trans hx1)
        clear hx1 HL
        go_roundw
        case rel => exact ⟨lo, md, rfl, rfl, by omega, by omega, R1, Lib.hid fun q hq => by have := HGE.out q hq; have := mt HCI.out.2 (by omega); omega, HX1⟩
        case measure => simp [RowKit.intOf]; omega
    · have e : lo = hi := by omega
      subst e
      have HF : Hid (FirstP P H lo) := Lib.hid ⟨by have := HM.out; omega, R1.out, R2.out⟩
      by_cases hlm : lo < m
      · have hjs : lo < P.length := by have := HM.out; omega
        obtain ⟨g, pa, pn, rfl, k0, k1⟩ : ∃ (g : Nat) (pa : Int) (pn : Nm), A = some ⟨g, 0, none⟩ ∧ wr.cell? ⟨g, lo * 2, none⟩ = some (.int .u64 pa) ∧ wr.cell? ⟨g, lo * 2 + 1, none⟩ = some (.string ⟨pn.toArray⟩) := by
          obtain ⟨g, hA, _, _, hc⟩ := (HR.out.ext HX.out).at_ encPt_len hjs
          exact ⟨g, P[lo].at_, P[lo].nm, hA, hc 0 (by omega), hc 1 (by omega)⟩
        have HL := Lib.hid (lit28 ⟨pa, pn⟩ H wr)
        unfold ptV at HL
        simp only at HL
        clear hjs
        go_wp2_with (go_at_call 28; refine HL.out.mono ?_; rintro e w1 ⟨rfl, hx1⟩)
        go_ret2
        exact ⟨lo, _, rfl, HF.out, HX.out.trans hx1⟩
      · go_wp2
        go_ret2
        exact ⟨lo, _, rfl, HF.out, HX.out⟩
end
end Go.Proofs.YtjphpblangeblaaDoor
