/- The reference's Same and Numbers, walked. -/
import Derived.Test.YtgbhhofmghgpbaaDoorRefB
namespace Go.Proofs.YtgbhhofmghgpbaaDoor
open Go.RowKit Go.Sort Go.Shelf Go.Maps Go.ChangeMaps
set_option linter.unusedVariables false

/-- The slice value sv holds the numbers zs. -/
def Nums (n0 : Nat) (W : World) (sv : Value) (zs : List Int) : Prop :=
  ∃ (A : Option Addr) (c : Nat), sv = .slice A zs.length c ∧ ∀ j (hj : j < zs.length), ∃ b off, A = some ⟨b, off, none⟩ ∧ b < n0 ∧ W.cell? ⟨b, off + j, none⟩ = some (.int .i64 zs[j])
theorem take_same {α : Type} {a b : List α} {j : Nat} (hj : j < a.length) (hj' : j < b.length) (h : a.take j = b.take j) (he : a[j] = b[j]) : a.take (j + 1) = b.take (j + 1) := by
  rw [List.take_succ_eq_append_getElem hj, List.take_succ_eq_append_getElem hj', h, he]
set_option maxRecDepth 100000 in
set_option maxHeartbeats 2000000 in
theorem same_any (w : World) (n0 n1 : Nat) (va vb : Value) (a b : List Bs) (ha : Texts n0 w va a) (hb : Texts n1 w vb b) (hl : a.length ≤ 1000000) (hl' : b.length ≤ 1000000) : Calls Tryd.prog 8 #[va, vb] w fun e w' => e = .returned (.bool (decide (a = b))) ∧ Ext w w' := by
  obtain ⟨A, c, rfl, hc⟩ := ha
  obtain ⟨A', c', rfl, hc'⟩ := hb
  by_cases hlen : a.length = b.length
  · rw [← hlen]
    obtain ⟨m, hm⟩ : ∃ m, m = a.length := ⟨_, rfl⟩
    rw [← hm] at hl ⊢
    have HC := Lib.hid hc; have HC' := Lib.hid hc'; have HM := Lib.hid hm; have HL := Lib.hid hlen
    clear hc hc' hm hlen hl'
    go_enter Tryd.func8, Tryd.ntmps8
    go_wp2
    go_loopw [13, 5] (fun i _ wr => ∃ j : Nat, j ≤ m ∧ i = .int .i64 j ∧ Hid (a.take j = b.take j) ∧ Ext w wr) (fun i _ _ => m - (intOf i).toNat)
    case atStart => exact ⟨0, by omega, rfl, Lib.hid rfl, Ext.refl _⟩
    case round =>
      obtain ⟨j, hj, rfl, R, hx⟩ := hrel
      have HX := Lib.hid hx
      clear hx
      by_cases hlt : j < m
      · have hjs : j < a.length := by rw [← HM.out]; exact hlt
        have hjs' : j < b.length := by rw [← HL.out]; exact hjs
        obtain ⟨g, off, rfl, _, hcell⟩ := HC.out j hjs
        obtain ⟨g', off', rfl, _, hcell'⟩ := HC'.out j hjs'
        have hts := fun h => take_same hjs hjs' R.out h
        have hne : a[j] ≠ b[j] → a ≠ b := fun h e => h (by subst e; rfl)
        obtain ⟨k, hkk⟩ : ∃ k, k = a[j] := ⟨_, rfl⟩
        obtain ⟨k', hkk'⟩ : ∃ k, k = b[j] := ⟨_, rfl⟩
        rw [← hkk] at hcell hts hne
        rw [← hkk'] at hcell' hts hne
        have c1 : wr.cell? ⟨g, off + j, none⟩ = some (.string ⟨k.toArray⟩) := Ext.cell HX.out hcell
        have c2 : wr.cell? ⟨g', off' + j, none⟩ = some (.string ⟨k'.toArray⟩) := Ext.cell HX.out hcell'
        have HTS := Lib.hid hts; have HNE := Lib.hid hne
        clear hts hne hkk hkk' hcell hcell' hjs hjs'
        go_wp2
        go_quiet (fail)
        all_goals go_wp2
        · have h : (!k == k') = true := by assumption
          go_ret
          exact ⟨ret_bool (by rw [decide_eq_false (HNE.out (by simpa using h))]), HX.out.drewN _⟩
        · have h : (!k == k') = false := by assumption
          go_roundw
          case rel => exact ⟨j + 1, by omega, by go_num, Lib.hid (HTS.out (by simpa using h)), HX.out.drewN _⟩
          case measure => simp [intOf]; omega
      · have hjn : a.take j = a := List.take_of_length_le (by have := HM.out; omega)
        have hjn' : b.take j = b := List.take_of_length_le (by have := HM.out; have := HL.out; omega)
        rw [hjn, hjn'] at R
        go_wp2
        go_ret
        exact ⟨ret_bool (by rw [decide_eq_true R.out]), HX.out⟩
  · have HL : Hid (a ≠ b) := Lib.hid fun e => hlen (by rw [e])
    have hne : (a.length : Int) ≠ b.length := by omega
    obtain ⟨m, hm⟩ : ∃ m, m = a.length := ⟨_, rfl⟩
    obtain ⟨m', hm'⟩ : ∃ m, m = b.length := ⟨_, rfl⟩
    rw [← hm] at hl hne ⊢
    rw [← hm'] at hl' hne ⊢
    clear hc hc' hm hm' hlen
    go_enter Tryd.func8, Tryd.ntmps8
    go_wp2
    go_ret
    exact ⟨ret_bool (by rw [decide_eq_false HL.out]), Ext.refl _⟩
set_option maxRecDepth 100000 in
set_option maxHeartbeats 2000000 in
theorem numbers_any (w : World) (n0 n1 : Nat) (va vb : Value) (a b : List Int) (ha : Nums n0 w va a) (hb : Nums n1 w vb b) (hl : a.length ≤ 1000000) (hl' : b.length ≤ 1000000) : Calls Tryd.prog 14 #[va, vb] w fun e w' => e = .returned (.bool (decide (a = b))) ∧ Ext w w' := by
  obtain ⟨A, c, rfl, hc⟩ := ha
  obtain ⟨A', c', rfl, hc'⟩ := hb
  by_cases hlen : a.length = b.length
  · rw [← hlen]
    obtain ⟨m, hm⟩ : ∃ m, m = a.length := ⟨_, rfl⟩
    rw [← hm] at hl ⊢
    have HC := Lib.hid hc; have HC' := Lib.hid hc'; have HM := Lib.hid hm; have HL := Lib.hid hlen
    clear hc hc' hm hlen hl'
    go_enter Tryd.func14, Tryd.ntmps14
    go_wp2
    go_loopw [13, 5] (fun i _ wr => ∃ j : Nat, j ≤ m ∧ i = .int .i64 j ∧ Hid (a.take j = b.take j) ∧ Ext w wr) (fun i _ _ => m - (intOf i).toNat)
    case atStart => exact ⟨0, by omega, rfl, Lib.hid rfl, Ext.refl _⟩
    case round =>
      obtain ⟨j, hj, rfl, R, hx⟩ := hrel
      have HX := Lib.hid hx
      clear hx
      by_cases hlt : j < m
      · have hjs : j < a.length := by rw [← HM.out]; exact hlt
        have hjs' : j < b.length := by rw [← HL.out]; exact hjs
        obtain ⟨g, off, rfl, _, hcell⟩ := HC.out j hjs
        obtain ⟨g', off', rfl, _, hcell'⟩ := HC'.out j hjs'
        have hts := fun h => take_same hjs hjs' R.out h
        have hne : a[j] ≠ b[j] → a ≠ b := fun h e => h (by subst e; rfl)
        obtain ⟨k, hkk⟩ : ∃ k, k = a[j] := ⟨_, rfl⟩
        obtain ⟨k', hkk'⟩ : ∃ k, k = b[j] := ⟨_, rfl⟩
        rw [← hkk] at hcell hts hne
        rw [← hkk'] at hcell' hts hne
        have c1 : wr.cell? ⟨g, off + j, none⟩ = some (.int .i64 k) := Ext.cell HX.out hcell
        have c2 : wr.cell? ⟨g', off' + j, none⟩ = some (.int .i64 k') := Ext.cell HX.out hcell'
        have HTS := Lib.hid hts; have HNE := Lib.hid hne
        clear hts hne hkk hkk' hcell hcell' hjs hjs'
        go_wp2
        go_quiet (fail)
        all_goals go_wp2
        · have h : (!k == k') = true := by assumption
          go_ret
          exact ⟨ret_bool (by rw [decide_eq_false (HNE.out (by simpa using h))]), HX.out.drewN _⟩
        · have h : (!k == k') = false := by assumption
          go_roundw
          case rel => exact ⟨j + 1, by omega, by go_num, Lib.hid (HTS.out (by simpa using h)), HX.out.drewN _⟩
          case measure => simp [intOf]; omega
      · have hjn : a.take j = a := List.take_of_length_le (by have := HM.out; omega)
        have hjn' : b.take j = b := List.take_of_length_le (by have := HM.out; have := HL.out; omega)
        rw [hjn, hjn'] at R
        go_wp2
        go_ret
        exact ⟨ret_bool (by rw [decide_eq_true R.out]), HX.out⟩
  · have HL : Hid (a ≠ b) := Lib.hid fun e => hlen (by rw [e])
    have hne : (a.length : Int) ≠ b.length := by omega
    obtain ⟨m, hm⟩ : ∃ m, m = a.length := ⟨_, rfl⟩
    obtain ⟨m', hm'⟩ : ∃ m, m = b.length := ⟨_, rfl⟩
    rw [← hm] at hl hne ⊢
    rw [← hm'] at hl' hne ⊢
    clear hc hc' hm hm' hlen
    go_enter Tryd.func14, Tryd.ntmps14
    go_wp2
    go_ret
    exact ⟨ret_bool (by rw [decide_eq_false HL.out]), Ext.refl _⟩
end Go.Proofs.YtgbhhofmghgpbaaDoor
