/- Names checked, texts compared: the program's and the document's (printed by gen_small.py). -/
import Derived.Test.YtjphpblangeblaaDoorMem
namespace Go.Proofs.YtjphpblangeblaaDoor
open Go.RowKit
set_option linter.unusedVariables false
set_option linter.unusedSimpArgs false
theorem all_bad {f : UInt8 → Bool} {t : Bs} {j : Nat} (hj : j < t.length) (hb : f t[j] = false) : t.all f = false := by
  rw [List.all_eq_false]
  exact ⟨t[j], by simp, by simp [hb]⟩
theorem all_good {f : UInt8 → Bool} {t : Bs} {j : Nat} (hj : j < t.length) (h : (t.take j).all f = true) (hb : f t[j] = true) : (t.take (j + 1)).all f = true := by
  rw [List.take_succ_eq_append_getElem hj, List.all_append, h]; simp [hb]
set_option maxRecDepth 100000 in
set_option maxHeartbeats 1000000 in
theorem right_any (t : Bs) (w : World) (ht : t.length ≤ 1000000) : Calls Tryd.prog 31 #[.string ⟨t.toArray⟩] w fun e w' => e = .returned (.bool (rightN t)) ∧ w = w' := by
  by_cases h1 : t.length < 1
  · have e0 : rightN t = false := by unfold rightN; rw [decide_eq_false (by omega)]; rfl
    rw [e0]
    go_enter Tryd.func31, Tryd.ntmps31
    go_wp2
    go_ret
    exact ⟨rfl, rfl⟩
  by_cases h2 : 100 < t.length
  · have e0 : rightN t = false := by unfold rightN; rw [decide_eq_false (p := t.length ≤ 100) (by omega)]; simp
    rw [e0]
    go_enter Tryd.func31, Tryd.ntmps31
    go_wp2
    go_ret
    exact ⟨rfl, rfl⟩
  have e0 : rightN t = t.all nameByte := by unfold rightN; rw [decide_eq_true (p := t.length ≤ 100) (by omega), decide_eq_true (p := 1 ≤ t.length) (by omega)]; rfl
  rw [e0]
  clear e0
  go_enter Tryd.func31, Tryd.ntmps31
  go_wp2
  go_loop [14, 3] (fun i _ => ∃ j : Nat, j ≤ t.length ∧ i = .int .i64 j ∧ (t.take j).all nameByte = true) (fun i _ => t.length - (RowKit.intOf i).toNat)
  case atStart => exact ⟨0, by omega, rfl, rfl⟩
  case round =>
    obtain ⟨j, hj, rfl, hall⟩ := hrel
    have HALL := Lib.hid hall
    clear hall
    by_cases hlt : j < t.length
    · have HE : Hid (((⟨t.toArray⟩ : ByteArray)[j]'(by simpa [ByteArray.size] using hlt)).toNat = t[j].toNat) := Lib.hid rfl
      go_wp2
      all_goals first
        | (go_round
           case rel => exact ⟨j + 1, by omega, by go_num, all_good hlt HALL.out (by have := HE.out; have := t[j].toNat_lt; simp [nameByte]; first | omega | (simp at *; omega))⟩
           case measure => simp [RowKit.intOf]; omega)
        | (have hbad : t.all nameByte = false := all_bad hlt (by have := HE.out; have := t[j].toNat_lt; simp [nameByte]; first | omega | (simp at *; omega))
           go_ret
           exact ⟨ret_bool (by rw [hbad]), rfl⟩)
    · have hjn : t.take j = t := List.take_of_length_le (by omega)
      rw [hjn] at HALL
      go_wp2
      go_ret
      exact ⟨ret_bool HALL.out.symm, rfl⟩
set_option maxRecDepth 100000 in
set_option maxHeartbeats 1000000 in
theorem rright_any (t : Bs) (w : World) (ht : t.length ≤ 1000000) : Calls Tryd.prog 41 #[.string ⟨t.toArray⟩] w fun e w' => e = .returned (.bool (rightN t)) ∧ w = w' := by
  by_cases h1 : t.length < 1
  · have e0 : rightN t = false := by unfold rightN; rw [decide_eq_false (by omega)]; rfl
    rw [e0]
    go_enter Tryd.func41, Tryd.ntmps41
    go_wp2
    go_ret
    exact ⟨rfl, rfl⟩
  by_cases h2 : 100 < t.length
  · have e0 : rightN t = false := by unfold rightN; rw [decide_eq_false (p := t.length ≤ 100) (by omega)]; simp
    rw [e0]
    go_enter Tryd.func41, Tryd.ntmps41
    go_wp2
    go_ret
    exact ⟨rfl, rfl⟩
  have e0 : rightN t = t.all nameByte := by unfold rightN; rw [decide_eq_true (p := t.length ≤ 100) (by omega), decide_eq_true (p := 1 ≤ t.length) (by omega)]; rfl
  rw [e0]
  clear e0
  go_enter Tryd.func41, Tryd.ntmps41
  go_wp2
  go_loop [3] (fun i => ∃ j : Nat, j ≤ t.length ∧ i = .int .i64 j ∧ (t.take j).all nameByte = true) (fun i => t.length - (RowKit.intOf i).toNat)
  case atStart => exact ⟨0, by omega, rfl, rfl⟩
  case round =>
    obtain ⟨j, hj, rfl, hall⟩ := hrel
    have HALL := Lib.hid hall
    clear hall
    by_cases hlt : j < t.length
    · have HE : Hid (((⟨t.toArray⟩ : ByteArray)[j]'(by simpa [ByteArray.size] using hlt)).toNat = t[j].toNat) := Lib.hid rfl
      go_wp2
      all_goals first
        | (go_round
           case rel => exact ⟨j + 1, by omega, by go_num, all_good hlt HALL.out (by have := HE.out; have := t[j].toNat_lt; simp [nameByte]; first | omega | (simp at *; omega))⟩
           case measure => simp [RowKit.intOf]; omega)
        | (have hbad : t.all nameByte = false := all_bad hlt (by have := HE.out; have := t[j].toNat_lt; simp [nameByte]; first | omega | (simp at *; omega))
           go_ret
           exact ⟨ret_bool (by rw [hbad]), rfl⟩)
    · have hjn : t.take j = t := List.take_of_length_le (by omega)
      rw [hjn] at HALL
      go_wp2
      go_ret
      exact ⟨ret_bool HALL.out.symm, rfl⟩

theorem TextsAt.cell {w : World} {A : Option Addr} {n c : Nat} {ss : List Bs} (h : TextsAt w (.slice A n c) ss) {j : Nat} (hj : j < ss.length) : ∃ b off, A = some ⟨b, off, none⟩ ∧ w.cell? ⟨b, off + j, none⟩ = some (.string ⟨ss[j].toArray⟩) := by
  obtain ⟨A', c', e, _, _, h4⟩ := h
  injection e with e1 e2 e3
  subst e1
  exact h4 j hj
theorem take_same {α : Type} {a b : List α} {j : Nat} (hj : j < a.length) (hj' : j < b.length) (h : a.take j = b.take j) (he : a[j] = b[j]) : a.take (j + 1) = b.take (j + 1) := by
  rw [List.take_succ_eq_append_getElem hj, List.take_succ_eq_append_getElem hj', h, he]
set_option maxRecDepth 100000 in
set_option maxHeartbeats 2000000 in
theorem same_any (w : World) (va vb : Value) (a b : List Bs) (ha : TextsAt w va a) (hb : TextsAt w vb b) (hl : a.length ≤ 1000000) (hl' : b.length ≤ 1000000) : Calls Tryd.prog 15 #[va, vb] w fun e w' => e = .returned (.bool (decide (a = b))) ∧ Ext w w' := by
  obtain ⟨A, c, rfl, _⟩ := id ha
  obtain ⟨A', c', rfl, _⟩ := id hb
  by_cases hlen : a.length = b.length
  · rw [← hlen]
    obtain ⟨m, hm⟩ : ∃ m, m = a.length := ⟨_, rfl⟩
    rw [← hlen, ← hm] at hb
    rw [← hm] at hl ha ⊢
    have HC := Lib.hid ha; have HC' := Lib.hid hb; have HM := Lib.hid hm; have HL := Lib.hid hlen
    clear ha hb hm hlen hl'
    go_enter Tryd.func15, Tryd.ntmps15
    go_wp2
    go_loopw [13, 5] (fun i _ wr => ∃ j : Nat, j ≤ m ∧ i = .int .i64 j ∧ Hid (a.take j = b.take j) ∧ Ext w wr) (fun i _ _ => m - (RowKit.intOf i).toNat)
    case atStart => exact ⟨0, by omega, rfl, Lib.hid rfl, Ext.refl _⟩
    case round =>
      obtain ⟨j, hj, rfl, R, hx⟩ := hrel
      have HX := Lib.hid hx
      clear hx
      by_cases hlt : j < m
      · have hjs : j < a.length := by rw [← HM.out]; exact hlt
        have hjs' : j < b.length := by rw [← HL.out]; exact hjs
        obtain ⟨g, off, rfl, hcell⟩ := HC.out.cell hjs
        obtain ⟨g', off', rfl, hcell'⟩ := HC'.out.cell hjs'
        have hts := fun h => take_same hjs hjs' R.out h
        have hne : a[j] ≠ b[j] → a ≠ b := fun h e => h (by subst e; rfl)
        obtain ⟨k, hkk⟩ : ∃ k, k = a[j] := ⟨_, rfl⟩
        obtain ⟨k', hkk'⟩ : ∃ k, k = b[j] := ⟨_, rfl⟩
        rw [← hkk] at hcell hts hne
        rw [← hkk'] at hcell' hts hne
        have c1 : wr.cell? ⟨g, off + j, none⟩ = some (.string ⟨k.toArray⟩) := Ext.cell HX.out hcell
        have c2 : wr.cell? ⟨g', off' + j, none⟩ = some (.string ⟨k'.toArray⟩) := Ext.cell HX.out hcell'
        have HTS := Lib.hid hts; have HNE := Lib.hid hne
        clear hts hne hkk hkk' hcell hcell' hjs hjs'
        go_wp2
        go_quiet (fail)
        all_goals go_wp2
        · have h : (!k == k') = true := by assumption
          go_ret
          exact ⟨ret_bool (by rw [decide_eq_false (HNE.out (by simpa using h))]), HX.out.drewN _⟩
        · have h : (!k == k') = false := by assumption
          go_roundw
          case rel => exact ⟨j + 1, by omega, by go_num, Lib.hid (HTS.out (by simpa using h)), HX.out.drewN _⟩
          case measure => simp [RowKit.intOf]; omega
      · have hjn : a.take j = a := List.take_of_length_le (by have := HM.out; omega)
        have hjn' : b.take j = b := List.take_of_length_le (by have := HM.out; have := HL.out; omega)
        rw [hjn, hjn'] at R
        go_wp2
        go_ret
        exact ⟨ret_bool (by rw [decide_eq_true R.out]), HX.out⟩
  · have HL : Hid (a ≠ b) := Lib.hid fun e => hlen (by rw [e])
    have hne : (a.length : Int) ≠ b.length := by omega
    obtain ⟨m, hm⟩ : ∃ m, m = a.length := ⟨_, rfl⟩
    obtain ⟨m', hm'⟩ : ∃ m, m = b.length := ⟨_, rfl⟩
    rw [← hm] at hl hne ⊢
    rw [← hm'] at hl' hne ⊢
    clear ha hb hm hm' hlen
    go_enter Tryd.func15, Tryd.ntmps15
    go_wp2
    go_ret
    exact ⟨ret_bool (by rw [decide_eq_false HL.out]), Ext.refl _⟩
set_option maxRecDepth 100000 in
set_option maxHeartbeats 1000000 in
theorem rin_any (w : World) (sv : Value) (ss : List Bs) (t : Bs) (hT : TextsAt w sv ss) (hl : ss.length ≤ 1000000) : Calls Tryd.prog 23 #[sv, .string ⟨t.toArray⟩] w fun e w' => e = .returned (.bool (decide (t ∈ ss))) ∧ w = w' := by
  obtain ⟨A, c, rfl, _⟩ := id hT
  obtain ⟨m, hm⟩ : ∃ m, m = ss.length := ⟨_, rfl⟩
  rw [← hm] at hl ⊢
  have HC := Lib.hid hT; have HM := Lib.hid hm
  clear hT hm
  go_enter Tryd.func23, Tryd.ntmps23
  go_wp2
  go_loop [9, 6] (fun i _ => ∃ j : Nat, j ≤ m ∧ i = .int .i64 j ∧ Hid (t ∉ ss.take j)) (fun i _ => m - (RowKit.intOf i).toNat)
  case atStart => exact ⟨0, by omega, rfl, Lib.hid (by simp)⟩
  case round =>
    obtain ⟨j, hj, rfl, R⟩ := hrel
    by_cases hlt : j < m
    · have hjs : j < ss.length := by rw [← HM.out]; exact hlt
      obtain ⟨b, off, rfl, hcl⟩ := HC.out.cell hjs
      have htk : ss.take (j + 1) = ss.take j ++ [ss[j]] := List.take_succ_eq_append_getElem hjs
      have hmem : ss[j] ∈ ss := by simp
      obtain ⟨k, hkk⟩ : ∃ k, k = ss[j] := ⟨_, rfl⟩
      rw [← hkk] at hcl htk hmem
      have HTK := Lib.hid htk; have HMEM := Lib.hid hmem
      clear htk hmem hkk hjs
      go_wp2
      · have h : (k == t) = true := by assumption
        go_ret
        exact ⟨ret_bool (by rw [decide_eq_true (by have : k = t := by simpa using h
                                                   rw [← this]; exact HMEM.out)]), rfl⟩
      · have h : (k == t) = false := by assumption
        go_round
        case rel => exact ⟨j + 1, by omega, by go_num, Lib.hid (by
          rw [HTK.out, List.mem_append, List.mem_singleton]
          rintro (h1 | h1)
          · exact R.out h1
          · rw [h1] at h; simp at h)⟩
        case measure => simp [RowKit.intOf]; omega
    · have hjn : ss.take j = ss := List.take_of_length_le (by have := HM.out; omega)
      rw [hjn] at R
      go_wp2
      go_ret
      exact ⟨ret_bool (by rw [decide_eq_false R.out]), rfl⟩
end Go.Proofs.YtjphpblangeblaaDoor
