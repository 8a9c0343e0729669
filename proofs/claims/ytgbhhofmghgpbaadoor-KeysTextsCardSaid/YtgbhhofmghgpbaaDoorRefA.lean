/- The reference's small functions, walked: In, Key, Few. -/
import Derived.Test.YtgbhhofmghgpbaaDoorWith
namespace Go.Proofs.YtgbhhofmghgpbaaDoor
open Go.RowKit Go.Sort Go.Shelf Go.Maps Go.ChangeMaps
set_option linter.unusedVariables false

set_option maxRecDepth 100000 in
set_option maxHeartbeats 1000000 in
theorem rin_any (w : World) (n0 : Nat) (sv : Value) (ss : List Bs) (t : Bs) (hT : Texts n0 w sv ss) (hl : ss.length ≤ 1000000) : Calls Tryd.prog 20 #[sv, .string ⟨t.toArray⟩] w fun e w' => e = .returned (.bool (decide (t ∈ ss))) ∧ w = w' := by
  obtain ⟨A, c, rfl, hc⟩ := hT
  obtain ⟨m, hm⟩ : ∃ m, m = ss.length := ⟨_, rfl⟩
  rw [← hm] at hl ⊢
  have HC := Lib.hid hc; have HM := Lib.hid hm
  clear hc hm
  go_enter Tryd.func20, Tryd.ntmps20
  go_wp2
  go_loop [9, 6] (fun i _ => ∃ j : Nat, j ≤ m ∧ i = .int .i64 j ∧ t ∉ ss.take j) (fun i _ => m - (intOf i).toNat)
  case atStart => exact ⟨0, by omega, rfl, by simp⟩
  case round =>
    obtain ⟨j, hj, rfl, hr⟩ := hrel
    have R := Lib.hid hr
    clear hr
    by_cases hlt : j < m
    · have hjs : j < ss.length := by rw [← HM.out]; exact hlt
      obtain ⟨b, off, rfl, hb, hcell⟩ := HC.out j hjs
      have htk : ss.take (j + 1) = ss.take j ++ [ss[j]] := List.take_succ_eq_append_getElem hjs
      have hmem : ss[j] ∈ ss := by simp
      obtain ⟨k, hkk⟩ : ∃ k, k = ss[j] := ⟨_, rfl⟩
      rw [← hkk] at hcell htk hmem
      have hcl : w.cell? ⟨b, off + j, none⟩ = some (.string ⟨k.toArray⟩) := hcell
      have HTK := Lib.hid htk; have HMEM := Lib.hid hmem
      clear htk hmem hkk hcell hjs
      go_wp2
      · have h : (k == t) = true := by assumption
        go_ret
        exact ⟨ret_bool (by rw [decide_eq_true (by have : k = t := by simpa using h
                                                   rw [← this]; exact HMEM.out)]), rfl⟩
      · have h : (k == t) = false := by assumption
        go_round
        case rel => exact ⟨j + 1, by omega, by go_num, by
          rw [HTK.out, List.mem_append, List.mem_singleton]
          rintro (h1 | h1)
          · exact R.out h1
          · rw [h1] at h; simp at h⟩
        case measure => simp [intOf]; omega
    · have hjn : ss.take j = ss := List.take_of_length_le (by have := HM.out; omega)
      rw [hjn] at R
      go_wp2
      go_ret
      exact ⟨ret_bool (by rw [decide_eq_false R.out]), rfl⟩

set_option maxRecDepth 100000 in
set_option maxHeartbeats 1000000 in
theorem rkey_any (t : Bs) (w : World) (ht : t.length ≤ 1000000) : Calls Tryd.prog 19 #[.string ⟨t.toArray⟩] w fun e w' => e = .returned (.bool (rightB t)) ∧ w = w' := by
  by_cases h1 : t.length < 1
  · have e0 : rightB t = false := by unfold rightB; rw [decide_eq_false (by omega)]; rfl
    rw [e0]
    go_enter Tryd.func19, Tryd.ntmps19
    go_wp2
    go_ret
    exact ⟨rfl, rfl⟩
  · by_cases h2 : 200 < t.length
    · have e0 : rightB t = false := by unfold rightB; rw [decide_eq_false (p := t.length ≤ 200) (by omega)]; simp
      rw [e0]
      go_enter Tryd.func19, Tryd.ntmps19
      go_wp2
      go_ret
      exact ⟨rfl, rfl⟩
    · have e0 : rightB t = t.all byteB := by unfold rightB; rw [decide_eq_true (p := t.length ≤ 200) (by omega), decide_eq_true (p := 1 ≤ t.length) (by omega)]; rfl
      rw [e0]
      go_enter Tryd.func19, Tryd.ntmps19
      go_wp2
      go_loop [3] (fun i => ∃ j : Nat, j ≤ t.length ∧ i = .int .i64 j ∧ (t.take j).all byteB = true) (fun i => t.length - (intOf i).toNat)
      case atStart => exact ⟨0, by omega, rfl, rfl⟩
      case round =>
        obtain ⟨j, hj, rfl, hall⟩ := hrel
        have HALL := Lib.hid hall
        clear hall
        by_cases hlt : j < t.length
        · have htk : t.take (j + 1) = t.take j ++ [t[j]] := List.take_succ_eq_append_getElem hlt
          have HTK := Lib.hid htk
          clear htk
          go_wp2
          all_goals first
            | (go_round
               case rel =>
                 have hx : 32 < (t[j].toNat : Int) ∧ (t[j].toNat : Int) ≤ 126 := by assumption
                 refine ⟨j + 1, by omega, by go_num, ?_⟩
                 rw [HTK.out, List.all_append, HALL.out]
                 simp [byteB]
                 omega
               case measure => simp [intOf]; omega)
            | (have hx : (t[j].toNat : Int) ≤ 32 ∨ 126 < (t[j].toNat : Int) := by assumption
               have hbad := all_bad hlt (bad_of (by omega))
               go_ret
               exact ⟨ret_bool hbad.symm, rfl⟩)
            | (have hx : (t[j].toNat : Int) ≤ 32 := by assumption
               have hbad := all_bad hlt (bad_of (by omega))
               go_ret
               exact ⟨ret_bool hbad.symm, rfl⟩)
        · have hjn : t.take j = t := List.take_of_length_le (by omega)
          rw [hjn] at HALL
          go_wp2
          go_ret
          exact ⟨ret_bool HALL.out.symm, rfl⟩

/-- Few. -/
def bytesL (ss : List Bs) : Nat := (ss.map List.length).sum
theorem bytesL_append (a b : List Bs) : bytesL (a ++ b) = bytesL a + bytesL b := by simp [bytesL]
theorem bytesL_take (ss : List Bs) (j : Nat) : bytesL (ss.take j) ≤ bytesL ss := by
  conv => rhs; rw [← List.take_append_drop j ss]
  rw [bytesL_append]; omega
def fewB (ss : List Bs) (many bytes : Int) : Bool := decide ((bytesL ss : Int) ≤ bytes) && decide ((ss.length : Int) ≤ many)
theorem fewB_iff (ss : List Bs) (many bytes : Int) : fewB ss many bytes = true ↔ (bytesL ss : Int) ≤ bytes ∧ (ss.length : Int) ≤ many := by simp [fewB]
set_option maxRecDepth 100000 in
set_option maxHeartbeats 1000000 in
theorem few_any (w : World) (n0 : Nat) (sv : Value) (ss : List Bs) (many bytes : Int) (hT : Texts n0 w sv ss) (hl : ss.length ≤ 9223372036854775807) (hb0 : 0 ≤ bytes) (hb1 : bytes ≤ 2000) (hk : ∀ k ∈ ss, k.length ≤ 9223372036854775807) : Calls Tryd.prog 9 #[sv, .int .i64 many, .int .i64 bytes] w fun e w' => e = .returned (.bool (fewB ss many bytes)) ∧ w = w' := by
  obtain ⟨A, c, rfl, hc⟩ := hT
  obtain ⟨m, hm⟩ : ∃ m, m = ss.length := ⟨_, rfl⟩
  rw [← hm] at hl ⊢
  have HC := Lib.hid hc; have HM := Lib.hid hm; have HK := Lib.hid hk
  clear hc hm hk
  go_enter Tryd.func9, Tryd.ntmps9
  go_wp2
  go_loop [11, 8, 2] (fun i _ s => ∃ j : Nat, ∃ s' : Int, j ≤ m ∧ i = .int .i64 j ∧ s = .int .i64 s' ∧ Hid (s' = bytes - bytesL (ss.take j)) ∧ 0 ≤ s' ∧ s' ≤ 2000) (fun i _ _ => m - (intOf i).toNat)
  case atStart => exact ⟨0, bytes, by omega, rfl, rfl, Lib.hid (by simp [bytesL]), hb0, hb1⟩
  case round =>
    obtain ⟨j, s', hj, rfl, rfl, hs, hs0, hs1⟩ := hrel
    by_cases hlt : j < m
    · have hjs : j < ss.length := by rw [← HM.out]; exact hlt
      obtain ⟨b, off, rfl, hb, hcell⟩ := HC.out j hjs
      have htk : ss.take (j + 1) = ss.take j ++ [ss[j]] := List.take_succ_eq_append_getElem hjs
      have hkl := HK.out ss[j] (by simp)
      obtain ⟨k, hkk⟩ : ∃ k, k = ss[j] := ⟨_, rfl⟩
      rw [← hkk] at hcell htk hkl
      have hcl : w.cell? ⟨b, off + j, none⟩ = some (.string ⟨k.toArray⟩) := hcell
      have HB : Hid (bytesL (ss.take (j + 1)) = bytesL (ss.take j) + k.length) := Lib.hid (by rw [htk, bytesL_append]; simp [bytesL])
      have hle := Lib.hid (bytesL_take ss (j + 1))
      clear htk hkk hcell hjs
      by_cases hbig : s' < k.length
      · go_wp2
        go_ret
        exact ⟨ret_bool (by unfold fewB; rw [decide_eq_false (by have := hs.out; have := HB.out; have := hle.out; omega)]; rfl), rfl⟩
      · go_wp2
        go_round
        case rel => exact ⟨j + 1, s' - k.length, by omega, by go_num, by go_num, Lib.hid (by have := hs.out; have := HB.out; omega), by omega, by omega⟩
        case measure => simp [intOf]; omega
    · have hjn : ss.take j = ss := List.take_of_length_le (by have := HM.out; omega)
      rw [hjn] at hs
      by_cases hmm : (m : Int) ≤ many
      · go_wp2
        go_ret
        exact ⟨ret_bool (by rw [eq_comm, fewB_iff]; have := hs.out; have := HM.out; omega), rfl⟩
      · go_wp2
        go_ret
        exact ⟨ret_bool (by rw [eq_comm, Bool.eq_false_iff, Ne, fewB_iff]; have := HM.out; omega), rfl⟩
end Go.Proofs.YtgbhhofmghgpbaaDoor
