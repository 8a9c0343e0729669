/- More checks, walked: strong tags, tenants, lists of keys, whole Metas. -/
import Derived.Test.YtpangoddbfiagaaChk
import Derived.Lib.Strings
namespace Go.Proofs.Ytpangoddbfiagaa
open Go.RowKit
set_option linter.unusedVariables false
set_option linter.unusedSimpArgs false

set_option maxRecDepth 100000 in
set_option maxHeartbeats 1000000 in
theorem strong_any (t t' : Bs) (b b' : Bool) (w : World) (ht : t.length ≤ 1000000) (ht' : t'.length ≤ 1000000) : Calls Try.prog 42 #[tagV t b, tagV t' b'] w fun e w' => e = .returned (.bool (strongB t b t' b')) ∧ Ext w w' := by
  have H1 := Lib.hid fun W => weak_any t t' b b' W ht ht'
  obtain ⟨x, hx⟩ : ∃ x, x = weakB t t' := ⟨_, rfl⟩
  have e0 : strongB t b t' b' = (!b && !b' && x) := by rw [hx]; rfl
  rw [e0]
  rw [← hx] at H1
  clear hx e0
  unfold tagV at H1 ⊢
  cases b with
  | true =>
    go_enter Try.func42, Try.ntmps42
    go_wp2
    go_ret
    exact ⟨rfl, ext_alloc2 _ _ _⟩
  | false =>
    cases b' with
    | true =>
      go_enter Try.func42, Try.ntmps42
      go_wp2
      go_ret
      exact ⟨rfl, ext_alloc2 _ _ _⟩
    | false =>
      go_enter Try.func42, Try.ntmps42
      go_wp2_with (go_at_call 60; refine (H1.out _).mono ?_; rintro e w1 ⟨rfl, x1⟩; refine stop_of ?_)
      unfold Stop
      have X1 := Lib.hid ((ext_alloc2 _ _ _).trans x1)
      clear x1
      go_wp2
      go_ret
      exact ⟨ret_bool (by simp), X1.out⟩
set_option maxRecDepth 100000 in
set_option maxHeartbeats 1000000 in
theorem rstrong_any (t t' : Bs) (b b' : Bool) (w : World) (ht : t.length ≤ 1000000) (ht' : t'.length ≤ 1000000) : Calls Try.prog 64 #[tagV t b, tagV t' b'] w fun e w' => e = .returned (.bool (strongB t b t' b')) ∧ Ext w w' := by
  have H1 := Lib.hid fun W => rweak_any t t' b b' W ht ht'
  obtain ⟨x, hx⟩ : ∃ x, x = weakB t t' := ⟨_, rfl⟩
  have e0 : strongB t b t' b' = (!b && !b' && x) := by rw [hx]; rfl
  rw [e0]
  rw [← hx] at H1
  clear hx e0
  unfold tagV at H1 ⊢
  go_enter Try.func64, Try.ntmps64
  go_wp2_with (go_at_call 76; refine (H1.out _).mono ?_; rintro e w1 ⟨rfl, x1⟩; refine stop_of ?_)
  unfold Stop
  obtain ⟨n1, n2⟩ := heap_new2 w (.cells #[.string ⟨t.toArray⟩, .bool b] 27) (.cells #[.string ⟨t'.toArray⟩, .bool b'] 27)
  have k1 := blk_cell (x1.heap n1) 1
  have k2 := blk_cell (x1.heap n2) 1
  have X1 := Lib.hid ((ext_alloc2 _ _ _).trans x1)
  clear x1 n1 n2
  simp at k1 k2
  cases x <;> cases b <;> cases b' <;>
  (go_wp2
   go_ret
   exact ⟨ret_bool (by simp), X1.out⟩)
set_option maxRecDepth 100000 in
theorem dash_any (t : Bs) (w : World) (ht : t.length ≤ 1000000) : Calls Try.prog 80 #[.string ⟨t.toArray⟩, .string ⟨#[45]⟩] w fun e w' => e = .returned (.bool (first45 t)) ∧ w = w' := by
  cases t with
  | nil =>
    go_enter Try.func80, Try.ntmps80
    go_wp2
    go_ret
    exact ⟨rfl, rfl⟩
  | cons c r =>
    go_enter Try.func80, Try.ntmps80
    go_wp2
    go_ret
    refine ⟨ret_bool ?_, rfl⟩
    rw [Go.Lib.extract_toList]
    simp [first45]
    rw [Bool.eq_iff_iff]
    simp
    exact ⟨fun h => by rw [h]; rfl, fun h => UInt8.toNat_inj.1 (by simpa using h)⟩
set_option maxRecDepth 100000 in
theorem prefix_any (t : Bs) (w : World) (ht : t.length ≤ 1000000) : Calls Try.prog 68 #[.string ⟨t.toArray⟩, .string ⟨#[45]⟩] w fun e w' => e = .returned (.bool (first45 t)) ∧ w = w' := by
  have H1 := Lib.hid (dash_any t w ht)
  go_enter Try.func68, Try.ntmps68
  go_wp2_with (go_at_call 80; refine H1.out.mono ?_; rintro e w1 ⟨rfl, rfl⟩; refine stop_of ?_)
  unfold Stop
  go_wp2
  go_ret
  exact ⟨rfl, rfl⟩
set_option maxRecDepth 100000 in
set_option maxHeartbeats 4000000 in
theorem ten_any (t : Bs) (w : World) (ht : t.length ≤ 1000000) : Calls Try.prog 57 #[.string ⟨t.toArray⟩] w fun e w' => e = .returned (.bool (tenB t)) ∧ w = w' := by
  have H1 := Lib.hid (prefix_any t w ht)
  by_cases h1 : 40 < t.length
  · have e0 : tenB t = false := by unfold tenB; rw [decide_eq_false (by omega)]; rfl
    rw [e0]
    go_enter Try.func57, Try.ntmps57
    go_wp2
    go_ret
    exact ⟨rfl, rfl⟩
  · obtain ⟨x, hx⟩ : ∃ x, x = first45 t := ⟨_, rfl⟩
    have e0 : tenB t = (!x && t.all tenByte) := by unfold tenB; rw [decide_eq_true (by omega), hx]; rfl
    rw [e0]
    rw [← hx] at H1
    clear hx e0
    go_enter Try.func57, Try.ntmps57
    go_wp2_with (go_at_call 68; refine H1.out.mono ?_; rintro e w1 ⟨rfl, rfl⟩; refine stop_of ?_)
    unfold Stop
    cases x with
    | true =>
      go_wp2
      go_ret
      exact ⟨rfl, rfl⟩
    | false =>
      go_wp2
      go_loop [15, 3, 4, 5] (fun i _ _ _ => ∃ j : Nat, j ≤ t.length ∧ i = .int .i64 j ∧ (t.take j).all tenByte = true) (fun i _ _ _ => t.length - (intOf i).toNat)
      case atStart => exact ⟨0, by omega, rfl, rfl⟩
      case round =>
        obtain ⟨j, hj, rfl, hall⟩ := hrel
        have HALL := Lib.hid hall
        clear hall
        by_cases hlt : j < t.length
        · have HE : Hid (((⟨t.toArray⟩ : ByteArray)[j]'(by simpa [ByteArray.size] using hlt)).toNat = t[j].toNat) := Lib.hid rfl
          go_wp2
          all_goals first
            | (go_round
               case rel => exact ⟨j + 1, by omega, by go_num, all_good hlt HALL.out (by have := HE.out; have := t[j].toNat_lt; simp [tenByte]; first | omega | (simp at *; omega))⟩
               case measure => simp [intOf]; omega)
            | (have hbad : t.all tenByte = false := all_bad hlt (by have := HE.out; have := t[j].toNat_lt; simp [tenByte]; first | omega | (simp at *; omega))
               go_ret
               exact ⟨ret_bool (by rw [hbad]), rfl⟩)
        · have hjn : t.take j = t := List.take_of_length_le (by omega)
          rw [hjn] at HALL
          go_wp2
          go_ret
          exact ⟨ret_bool (by rw [HALL.out]), rfl⟩
end Go.Proofs.Ytpangoddbfiagaa
