/- The number of a text: the program's and the document's; a number's digits. -/
import Derived.Test.YtjphpblangeblaaDoorBase
import Derived.Test.YtjphpblangeblaaDoorSem
namespace Go.Proofs.YtjphpblangeblaaDoor
open Go.RowKit
set_option linter.unusedVariables false
set_option linter.unusedSimpArgs false

def hashS (h : Int) (c : UInt8) : Int := IntKind.u64.wrap (bits BinOp.xor IntKind.u64 h (IntKind.u64.wrap c.toNat) * 1099511628211)
def hashL (t : Bs) : Int := t.foldl hashS 14695981039346656037
theorem hashL_snoc (t : Bs) (c : UInt8) : hashL (t ++ [c]) = hashS (hashL t) c := by simp [hashL]
theorem hashS_range (h : Int) (c : UInt8) : 0 ≤ hashS h c ∧ hashS h c < 18446744073709551616 := by
  unfold hashS
  generalize (bits BinOp.xor IntKind.u64 h (IntKind.u64.wrap c.toNat) * 1099511628211) = z
  unfold IntKind.wrap; simp [IntKind.bits, IntKind.signed]; omega
theorem hashL_range (t : Bs) : 0 ≤ hashL t ∧ hashL t < 18446744073709551616 := by
  rcases List.eq_nil_or_concat t with rfl | ⟨l, c, rfl⟩
  · simp [hashL]
  · rw [List.concat_eq_append, hashL_snoc]; exact hashS_range _ _
set_option maxRecDepth 100000 in
set_option maxHeartbeats 1000000 in
theorem hash_any (t : Bs) (w : World) (ht : t.length ≤ 1000000) : Calls Tryd.prog 27 #[.string ⟨t.toArray⟩] w fun e w' => e = .returned (.int .u64 (hashL t)) ∧ w = w' := by
  go_enter Tryd.func27, Tryd.ntmps27
  go_wp2
  go_loop [7, 3] (fun i h => ∃ j : Nat, ∃ hv : Int, j ≤ t.length ∧ i = .int .i64 j ∧ h = .int .u64 hv ∧ Hid (hv = hashL (t.take j))) (fun i h => t.length - (intOf i).toNat)
  case atStart => exact ⟨0, _, by omega, rfl, rfl, Lib.hid (by simp [hashL])⟩
  case round =>
    obtain ⟨j, hv, hj, rfl, rfl, hall⟩ := hrel
    by_cases hlt : j < t.length
    · have htk : t.take (j + 1) = t.take j ++ [t[j]] := List.take_succ_eq_append_getElem hlt
      have HTK := Lib.hid htk
      clear htk
      go_wp2
      go_round
      case rel => exact ⟨j + 1, _, by omega, by go_num, rfl, Lib.hid (by rw [HTK.out, hashL_snoc, ← hall.out]; rfl)⟩
      case measure => simp [intOf]; omega
    · have hjn : t.take j = t := List.take_of_length_le (by omega)
      rw [hjn] at hall
      go_wp2
      go_ret
      exact ⟨by rw [hall.out]; rfl, rfl⟩
set_option maxRecDepth 100000 in
set_option maxHeartbeats 1000000 in
theorem rhash_any (t : Bs) (w : World) (ht : t.length ≤ 1000000) : Calls Tryd.prog 43 #[.string ⟨t.toArray⟩] w fun e w' => e = .returned (.int .u64 (hashL t)) ∧ w = w' := by
  go_enter Tryd.func43, Tryd.ntmps43
  go_wp2
  go_loop [4, 3] (fun i h => ∃ j : Nat, ∃ hv : Int, j ≤ t.length ∧ i = .int .i64 j ∧ h = .int .u64 hv ∧ Hid (hv = hashL (t.take j))) (fun i h => t.length - (intOf i).toNat)
  case atStart => exact ⟨0, _, by omega, rfl, rfl, Lib.hid (by simp [hashL])⟩
  case round =>
    obtain ⟨j, hv, hj, rfl, rfl, hall⟩ := hrel
    by_cases hlt : j < t.length
    · have htk : t.take (j + 1) = t.take j ++ [t[j]] := List.take_succ_eq_append_getElem hlt
      have HTK := Lib.hid htk
      clear htk
      go_wp2
      go_round
      case rel => exact ⟨j + 1, _, by omega, by go_num, rfl, Lib.hid (by rw [HTK.out, hashL_snoc, ← hall.out]; rfl)⟩
      case measure => simp [intOf]; omega
    · have hjn : t.take j = t := List.take_of_length_le (by omega)
      rw [hjn] at hall
      go_wp2
      go_ret
      exact ⟨by rw [hall.out]; rfl, rfl⟩
end Go.Proofs.YtjphpblangeblaaDoor
