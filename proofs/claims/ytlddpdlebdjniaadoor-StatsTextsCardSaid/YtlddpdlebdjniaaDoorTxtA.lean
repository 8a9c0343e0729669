/- The digits of a number, below 0 too: the document's, walked. -/
import Derived.Test.YtlddpdlebdjniaaDoorWakes
import Derived.Laws.BytesArg
namespace Go.Proofs.YtlddpdlebdjniaaDoor
open Go.RowKit
set_option linter.unusedVariables false
set_option linter.unusedSimpArgs false
theorem strOfNums_one (c : UInt8) : strOfNums [(c.toNat : Int)] = ⟨#[c]⟩ := by
  unfold strOfNums; simp
theorem dig1 (w : World) (c : UInt8) : (convert 51 9 (.slice (some ⟨w.heap.size, 0, none⟩) 1 1)).run Tryd.prog (w.alloc (.cells #[.int .u8 c.toNat] 5)) = .ok (.string ⟨#[c]⟩) (w.alloc (.cells #[.int .u8 c.toNat] 5)) := by
  have h := run_convert_bytes_arg (w.alloc (.cells #[.int .u8 (c.toNat : Int)] 5)) 51 5 Tryd.underlying51 Tryd.underlying5 w.heap.size 0 1 1 [(c.toNat : Int)] rfl (fun i hi => ?_) 9 Tryd.underlying9
  · rw [strOfNums_one] at h; exact h
  · obtain rfl : i = 0 := by simp at hi; omega
    rw [blk_cell (heap_alloc_new w _)]; rfl
def decL (u : Nat) : Bs := if h : u < 10 then [UInt8.ofNat (48 + u)] else decL (u / 10) ++ [UInt8.ofNat (48 + u % 10)]
termination_by u
theorem decL_small {u : Nat} (h : u < 10) : decL u = [UInt8.ofNat (48 + u)] := by rw [decL, dif_pos h]
theorem decL_big {u : Nat} (h : ¬ u < 10) : decL u = decL (u / 10) ++ [UInt8.ofNat (48 + u % 10)] := by rw [decL, dif_neg h]
theorem decL_len : ∀ (k u : Nat), u < 10 ^ (k + 1) → (decL u).length ≤ k + 1
  | 0, u, h => by rw [decL_small (by simpa using h)]; simp
  | k + 1, u, h => by
    by_cases hs : u < 10
    · rw [decL_small hs]; simp
    · rw [decL_big hs, List.length_append]
      have := decL_len k (u / 10) (by rw [Nat.div_lt_iff_lt_mul (by decide)]; rw [Nat.pow_succ] at h; omega)
      simp; omega
theorem u8of (m : Nat) (h : m < 10) : ((UInt8.ofNat (48 + m)).toNat : Int) = 48 + (m : Int) := by
  rw [UInt8.toNat_ofNat_of_lt' (by show 48 + m < 256; omega)]; omega
set_option maxRecDepth 100000 in
set_option maxHeartbeats 1000000 in
theorem rdig_any : ∀ (k n : Nat) (w : World), n ≤ k → n ≤ 9223372036854775807 → Calls Tryd.prog 27 #[.int .i64 n] w fun e w' => e = .returned (.string ⟨(decL n).toArray⟩) ∧ Ext w w'
  | k, n, w, hk, hn => by
    have hrun := dig1 w (UInt8.ofNat (48 + n % 10))
    rw [u8of _ (Nat.mod_lt _ (by decide))] at hrun
    have hm : ((n % 10 : Nat) : Int) = (n : Int) % 10 := by omega
    rw [hm] at hrun
    clear hm
    by_cases hs : n < 10
    · rw [decL_small hs]
      rw [show (UInt8.ofNat (48 + n % 10)) = UInt8.ofNat (48 + n) by rw [Nat.mod_eq_of_lt hs]] at hrun
      obtain ⟨c, hc⟩ : ∃ c, c = UInt8.ofNat (48 + n) := ⟨_, rfl⟩
      rw [← hc] at hrun ⊢
      clear hc
      go_enter Tryd.func27, Tryd.ntmps27
      go_wp2
      go_ret
      exact ⟨rfl, alloc_ext _ _⟩
    · rw [decL_big hs]
      have ih := rdig_any (k - 1) (n / 10) (w.alloc (.cells #[.int .u8 (48 + (n : Int) % 10)] 5)) (by omega) (by omega)
      have hlen := decL_len 18 (n / 10) (by omega)
      obtain ⟨c, hc⟩ : ∃ c, c = UInt8.ofNat (48 + n % 10) := ⟨_, rfl⟩
      rw [← hc] at hrun ⊢
      obtain ⟨ds, hds⟩ : ∃ ds, ds = decL (n / 10) := ⟨_, rfl⟩
      rw [← hds] at ih hlen ⊢
      have hl2 : ds.length ≤ 1000000 := by omega
      have IH := Lib.hid ih
      clear hc hds ih hlen
      go_enter Tryd.func27, Tryd.ntmps27
      go_wp2_with (go_at_call 27; refine IH.out.mono ?_; rintro e w2 ⟨rfl, hx⟩; have HX := Lib.hid hx; clear hx)
      go_ret
      refine ⟨?_, (alloc_ext _ _).trans HX.out⟩
      have e : (⟨ds.toArray⟩ : ByteArray) ++ ⟨#[c]⟩ = ⟨(ds ++ [c]).toArray⟩ := by
        have := ByteArray.mk_append_mk ds [c]
        exact this
      exact congrArg (fun z => Ending.returned (.string z)) e
termination_by k => k
decreasing_by omega
end Go.Proofs.YtlddpdlebdjniaaDoor
