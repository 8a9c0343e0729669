/- The digits of a number: the document's, walked. -/
import Derived.Test.YtjphpblangeblaaDoorHash
import Derived.Lib.SlBytesConst
import Derived.Laws.BytesArg
namespace Go.Proofs.YtjphpblangeblaaDoor
open Go.RowKit
set_option linter.unusedVariables false
set_option linter.unusedSimpArgs false

theorem strOfNums_bytes (bs : Bs) : strOfNums (bs.map fun b => (b.toNat : Int)) = ⟨bs.toArray⟩ := by
  unfold strOfNums
  congr 2
  rw [List.map_map]
  have : ((fun n : Int => UInt8.ofNat n.toNat) ∘ fun b : UInt8 => (b.toNat : Int)) = id := by funext b; simp
  rw [this, List.map_id]
theorem byte_getD (l : Bs) (i : Nat) (h : i < l.length) : some ((l.map byteV)[i]'(by simpa using h)) = some (Value.int .u8 ((l.map fun b => (b.toNat : Int)).getD i 0)) := by
  simp [byteV, List.getD, h]
/-- 'string(b)'. -/
theorem run_str {W : World} {v : Value} {bs : Bs} (h : BytesAt W v bs) : (convert 91 9 v).run Tryd.prog W = .ok (.string ⟨bs.toArray⟩) W := by
  obtain ⟨A, c, rfl, h2, h3, h4⟩ := h
  cases A with
  | none =>
    have : bs = [] := by
      cases bs with
      | nil => rfl
      | cons x xs => obtain ⟨b, off, e, _⟩ := h4 0 (by simp); cases e
    subst this
    exact run_convert_bytes_nil W 91 5 Tryd.underlying91 Tryd.underlying5 _ _ 9 Tryd.underlying9
  | some A =>
    obtain ⟨blk, off, fld⟩ := A
    cases bs with
    | nil =>
      have h5 : (convert 91 9 (.slice (some ⟨blk, off, fld⟩) 0 c)).run Tryd.prog W = .ok (.string ⟨#[]⟩) W := by
        rw [run_convert_bytes_string W 91 9 5 _ 0 c Tryd.underlying91 Tryd.underlying5 Tryd.underlying9]
        kernel_rfl
      have e : (List.map byteV ([] : Bs)).length = 0 := rfl
      rw [e]; exact h5
    | cons x xs =>
      obtain ⟨b, off', e, _⟩ := h4 0 (by simp)
      obtain ⟨rfl, rfl, rfl⟩ : blk = b ∧ off = off' ∧ fld = none := by simpa using e
      have := run_convert_bytes_arg W 91 5 Tryd.underlying91 Tryd.underlying5 blk off _ c ((x :: xs).map fun b => (b.toNat : Int)) rfl (fun i hi => ?_) 9 Tryd.underlying9
      · rw [strOfNums_bytes] at this
        rw [List.length_map] at this ⊢
        exact this
      · obtain ⟨b, off', e, hc⟩ := h4 i (by simpa using hi)
        obtain ⟨e1, e2⟩ : blk = b ∧ off = off' := by simpa using e
        rw [e1, e2, hc]
        exact byte_getD (x :: xs) i (by simpa using hi)
/-- A literal of bytes. -/
theorem lit_bytes (w : World) (bs : Bs) (z : Nat × Nat) : BytesAt (w.alloc (.cells (bs.map byteV).toArray 5 z)) (.slice (some ⟨w.heap.size, 0, none⟩) bs.length bs.length) bs := by
  refine ⟨some ⟨w.heap.size, 0, none⟩, bs.length, by simp, by simp, fun e => (by cases e), fun j hj => ⟨w.heap.size, 0, rfl, ?_⟩⟩
  have h1 : (w.alloc (.cells (bs.map byteV).toArray 5 z)).heap[w.heap.size]? = some (.cells (bs.map byteV).toArray 5 z) := heap_alloc_new w _
  rw [blk_cell h1]
  simp at hj ⊢
  simp [hj]
def decL (u : Nat) : Bs := if h : u < 10 then [UInt8.ofNat (48 + u)] else decL (u / 10) ++ [UInt8.ofNat (48 + u % 10)]
termination_by u
theorem decL_small {u : Nat} (h : u < 10) : decL u = [UInt8.ofNat (48 + u)] := by rw [decL, dif_pos h]
theorem decL_big {u : Nat} (h : ¬ u < 10) : decL u = decL (u / 10) ++ [UInt8.ofNat (48 + u % 10)] := by rw [decL, dif_neg h]
theorem decL_len : ∀ (k u : Nat), u ≤ k → (decL u).length ≤ u + 1
  | k, u, hk => by
    by_cases h : u < 10
    · rw [decL_small h]; simp
    · rw [decL_big h]
      have := decL_len (k - 1) (u / 10) (by omega)
      simp; omega
termination_by k => k
decreasing_by omega
theorem dig_byte (m : Nat) (h : m < 10) : byteV (UInt8.ofNat (48 + m)) = .int .u8 (48 + (m : Int)) := by
  unfold byteV
  congr 1
  rw [UInt8.toNat_ofNat_of_lt' (by show 48 + m < 256; omega)]
  omega
theorem dig_run (w : World) (n : Nat) : (convert 91 9 (.slice (some ⟨w.heap.size, 0, none⟩) 1 1)).run Tryd.prog (w.alloc (.cells #[.int .u8 (48 + (n : Int) % 10)] 5)) = .ok (.string ⟨#[UInt8.ofNat (48 + n % 10)]⟩) (w.alloc (.cells #[.int .u8 (48 + (n : Int) % 10)] 5)) := by
  have h := run_str (lit_bytes w [UInt8.ofNat (48 + n % 10)] (0, 0))
  have e : ([UInt8.ofNat (48 + n % 10)].map byteV).toArray = #[.int .u8 (48 + (n : Int) % 10)] := by
    simp only [List.map_cons, List.map_nil]
    rw [dig_byte _ (by omega)]
    congr 3
  rw [e] at h
  exact h
set_option maxRecDepth 100000 in
set_option maxHeartbeats 1000000 in
theorem digits_any : ∀ (k n : Nat) (w : World), n ≤ k → n ≤ 1000000 → Calls Tryd.prog 44 #[.int .i64 n] w fun e w' => e = .returned (.string ⟨(decL n).toArray⟩) ∧ Ext w w'
  | k, n, w, hk, hn => by
    have hrun := dig_run w n
    by_cases hs : n < 10
    · rw [decL_small hs]
      rw [show (UInt8.ofNat (48 + n % 10)) = UInt8.ofNat (48 + n) by rw [Nat.mod_eq_of_lt hs]] at hrun
      obtain ⟨c, hc⟩ : ∃ c, c = UInt8.ofNat (48 + n) := ⟨_, rfl⟩
      rw [← hc] at hrun ⊢
      clear hc
      go_enter Tryd.func44, Tryd.ntmps44
      go_wp2
      go_ret
      exact ⟨rfl, ext_alloc1 _ _⟩
    · rw [decL_big hs]
      have ih := digits_any (k - 1) (n / 10) (w.alloc (.cells #[.int .u8 (48 + (n : Int) % 10)] 5)) (by omega) (by omega)
      have hlen := decL_len (n / 10) (n / 10) (Nat.le_refl _)
      obtain ⟨c, hc⟩ : ∃ c, c = UInt8.ofNat (48 + n % 10) := ⟨_, rfl⟩
      rw [← hc] at hrun ⊢
      obtain ⟨ds, hds⟩ : ∃ ds, ds = decL (n / 10) := ⟨_, rfl⟩
      rw [← hds] at ih hlen ⊢
      have hl2 : ds.length ≤ 1000000 := by omega
      have IH := Lib.hid ih
      clear hc hds ih hlen
      go_enter Tryd.func44, Tryd.ntmps44
      go_wp2_with (go_at_call 44; refine IH.out.mono ?_; rintro e w2 ⟨rfl, hx⟩; have HX := Lib.hid hx; clear hx)
      go_ret
      refine ⟨?_, (ext_alloc1 _ _).trans HX.out⟩
      have e : (⟨ds.toArray⟩ : ByteArray) ++ ⟨#[c]⟩ = ⟨(ds ++ [c]).toArray⟩ := by
        have := ByteArray.mk_append_mk ds [c]
        exact this
      exact congrArg (fun z => Ending.returned (.string z)) e
termination_by k => k
decreasing_by omega
/-- Where point i of a name lies. -/
def pd (i : Nat) (n : Nm) : Int := hashL (decL i ++ [35] ++ n)
theorem pd_range (i : Nat) (n : Nm) : 0 ≤ pd i n ∧ pd i n < 18446744073709551616 := hashL_range _
end Go.Proofs.YtjphpblangeblaaDoor
