/- The statements' small, walked. -/
import Derived.Test.YtgbhhofmghgpbaaArgs
namespace Go.Proofs.Ytgbhhofmghgpbaa
open Go.RowKit Go.Sort Go.Shelf Go.Maps Go.ChangeMaps
set_option linter.unusedVariables false

def manyO (xs : List OpV) : Nat := (xs.map fun o => o.ks.length).sum
def bytesO (xs : List OpV) : Nat := (xs.map fun o => bytesL o.ks).sum
theorem manyO_append (a b : List OpV) : manyO (a ++ b) = manyO a + manyO b := by simp [manyO]
theorem bytesO_append (a b : List OpV) : bytesO (a ++ b) = bytesO a + bytesO b := by simp [bytesO]
theorem bytesL_mem {ss : List Bs} {k : Bs} (h : k ∈ ss) : k.length ≤ bytesL ss := by
  obtain ⟨a, b, rfl⟩ := List.append_of_mem h
  rw [bytesL_append]; simp [bytesL]; omega
theorem manyO_mem {xs : List OpV} {o : OpV} (h : o ∈ xs) : o.ks.length ≤ manyO xs := by
  obtain ⟨a, b, rfl⟩ := List.append_of_mem h
  rw [manyO_append]; simp [manyO]; omega
theorem bytesO_mem {xs : List OpV} {o : OpV} (h : o ∈ xs) : bytesL o.ks ≤ bytesO xs := by
  obtain ⟨a, b, rfl⟩ := List.append_of_mem h
  rw [bytesO_append]; simp [bytesO]; omega
theorem manyO_take (xs : List OpV) (j : Nat) : manyO (xs.take j) ≤ manyO xs := by
  conv => rhs; rw [← List.take_append_drop j xs]
  rw [manyO_append]; omega
theorem OpsAt.ext {w w' : World} {A : Option Addr} {xs : List OpV} (h : OpsAt w A xs) (hx : Ext w w') : OpsAt w' A xs := fun k hk => by
  obtain ⟨b, off, e, hb, h0, h1, h2, r1, r2, t1, t2⟩ := h k hk
  exact ⟨b, off, e, hx.lt hb, Ext.cell hx h0, Ext.cell hx h1, Ext.cell hx h2, r1, r2, texts_up hx t1, t2⟩
/-- What small makes sure of. -/
def SmallO (xs : List OpV) : Prop := xs.length ≤ 60 ∧ manyO xs ≤ 120 ∧ bytesO xs ≤ 900
theorem SmallO.key {xs : List OpV} (h : SmallO xs) {o : OpV} (ho : o ∈ xs) : o.ks.length ≤ 120 ∧ ∀ k ∈ o.ks, k.length ≤ 900 := ⟨by have := manyO_mem ho; have := h.2.1; omega, fun k hk => by have := bytesL_mem hk; have := bytesO_mem ho; have := h.2.2; omega⟩

set_option maxRecDepth 100000 in
set_option maxHeartbeats 2000000 in
theorem small_any (w : World) (A : Option Addr) (xs : List OpV) (c : Nat) (hO : OpsAt w A xs) (hl : xs.length ≤ 9223372036854775807) : Calls Try.prog 7 #[.slice A xs.length c] w fun e w' => ∃ r : Bool, e = .returned (.bool r) ∧ (r = true → SmallO xs) ∧ Ext w w' := by
  obtain ⟨m, hm⟩ : ∃ m, m = xs.length := ⟨_, rfl⟩
  rw [← hm] at hl ⊢
  have HO := Lib.hid hO; have HM := Lib.hid hm
  clear hO hm
  go_enter Try.func7, Try.ntmps7
  go_wp2
  go_loopw [11, 3, 4, 6] (fun i s t _ wr => ∃ j : Nat, ∃ s' t' : Int, j ≤ m ∧ i = .int .i64 j ∧ s = .int .i64 s' ∧ t = .int .i64 t' ∧ Hid (s' = 120 - manyO (xs.take j)) ∧ Hid (t' = 900 - bytesO (xs.take j)) ∧ 0 ≤ s' ∧ s' ≤ 120 ∧ 0 ≤ t' ∧ t' ≤ 900 ∧ Ext w wr) (fun i _ _ _ _ => m - (intOf i).toNat)
  case atStart => exact ⟨0, 120, 900, by omega, rfl, rfl, rfl, Lib.hid rfl, Lib.hid rfl, by omega, by omega, by omega, by omega, Ext.refl _⟩
  case round =>
    obtain ⟨j, s', t', hj, rfl, rfl, rfl, HS, HT, hs0, hs1, ht0, ht1, hx⟩ := hrel
    by_cases hlt : j < m
    · have hjs : j < xs.length := by rw [← HM.out]; exact hlt
      obtain ⟨ba, off, rfl, hb, k0, k1, k2, b0, b1, tA⟩ := (HO.out.ext hx) j hjs
      have htk : xs.take (j + 1) = xs.take j ++ [xs[j]] := List.take_succ_eq_append_getElem hjs
      obtain ⟨o, ho⟩ : ∃ o, o = xs[j] := ⟨_, rfl⟩
      rw [← ho] at k0 k1 k2 b0 b1 tA htk
      obtain ⟨kd, id, kv, ks⟩ := o
      dsimp only at k0 k1 k2 b0 b1 tA
      have HM1 : Hid (manyO (xs.take (j + 1)) = manyO (xs.take j) + ks.length) := Lib.hid (by rw [htk, manyO_append]; simp [manyO])
      have HB1 : Hid (bytesO (xs.take (j + 1)) = bytesO (xs.take j) + bytesL ks) := Lib.hid (by rw [htk, bytesO_append]; simp [bytesO])
      clear htk ho hjs
      obtain ⟨tA, tC, tL, tK⟩ := tA
      have hfew := few_any (wr.alloc (.cells #[.int .u8 kd, .int .i64 id, kv] 30)) _ kv ks s' t' (texts_up (alloc_ext wr _) tA) tL ht0 (by omega) tK
      obtain ⟨A', c', hkv, hcs⟩ := texts_up (alloc_ext wr (.cells #[.int .u8 kd, .int .i64 id, kv] 30)) tA
      obtain ⟨n, hn⟩ : ∃ n, n = ks.length := ⟨_, rfl⟩
      rw [← hn] at hkv tL HM1
      subst hkv
      have HF := Lib.hid hfew; have HC := Lib.hid hcs; have HN := Lib.hid hn; have TK := Lib.hid tK; have HX := Lib.hid (hx.trans (alloc_ext wr (.cells #[.int .u8 kd, .int .i64 id, .slice A' n c'] 30)))
      clear hfew hcs hn tA tC tK hx
      go_wp2_with fail
      refine HF.out.mono ?_
      rintro e w2 ⟨rfl, rfl⟩
      clear HF
      by_cases hf : fewB ks s' t' = true
      · have hfi := (fewB_iff _ _ _).mp hf
        rw [hf]
        have hn2 : (n : Int) ≤ s' := by rw [HN.out]; exact hfi.2
        have hbt := Lib.hid hfi.1
        clear hfi hf
        go_wp2
        go_loop [29, 4, 8] (fun i t _ => ∃ q : Nat, ∃ t2 : Int, q ≤ n ∧ i = .int .i64 q ∧ t = .int .i64 t2 ∧ Hid (t2 = t' - bytesL (ks.take q)) ∧ 0 ≤ t2 ∧ t2 ≤ 900) (fun i _ _ => n - (intOf i).toNat)
        case atStart => exact ⟨0, t', by omega, rfl, rfl, Lib.hid (by simp [bytesL]), by omega, by omega⟩
        case round =>
          obtain ⟨q, t2, hq, rfl, rfl, H2, h20, h21⟩ := hrel
          by_cases hqn : q < n
          · have hqs : q < ks.length := by rw [← HN.out]; exact hqn
            obtain ⟨g, off', rfl, _, hcell⟩ := HC.out q hqs
            have hkl := TK.out ks[q] (by simp)
            have htk : ks.take (q + 1) = ks.take q ++ [ks[q]] := List.take_succ_eq_append_getElem hqs
            obtain ⟨k, hkk⟩ : ∃ k, k = ks[q] := ⟨_, rfl⟩
            rw [← hkk] at hcell htk hkl
            have hb1 : bytesL (ks.take (q + 1)) = bytesL (ks.take q) + k.length := by rw [htk, bytesL_append]; simp [bytesL]
            have hb2 := bytesL_take ks (q + 1)
            have hle : (k.length : Int) ≤ t2 := by have := H2.out; have := hbt.out; omega
            have hcl : (wr.alloc (.cells #[.int .u8 kd, .int .i64 id, .slice (some ⟨g, off', none⟩) n c'] 30)).cell? ⟨g, off' + q, none⟩ = some (.string ⟨k.toArray⟩) := hcell
            have HB2 := Lib.hid hb1
            clear hb1 hb2 htk hkk hcell hqs
            go_wp2
            go_round
            case rel => exact ⟨q + 1, t2 - k.length, by omega, by go_num, by go_num, Lib.hid (by have := H2.out; have := HB2.out; omega), by omega, by omega⟩
            case measure => simp [intOf]; omega
          · have hjn : ks.take q = ks := List.take_of_length_le (by have := HN.out; omega)
            rw [hjn] at H2
            go_wp2
            go_roundw
            case rel => exact ⟨j + 1, s' - n, t2, by omega, by go_num, by go_num, rfl, Lib.hid (by have := HS.out; have := HM1.out; omega), Lib.hid (by have := HT.out; have := HB1.out; have := H2.out; omega), by omega, by omega, by omega, by omega, HX.out⟩
            case measure => simp [intOf]; omega
      · have hf' : fewB ks s' t' = false := by simpa using hf
        rw [hf']
        clear hf hf'
        go_wp2
        go_ret
        exact ⟨false, rfl, by simp, HX.out⟩
    · have hjn : xs.take j = xs := List.take_of_length_le (by have := HM.out; omega)
      rw [hjn] at HS HT
      have HX := Lib.hid hx
      clear hx
      go_wp2
      go_ret
      exact ⟨decide ((m : Int) ≤ 60), rfl, fun h => ⟨by have := of_decide_eq_true h; have := HM.out; omega, by have := HS.out; omega, by have := HT.out; omega⟩, HX.out⟩
end Go.Proofs.Ytgbhhofmghgpbaa
