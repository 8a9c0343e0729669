/- The digits of any number: the document's, walked. -/
import Derived.Test.YtlddpdlebdjniaaDoorTxtA
namespace Go.Proofs.YtlddpdlebdjniaaDoor
open Go.RowKit
set_option linter.unusedVariables false
set_option linter.unusedSimpArgs false
def itoaZ (n : Int) : Bs := if n < 0 then 45 :: decL n.natAbs else decL n.toNat
set_option maxRecDepth 100000 in
set_option maxHeartbeats 1000000 in
theorem dneg_any : ∀ (k u : Nat) (z : Int) (w : World), u ≤ k → z = -(u : Int) → 1 ≤ u → u ≤ 9223372036854775808 → Calls Tryd.prog 14 #[.int .i64 z] w fun e w' => e = .returned (.string ⟨((45 : UInt8) :: decL u).toArray⟩) ∧ Ext w w'
  | k, u, z, w, hk, hz, hu, hu2 => by
    have hrun := dig1 w (UInt8.ofNat (48 + u % 10))
    rw [u8of _ (Nat.mod_lt _ (by decide))] at hrun
    obtain ⟨d, hd⟩ : ∃ d, d = u % 10 := ⟨_, rfl⟩
    have hd10 : d < 10 := by rw [hd]; exact Nat.mod_lt _ (by decide)
    obtain ⟨zq, hzq⟩ : ∃ zq : Int, zq = -((u / 10 : Nat) : Int) := ⟨_, rfl⟩
    have hrem : Int.tmod z 10 = -(d : Int) := by rw [hz, hd, Int.neg_tmod]; rfl
    have hquo : Int.tdiv z 10 = zq := by rw [hz, hzq, Int.neg_tdiv]; rfl
    have hge : ¬ (0 ≤ z) := by omega
    have hlo : -9223372036854775808 ≤ z := by omega
    have hhi : z ≤ 9223372036854775807 := by omega
    have hqlo : -9223372036854775808 ≤ zq := by omega
    have hqhi : zq ≤ 0 := by omega
    rw [← hd] at hrun
    by_cases hs : u < 10
    · rw [decL_small hs]
      have hdu : d = u := by omega
      rw [hdu] at hrun hrem
      obtain ⟨c, hc⟩ : ∃ c, c = UInt8.ofNat (48 + u) := ⟨_, rfl⟩
      rw [← hc] at hrun ⊢
      have hz0 : zq = 0 := by omega
      subst hz0
      have hu9 : u ≤ 9 := by omega
      clear hc hd hzq hdu hz hd10
      go_enter Tryd.func14, Tryd.ntmps14
      go_wp2
      go_ret
      refine ⟨?_, alloc_ext _ _⟩
      have e : (⟨#[45]⟩ : ByteArray) ++ ⟨#[c]⟩ = ⟨#[45, c]⟩ := ByteArray.mk_append_mk [45] [c]
      exact congrArg (fun z => Ending.returned (.string z)) e
    · rw [decL_big hs]
      have ih := dneg_any (k - 1) (u / 10) zq (w.alloc (.cells #[.int .u8 (48 + (d : Int))] 5)) (by omega) hzq (by omega) (by omega)
      have hlen := decL_len 18 (u / 10) (by omega)
      rw [← hd]
      obtain ⟨c, hc⟩ : ∃ c, c = UInt8.ofNat (48 + d) := ⟨_, rfl⟩
      rw [← hc] at hrun ⊢
      obtain ⟨ds, hds⟩ : ∃ ds, ds = (45 : UInt8) :: decL (u / 10) := ⟨_, rfl⟩
      rw [← hds] at ih
      have hl2 : ds.length ≤ 1000000 := by rw [hds]; simp; omega
      have hq0 : (zq == 0) = false := by simp; omega
      have hq1 : ¬ (zq = 0) := by omega
      have IH := Lib.hid ih
      have HDS := Lib.hid hds
      clear hc hds ih hlen hd hzq hz
      go_enter Tryd.func14, Tryd.ntmps14
      go_wp2_with (go_at_call 14; refine IH.out.mono ?_; rintro e w2 ⟨rfl, hx⟩; have HX := Lib.hid hx; clear hx)
      go_ret
      refine ⟨?_, (alloc_ext _ _).trans HX.out⟩
      have e : (⟨ds.toArray⟩ : ByteArray) ++ ⟨#[c]⟩ = ⟨(ds ++ [c]).toArray⟩ := ByteArray.mk_append_mk ds [c]
      rw [show ds ++ [c] = (45 : UInt8) :: (decL (u / 10) ++ [c]) from by rw [HDS.out]; rfl] at e
      exact congrArg (fun z => Ending.returned (.string z)) e
termination_by k => k
decreasing_by omega
set_option maxRecDepth 100000 in
set_option maxHeartbeats 1000000 in
/-- A number's text. -/
theorem rtext_any (n : Int) (h0 : -9223372036854775808 ≤ n) (h1 : n ≤ 9223372036854775807) (w : World) : Calls Tryd.prog 14 #[.int .i64 n] w fun e w' => e = .returned (.string ⟨(itoaZ n).toArray⟩) ∧ Ext w w' := by
  unfold itoaZ
  by_cases hn : n < 0
  · rw [if_pos hn]
    exact dneg_any n.natAbs n.natAbs n w (Nat.le_refl _) (by omega) (by omega) (by omega)
  · rw [if_neg hn]
    obtain ⟨m, rfl⟩ : ∃ m : Nat, n = m := ⟨n.toNat, by omega⟩
    rw [Int.toNat_natCast]
    have IH := Lib.hid (rdig_any m m w (Nat.le_refl _) (by omega))
    obtain ⟨ds, hds⟩ : ∃ ds, ds = decL m := ⟨_, rfl⟩
    rw [← hds] at IH ⊢
    clear hds
    go_enter Tryd.func14, Tryd.ntmps14
    go_wp2_with (go_at_call 27; refine IH.out.mono ?_; rintro e w2 ⟨rfl, hx⟩; have HX := Lib.hid hx; clear hx)
    go_ret
    exact ⟨rfl, HX.out⟩
theorem itoaZ_len (n : Int) (h0 : -9223372036854775808 ≤ n) (h1 : n ≤ 9223372036854775807) : (itoaZ n).length ≤ 20 := by
  unfold itoaZ
  split
  · have := decL_len 18 n.natAbs (by omega)
    simp; omega
  · have := decL_len 18 n.toNat (by omega)
    omega
end Go.Proofs.YtlddpdlebdjniaaDoor
