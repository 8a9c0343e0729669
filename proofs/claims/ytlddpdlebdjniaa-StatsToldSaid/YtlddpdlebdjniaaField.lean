/- field.Get, walked: it tells a text, which is no longer than the fields'. -/
import Derived.Test.YtlddpdlebdjniaaSmall
namespace Go.Proofs.Ytlddpdlebdjniaa
open Go.RowKit Go.Maps Go.ChangeMaps
set_option linter.unusedVariables false

def SmR (w : World) (e : Ending) (w' : World) : Prop := ∃ y : Int, e = .returned (.int .u8 y) ∧ w' = w
set_option maxRecDepth 100000 in
theorem small36 (w : World) (x : Int) : Calls Try.prog 36 #[.int .u8 x] w (SmR w) := by
  by_cases h1 : 65 ≤ x
  · by_cases h2 : x ≤ 90
    · go_enter Try.func36, Try.ntmps36
      go_wp2
      go_ret
      exact ⟨_, rfl, rfl⟩
    · go_enter Try.func36, Try.ntmps36
      go_wp2
      go_ret
      exact ⟨_, rfl, rfl⟩
  · go_enter Try.func36, Try.ntmps36
    go_wp2
    go_ret
    exact ⟨_, rfl, rfl⟩
def AlR (w : World) (e : Ending) (w' : World) : Prop := ∃ r : Bool, e = .returned (.bool r) ∧ Ext w w'
set_option maxRecDepth 100000 in
set_option maxHeartbeats 1000000 in
theorem alike29 (w : World) (a b : Bs) (ha : a.length ≤ 140737488351232) (hb : b.length ≤ 140737488351232) : Calls Try.prog 29 #[.string ⟨a.toArray⟩, .string ⟨b.toArray⟩] w (AlR w) := by
  by_cases hl : a.length = b.length
  · have hl2 : (a.length : Int) = b.length := by omega
    obtain ⟨n, hn⟩ : ∃ n, n = a.length := ⟨_, rfl⟩
    have HL := Lib.hid hl; have HN := Lib.hid hn
    clear hl hl2
    have hna : a.length = n := hn.symm
    have hnb : b.length = n := by rw [← HL.out]; exact hna
    clear hn
    go_enter Try.func29, Try.ntmps29
    go_wp2
    go_loopw [13, 5] (fun i _ wr => ∃ j : Nat, j ≤ n ∧ i = .int .i64 j ∧ Ext w wr) (fun i _ _ => n - (intOf i).toNat)
    case atStart => exact ⟨0, by omega, rfl, Ext.refl _⟩
    case round =>
      obtain ⟨j, hj, rfl, hx⟩ := hrel
      have HX := Lib.hid hx
      clear hx
      by_cases hlt : j < n
      · have hja : j < a.length := by omega
        have hjb : j < b.length := by omega
        go_wp2_with fail
        refine wp_region_segs [] [.inl [0, 1, 2, 4, 5, 6], .inr (.inl 3), .inr (.inl 7), .inl [8]] (by kernel_rfl) (by kernel_rfl) (fun c a d v w h => by cases d <;> exact h) ?_
        (rw [wpSegs_inl]; simp only [pickOps, List.map_cons, List.map_nil, List.getD_cons_succ, List.getD_cons_zero]; (repeat (go_big_quiet_step (fail))); refine wpQuiet_nil ?_)
        (rw [wpSegs_grow]; simp only [pickOps, List.map_cons, List.map_nil, List.getD_cons_succ, List.getD_cons_zero]; go_wp2_with ((go_at_call 36; refine (small36 _ _).mono ?_; rintro e u1 ⟨y1, rfl, rfl⟩)))
        refine ⟨.refl _ _, ?_⟩
        (rw [wpSegs_grow]; simp only [pickOps, List.map_cons, List.map_nil, List.getD_cons_succ, List.getD_cons_zero]; go_wp2_with ((go_at_call 36; refine (small36 _ _).mono ?_; rintro e u2 ⟨y2, rfl, rfl⟩)))
        refine ⟨.refl _ _, ?_⟩
        (rw [wpSegs_inl]; simp only [pickOps, List.map_cons, List.map_nil, List.getD_cons_succ, List.getD_cons_zero]; (repeat (go_big_quiet_step (fail))); refine wpQuiet_nil ?_)
        rw [wpSegs_nil]
        by_cases hy : y1 = y2
        · subst hy
          go_wp2
          go_roundw
          case rel => exact ⟨j + 1, by omega, by go_num, HX.out.drew⟩
          case measure => first | (simp [intOf]; done) | (simp [intOf]; omega)
        · have hy2 : (y1 == y2) = false := by simpa using hy
          have hy3 : (y1 != y2) = true := by simpa using hy
          go_wp2
          go_ret
          exact ⟨_, rfl, HX.out.drew⟩
      · go_wp2
        go_ret
        exact ⟨_, rfl, HX.out⟩
  · have hl2 : ((a.length : Int) == b.length) = false := by simp; omega
    go_enter Try.func29, Try.ntmps29
    go_wp2
    go_ret
    exact ⟨_, rfl, Ext.refl _⟩
def GetR (w : World) (N : Nat) (e : Ending) (w' : World) : Prop := ∃ (t : Bs) (r : Bool), e = .returned (.tuple #[.string ⟨t.toArray⟩, .bool r]) ∧ t.length ≤ N ∧ Ext w w'
set_option maxRecDepth 100000 in
set_option maxHeartbeats 1000000 in
theorem get19 (w : World) (A : Option Addr) (fs : List Fld) (c N : Nat) (nm : Bs) (hF : FldsAt w A fs) (hl : fs.length ≤ 130) (hb : ∀ f ∈ fs, f.name.length ≤ N ∧ f.val.length ≤ N) (hN : N ≤ 100000) (hnm : nm.length ≤ 100000) :
    Calls Try.prog 19 #[.slice A fs.length c, .string ⟨nm.toArray⟩] w (GetR w N) := by
  obtain ⟨m, hm⟩ : ∃ m, m = fs.length := ⟨_, rfl⟩
  rw [← hm] at hl ⊢
  have HF := Lib.hid hF; have HM := Lib.hid hm; have HB := Lib.hid hb
  clear hF hm hb
  go_enter Try.func19, Try.ntmps19
  go_wp2
  go_loopw [10, 7] (fun i _ wr => ∃ j : Nat, j ≤ m ∧ i = .int .i64 j ∧ Ext w wr) (fun i _ _ => m - (intOf i).toNat)
  case atStart => exact ⟨0, by omega, rfl, Ext.refl _⟩
  case round =>
    obtain ⟨j, hj, rfl, hx⟩ := hrel
    by_cases hlt : j < m
    · have hjs : j < fs.length := by rw [← HM.out]; exact hlt
      obtain ⟨b, off, rfl, hb, k0, k1⟩ := (HF.out.ext hx) j hjs
      have hkl := HB.out fs[j] (by simp)
      obtain ⟨f, hf⟩ : ∃ f, f = fs[j] := ⟨_, rfl⟩
      rw [← hf] at k0 k1 hkl
      obtain ⟨fn, vl⟩ := f
      dsimp only at k0 k1 hkl
      obtain ⟨hk1, hk2⟩ := hkl
      have hal := fun W => alike29 W fn nm (by omega) (by omega)
      have HAL := Lib.hid hal; have HX := Lib.hid hx
      clear hf hjs hx hal
      go_wp2_with (go_at_call 29; refine (HAL.out _).mono ?_; rintro e w2 ⟨r, rfl, x2⟩; refine stop_of ?_)
      unfold Stop
      have kv : w2.cell? ⟨wr.heap.size, 1, none⟩ = some (.string ⟨vl.toArray⟩) := Ext.cell x2 ((blk_cell (heap_alloc_new wr _) 1))
      have X2 := Lib.hid (HX.out.trans ((alloc_ext _ _).trans x2))
      clear x2 HAL HX
      cases r with
      | true =>
        go_wp2
        refine bodyPost_ret (results_tmp2 rfl _ _ _) rfl ?_
        exact ⟨vl, true, rfl, hk2, X2.out⟩
      | false =>
        go_wp2
        go_roundw
        case rel => exact ⟨j + 1, by omega, by go_num, X2.out⟩
        case measure => first | (simp [intOf]; done) | (simp [intOf]; omega)
    · have HX := Lib.hid hx
      clear hx
      go_wp2
      refine bodyPost_ret (results_tmp2 rfl _ _ _) rfl ?_
      exact ⟨[], false, rfl, by simp, HX.out⟩
end Go.Proofs.Ytlddpdlebdjniaa
