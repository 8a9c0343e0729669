/- The statements' keys: two lists that are one. -/
import Derived.Test.YteeeabmfebofiaaRefD
import Derived.Test.YteeeabmfebofiaaAll
import Derived.Test.YteeeabmfebofiaaArgs
namespace Go.Proofs.Yteeeabmfebofiaa
open Go.RowKit
set_option linter.unusedVariables false

set_option maxRecDepth 100000 in
set_option maxHeartbeats 2000000 in
theorem keys_same (w : World) (B B' : Nat) (v u : Value) (zs : List Int) (h1 : IRow w B v zs) (h2 : IRow w B' u zs) (hl : zs.length ≤ 100000) :
    Calls Try.prog 20 #[v, u] w fun e w' => e = .returned (.bool true) ∧ Ext w w' := by
  obtain ⟨A1, c1, hv1⟩ := h1.slice
  obtain ⟨A2, c2, hv2⟩ := h2.slice
  obtain ⟨n, hn⟩ : ∃ n, n = zs.length := ⟨_, rfl⟩
  rw [← hn] at hv1 hv2 hl
  subst hv1 hv2
  have H1 := Lib.hid h1; have H2 := Lib.hid h2; have HN := Lib.hid hn
  clear h1 h2 hn
  go_enter Try.func20, Try.ntmps20
  go_wp2
  go_loopw [13, 5] (fun i _ wr => ∃ j : Nat, j ≤ n ∧ i = .int .i64 j ∧ Ext w wr) (fun i _ _ => n - (intOf i).toNat)
  case atStart => exact ⟨0, by omega, rfl, Ext.refl _⟩
  case round =>
    obtain ⟨j, hj, rfl, hx⟩ := hrel
    by_cases hlt : j < n
    · have hjz : j < zs.length := by rw [← HN.out]; exact hlt
      obtain ⟨g, c', hvv, hc⟩ := (H1.out.ext hx).get (i := j) hjz
      obtain ⟨g', c'', hvv', hc'⟩ := (H2.out.ext hx).get (i := j) hjz
      injection hvv with a1 a2 a3
      injection hvv' with a4 a5 a6
      subst a1
      subst a4
      obtain ⟨z, hz⟩ : ∃ z, z = zs[j] := ⟨_, rfl⟩
      rw [← hz] at hc hc'
      have k0 : ∀ x : Grow [] wr, x.v.cell? ⟨g, j, none⟩ = some (.int .i64 z) := fun x => x.ext.cell hc (by simp)
      have k1 : ∀ x : Grow [] wr, x.v.cell? ⟨g', j, none⟩ = some (.int .i64 z) := fun x => x.ext.cell hc' (by simp)
      have X := Lib.hid hx
      clear a2 a3 a5 a6 hz hjz hx hc hc'
      go_wp2_with fail
      (refine wp_region_grow (by kernel_rfl) (by kernel_rfl) ?_; (repeat (go_big_quiet_step (fail))); refine wpQuiet_nil ?_)
      intro w2 x2
      have X2 := Lib.hid (X.out.trans x2)
      clear x2
      go_wp2
      go_roundw
      case rel => exact ⟨j + 1, by omega, by go_num, X2.out⟩
      case measure => simp [intOf]; omega
    · have X := Lib.hid hx
      clear hx
      go_wp2
      go_ret
      exact ⟨rfl, X.out⟩
end Go.Proofs.Yteeeabmfebofiaa
