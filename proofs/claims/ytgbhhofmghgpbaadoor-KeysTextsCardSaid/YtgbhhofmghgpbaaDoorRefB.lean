/- The reference's Right, walked. -/
import Derived.Test.YtgbhhofmghgpbaaDoorRefA
namespace Go.Proofs.YtgbhhofmghgpbaaDoor
open Go.RowKit Go.Sort Go.Shelf Go.Maps Go.ChangeMaps
set_option linter.unusedVariables false

/-- A slice's length is no more than its capacity. -/
def Capd (sv : Value) : Prop := ∀ A n c, sv = .slice A n c → n ≤ c
set_option maxRecDepth 100000 in
set_option maxHeartbeats 2000000 in
theorem rright_any (w : World) (n0 : Nat) (sv : Value) (ss : List Bs) (hT : Texts n0 w sv ss) (hcap : Capd sv) (hl : ss.length ≤ 1000000) (hk : ∀ k ∈ ss, k.length ≤ 1000000) : Calls Tryd.prog 23 #[sv] w fun e w' => e = .returned (.int .i64 (checkN ss)) ∧ w = w' := by
  have hTT := hT
  obtain ⟨A, c, rfl, hc⟩ := hT
  obtain ⟨m, hm⟩ : ∃ m, m = ss.length := ⟨_, rfl⟩
  rw [← hm] at hl hcap ⊢
  have hmc : m ≤ c := hcap _ _ _ rfl
  have HC := Lib.hid hc; have HM := Lib.hid hm; have HK := Lib.hid hk
  clear hc hm hk hcap hTT
  go_enter Tryd.func23, Tryd.ntmps23
  go_wp2
  go_loop [7, 3, 4] (fun i _ _ => ∃ j : Nat, j ≤ m ∧ i = .int .i64 j ∧ (ss.take j).all rightB = true ∧ (ss.take j).Nodup) (fun i _ _ => m - (intOf i).toNat)
  case atStart => exact ⟨0, by omega, rfl, rfl, List.nodup_nil⟩
  case round =>
    obtain ⟨j, hj, rfl, hr1, hr2⟩ := hrel
    have R1 := Lib.hid hr1; have R2 := Lib.hid hr2
    clear hr1 hr2
    by_cases hlt : j < m
    · have hjs : j < ss.length := by rw [← HM.out]; exact hlt
      obtain ⟨b, off, rfl, hb, hcell⟩ := HC.out j hjs
      have htk : ss.take (j + 1) = ss.take j ++ [ss[j]] := List.take_succ_eq_append_getElem hjs
      have hkl := HK.out ss[j] (by simp)
      have hbad := fun h => bad_check (ss := ss) hjs h
      have hsub : Texts n0 w (.slice (some ⟨b, off, none⟩) j c) (ss.take j) := by
        refine ⟨_, c, by rw [List.length_take, Nat.min_eq_left (by omega)], fun i hi => ?_⟩
        obtain ⟨b', off', e, h1, h2⟩ := HC.out i (by rw [List.length_take] at hi; omega)
        exact ⟨b', off', e, h1, by rw [List.getElem_take]; exact h2⟩
      obtain ⟨k, hkk⟩ : ∃ k, k = ss[j] := ⟨_, rfl⟩
      rw [← hkk] at hcell htk hkl hbad
      have hcl : w.cell? ⟨b, off + j, none⟩ = some (.string ⟨k.toArray⟩) := hcell
      have hrt := rkey_any k w hkl
      have hin := rin_any w n0 _ (ss.take j) k hsub (by rw [List.length_take]; omega)
      have HTK := Lib.hid htk; have HBAD := Lib.hid hbad; have HIN := Lib.hid hin
      clear htk hbad hkk hcell hjs hsub hin
      cases hrk : rightB k
      · rw [hrk] at hrt
        have HRT := Lib.hid hrt
        have HB : Hid (checkN ss = 1) := Lib.hid (HBAD.out (.inl hrk))
        clear hrt hrk
        go_wp2_with (go_at_call 19; refine HRT.out.mono ?_; rintro e w' ⟨rfl, rfl⟩)
        go_ret
        exact ⟨ret_int HB.out.symm, rfl⟩
      · rw [hrk] at hrt
        have HRT := Lib.hid hrt; have HRK := Lib.hid hrk
        clear hrt hrk
        by_cases hin : k ∈ ss.take j
        · rw [decide_eq_true hin] at HIN
          have HB : Hid (checkN ss = 1) := Lib.hid (HBAD.out (.inr hin))
          clear hin
          go_wp2_with (first | (go_at_call 19; refine HRT.out.mono ?_; rintro e w' ⟨rfl, rfl⟩) | (go_at_call 20; refine HIN.out.mono ?_; rintro e w' ⟨rfl, rfl⟩))
          go_ret
          exact ⟨ret_int HB.out.symm, rfl⟩
        · rw [decide_eq_false hin] at HIN
          have HNI := Lib.hid hin
          clear hin
          go_wp2_with (first | (go_at_call 19; refine HRT.out.mono ?_; rintro e w' ⟨rfl, rfl⟩) | (go_at_call 20; refine HIN.out.mono ?_; rintro e w' ⟨rfl, rfl⟩))
          go_round
          case rel => exact ⟨j + 1, by omega, by go_num, by rw [HTK.out, List.all_append, R1.out]; simp [HRK.out], by
            rw [HTK.out, List.nodup_append]
            refine ⟨R2.out, by simp, ?_⟩
            intro a ha b hb
            rw [List.mem_singleton] at hb
            subst hb
            exact fun e => HNI.out (e ▸ ha)⟩
          case measure => simp [intOf]; omega
    · have hjn : ss.take j = ss := List.take_of_length_le (by have := HM.out; omega)
      rw [hjn] at R1 R2
      by_cases hbig : 32 < m
      · go_wp2
        go_ret
        exact ⟨ret_int (by unfold checkN; rw [if_pos ⟨R1.out, R2.out⟩, if_pos (by have := HM.out; omega)]), rfl⟩
      · go_wp2
        go_ret
        exact ⟨ret_int (by unfold checkN; rw [if_pos ⟨R1.out, R2.out⟩, if_neg (by have := HM.out; omega)]), rfl⟩
end Go.Proofs.YtgbhhofmghgpbaaDoor
