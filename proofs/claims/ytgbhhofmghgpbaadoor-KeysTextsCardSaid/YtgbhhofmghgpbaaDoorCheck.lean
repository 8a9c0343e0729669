/- What bars a key, and a list of keys. -/
import Derived.Test.YtgbhhofmghgpbaaDoorUntie
namespace Go.Proofs.YtgbhhofmghgpbaaDoor
open Go.RowKit Go.Sort Go.Shelf Go.Maps Go.ChangeMaps
set_option linter.unusedVariables false

def byteB (c : UInt8) : Bool := decide (33 ≤ c.toNat) && decide (c.toNat ≤ 126)
def rightB (t : Bs) : Bool := decide (1 ≤ t.length) && decide (t.length ≤ 200) && t.all byteB

theorem bad_of {c : UInt8} (hx : (c.toNat : Int) < 33 ∨ 126 < (c.toNat : Int)) : byteB c = false := by
  unfold byteB
  rcases hx with hx | hx
  · rw [decide_eq_false (by omega)]; rfl
  · rw [decide_eq_false (p := c.toNat ≤ 126) (by omega)]; simp
theorem all_bad {t : Bs} {j : Nat} (hj : j < t.length) (hb : byteB t[j] = false) : t.all byteB = false := by
  rw [List.all_eq_false]
  exact ⟨t[j], by simp, by simp [hb]⟩
set_option maxRecDepth 100000 in
set_option maxHeartbeats 1000000 in
theorem right_any (t : Bs) (w : World) (ht : t.length ≤ 1000000) : Calls Tryd.prog 18 #[.string ⟨t.toArray⟩] w fun e w' => e = .returned (.bool (rightB t)) ∧ w = w' := by
  by_cases h1 : t.length < 1
  · have e0 : rightB t = false := by unfold rightB; rw [decide_eq_false (by omega)]; rfl
    rw [e0]
    go_enter Tryd.func18, Tryd.ntmps18
    go_wp2
    go_ret
    exact ⟨rfl, rfl⟩
  · by_cases h2 : 200 < t.length
    · have e0 : rightB t = false := by unfold rightB; rw [decide_eq_false (p := t.length ≤ 200) (by omega)]; simp
      rw [e0]
      go_enter Tryd.func18, Tryd.ntmps18
      go_wp2
      go_ret
      exact ⟨rfl, rfl⟩
    · have e0 : rightB t = t.all byteB := by unfold rightB; rw [decide_eq_true (p := t.length ≤ 200) (by omega), decide_eq_true (p := 1 ≤ t.length) (by omega)]; rfl
      rw [e0]
      go_enter Tryd.func18, Tryd.ntmps18
      go_wp2
      go_loop [14, 3] (fun i _ => ∃ j : Nat, j ≤ t.length ∧ i = .int .i64 j ∧ (t.take j).all byteB = true) (fun i _ => t.length - (intOf i).toNat)
      case atStart => exact ⟨0, by omega, rfl, rfl⟩
      case round =>
        obtain ⟨j, hj, rfl, hall⟩ := hrel
        have HALL := Lib.hid hall
        clear hall
        by_cases hlt : j < t.length
        · have htk : t.take (j + 1) = t.take j ++ [t[j]] := List.take_succ_eq_append_getElem hlt
          have HTK := Lib.hid htk
          clear htk
          go_wp2
          all_goals first
            | (go_round
               case rel =>
                 have hx : 33 ≤ (t[j].toNat : Int) ∧ (t[j].toNat : Int) ≤ 126 := by assumption
                 refine ⟨j + 1, by omega, by go_num, ?_⟩
                 rw [HTK.out, List.all_append, HALL.out]
                 simp [byteB]
                 omega
               case measure => simp [intOf]; omega)
            | (have hx : (t[j].toNat : Int) < 33 := by assumption
               have hbad := all_bad hlt (by unfold byteB; rw [decide_eq_false (by omega)]; rfl)
               go_ret
               exact ⟨ret_bool hbad.symm, rfl⟩)
            | (have hx : (t[j].toNat : Int) < 33 ∨ 126 < (t[j].toNat : Int) := by assumption
               have hbad := all_bad hlt (bad_of hx)
               go_ret
               exact ⟨ret_bool hbad.symm, rfl⟩)
        · have hjn : t.take j = t := List.take_of_length_le (by omega)
          rw [hjn] at HALL
          go_wp2
          go_ret
          exact ⟨ret_bool HALL.out.symm, rfl⟩

/-- What bars a list of keys. -/
def checkN (ks : List Bs) : Int := if ks.all rightB = true ∧ ks.Nodup then (if 32 < ks.length then 4 else 0) else 1
end Go.Proofs.YtgbhhofmghgpbaaDoor
