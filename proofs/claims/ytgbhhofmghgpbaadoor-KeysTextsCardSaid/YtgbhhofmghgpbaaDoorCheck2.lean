/- check, walked. -/
import Derived.Test.YtgbhhofmghgpbaaDoorCheck
namespace Go.Proofs.YtgbhhofmghgpbaaDoor
open Go.RowKit Go.Sort Go.Shelf Go.Maps Go.ChangeMaps
set_option linter.unusedVariables false

/-- A set of texts: a map[string]bool. -/
def SSet (w : World) (b n : Nat) (T : List Bs) : Prop := ∃ D : DataW Unit, w.ownsMap Tryd.prog 9 (plainElem Tryd.prog 4) b n D ∧ ∀ k, Maps.has D (.string k) = decide (k ∈ T) ∧ (k ∈ T → D.atKey (.string k) (.lit (.bool false)) = .lit (.bool true))
theorem SSet.made (w : World) : SSet (w.alloc (.map #[] 0)) w.heap.size 0 [] := ⟨_, World.ownsMap_made w Tryd.prog 9 (plainElem Tryd.prog 4), fun k => ⟨by simp; rfl, by simp⟩⟩
theorem rbFalse : (plainElem Tryd.prog 4 (.bool false) : Option (DataW Unit × List MemPlace)) = some (.lit (.bool false), []) := by simp [plainElem, Tryd.underlying4]
theorem zero4 (w : World) : (zeroValue 4).run Tryd.prog w = .ok (.bool false) w := Tryd.zeroValue4 w
set_option maxRecDepth 100000 in
theorem plain_bool_inv {v : Value} {b : Bool} {ps : List MemPlace} (h : (plainElem Tryd.prog 4 v : Option (DataW Unit × List MemPlace)) = some (.lit (.bool b), ps)) : v = .bool b := by
  unfold plainElem at h
  rw [Tryd.underlying4] at h
  split at h
  · injection h with h; injection h with h; injection h with h; injection h with h; rw [h]
  · rename_i e; exact absurd e (by simp)
  · rename_i e; exact absurd e (by simp)
  · cases h
theorem SSet.look {w : World} {b n : Nat} {T : List Bs} (h : SSet w b n T) {k : Bs} (hk : k.length ≤ 1000000) : (Instr.lookup 40 (.map (some b)) (.string ⟨k.toArray⟩) false).run Tryd.prog w = .ok (.bool (decide (k ∈ T))) w := by
  obtain ⟨D, hown, ht⟩ := h
  obtain ⟨v, ps, hrun, hv⟩ := hown.lookup law9 Tryd.underlying40 (zero4 w) (zd := .lit (.bool false)) (zp := []) rbFalse (key9 hk)
  obtain ⟨h1, h2⟩ := ht k
  by_cases e : k ∈ T
  · rw [h2 e] at hv
    rw [plain_bool_inv hv] at hrun
    rw [decide_eq_true e]; exact hrun
  · rw [decide_eq_false e] at h1
    rw [atKey_of_not_has h1] at hv
    rw [plain_bool_inv hv] at hrun
    rw [decide_eq_false e]; exact hrun
theorem SSet.put {w : World} {b n : Nat} {T : List Bs} (h : SSet w b n T) (hn : n ≤ 1000000) {k : Bs} (hk : k.length ≤ 1000000) :
    ∃ w', (Instr.mapUpdate 40 (.map (some b)) (.string ⟨k.toArray⟩) (.bool true)).run Tryd.prog w = .ok () w' ∧ SSet w' b (n + 1) (T ++ [k]) ∧ w.mapTurned w' b := by
  obtain ⟨D, hown, ht⟩ := h
  obtain ⟨w', hrun, hown', hturn⟩ := hown.store law9 Tryd.underlying40 (by unfold maxLen; omega) (key9 hk) (val := .bool true) (d := .lit (.bool true)) (ps := []) rbTrue
  refine ⟨w', hrun, ⟨_, hown', fun x => ?_⟩, hturn⟩
  obtain ⟨h1, h2⟩ := ht x
  by_cases e : x = k
  · subst e
    exact ⟨by rw [has_put_same hown.isMap (isKeyS _)]; simp, fun _ => atKey_put_same hown.isMap (isKeyS _) _ _⟩
  · rw [has_put_other (ne_str e), atKey_put_other (ne_str e), h1]
    simp only [List.mem_append, List.mem_singleton, e, or_false]
    exact ⟨trivial, h2⟩

structure ChRel (w : World) (mb : Nat) (ss : List Bs) (j : Nat) (wr : World) : Prop where
  set : SSet wr mb j (ss.take j)
  right : (ss.take j).all rightB = true
  nodup : (ss.take j).Nodup
  ext : Ext w wr
theorem bad_check {ss : List Bs} {j : Nat} (hj : j < ss.length) (h : rightB ss[j] = false ∨ ss[j] ∈ ss.take j) : checkN ss = 1 := by
  unfold checkN
  rw [if_neg]
  rintro ⟨h1, h2⟩
  rcases h with h | h
  · have := List.all_eq_true.1 h1 ss[j] (by simp)
    rw [h] at this; cases this
  · rw [← List.take_append_drop j ss, List.nodup_append] at h2
    have hd : ss[j] ∈ ss.drop j := List.mem_drop_iff_getElem.2 ⟨0, by omega, by simp⟩
    exact h2.2.2 _ h ss[j] hd rfl

set_option maxRecDepth 100000 in
set_option maxHeartbeats 4000000 in
theorem check_any (w : World) (sv : Value) (ss : List Bs) (hT : Texts w.heap.size w sv ss) (hl : ss.length ≤ 100000) (hk : ∀ k ∈ ss, k.length ≤ 1000000) : Calls Tryd.prog 21 #[sv] w fun e w' => e = .returned (.int .i64 (checkN ss)) ∧ Ext w w' := by
  obtain ⟨A, c, rfl, hc⟩ := hT
  obtain ⟨m, hm⟩ : ∃ m, m = ss.length := ⟨_, rfl⟩
  rw [← hm] at hl ⊢
  have HC := Lib.hid hc; have HM := Lib.hid hm; have HK := Lib.hid hk
  clear hc hm hk
  have hmm := @run_makeMap Tryd.prog
  go_enter Tryd.func21, Tryd.ntmps21
  go_wp2
  go_loopw [9, 5] (fun i _ wr => ∃ j : Nat, j ≤ m ∧ i = .int .i64 j ∧ ChRel w w.heap.size ss j wr) (fun i _ _ => m - (intOf i).toNat)
  case atStart => exact ⟨0, by omega, rfl, SSet.made w, rfl, List.nodup_nil, Ext.alloc (Ext.refl _) _⟩
  case round =>
    obtain ⟨j, hj, rfl, hr⟩ := hrel
    have R := Lib.hid hr
    clear hr
    by_cases hlt : j < m
    · have hjs : j < ss.length := by rw [← HM.out]; exact hlt
      obtain ⟨b, off, rfl, hb, hcell⟩ := HC.out j hjs
      have hcell' := Ext.cell R.out.ext hcell
      have htk : ss.take (j + 1) = ss.take j ++ [ss[j]] := List.take_succ_eq_append_getElem hjs
      have hkl := HK.out ss[j] (by simp)
      have hbad := fun h => bad_check (ss := ss) hjs h
      obtain ⟨k, hkk⟩ : ∃ k, k = ss[j] := ⟨_, rfl⟩
      rw [← hkk] at hcell' htk hkl hbad
      have hcl : wr.cell? ⟨b, off + j, none⟩ = some (.string ⟨k.toArray⟩) := hcell'
      have hlook := R.out.set.look hkl
      have hrt := right_any k wr hkl
      have HTK := Lib.hid htk; have HBAD := Lib.hid hbad
      clear htk hbad hkk hcell hcell' hjs
      cases hrk : rightB k
      · rw [hrk] at hrt
        have HRT := Lib.hid hrt
        have HB : Hid (checkN ss = 1) := Lib.hid (HBAD.out (.inl hrk))
        clear hrt hrk hlook
        go_wp2_with (go_at_call 18; refine HRT.out.mono ?_; rintro e w' ⟨rfl, rfl⟩)
        go_ret
        exact ⟨ret_int HB.out.symm, R.out.ext⟩
      · rw [hrk] at hrt
        have HRT := Lib.hid hrt; have HRK := Lib.hid hrk
        clear hrt hrk
        by_cases hin : k ∈ ss.take j
        · rw [decide_eq_true hin] at hlook
          have HB : Hid (checkN ss = 1) := Lib.hid (HBAD.out (.inr hin))
          clear hin
          go_wp2_with (go_at_call 18; refine HRT.out.mono ?_; rintro e w' ⟨rfl, rfl⟩)
          go_ret
          exact ⟨ret_int HB.out.symm, R.out.ext⟩
        · rw [decide_eq_false hin] at hlook
          obtain ⟨w', hput, hs, ht⟩ := R.out.set.put (by omega) hkl
          obtain ⟨D, ⟨es, cl, hes, _⟩, _⟩ := R.out.set
          have hx : Ext w w' := by
            have hg := ht.grown
            exact ⟨hg.os.trans R.out.ext.os, hg.tape.trans R.out.ext.tape, hg.output.trans R.out.ext.output, Nat.le_trans R.out.ext.size hg.size, fun i hi => (hg.block i (Nat.lt_of_lt_of_le hi R.out.ext.size) (fun e => by injection e with e; omega)).trans (R.out.ext.block i hi)⟩
          have HN : Hid (ChRel w w.heap.size ss (j + 1) w') := Lib.hid ⟨by rw [HTK.out]; exact hs, by rw [HTK.out, List.all_append, R.out.right]; simp [HRK.out], by
            rw [HTK.out, List.nodup_append]
            refine ⟨R.out.nodup, by simp, ?_⟩
            intro a ha b hb
            simp at hb; subst hb
            rintro rfl
            exact hin ha, hx⟩
          clear hs ht hes hx hin
          go_wp2_with (go_at_call 18; refine HRT.out.mono ?_; rintro e w' ⟨rfl, rfl⟩)
          go_roundw
          case rel => exact ⟨j + 1, by omega, by go_num, HN.out⟩
          case measure => simp [intOf]; omega
    · have hjs : ss.take j = ss := List.take_of_length_le (by rw [← HM.out]; omega)
      have h1 := R.out.right; have h2 := R.out.nodup
      rw [hjs] at h1 h2
      have hck : checkN ss = if 32 < m then 4 else 0 := by unfold checkN; rw [if_pos ⟨h1, h2⟩, HM.out]
      have HCK := Lib.hid hck
      clear hck h1 h2 hjs
      by_cases h32 : 32 < m
      · rw [if_pos h32] at HCK
        go_wp2
        go_ret
        exact ⟨ret_int HCK.out.symm, R.out.ext⟩
      · rw [if_neg h32] at HCK
        go_wp2
        go_ret
        exact ⟨ret_int HCK.out.symm, R.out.ext⟩
end Go.Proofs.YtgbhhofmghgpbaaDoor
