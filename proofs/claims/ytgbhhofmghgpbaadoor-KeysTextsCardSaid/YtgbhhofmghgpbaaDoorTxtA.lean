/- keys.Text and the document's Text, walked. -/
import Derived.Test.YtgbhhofmghgpbaaDoorParC
import Derived.Test.YtgbhhofmghgpbaaDoorLayJ
namespace Go.Proofs.YtgbhhofmghgpbaaDoor
open Go.RowKit Go.Sort Go.Shelf Go.Maps Go.ChangeMaps
set_option linter.unusedVariables false
set_option linter.unusedSimpArgs false
/-- The text of keys, and the code. -/
def textP (ss : List Bs) : Bs × Int := if checkN ss = 0 then (Lib.join ss [32], 0) else ([], checkN ss)
theorem textP_ok {ss : List Bs} (h : checkN ss = 0) : textP ss = (Lib.join ss [32], 0) := if_pos h
theorem textP_bad {ss : List Bs} (h : checkN ss ≠ 0) : textP ss = ([], checkN ss) := if_neg h
theorem bytes_join (ss : List Bs) : (Lib.join ss [32]).length ≤ bytesL ss + ss.length := join_len ss
theorem map_data (ss : List Bs) : (ss.map fun t => (⟨t.toArray⟩ : ByteArray)).map (·.data.toList) = ss := by
  induction ss with
  | nil => rfl
  | cons a l ih => simp only [List.map_cons, ih]
theorem join_any (w : World) (sv : Value) (ss : List Bs) (hT : Texts w.heap.size w sv ss) (hcap : Capd sv) (hl : ss.length ≤ 1000000) (hb : bytesL ss ≤ 1000000) : Calls Tryd.prog 22 #[sv, .string ⟨#[32]⟩] w fun e w' => e = .returned (.string ⟨(Lib.join ss [32]).toArray⟩) ∧ Ext w w' := by
  obtain ⟨A, c, rfl, hc⟩ := hT
  have hcap' : ss.length ≤ c := hcap _ _ _ rfl
  cases ss with
  | nil => exact (Any.strings_Join_none Tryd.join22 Tryd.extra22 A c ⟨#[32]⟩ w).mono fun e w' ⟨he, hw⟩ => ⟨he, hw ▸ Ext.refl _⟩
  | cons t l =>
    obtain ⟨b, off, rfl, hb0, _⟩ := hc 0 (by simp)
    have hx : ((t :: l).map fun t => (⟨t.toArray⟩ : ByteArray)).length = (t :: l).length := by simp
    have h := Any.strings_Join Tryd.join22 Tryd.extra22 b off c ((t :: l).map fun t => (⟨t.toArray⟩ : ByteArray)) ⟨#[32]⟩ w (fun j x hj => ?_) hb0 (by rw [hx]; omega) (by rw [hx]; exact hcap') (by rw [map_data]; have := bytes_join (t :: l); show (Lib.join (t :: l) [32]).length ≤ _; omega)
    · rw [hx, map_data] at h
      exact h.mono fun e w' ⟨he, hw⟩ => ⟨he, hw⟩
    · have hlt : j < (t :: l).length := by rw [← hx]; exact (List.getElem?_eq_some_iff.1 hj).1
      obtain ⟨b', off', e, _, hcell⟩ := hc j hlt
      obtain ⟨rfl, rfl⟩ : b = b' ∧ off = off' := by injection e with e; injection e with e1 e2; exact ⟨e1, e2⟩
      rw [hcell]
      rw [List.getElem?_map, List.getElem?_eq_getElem hlt] at hj
      injection hj with hj
      rw [← hj]
set_option maxRecDepth 100000 in
set_option maxHeartbeats 2000000 in
theorem ktext_any (w : World) (sv : Value) (ss : List Bs) (hT : Texts w.heap.size w sv ss) (hcap : Capd sv) (hl : ss.length ≤ 100000) (hk : ∀ k ∈ ss, k.length ≤ 1000000) (hb : bytesL ss ≤ 1000000) :
    Calls Tryd.prog 10 #[sv] w fun e w' => e = .returned (.tuple #[.string ⟨(textP ss).1.toArray⟩, .int .i64 (textP ss).2]) ∧ Ext w w' := by
  have HC := Lib.hid (check_any w sv ss hT hl hk)
  have HT := Lib.hid hT
  obtain ⟨cn, hcn⟩ : ∃ cn, cn = checkN ss := ⟨_, rfl⟩
  have HCN := Lib.hid hcn
  by_cases h0 : cn = 0
  · have HP := Lib.hid (textP_ok (show checkN ss = 0 by rw [← hcn, h0]))
    have HC' := Lib.hid (show Calls Tryd.prog 21 #[sv] w fun e w' => e = .returned (.int .i64 0) ∧ Ext w w' by rw [show (0 : Int) = checkN ss by rw [← hcn, h0]]; exact HC.out)
    clear h0 hcn HC hT
    go_enter Tryd.func10, Tryd.ntmps10
    go_wp2_with (go_at_call 21; refine HC'.out.mono ?_; rintro e w1 ⟨rfl, x1⟩; refine stop_of ?_)
    unfold Stop
    have HJ := Lib.hid (join_any w1 sv ss (texts_up x1 HT.out) hcap (by omega) hb)
    have X1 := Lib.hid x1
    clear x1
    go_wp2_with (go_at_call 22; refine HJ.out.mono ?_; rintro e w2 ⟨rfl, x2⟩)
    go_ret2
    exact ⟨by rw [HP.out]; rfl, X1.out.trans x2⟩
  · have HP := Lib.hid (textP_bad (show checkN ss ≠ 0 by rw [← hcn]; exact h0))
    rw [← hcn] at HC HP
    have hne : (cn != 0) = true := by simpa using h0
    clear hcn hT
    go_enter Tryd.func10, Tryd.ntmps10
    go_wp2_with (go_at_call 21; refine HC.out.mono ?_; rintro e w1 ⟨rfl, x1⟩)
    go_ret2
    exact ⟨by rw [HP.out]; rfl, x1⟩

theorem textL_small (ss : List Bs) (j : Nat) (h : j ≤ ss.length) : (textL ss j).length ≤ bytesL ss + ss.length := by
  rw [textL_join ss j h]
  have h1 := bytes_join (ss.take j)
  have h2 := bytesL_take ss j
  rw [List.length_take] at h1
  omega
theorem bytes_mem {ss : List Bs} {k : Bs} (h : k ∈ ss) : k.length ≤ bytesL ss := by
  unfold bytesL
  induction ss with
  | nil => cases h
  | cons a l ih =>
    rw [List.map_cons, List.sum_cons]
    rcases List.mem_cons.1 h with rfl | h
    · omega
    · have := ih h; omega
set_option maxRecDepth 100000 in
set_option maxHeartbeats 2000000 in
theorem rtext_any (w : World) (n0 : Nat) (sv : Value) (ss : List Bs) (hT : Texts n0 w sv ss) (hcap : Capd sv) (hl : ss.length ≤ 100000) (hb : bytesL ss ≤ 100000) :
    Calls Tryd.prog 11 #[sv] w fun e w' => e = .returned (.tuple #[.string ⟨(textP ss).1.toArray⟩, .int .i64 (textP ss).2]) ∧ Ext w w' := by
  have HC := Lib.hid (rright_any w n0 sv ss hT hcap (by omega) (fun k hk => by have := bytes_mem hk; omega))
  have HT := Lib.hid hT
  obtain ⟨cn, hcn⟩ : ∃ cn, cn = checkN ss := ⟨_, rfl⟩
  by_cases h0 : cn = 0
  · have HP := Lib.hid (textP_ok (show checkN ss = 0 by rw [← hcn, h0]))
    have HC' := Lib.hid (show Calls Tryd.prog 23 #[sv] w fun e w' => e = .returned (.int .i64 0) ∧ w = w' by rw [show (0 : Int) = checkN ss by rw [← hcn, h0]]; exact HC.out)
    clear h0 hcn HC
    obtain ⟨A, c, rfl, hc⟩ := hT
    obtain ⟨m, hm⟩ : ∃ m, m = ss.length := ⟨_, rfl⟩
    have HM := Lib.hid hm; have HCC := Lib.hid hc
    rw [← hm] at HC' hl ⊢
    clear hm hc HT hcap
    go_enter Tryd.func11, Tryd.ntmps11
    go_wp2_with (go_at_call 23; refine HC'.out.mono ?_; rintro e w1 ⟨rfl, rfl⟩)
    go_loopw [15, 5, 6, 7] (fun i t _ _ wr => ∃ j : Nat, j ≤ m ∧ i = .int .i64 j ∧ t = .string ⟨(textL ss j).toArray⟩ ∧ Hid (Ext w wr)) (fun i _ _ _ _ => m - (intOf i).toNat)
    case atStart => exact ⟨0, by omega, rfl, rfl, Lib.hid (Ext.refl _)⟩
    case round =>
      obtain ⟨j, hj, rfl, rfl, X⟩ := hrel
      by_cases hlt : j < m
      · have hjs : j < ss.length := by rw [← HM.out]; exact hlt
        obtain ⟨b, off, rfl, hb0, hcell⟩ := HCC.out j hjs
        have hcell' := X.out.cell hcell
        have hnext : textL ss (j + 1) = (if j = 0 then textL ss j else textL ss j ++ [32]) ++ ss[j] := by
          show (if j = 0 then textL ss j else textL ss j ++ [32]) ++ ss.getD j [] = _
          rw [show ss.getD j [] = ss[j] by simp [List.getD, List.getElem?_eq_getElem hjs]]
        have ht0 : (textL ss j).length ≤ 200000 := by have := textL_small ss j (by omega); have := HM.out; omega
        have hkl : ss[j].length ≤ 100000 := by have := bytes_mem (List.getElem_mem hjs); omega
        obtain ⟨t0, e0⟩ : ∃ t, t = textL ss j := ⟨_, rfl⟩
        obtain ⟨k, ek⟩ : ∃ k, k = ss[j] := ⟨_, rfl⟩
        rw [← e0] at hnext ht0 ⊢
        rw [← ek] at hnext hkl hcell'
        have hcl : wr.cell? ⟨b, off + j, none⟩ = some (.string ⟨k.toArray⟩) := hcell'
        clear e0 ek hcell hcell'
        by_cases hz : j = 0
        · rw [if_pos hz] at hnext
          have HN := Lib.hid hnext
          have hnp : ¬ (0 : Int) < (j : Int) := by omega
          clear hnext hz
          go_wp2_with (refine wpList_add rfl _ _ rfl t0 k (t0 ++ k) rfl rfl (by omega) (by omega) rfl ?_)
          go_roundw
          case rel => exact ⟨j + 1, by omega, by go_num, by rw [HN.out], X⟩
          case measure => simp [intOf]; omega
        · rw [if_neg hz] at hnext
          have HN := Lib.hid hnext
          have hpos : (0 : Int) < (j : Int) := by omega
          have h1 : (t0 ++ [32]).length ≤ 200001 := by simp; omega
          obtain ⟨t1, e1⟩ : ∃ t, t = t0 ++ [32] := ⟨_, rfl⟩
          rw [← e1] at HN h1
          have E1 := Lib.hid e1
          clear hnext hz e1
          go_wp2_with (first | (refine wpList_add rfl _ _ rfl t0 [32] t1 rfl rfl (by omega) (by simp) E1.out ?_) | (refine wpList_add rfl _ _ rfl t1 k (t1 ++ k) rfl rfl (by omega) (by omega) rfl ?_))
          go_roundw
          case rel => exact ⟨j + 1, by omega, by go_num, by rw [HN.out], X⟩
          case measure => simp [intOf]; omega
      · have hjm : j = m := by omega
        have HE := Lib.hid (show textL ss j = Lib.join ss [32] by rw [textL_join ss j (by rw [← HM.out]; omega), List.take_of_length_le (by rw [← HM.out]; omega)])
        clear hjm
        go_wp2
        go_ret2
        exact ⟨by rw [HP.out, HE.out]; rfl, X.out⟩
  · have HP := Lib.hid (textP_bad (show checkN ss ≠ 0 by rw [← hcn]; exact h0))
    rw [← hcn] at HC HP
    have hne : (cn != 0) = true := by simpa using h0
    clear hcn hT
    go_enter Tryd.func11, Tryd.ntmps11
    go_wp2_with (go_at_call 23; refine HC.out.mono ?_; rintro e w1 ⟨rfl, rfl⟩)
    go_ret2
    exact ⟨by rw [HP.out]; rfl, Ext.refl _⟩
end Go.Proofs.YtgbhhofmghgpbaaDoor
