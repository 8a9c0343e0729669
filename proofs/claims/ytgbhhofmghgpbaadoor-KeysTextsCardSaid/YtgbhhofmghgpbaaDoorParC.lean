/- The document's Parse, walked (printed by gen_rparse.py). -/
import Derived.Test.YtgbhhofmghgpbaaDoorParB
import Derived.Laws.Strings2
namespace Go.Proofs.YtgbhhofmghgpbaaDoor
open Go.RowKit Go.Sort Go.Shelf Go.Maps Go.ChangeMaps
set_option linter.unusedVariables false
set_option linter.unusedSimpArgs false
theorem str_sub1 (W : World) (x : Bs) (j : Nat) (hj : j < x.length) : (Instr.slice 9 (.string ⟨x.toArray⟩) (some (.int .i64 (j : Int))) (some (.int .i64 ((j : Int) + 1))) none).run Tryd.prog W = .ok (.string ⟨[x[j]].toArray⟩) W := by
  have hs : (⟨x.toArray⟩ : ByteArray).size = x.length := rfl
  rw [run_slice_string W 9 ⟨x.toArray⟩ .i64 .i64 (j : Int) ((j : Int) + 1) Tryd.underlying9 (by omega) (by omega) (by rw [hs]; omega), ByteArray.extract_mk]
  have e1 : ((j : Int) + 1).toNat = j + 1 := by omega
  have e2 : (x.drop j).take 1 = [x[j]] := by rw [List.drop_eq_getElem_cons hj]; rfl
  simp [e1, e2]
theorem str_add (W : World) {x y z : Bs} (hx : x.length ≤ 1000000) (hy : y.length ≤ 1000000) (hz : z = x ++ y) : (binOp .add 9 (.string ⟨x.toArray⟩) (.string ⟨y.toArray⟩)).run Tryd.prog W = .ok (.string ⟨z.toArray⟩) W := by
  subst hz
  have h1 : (x.length : Int) ≤ 8388608 := by omega
  have h2 : (y.length : Int) ≤ 8388608 := by omega
  simp [binOp, run_string_add_lists, *]
/-- Two texts put together. -/
theorem wpList_add {W : World} {ops : Array Oper} {rest : List Oper} {o : Oper} {a : Act} {Q : Exit → Act → World → Prop} (hgd : o.guard = none) (s t : Operand) (ho : o.op = .binOp .add 9 s t 9) (x y z : Bs) (hs : a.eval s = .string ⟨x.toArray⟩) (ht : a.eval t = .string ⟨y.toArray⟩) (hx : x.length ≤ 1000000) (hy : y.length ≤ 1000000) (hz : z = x ++ y)
    (h : wpList Tryd.prog ops Q rest (a.put o.dst (.string ⟨z.toArray⟩)) W) : wpList Tryd.prog ops Q (o :: rest) a W :=
  wpList_plain hgd fun K hK => by
    unfold Oper.wp execOp
    have e := str_add W hx hy hz
    simp only [ho, hs, ht, eqGuard, Sem.run_bind, Sem.run_pure, Result.andThen_ok, Bool.not_false, if_true, e]
    exact hK _ _ h
/-- A goal that a walk does not open. -/
def Stop (p : Prop) : Prop := p
theorem stop_of {p : Prop} (h : Stop p) : p := h
set_option maxRecDepth 100000 in
theorem wpList_append_str {W : World} {ops : Array Oper} {rest : List Oper} {o : Oper} {a : Act} {Q : Exit → Act → World → Prop}
    (hgd : o.guard = none) (s x : Operand) (ho : o.op = .call { callee := .builtin .append, args := #[s, x], argTypes := #[23, 23] })
    (B : Nat) (v : Value) (m : Nat) (L : List Bs) (k : Bs) (hown : W.ownsRow B 9 1 v m (L.map encStr)) (hs' : a.eval s = v) (gN : Nat) (hx : a.eval x = .slice (some ⟨gN, 0, none⟩) 1 1) (hgN : W.heap.size = gN)
    (hl : m ≤ 1000000) (hB : B ≤ W.heap.size)
    (hK : ∀ v' w', w'.ownsRow B 9 1 v' (m + 1) (L.map encStr ++ [encStr k]) → W.grownBy w' v.ownBlock → wpList Tryd.prog ops Q rest (a.put o.dst v') w') :
    wpList Tryd.prog ops Q (o :: rest) a (W.alloc (.cells #[.string ⟨k.toArray⟩] 9)) := by
  obtain ⟨i0, hi, hz0, hz1, hz2⟩ := info_parts info9
  refine wpList_append_one hgd s x 23 ho B 9 i0 _ 1 16 Tryd.underlying23 hi hz0 hz1 hz2 rfl (by decide) v _ _ hs' hown #[.string ⟨k.toArray⟩] gN hx hgN rfl (by simp [Value.oneCell']) (by unfold maxLen; omega) (by omega) hB ?_
  intro v' w' h1 h2 h3
  exact hK v' w' h1 h2
/-- What is left, with the word that is begun. -/
def restP (s : Bs) (j : Nat) (wd : Bs) : List Bs := if j ≤ s.length then glue wd (splitW (s.drop j)) else []
theorem restP_zero (s : Bs) : restP s 0 [] = splitW s := by unfold restP; rw [if_pos (by omega)]; simpa using glue_nil s
theorem restP_byte {s : Bs} {j : Nat} (hj : j < s.length) (hc : s[j] ≠ 32) (wd : Bs) : restP s j wd = restP s (j + 1) (wd ++ [s[j]]) := by
  unfold restP
  rw [if_pos (by omega), if_pos (by omega), List.drop_eq_getElem_cons hj, splitW_cons hc, glue_glue]
theorem restP_end {s : Bs} {j : Nat} (hj : j ≤ s.length) (hc : ∀ h : j < s.length, s[j] = 32) (wd : Bs) : restP s j wd = wd :: restP s (j + 1) [] := by
  unfold restP
  rw [if_pos hj]
  by_cases h : j < s.length
  · rw [if_pos (by omega), List.drop_eq_getElem_cons h, hc h, splitW_space, glue_nil]; simp [glue]
  · rw [if_neg (by omega), List.drop_eq_nil_of_le (by omega)]; simp [splitW, glue]
theorem restP_done {s : Bs} {j : Nat} (hj : s.length < j) (wd : Bs) : restP s j wd = [] := by unfold restP; rw [if_neg (by omega)]
/-- Between two bytes. -/
structure RpRel (w : World) (s : Bs) (j : Nat) (L : List Bs) (wd : Bs) (ov : Value) (wr : World) : Prop where
  eq : parseL rightB [] (splitW s) = parseL rightB L (restP s j wd)
  row : SRow wr w.heap.size ov L
  len : L.length ≤ j
  word : wd.length ≤ j
  ext : Ext w wr
theorem srow_texts {w : World} {B : Nat} {v : Value} {ss : List Bs} (h : SRow w B v ss) : Texts w.heap.size w v ss := h.texts
set_option maxRecDepth 100000 in
set_option maxHeartbeats 1000000 in
theorem rparse_any (s : Bs) (hl : s.length ≤ 10000) (w : World) : Calls Tryd.prog 7 #[.string ⟨s.toArray⟩] w fun e W' => ∃ sv, e = .returned (.tuple #[sv, .int .i64 (parseP rightB s).2]) ∧ SRow W' w.heap.size sv (parseP rightB s).1 ∧ Ext w W' := by
  have hsl : (s.length : Int) ≤ 65536 := by omega
  have hsz : (⟨s.toArray⟩ : ByteArray).size = s.length := rfl
  obtain ⟨i0, hi, hz0, hz1, hz2⟩ := info_parts info9
  obtain ⟨N, hN⟩ : ∃ N, N = s.length := ⟨_, rfl⟩
  have HN := Lib.hid hN
  go_enter Tryd.func7, Tryd.ntmps7
  go_wp2
  go_loopw [6, 4, 5] (fun i ov wdv wr => ∃ (j : Nat) (L : List Bs) (wd : Bs), j ≤ s.length + 1 ∧ i = .int .i64 j ∧ wdv = .string ⟨wd.toArray⟩ ∧ Hid (RpRel w s j L wd ov wr)) (fun i _ _ _ => s.length + 1 - (intOf i).toNat)
  case atStart => exact ⟨0, [], [], by omega, rfl, rfl, Lib.hid ⟨by rw [restP_zero], World.ownsRow_nil _ _ _ _, by simp, by simp, Ext.refl _⟩⟩
  case round =>
    obtain ⟨j, L, wd, hj, rfl, rfl, R⟩ := hrel
    by_cases hlt : j < s.length
    · by_cases hc : s[j] = 32
      · have hcn : ((((⟨s.toArray⟩ : ByteArray)[j]'hlt).toNat : Int) != 32) = false := by rw [show (⟨s.toArray⟩ : ByteArray)[j]'hlt = s[j] from rfl, hc]; rfl
        have hc32 : ∀ h : j < s.length, s[j] = 32 := fun _ => hc
        have hjle : j ≤ s.length := by omega
        clear hc
        have hend := restP_end hjle hc32 wd
        have HE := Lib.hid (show parseL rightB [] (splitW s) = parseL rightB L (wd :: restP s (j + 1) []) by rw [R.out.eq, hend])
        have hwl : wd.length ≤ 10000 := Nat.le_trans R.out.word (by omega)
        have hLl : L.length ≤ 10000 := Nat.le_trans R.out.len (by omega)
        clear hend hc32
        by_cases hw0 : wd = []
        · subst hw0
          go_wp2
          go_roundw
          case rel => exact ⟨j + 1, L, [], by omega, by go_num, rfl, Lib.hid ⟨by rw [HE.out, parseL_cons, if_pos rfl], R.out.row, Nat.le_succ_of_le R.out.len, by simp, R.out.ext⟩⟩
          case measure => simp [intOf]; omega
        · have hwe : List.isEmpty wd = false := by cases wd with
            | nil => exact absurd rfl hw0
            | cons c r => rfl
          have hkey := rkey_any wd wr (by omega)
          cases hr : rightB wd
          · rw [hr] at hkey
            have HKEY := Lib.hid hkey
            have HP := Lib.hid (show parseP rightB s = ([], 2) by unfold parseP; rw [HE.out, parseL_cons, if_neg hw0, if_pos hr])
            clear hkey hr hw0
            go_wp2_with (go_at_call 19; refine HKEY.out.mono ?_; rintro e w' ⟨rfl, rfl⟩)
            go_ret2
            exact ⟨.slice none 0 0, by rw [HP.out]; rfl, by rw [HP.out]; exact World.ownsRow_nil _ _ _ _, R.out.ext⟩
          · rw [hr] at hkey
            have HKEY := Lib.hid hkey
            have hin := rin_any wr _ _ L wd (srow_texts R.out.row) (by omega)
            by_cases hmem : wd ∈ L
            · rw [decide_eq_true hmem] at hin
              have HIN := Lib.hid hin
              have HR := Lib.hid (show parseL rightB [] (splitW s) = parseL rightB L (restP s (j + 1) []) by rw [HE.out, parseL_cons, if_neg hw0, if_neg (by rw [hr]; simp), if_pos hmem])
              clear hkey hr hw0 hin hmem
              go_wp2_with (first | (go_at_call 19; refine HKEY.out.mono ?_; rintro e w' ⟨rfl, rfl⟩) | (go_at_call 20; refine HIN.out.mono ?_; rintro e w' ⟨rfl, rfl⟩))
              go_roundw
              case rel => exact ⟨j + 1, L, [], by omega, by go_num, rfl, Lib.hid ⟨HR.out, R.out.row, Nat.le_succ_of_le R.out.len, by simp, R.out.ext⟩⟩
              case measure => simp [intOf]; omega
            · rw [decide_eq_false hmem] at hin
              have HIN := Lib.hid hin
              have HR := Lib.hid (show parseL rightB [] (splitW s) = parseL rightB (L ++ [wd]) (restP s (j + 1) []) by rw [HE.out, parseL_cons, if_neg hw0, if_neg (by rw [hr]; simp), if_neg hmem])
              clear hkey hr hw0 hin hmem
              obtain ⟨A, c, hvv⟩ := own_slice R.out.row
              obtain ⟨m, hm⟩ : ∃ m, m = L.length := ⟨_, rfl⟩
              have HOWN := Lib.hid R.out.row
              rw [← hm] at hvv hLl
              subst hvv
              have hrow := R.out.row
              unfold SRow at hrow
              rw [← hm] at hrow
              have HROW := Lib.hid hrow; have HM := Lib.hid hm
              clear hrow hm
              go_wp2_with (first | (go_at_call 19; refine HKEY.out.mono ?_; rintro e w' ⟨rfl, rfl⟩) | (go_at_call 20; refine HIN.out.mono ?_; rintro e w' ⟨rfl, rfl⟩) | (at_builtin; refine wpList_append_str rfl _ _ rfl w.heap.size _ m L wd HROW.out rfl _ rfl rfl (by omega) R.out.ext.size ?_; refine fun v' w' hown' hg' => stop_of ?_))
              unfold Stop
              obtain ⟨A', c', hvv'⟩ := own_slice hown'
              subst hvv'
              have HR2 : Hid (RpRel w s (j + 1) (L ++ [wd]) [] (.slice A' (m + 1) c') w') := Lib.hid ⟨HR.out, by
                unfold SRow
                rw [List.length_append, List.map_append, ← HM.out]
                exact hown', by rw [List.length_append]; have := R.out.len; simp; omega, by simp, RowKit.Below.trans R.out.ext (own_below HROW.out hg' R.out.ext.size)⟩
              clear hown' hg'
              go_wp2
              go_roundw
              case rel => exact ⟨j + 1, L ++ [wd], [], by omega, by go_num, rfl, HR2⟩
              case measure => simp [intOf]; omega
      · have hcn : ((((⟨s.toArray⟩ : ByteArray)[j]'hlt).toNat : Int) != 32) = true := by
          rw [show (⟨s.toArray⟩ : ByteArray)[j]'hlt = s[j] from rfl]
          refine bne_iff_ne.2 fun e => hc (UInt8.toNat_inj.1 (by rw [show (32 : UInt8).toNat = 32 from rfl]; omega))
        have hb := restP_byte hlt hc wd
        have hsub := fun W => str_sub1 W s j hlt
        obtain ⟨ch, hch⟩ : ∃ ch, ch = s[j] := ⟨_, rfl⟩
        have HCH := Lib.hid hch
        rw [← hch] at hsub hb
        have HB := Lib.hid hb
        have hwl : wd.length ≤ 10000 := Nat.le_trans R.out.word (by omega)
        clear hc hch hb
        go_wp2_with (refine wpList_add rfl _ _ rfl wd [ch] (wd ++ [ch]) rfl rfl (by omega) (by simp) rfl ?_)
        go_roundw
        case rel => exact ⟨j + 1, L, wd ++ [ch], by omega, by go_num, rfl, Lib.hid ⟨by rw [R.out.eq, HB.out], R.out.row, Nat.le_succ_of_le R.out.len, by have := R.out.word; simp; omega, R.out.ext⟩⟩
        case measure => simp [intOf]; omega
    · by_cases he : j = s.length
      · have hjle : j ≤ s.length := by omega
        have hc32 : ∀ h : j < s.length, s[j] = 32 := fun h => absurd h hlt
        have hnot : ¬ (j : Int) < (s.length : Int) := by omega
        have hle2 : (j : Int) ≤ (s.length : Int) := by omega
        clear he
        have hend := restP_end hjle hc32 wd
        have HE := Lib.hid (show parseL rightB [] (splitW s) = parseL rightB L (wd :: restP s (j + 1) []) by rw [R.out.eq, hend])
        have hwl : wd.length ≤ 10000 := Nat.le_trans R.out.word (by omega)
        have hLl : L.length ≤ 10000 := Nat.le_trans R.out.len (by omega)
        clear hend hc32
        by_cases hw0 : wd = []
        · subst hw0
          go_wp2
          go_roundw
          case rel => exact ⟨j + 1, L, [], by omega, by go_num, rfl, Lib.hid ⟨by rw [HE.out, parseL_cons, if_pos rfl], R.out.row, Nat.le_succ_of_le R.out.len, by simp, R.out.ext⟩⟩
          case measure => simp [intOf]; omega
        · have hwe : List.isEmpty wd = false := by cases wd with
            | nil => exact absurd rfl hw0
            | cons c r => rfl
          have hkey := rkey_any wd wr (by omega)
          cases hr : rightB wd
          · rw [hr] at hkey
            have HKEY := Lib.hid hkey
            have HP := Lib.hid (show parseP rightB s = ([], 2) by unfold parseP; rw [HE.out, parseL_cons, if_neg hw0, if_pos hr])
            clear hkey hr hw0
            go_wp2_with (go_at_call 19; refine HKEY.out.mono ?_; rintro e w' ⟨rfl, rfl⟩)
            go_ret2
            exact ⟨.slice none 0 0, by rw [HP.out]; rfl, by rw [HP.out]; exact World.ownsRow_nil _ _ _ _, R.out.ext⟩
          · rw [hr] at hkey
            have HKEY := Lib.hid hkey
            have hin := rin_any wr _ _ L wd (srow_texts R.out.row) (by omega)
            by_cases hmem : wd ∈ L
            · rw [decide_eq_true hmem] at hin
              have HIN := Lib.hid hin
              have HR := Lib.hid (show parseL rightB [] (splitW s) = parseL rightB L (restP s (j + 1) []) by rw [HE.out, parseL_cons, if_neg hw0, if_neg (by rw [hr]; simp), if_pos hmem])
              clear hkey hr hw0 hin hmem
              go_wp2_with (first | (go_at_call 19; refine HKEY.out.mono ?_; rintro e w' ⟨rfl, rfl⟩) | (go_at_call 20; refine HIN.out.mono ?_; rintro e w' ⟨rfl, rfl⟩))
              go_roundw
              case rel => exact ⟨j + 1, L, [], by omega, by go_num, rfl, Lib.hid ⟨HR.out, R.out.row, Nat.le_succ_of_le R.out.len, by simp, R.out.ext⟩⟩
              case measure => simp [intOf]; omega
            · rw [decide_eq_false hmem] at hin
              have HIN := Lib.hid hin
              have HR := Lib.hid (show parseL rightB [] (splitW s) = parseL rightB (L ++ [wd]) (restP s (j + 1) []) by rw [HE.out, parseL_cons, if_neg hw0, if_neg (by rw [hr]; simp), if_neg hmem])
              clear hkey hr hw0 hin hmem
              obtain ⟨A, c, hvv⟩ := own_slice R.out.row
              obtain ⟨m, hm⟩ : ∃ m, m = L.length := ⟨_, rfl⟩
              have HOWN := Lib.hid R.out.row
              rw [← hm] at hvv hLl
              subst hvv
              have hrow := R.out.row
              unfold SRow at hrow
              rw [← hm] at hrow
              have HROW := Lib.hid hrow; have HM := Lib.hid hm
              clear hrow hm
              go_wp2_with (first | (go_at_call 19; refine HKEY.out.mono ?_; rintro e w' ⟨rfl, rfl⟩) | (go_at_call 20; refine HIN.out.mono ?_; rintro e w' ⟨rfl, rfl⟩) | (at_builtin; refine wpList_append_str rfl _ _ rfl w.heap.size _ m L wd HROW.out rfl _ rfl rfl (by omega) R.out.ext.size ?_; refine fun v' w' hown' hg' => stop_of ?_))
              unfold Stop
              obtain ⟨A', c', hvv'⟩ := own_slice hown'
              subst hvv'
              have HR2 : Hid (RpRel w s (j + 1) (L ++ [wd]) [] (.slice A' (m + 1) c') w') := Lib.hid ⟨HR.out, by
                unfold SRow
                rw [List.length_append, List.map_append, ← HM.out]
                exact hown', by rw [List.length_append]; have := R.out.len; simp; omega, by simp, RowKit.Below.trans R.out.ext (own_below HROW.out hg' R.out.ext.size)⟩
              clear hown' hg'
              go_wp2
              go_roundw
              case rel => exact ⟨j + 1, L ++ [wd], [], by omega, by go_num, rfl, HR2⟩
              case measure => simp [intOf]; omega
      · have hgt : s.length < j := by omega
        have HR := Lib.hid (show parseL rightB [] (splitW s) = some L by rw [R.out.eq, restP_done hgt]; rfl)
        have hP : parseP rightB s = if 32 < L.length then ([], 4) else (L, 0) := by unfold parseP; rw [HR.out]
        have hLl : L.length ≤ 10001 := Nat.le_trans R.out.len (by omega)
        obtain ⟨A, c, hvv⟩ := own_slice R.out.row
        obtain ⟨m, hm⟩ : ∃ m, m = L.length := ⟨_, rfl⟩
        rw [← hm] at hvv hP hLl
        subst hvv
        have HM := Lib.hid hm
        clear hm
        by_cases h32 : 32 < m
        · rw [if_pos h32] at hP
          have HP := Lib.hid hP
          clear hP
          go_wp2
          go_ret2
          exact ⟨.slice none 0 0, by rw [HP.out]; rfl, by rw [HP.out]; exact World.ownsRow_nil _ _ _ _, R.out.ext⟩
        · rw [if_neg h32] at hP
          have HP := Lib.hid hP
          clear hP
          go_wp2
          go_ret2
          exact ⟨.slice A m c, by rw [HP.out]; rfl, by rw [HP.out]; exact R.out.row, R.out.ext⟩
end Go.Proofs.YtgbhhofmghgpbaaDoor
