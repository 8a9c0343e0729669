/- light and made, walked (printed by gen_made.py). -/
import Derived.Test.YtjphpblangeblaaDoorPlay
namespace Go.Proofs.YtjphpblangeblaaDoor
open Go.RowKit Go.Maps Go.ChangeMaps
set_option linter.unusedVariables false
set_option linter.unusedSimpArgs false
/-- A call. -/
structure OpP where
  kind : Nat
  nm : Bs
  wgt : Int
def encOp (o : OpP) : List Value := [.int .u8 o.kind, .string ⟨o.nm.toArray⟩, .int .i64 o.wgt]
theorem encOp_len (o : OpP) : (encOp o).length = 3 := rfl
/-- A slice of calls, read. -/
def OpsAt (w : World) (v : Value) (xs : List OpP) : Prop := ∃ (A : Option Addr) (c : Nat), v = .slice A xs.length c ∧ xs.length ≤ c ∧ (A = none → c = 0) ∧ ∀ j (hj : j < xs.length), ∃ b off, A = some ⟨b, off, none⟩ ∧ b < w.heap.size ∧ w.rangeAt b (off + j * 3) (encOp xs[j])
theorem OpsAt.ext {w w' : World} {v : Value} {xs : List OpP} (h : OpsAt w v xs) (hx : Ext w w') : OpsAt w' v xs := by
  obtain ⟨A, c, h1, h2, h3, h4⟩ := h
  exact ⟨A, c, h1, h2, h3, fun j hj => by obtain ⟨b, off, e1, e2, e3⟩ := h4 j hj; exact ⟨b, off, e1, hx.lt e2, fun t u hu => hx.cell (e3 t u hu)⟩⟩
theorem OpsAt.at_ {w : World} {A : Option Addr} {n c : Nat} {xs : List OpP} (h : OpsAt w (.slice A n c) xs) {j : Nat} (hj : j < xs.length) : ∃ b off, A = some ⟨b, off, none⟩ ∧ b < w.heap.size ∧ w.rangeAt b (off + j * 3) (encOp xs[j]) := by
  obtain ⟨A', c', h1, _, _, h4⟩ := h
  injection h1 with h1
  subst h1
  exact h4 j hj
theorem zero38 (w : World) : (zeroValue 38).run Tryd.prog w = .ok (.agg #[.int .u8 0, .string ⟨#[]⟩, .int .i64 0]) w := by kernel_rfl
theorem size38 : (Tryd.prog.info? 38).map (·.size) = some 3 := by kernel_rfl
theorem size24 : (Tryd.prog.info? 24).map (·.size) = some 2 := by kernel_rfl
/-- What light says: few calls, of short names. -/
def LightR (xs : List OpP) (e : Ending) : Prop := ∃ r : Bool, e = .returned (.bool r) ∧ (r = true → xs.length ≤ 30 ∧ ∀ o ∈ xs, o.nm.length ≤ 120)
section
variable {w : World} {p : Int} {A : Option Addr} {n c : Nat} {xs : List OpP}
set_option maxRecDepth 100000 in
set_option maxHeartbeats 4000000 in
theorem light_any (h : OpsAt w (.slice A n c) xs) (hnl : n ≤ 9223372036854775807) : Calls Tryd.prog 9 #[.agg #[.int .i64 p, .slice A n c]] w fun e w' => LightR xs e ∧ Ext w w' := by
  have hn : n = xs.length := by obtain ⟨_, _, e, _⟩ := h; injection e
  have HOPS := Lib.hid h; have HM := Lib.hid hn
  obtain ⟨W0, hW0⟩ : ∃ W0, W0 = w.alloc (.cells #[.int .i64 p, .slice A n c] 24) := ⟨_, rfl⟩
  obtain ⟨mb, hmb⟩ : ∃ mb, mb = w.heap.size := ⟨_, rfl⟩
  have n0 : W0.heap[mb]? = some (.cells #[.int .i64 p, .slice A n c] 24 (0, 0)) := by rw [hW0, hmb]; exact heap_alloc_new w _
  have x0 : Ext w W0 := by rw [hW0]; exact ext_alloc1 _ _
  have k0 : W0.cell? ⟨mb, 0, none⟩ = some (.int .i64 p) := blk_cell n0 0
  have k1 : W0.cell? ⟨mb, 1, none⟩ = some (.slice A n c) := blk_cell n0 1
  have HW0 := Lib.hid hW0; have HMB := Lib.hid hmb; have X0 := Lib.hid x0
  clear h hn hW0 hmb n0 x0
  go_enter Tryd.func9, Tryd.ntmps9
  have e0 := HW0.out
  have hk1 : (w.alloc (.cells #[.int .i64 p, .slice A n c] 24)).cell? ⟨w.heap.size, 1, none⟩ = some (.slice A n c) := by rw [← HW0.out, ← HMB.out]; exact k1
  clear e0
  go_wp2_with fail
  rw [← HW0.out, ← HMB.out]
  clear hk1
  go_loopw [9, 3, 5] (fun i s _ wr => ∃ (j : Nat) (s' : Int), j ≤ n ∧ i = .int .i64 j ∧ s = .int .i64 s' ∧ Hid (∀ o ∈ xs.take j, o.nm.length ≤ 120) ∧ Hid (Ext W0 wr)) (fun i _ _ _ => n - (RowKit.intOf i).toNat)
  case atStart => exact ⟨0, 0, by omega, rfl, rfl, Lib.hid (by simp), Lib.hid (Ext.refl _)⟩
  case round =>
    obtain ⟨j, s', hj, rfl, rfl, R, HX0⟩ := hrel
    have HX := Lib.hid (X0.out.trans HX0.out)
    by_cases hlt : j < n
    · skip
      have hjs : j < xs.length := by rw [← HM.out]; exact hlt
      obtain ⟨g, off, rfl, _, hrg⟩ := (HOPS.out.ext HX.out).at_ hjs
      have htk : xs.take (j + 1) = xs.take j ++ [xs[j]] := List.take_succ_eq_append_getElem hjs
      have hpj : xs[j]? = some xs[j] := by simp [hjs]
      obtain ⟨p, hp⟩ : ∃ p, p = xs[j] := ⟨_, rfl⟩
      rw [← hp] at hrg htk hpj
      obtain ⟨yk, yn, yw⟩ := p
      have HRG := Lib.hid hrg; have HTK := Lib.hid htk; have HPJ := Lib.hid hpj
      clear hrg htk hpj hp hjs
      go_wp2_with (first | (refine wpList_load_mid rfl 38 _ rfl g (off + j * 3) rfl (encOp ⟨yk, yn, yw⟩) _ HRG.out Tryd.underlying38 rfl size38 ?_) | (refine wpList_new 38 #[.int .u8 0, .string ⟨#[]⟩, .int .i64 0] zero38 rfl rfl ?_; intro W1 x1 n1 s1; refine stop_of ?_))
      unfold Stop
      obtain ⟨vb, hvb⟩ : ∃ vb, vb = wr.heap.size := ⟨_, rfl⟩
      rw [← hvb] at n1 ⊢
      have HVB := Lib.hid hvb
      have X1 := Lib.hid x1; have N1 := Lib.hid n1
      clear x1 n1 s1 hvb
      go_wp2_with (refine wpList_put 38 rfl _ _ rfl vb 0 38 _ (encOp ⟨yk, yn, yw⟩).toArray (encOp ⟨yk, yn, yw⟩) (.agg (encOp ⟨yk, yn, yw⟩).toArray) N1.out rfl rfl rfl (by simp [encOp]) rfl size38 (by simp [putA, encOp]) ?_; intro W2 x2 n2 s2; refine stop_of ?_)
      unfold Stop
      have X2 := Lib.hid (show Ext wr W2 from X1.out.thenB x2 (by intro y hy; rw [show y = vb by simpa using hy, HVB.out]; exact Nat.le_refl _)); have N2 := Lib.hid n2
      have kp0 := blk_cell n2 0
      have kp1 := blk_cell n2 1
      have kp2 := blk_cell n2 2
      simp [encOp] at kp0 kp1 kp2
      clear x2 n2 s2 N1 X1
      have X3 := Lib.hid (HX0.out.trans X2.out)
      have k0r := X3.out.cell k0
      by_cases hl : 120 < yn.length
      · have hl' : (120 : Int) < (yn.length : Int) := by omega
        clear hl
        go_wp2
        go_ret
        exact ⟨⟨false, rfl, fun h => by cases h⟩, X0.out.trans X3.out⟩
      · have hl' : decide ((120 : Int) < (yn.length : Int)) = false := decide_eq_false (by omega)
        have R2 := Lib.hid (show ∀ o ∈ xs.take (j + 1), o.nm.length ≤ 120 from by
          rw [HTK.out]; intro o ho
          rcases List.mem_append.1 ho with h | h
          · exact R.out o h
          · rw [List.mem_singleton.1 h]; simp only; omega)
        clear hl
        by_cases g1 : 0 < yw
        · by_cases g2 : yw ≤ 20
          · by_cases g3 : 0 < p
            · by_cases g4 : p ≤ 200
              · have hmu : 0 ≤ yw * p ∧ yw * p ≤ 4000 := by
                  have h1 : 0 ≤ yw * p := Int.mul_nonneg (by omega) (by omega)
                  have h2 : yw * p ≤ 20 * 200 := Int.mul_le_mul g2 g4 (by omega) (by omega)
                  omega
                obtain ⟨mu, hmu2⟩ : ∃ mu, mu = yw * p := ⟨_, rfl⟩
                rw [← hmu2] at hmu
                have e9 : IntKind.i64.wrap (yw * p) = mu := by rw [← hmu2]; exact IntWalk.i64_in _ (by omega)
                clear hmu2
                go_wp2
                go_roundw
                case rel => exact ⟨j + 1, _, by omega, by go_num, rfl, R2, X3⟩
                case measure => simp [RowKit.intOf]; omega
              · have g4' : decide (p ≤ 200) = false := decide_eq_false g4
                clear g4
                go_wp2
                go_roundw
                case rel => exact ⟨j + 1, _, by omega, by go_num, rfl, R2, X3⟩
                case measure => simp [RowKit.intOf]; omega
            · have g3' : decide (0 < p) = false := decide_eq_false g3
              clear g3
              go_wp2
              go_roundw
              case rel => exact ⟨j + 1, _, by omega, by go_num, rfl, R2, X3⟩
              case measure => simp [RowKit.intOf]; omega
          · have g2' : decide (yw ≤ 20) = false := decide_eq_false g2
            clear g2
            go_wp2
            go_roundw
            case rel => exact ⟨j + 1, _, by omega, by go_num, rfl, R2, X3⟩
            case measure => simp [RowKit.intOf]; omega
        · have g1' : decide (0 < yw) = false := decide_eq_false g1
          clear g1
          go_wp2
          go_roundw
          case rel => exact ⟨j + 1, _, by omega, by go_num, rfl, R2, X3⟩
          case measure => simp [RowKit.intOf]; omega
    · have hjn : xs.take j = xs := List.take_of_length_le (by have := HM.out; omega)
      rw [hjn] at R
      have k1r := HX0.out.cell k1
      by_cases h30 : n ≤ 30
      · have h30' : (n : Int) ≤ 30 := by omega
        have HRR := Lib.hid (show xs.length ≤ 30 ∧ ∀ o ∈ xs, o.nm.length ≤ 120 from ⟨by rw [← HM.out]; exact h30, R.out⟩)
        clear h30
        by_cases hs : s' ≤ 300
        · go_wp2
          go_ret
          exact ⟨⟨_, rfl, fun _ => HRR.out⟩, X0.out.trans HX0.out⟩
        · go_wp2
          go_ret
          exact ⟨⟨_, rfl, fun _ => HRR.out⟩, X0.out.trans HX0.out⟩
      · have h30' : decide ((n : Int) ≤ 30) = false := decide_eq_false (by omega)
        clear h30
        go_wp2
        go_ret
        exact ⟨⟨_, rfl, fun h => by cases h⟩, X0.out.trans HX0.out⟩
end
end Go.Proofs.YtjphpblangeblaaDoor
