/- The document's Owners, walked (printed by gen_refc.py). -/
import Derived.Test.YtjphpblangeblaaDoorRefB
namespace Go.Proofs.YtjphpblangeblaaDoor
open Go.RowKit Go.Maps Go.ChangeMaps
set_option linter.unusedVariables false
set_option linter.unusedSimpArgs false
def encB (t : Bool) : List Value := [.bool t]
def encU (z : Int) : List Value := [.int .u64 z]
abbrev TRow (w : World) (B : Nat) (v : Value) (P : List Bool) : Prop := KRow encB 1 4 w B v P
abbrev URow (w : World) (B : Nat) (v : Value) (P : List Int) : Prop := KRow encU 1 57 w B v P
theorem info4 : (Tryd.prog.info? 4).map (fun i => (i.zero, i.size, i.bytes)) = some (some (.bool false), 1, 1) := by kernel_rfl
theorem info57 : (Tryd.prog.info? 57).map (fun i => (i.zero, i.size, i.bytes)) = some (some (.int .u64 0), 1, 8) := by kernel_rfl
def boolA (l : List Bool) : Array Value := (l.map Value.bool).toArray
theorem made_bools (n : Nat) : madeCells #[.bool false] n = boolA (List.replicate n false) := by
  unfold madeCells boolA
  apply Array.ext
  · simp
  · intro i h1 h2
    simp
    rw [Nat.mod_one]; rfl
noncomputable def Z46 : Array Value := match Tryd.prog.info? 46 with
  | some i => (i.zero.getD undef).cells
  | none => #[]
def sizeV : Value → Nat
  | .slice _ n _ => n
  | _ => 0
/-- What the document's best is. -/
def bz : Option Nat → Int
  | none => -1
  | some b => b
theorem best_taken {xs : List Wn} {tk : List Bool} {j : Nat} (h1 : tk[j]? = some true) : bestOf ltN xs tk (j + 1) = bestOf ltN xs tk j := by
  rw [bestOf, h1]
  cases bestOf ltN xs tk j with
  | none => cases xs[j]? <;> rfl
  | some b => cases xs[j]? <;> rfl
theorem best_none {xs : List Wn} {tk : List Bool} {j : Nat} {x : Wn} (h1 : tk[j]? = some false) (h2 : xs[j]? = some x) (h3 : bestOf ltN xs tk j = none) : bestOf ltN xs tk (j + 1) = some j := by
  rw [bestOf, h1, h2, h3]
theorem best_some {xs : List Wn} {tk : List Bool} {j b : Nat} {x y : Wn} (h1 : tk[j]? = some false) (h2 : xs[j]? = some x) (h3 : bestOf ltN xs tk j = some b) (h4 : xs[b]? = some y) : bestOf ltN xs tk (j + 1) = if betterB ltN x y = true then some j else some b := by
  rw [bestOf, h1, h2, h3]
  simp only [h4]
theorem best_lt {xs : List Wn} {tk : List Bool} : ∀ {j b : Nat}, bestOf ltN xs tk j = some b → b < j
  | 0, b, h => by simp [bestOf] at h
  | j + 1, b, h => by
    unfold bestOf at h
    revert h
    cases hb : bestOf ltN xs tk j with
    | none =>
      cases xs[j]? with
      | none => intro h; cases h
      | some x =>
        cases tk[j]? with
        | none => intro h; cases h
        | some t =>
          cases t with
          | true => intro h; cases h
          | false => intro h; cases h; omega
    | some b' =>
      have ih := best_lt hb
      cases xs[j]? with
      | none => intro h; cases h; omega
      | some x =>
        cases tk[j]? with
        | none => intro h; cases h; omega
        | some t =>
          cases t with
          | true => intro h; cases h; omega
          | false =>
            simp only
            cases xs[b']? with
            | none => intro h; cases h; omega
            | some y =>
              simp only
              split
              · intro h; cases h; omega
              · intro h; cases h; omega
/-- The document's owners are being told. -/
structure RoS (w wr : World) (xs : List Wn) (k : Nat) (v vw : Value) (tg : Nat) : Prop where
  row : SRow wr w.heap.size v (selOf ltN xs k).2
  tk : TRow wr w.heap.size (.slice (some ⟨tg, 0, none⟩) xs.length xs.length) (selOf ltN xs k).1
  ws : URow wr w.heap.size vw (xs.map Prod.fst)
  x : Ext w wr
theorem RoS.ext {w wr w' : World} {xs : List Wn} {k : Nat} {v vw : Value} {tg : Nat} (h : RoS w wr xs k v vw tg) (hx : Ext wr w') : RoS w w' xs k v vw tg := ⟨ownsRow_below h.row hx, h.tk.ext hx, h.ws.ext hx, h.x.trans hx⟩
theorem KRow.cell1 {α : Type} {enc : α → List Value} {e : TypeId} {w : World} {B n c g : Nat} {xs : List α} (h : KRow enc 1 e w B (.slice (some ⟨g, 0, none⟩) n c) xs) (henc : ∀ x, (enc x).length = 1) {j : Nat} (hj : j < xs.length) {u : Value} (hu : enc xs[j] = [u]) : w.cell? ⟨g, j, none⟩ = some u := by
  obtain ⟨g', hg, _, _, hc⟩ := h.at_ henc hj
  cases hg
  have := hc 0 (by omega)
  rw [Nat.mul_one, Nat.add_zero, hu] at this
  simpa using this
theorem flat1 {α : Type} {enc : α → List Value} {f : α → Value} (hf : ∀ x, enc x = [f x]) (xs : List α) : xs.flatMap enc = xs.map f := by
  induction xs with
  | nil => rfl
  | cons x xs ih => rw [List.flatMap_cons, hf, ih]; rfl
section
variable {w : World} {B x each : Nat} {own : Nat → Prop} {L : NL} {sv : Value} {ob : Bs}
set_option maxRecDepth 100000 in
set_option maxHeartbeats 8000000 in
theorem rowners_any (hI : RRI w B x own each L) (ho : ob.length ≤ 1000000) (k : Int) : Calls Tryd.prog 14 #[.pointer (some ⟨x, 0, none⟩), .string ⟨ob.toArray⟩, .int .i64 k] w fun e w' => ∃ v, e = .returned v ∧ SRow w' w.heap.size v ((ordL pd each (hashL ob) L).take (min k L.length).toNat) ∧ Ext w w' := by
  obtain ⟨sv, h⟩ := hI
  obtain ⟨A, c, rfl⟩ := h.row.slice
  have k1 := blk_cell h.blk 1
  simp at k1
  have HWAY := Lib.hid (fun W (X : Ext w W) (yn : Nm) (yk : Nat) (h1 : yn.length ≤ 1000) (h2 : yk ≤ 20) => rway_any (h.ext X) ho h1 h2)
  obtain ⟨H, hH⟩ : ∃ H, H = hashL ob := ⟨_, rfl⟩
  rw [← hH] at HWAY ⊢
  have HNM := Lib.hid (show ∀ y ∈ L, y.1.length ≤ 1000 ∧ y.2 ≤ 20 from fun y hy => ⟨by have := h.ok.right y hy; unfold rightN at this; simp at this; omega, (h.ok.wts y hy).2⟩)
  have HOK := Lib.hid h.ok
  have HROW := Lib.hid h.row
  have HLL := Lib.hid h.ok.len
  obtain ⟨m, hm⟩ : ∃ m, m = L.length := ⟨_, rfl⟩
  have hml : m ≤ 64 := by rw [hm]; exact h.ok.len
  rw [← hm] at k1 HROW ⊢
  have HM := Lib.hid hm
  obtain ⟨xs, hxs⟩ : ∃ xs, xs = waysL pd each H L := ⟨_, rfl⟩
  have HXL := Lib.hid (show xs.length = m from by rw [hxs, waysL_len, ← hm])
  have HXA := Lib.hid (show ∀ (j : Nat) (y : Nm × Nat), L[j]? = some y → xs[j]? = some (wayA pd H y.1 (each * y.2), y.1) from fun j y hy => by rw [hxs]; unfold waysL; rw [List.getElem?_map, hy]; rfl)
  have HFIN := Lib.hid (show ∀ k, k ≤ L.length → (selOf ltN xs k).2 = (ordL pd each H L).take k from fun k hk => by rw [hxs]; exact sel_ord each H h.ok.nd hk)
  have HSPEC := Lib.hid (show ∀ k, k ≤ xs.length → SelR ltN xs k (selOf ltN xs k).1 (selOf ltN xs k).2 from fun k hk => by rw [hxs] at hk ⊢; exact sel_spec each H h.ok.nd (by rw [waysL_len] at hk; exact hk))
  clear h hH hm hxs ho
  go_enter Tryd.func14, Tryd.ntmps14
  go_wp2_with fail
  go_loopw [19, 8, 10] (fun i v _ wr => ∃ j : Nat, j ≤ m ∧ i = .int .i64 j ∧ Hid (URow wr w.heap.size v ((xs.take j).map Prod.fst)) ∧ Hid (Ext w wr)) (fun i _ _ _ => m - (RowKit.intOf i).toNat)
  case atStart => exact ⟨0, by omega, rfl, Lib.hid KRow.nil, Lib.hid (Ext.refl _)⟩
  case round =>
    obtain ⟨j, hj, rfl, HR, HX⟩ := hrel
    by_cases hlt : j < m
    · skip
      have hjs : j < L.length := by rw [← HM.out]; exact hlt
      obtain ⟨g, rfl⟩ := HROW.out.some_ hjs
      have hrg := (HROW.out.ext HX.out).range encNm_len hjs
      have htk : L.take (j + 1) = L.take j ++ [L[j]] := List.take_succ_eq_append_getElem hjs
      have hpj : L[j]? = some L[j] := by simp [hjs]
      obtain ⟨p, hp⟩ : ∃ p, p = L[j] := ⟨_, rfl⟩
      rw [← hp] at hrg htk hpj
      obtain ⟨yn, yk⟩ := p
      have HRG := Lib.hid hrg; have HTK := Lib.hid htk; have HPJ := Lib.hid hpj
      clear hrg htk hpj hp hjs
      go_wp2_with (first | (refine wpList_load_mid rfl 69 _ rfl g (j * 2) rfl (encNm (yn, yk)) _ HRG.out Tryd.underlying69 rfl size69 ?_) | (refine wpList_new 69 #[.string ⟨#[]⟩, .int .i64 0] zero69 rfl rfl ?_; intro W1 x1 n1 s1; refine stop_of ?_))
      unfold Stop
      obtain ⟨vb, hvb⟩ : ∃ vb, vb = wr.heap.size := ⟨_, rfl⟩
      rw [← hvb] at n1 ⊢
      have HVB := Lib.hid hvb
      have X1 := Lib.hid x1; have N1 := Lib.hid n1
      clear x1 n1 s1 hvb
      go_wp2_with (refine wpList_put 69 rfl _ _ rfl vb 0 69 _ (encNm (yn, yk)).toArray (encNm (yn, yk)) (.agg (encNm (yn, yk)).toArray) N1.out rfl rfl rfl (by simp [encNm]) rfl size69 (by simp [putA, encNm]) ?_; intro W2 x2 n2 s2; refine stop_of ?_)
      unfold Stop
      have X2 := Lib.hid (show Ext wr W2 from X1.out.thenB x2 (by intro y hy; rw [show y = vb by simpa using hy, HVB.out]; exact Nat.le_refl _)); have N2 := Lib.hid n2
      have kp0 := blk_cell n2 0
      have kp1 := blk_cell n2 1
      simp [encNm] at kp0 kp1
      clear x2 n2 s2 N1 X1
      have X3 := Lib.hid (HX.out.trans X2.out)
      obtain ⟨hy1, hy2⟩ := HNM.out _ (List.mem_of_getElem? HPJ.out)
      have HW := Lib.hid (HWAY.out W2 X3.out yn yk hy1 hy2)
      have hxa := HXA.out j _ HPJ.out
      simp only at hxa
      obtain ⟨wy, hwy⟩ : ∃ wy, wy = wayA pd H yn (each * yk) := ⟨_, rfl⟩
      rw [← hwy] at HW hxa
      have HXJ := Lib.hid (show xs.take (j + 1) = xs.take j ++ [(wy, yn)] from by rw [List.take_add_one, hxa]; rfl)
      obtain ⟨A5, c5, hsv5⟩ := HR.out.slice
      subst hsv5
      obtain ⟨l5, hl5⟩ : ∃ l, l = ((xs.take j).map Prod.fst).length := ⟨_, rfl⟩
      have hl5' : l5 ≤ 64 := by rw [hl5]; simp; omega
      rw [← hl5] at HR ⊢
      have HL5 := Lib.hid hl5
      clear hy1 hy2 hxa hwy hl5
      go_wp2_with (first | (refine wpList_get 69 _ rfl _ rfl vb 0 69 _ [.string ⟨yn.toArray⟩, .int .i64 yk] N2.out rfl (by simp [encNm]) Tryd.underlying69 rfl size69 ?_) | (go_at_call 30; refine HW.out.mono ?_; rintro e w3 ⟨rfl, x3⟩; refine stop_of ?_))
      unfold Stop
      have RA := Lib.hid (((HR.out.ext X2.out).ext x3).ext (ext_alloc1 w3 (.cells #[.int .u64 wy] 57)))
      have XA := Lib.hid ((X3.out.trans x3).trans (ext_alloc1 w3 (.cells #[.int .u64 wy] 57)))
      clear x3 HW
      go_wp2_with (refine wpList_appendK (enc := encU) (k := 1) (e := 57) 67 _ 8 Tryd.underlying67 info57 rfl (by decide) (by decide) rfl _ _ rfl wy rfl (by intro u hu; rw [show u = .int .u64 wy by simpa [encU] using hu]; rfl) RA.out rfl #[.int .u64 wy] w3.heap.size rfl (heap_alloc_new w3 _) rfl (by rw [← HL5.out]; omega) XA.out.size ?_; intro v4 w4 r4 g4 f4; refine stop_of ?_)
      unfold Stop
      have X4 := Lib.hid (show Ext w w4 from RowKit.Below.trans XA.out (KRow.below RA.out g4 XA.out.size))
      have R4 := Lib.hid r4
      clear r4 g4 f4
      go_wp2_with fail
      go_roundw
      case rel => exact ⟨j + 1, by omega, by go_num, by rw [HXJ.out, List.map_append]; exact R4, X4⟩
      case measure => simp [RowKit.intOf]; omega
    · have hjn : xs.take j = xs := List.take_of_length_le (by have := HXL.out; omega)
      rw [hjn] at HR
      have hjm : j = m := by omega
      subst hjm
      obtain ⟨Aw, cw, hvw⟩ := HR.out.slice
      have hwl : (xs.map Prod.fst).length = j := by rw [List.length_map]; exact HXL.out
      rw [hwl] at hvw
      subst hvw
      have k1r := HX.out.cell k1
      obtain ⟨i4, hi4, hz0, hz1, hz2⟩ := info_parts info4
      have hmk : (Instr.makeSlice 71 (.int .i64 j) (.int .i64 j)).run Tryd.prog wr = .ok (.slice (some ⟨wr.heap.size, 0, none⟩) j j) (wr.alloc (.cells (boolA (List.replicate j false)) 4)) := by
        have := run_make (P := Tryd.prog) wr 71 4 i4 (.bool false) Tryd.underlying71 hi4 hz0 .i64 .i64 j j (by omega) (Int.le_refl _) (by rw [hz2]; omega) (by omega)
        rw [this, hz1]
        simp [Value.cells, made_bools]
      obtain ⟨W2, hW2⟩ : ∃ W2, W2 = wr.alloc (.cells (boolA (List.replicate j false)) 4) := ⟨_, rfl⟩
      obtain ⟨tg, htg⟩ : ∃ tg, tg = wr.heap.size := ⟨_, rfl⟩
      have x2 : Ext wr W2 := by rw [hW2]; exact ext_alloc1 _ _
      have HTG := Lib.hid htg; have HW2 := Lib.hid hW2
      have HS0 : Hid (RoS w W2 xs 0 (.slice none 0 0) (.slice Aw j cw) tg) := Lib.hid (by
        refine ⟨World.ownsRow_nil _ _ _ _, ?_, HR.out.ext x2, HX.out.trans x2⟩
        have hb : W2.heap[tg]? = some (.cells (boolA (List.replicate j false)) 4 (0, 0)) := by rw [hW2, htg]; exact heap_alloc_new wr _
        refine KRow.mk hb (by rw [htg]; exact HX.out.size) (by simp [selOf]) (Nat.le_refl _) (by rw [HXL.out]; unfold maxLen; omega) (by simp [boolA, HXL.out]) ?_ (fun _ => rfl)
        rw [flat1 (enc := encB) (f := Value.bool) (fun _ => rfl)]
        simp [boolA, selOf, HXL.out])
      clear hi4 hz0 hz1 hz2 hjn hwl hW2 htg x2
      go_wp2_with fail
      rw [← HW2.out, ← HTG.out]
      clear hmk k1r
      go_loopw [7, 12, 13] (fun v _ _ wo => ∃ q : Nat, q ≤ j ∧ (q : Int) ≤ max k 0 ∧ Hid (RoS w wo xs q v (.slice Aw j cw) tg)) (fun v _ _ _ => j - (sizeV v))
      case atStart => exact ⟨0, by omega, by omega, HS0⟩
      case round =>
        clear HS0
        obtain ⟨q, hq, hqk, hS⟩ := hrel
        obtain ⟨wo, rfl⟩ : ∃ wo : World, wo = wr := ⟨_, rfl⟩
        have hql : q ≤ xs.length := by rw [HXL.out]; exact hq
        have hsp := HSPEC.out q hql
        obtain ⟨Ao, co, hv⟩ := own_slice hS.out.row
        rw [hsp.len] at hv
        subst hv
        have k1o := hS.out.x.cell k1
        have K1O0 := Lib.hid k1o
        by_cases hc : (q : Int) < k ∧ q < j
        · obtain ⟨hc1, hc2⟩ := hc
          obtain ⟨lg, rfl⟩ := HROW.out.some_ (show 0 < L.length by rw [← HM.out]; omega)
          obtain ⟨wg, rfl⟩ := hS.out.ws.some_ (show 0 < (xs.map Prod.fst).length by rw [List.length_map, HXL.out]; omega)
          obtain ⟨tk, htk⟩ : ∃ tk, tk = (selOf ltN xs q).1 := ⟨_, rfl⟩
          obtain ⟨out, hout⟩ : ∃ o, o = (selOf ltN xs q).2 := ⟨_, rfl⟩
          have htl : tk.length = j := by rw [htk, hsp.tl]; exact HXL.out
          have HTK := Lib.hid htk; have HOUT := Lib.hid hout; have HTL := Lib.hid htl; have HSP := Lib.hid hsp
          have K1O : Hid (wo.cell? ⟨x, 1, none⟩ = some (.slice (some ⟨lg, 0, none⟩) j c)) := Lib.hid k1o
          have CT := Lib.hid (show ∀ (i : Nat) (v : Bool), tk[i]? = some v → wo.cell? ⟨tg, i, none⟩ = some (.bool v) from fun i v h => by
            obtain ⟨h1, h2⟩ := List.getElem?_eq_some_iff.1 h
            have ht := hS.out.tk
            rw [← htk] at ht
            exact ht.cell1 (fun _ => rfl) h1 (by rw [h2]; rfl))
          have CW := Lib.hid (show ∀ (i : Nat) (y : Wn), xs[i]? = some y → wo.cell? ⟨wg, i, none⟩ = some (.int .u64 y.1) from fun i y h => by
            have h3 : (xs.map Prod.fst)[i]? = some y.1 := by rw [List.getElem?_map, h]; rfl
            obtain ⟨h1, h2⟩ := List.getElem?_eq_some_iff.1 h3
            exact hS.out.ws.cell1 (fun _ => rfl) h1 (by rw [h2]; rfl))
          have CN := Lib.hid (show ∀ (i : Nat) (y : Nm × Nat), L[i]? = some y → wo.cell? ⟨lg, i * 2, none⟩ = some (.string ⟨y.1.toArray⟩) from fun i y h => by
            obtain ⟨h1, h2⟩ := List.getElem?_eq_some_iff.1 h
            obtain ⟨g', hg, _, _, hcc⟩ := (HROW.out.ext hS.out.x).at_ encNm_len h1
            cases hg
            have := hcc 0 (by omega)
            rw [h2] at this
            simpa [encNm] using this)
          clear htk hout htl hsp hql
          go_wp2_with fail
          go_loopw [56, 12, 13] (fun i bst _ wi => ∃ (t : Nat) (bq : Int), t ≤ j ∧ i = .int .i64 t ∧ bst = .int .i64 bq ∧ Hid (bq = bz (bestOf ltN xs tk t)) ∧ Hid (Ext wo wi)) (fun i _ _ _ => j - (RowKit.intOf i).toNat)
          case atStart => exact ⟨0, -1, by omega, rfl, rfl, Lib.hid rfl, Lib.hid (Ext.refl _)⟩
          case round =>
            obtain ⟨t, bq, ht, rfl, rfl, hbst, HXI⟩ := hrel
            obtain ⟨wi, rfl⟩ : ∃ wi : World, wi = wr := ⟨_, rfl⟩
            by_cases hlt2 : t < j
            · obtain ⟨⟨nt, kt⟩, hL⟩ : ∃ y, L[t]? = some y := ⟨L[t]'(by rw [← HM.out]; exact hlt2), by simp [show t < L.length by rw [← HM.out]; exact hlt2]⟩
              have hX := HXA.out t _ hL
              simp only at hX
              obtain ⟨wt, hwt⟩ : ∃ z, z = wayA pd H nt (each * kt) := ⟨_, rfl⟩
              rw [← hwt] at hX
              obtain ⟨tt, hT⟩ : ∃ y, tk[t]? = some y := ⟨tk[t]'(by rw [HTL.out]; exact hlt2), by simp [show t < tk.length by rw [HTL.out]; exact hlt2]⟩
              have KT := Lib.hid (CT.out t _ hT); have KW := Lib.hid (CW.out t _ hX); have KN := Lib.hid (CN.out t _ hL)
              have HT2 := Lib.hid hT; have HX2 := Lib.hid hX
              clear hL hX hwt hT
              cases hb : bestOf ltN xs tk t with
              | none =>
                have hb2 : bq = -1 := by rw [hbst.out, hb]; rfl
                subst hb2
                have HBB := Lib.hid hb
                clear hbst hb
                cases tt with
                | true =>
                  go_wp2_with fail
                  refine wp_region_segs [] [.inl [0, 1, 2, 3, 4, 5, 6, 7, 8, 9, 10, 11, 12, 13, 14, 15, 16, 17, 18, 19, 20, 21, 22, 23, 24, 25, 26, 27, 28, 29, 30, 31, 32, 33, 34, 35, 36, 37, 38, 39, 40, 41, 42, 43, 44, 45, 46, 47, 48, 49]] (by kernel_rfl) (by kernel_rfl) (fun c a d v w h => by cases d <;> exact h) ?_
                  have G0 : ∀ y : Grow [] wi.drew, y.v.cell? ⟨tg, t, none⟩ = some (.bool true) := fun y => y.ext.ext.cell (HXI.out.cell KT.out)
                  (rw [wpSegs_inl]; simp only [pickOps, List.map_cons, List.map_nil, List.getD_cons_succ, List.getD_cons_zero]; (repeat (go_big_quiet_step (fail))); refine wpQuiet_nil ?_)
                  clear G0
                  rw [wpSegs_nil]
                  go_wp2
                  go_roundw
                  case rel => exact ⟨t + 1, _, by omega, by go_num, rfl, Lib.hid (by rw [best_taken HT2.out, HBB.out]; rfl), Lib.hid (HXI.out.trans (Ext.refl wi).drew)⟩
                  case measure => simp [RowKit.intOf]; omega
                | false =>
                  go_wp2_with fail
                  refine wp_region_segs [] [.inl [0, 1, 2, 3, 4, 5, 6, 7, 8, 9, 10, 11, 12, 13, 14, 15, 16, 17, 18, 19, 20, 21, 22, 23, 24, 25, 26, 27, 28, 29, 30, 31, 32, 33, 34, 35, 36, 37, 38, 39, 40, 41, 42, 43, 44, 45, 46, 47, 48, 49]] (by kernel_rfl) (by kernel_rfl) (fun c a d v w h => by cases d <;> exact h) ?_
                  have G0 : ∀ y : Grow [] wi.drew, y.v.cell? ⟨tg, t, none⟩ = some (.bool false) := fun y => y.ext.ext.cell (HXI.out.cell KT.out)
                  (rw [wpSegs_inl]; simp only [pickOps, List.map_cons, List.map_nil, List.getD_cons_succ, List.getD_cons_zero]; (repeat (go_big_quiet_step (fail))); refine wpQuiet_nil ?_)
                  clear G0
                  rw [wpSegs_nil]
                  go_wp2
                  go_roundw
                  case rel => exact ⟨t + 1, _, by omega, by go_num, rfl, Lib.hid (by rw [best_none HT2.out HX2.out HBB.out]; rfl), Lib.hid (HXI.out.trans (Ext.refl wi).drew)⟩
                  case measure => simp [RowKit.intOf]; omega
              | some b =>
                have hb2 : bq = (b : Int) := by rw [hbst.out, hb]; rfl
                subst hb2
                have hbl := best_lt hb
                have hbj : b < j := by omega
                have hbm1 : ((b : Int) == -1) = false := by simp
                have HBB := Lib.hid hb
                obtain ⟨⟨nb, kb⟩, hL⟩ : ∃ y, L[b]? = some y := ⟨L[b]'(by rw [← HM.out]; exact hbj), by simp [show b < L.length by rw [← HM.out]; exact hbj]⟩
                have hX := HXA.out b _ hL
                simp only at hX
                obtain ⟨wb, hwb⟩ : ∃ z, z = wayA pd H nb (each * kb) := ⟨_, rfl⟩
                rw [← hwb] at hX
                have KWB := Lib.hid (CW.out b _ hX); have KNB := Lib.hid (CN.out b _ hL)
                have HXB := Lib.hid hX
                clear hbst hb hL hX hwb
                cases tt with
                | true =>
                  go_wp2_with fail
                  refine wp_region_segs [] [.inl [0, 1, 2, 3, 4, 5, 6, 7, 8, 9, 10, 11, 12, 13, 14, 15, 16, 17, 18, 19, 20, 21, 22, 23, 24, 25, 26, 27, 28, 29, 30, 31, 32, 33, 34, 35, 36, 37, 38, 39, 40, 41, 42, 43, 44, 45, 46, 47, 48, 49]] (by kernel_rfl) (by kernel_rfl) (fun c a d v w h => by cases d <;> exact h) ?_
                  have G0 : ∀ y : Grow [] wi.drew, y.v.cell? ⟨tg, t, none⟩ = some (.bool true) := fun y => y.ext.ext.cell (HXI.out.cell KT.out)
                  (rw [wpSegs_inl]; simp only [pickOps, List.map_cons, List.map_nil, List.getD_cons_succ, List.getD_cons_zero]; (repeat (go_big_quiet_step (fail))); refine wpQuiet_nil ?_)
                  clear G0
                  rw [wpSegs_nil]
                  go_wp2
                  go_roundw
                  case rel => exact ⟨t + 1, _, by omega, by go_num, rfl, Lib.hid (by rw [best_taken HT2.out, HBB.out]; rfl), Lib.hid (HXI.out.trans (Ext.refl wi).drew)⟩
                  case measure => simp [RowKit.intOf]; omega
                | false =>
                  have HST := Lib.hid (best_some HT2.out HX2.out HBB.out HXB.out)
                  by_cases h1 : wt < wb
                  · have HBT := Lib.hid (show betterB ltN (wt, nt) (wb, nb) = true from by rw [betterB_iff]; exact .inl h1)
                    have c1 : decide (wt < wb) = true := decide_eq_true h1
                    clear h1
                    go_wp2_with fail
                    refine wp_region_segs [] [.inl [0, 1, 2, 3, 4, 5, 6, 7, 8, 9, 10, 11, 12, 13, 14, 15, 16, 17, 18, 19, 20, 21, 22, 23, 24, 25, 26, 27, 28, 29, 30, 31, 32, 33, 34, 35, 36, 37, 38, 39, 40, 41, 42, 43, 44, 45, 46, 47, 48, 49]] (by kernel_rfl) (by kernel_rfl) (fun c a d v w h => by cases d <;> exact h) ?_
                    have G0 : ∀ y : Grow [] wi.drew, y.v.cell? ⟨tg, t, none⟩ = some (.bool false) := fun y => y.ext.ext.cell (HXI.out.cell KT.out)
                    have G1 : ∀ y : Grow [] wi.drew, y.v.cell? ⟨wg, t, none⟩ = some (.int .u64 wt) := fun y => y.ext.ext.cell (HXI.out.cell KW.out)
                    have G2 : ∀ y : Grow [] wi.drew, y.v.cell? ⟨wg, b, none⟩ = some (.int .u64 wb) := fun y => y.ext.ext.cell (HXI.out.cell KWB.out)
                    (rw [wpSegs_inl]; simp only [pickOps, List.map_cons, List.map_nil, List.getD_cons_succ, List.getD_cons_zero]; (repeat (go_big_quiet_step (fail))); refine wpQuiet_nil ?_)
                    clear G0 G1 G2
                    rw [wpSegs_nil]
                    go_wp2
                    go_roundw
                    case rel => exact ⟨t + 1, _, by omega, by go_num, rfl, Lib.hid (by rw [HST.out, if_pos HBT.out]; rfl), Lib.hid (HXI.out.trans (Ext.refl wi).drew)⟩
                    case measure => simp [RowKit.intOf]; omega
                  · have c1 : decide (wt < wb) = false := decide_eq_false h1
                    by_cases h2 : wt = wb
                    · have c2 : (wt == wb) = true := by simpa using h2
                      have hbl2 : Op.bytesLess nt nb = decide (nt < nb) := bytesLess_eq nt nb
                      by_cases h3 : nt < nb
                      · have HBT := Lib.hid (show betterB ltN (wt, nt) (wb, nb) = true from by rw [betterB_iff]; exact .inr ⟨h2, h3⟩)
                        rw [decide_eq_true h3] at hbl2
                        clear h1 h2 h3
                        go_wp2_with fail
                        refine wp_region_segs [] [.inl [0, 1, 2, 3, 4, 5, 6, 7, 8, 9, 10, 11, 12, 13, 14, 15, 16, 17, 18, 19, 20, 21, 22, 23, 24, 25, 26, 27, 28, 29, 30, 31, 32, 33, 34, 35, 36, 37, 38, 39, 40, 41, 42, 43, 44, 45, 46, 47, 48, 49]] (by kernel_rfl) (by kernel_rfl) (fun c a d v w h => by cases d <;> exact h) ?_
                        have G0 : ∀ y : Grow [] wi.drew, y.v.cell? ⟨tg, t, none⟩ = some (.bool false) := fun y => y.ext.ext.cell (HXI.out.cell KT.out)
                        have G1 : ∀ y : Grow [] wi.drew, y.v.cell? ⟨wg, t, none⟩ = some (.int .u64 wt) := fun y => y.ext.ext.cell (HXI.out.cell KW.out)
                        have G2 : ∀ y : Grow [] wi.drew, y.v.cell? ⟨wg, b, none⟩ = some (.int .u64 wb) := fun y => y.ext.ext.cell (HXI.out.cell KWB.out)
                        have G3 : ∀ y : Grow [] wi.drew, y.v.cell? ⟨x, 1, none⟩ = some (.slice (some ⟨lg, 0, none⟩) j c) := fun y => y.ext.ext.cell (HXI.out.cell K1O.out)
                        have G4 : ∀ y : Grow [] wi.drew, y.v.cell? ⟨lg, t * 2, none⟩ = some (.string ⟨nt.toArray⟩) := fun y => y.ext.ext.cell (HXI.out.cell KN.out)
                        have G5 : ∀ y : Grow [] wi.drew, y.v.cell? ⟨lg, b * 2, none⟩ = some (.string ⟨nb.toArray⟩) := fun y => y.ext.ext.cell (HXI.out.cell KNB.out)
                        (rw [wpSegs_inl]; simp only [pickOps, List.map_cons, List.map_nil, List.getD_cons_succ, List.getD_cons_zero]; (repeat (go_big_quiet_step (fail))); refine wpQuiet_nil ?_)
                        clear G0 G1 G2 G3 G4 G5
                        rw [wpSegs_nil]
                        go_wp2
                        go_roundw
                        case rel => exact ⟨t + 1, _, by omega, by go_num, rfl, Lib.hid (by rw [HST.out, if_pos HBT.out]; rfl), Lib.hid (HXI.out.trans (Ext.refl wi).drew)⟩
                        case measure => simp [RowKit.intOf]; omega
                      · have HBT := Lib.hid (show ¬ betterB ltN (wt, nt) (wb, nb) = true from by rw [betterB_iff]; rintro (h | ⟨_, h⟩); exact h1 h; exact h3 h)
                        rw [decide_eq_false h3] at hbl2
                        clear h1 h2 h3
                        go_wp2_with fail
                        refine wp_region_segs [] [.inl [0, 1, 2, 3, 4, 5, 6, 7, 8, 9, 10, 11, 12, 13, 14, 15, 16, 17, 18, 19, 20, 21, 22, 23, 24, 25, 26, 27, 28, 29, 30, 31, 32, 33, 34, 35, 36, 37, 38, 39, 40, 41, 42, 43, 44, 45, 46, 47, 48, 49]] (by kernel_rfl) (by kernel_rfl) (fun c a d v w h => by cases d <;> exact h) ?_
                        have G0 : ∀ y : Grow [] wi.drew, y.v.cell? ⟨tg, t, none⟩ = some (.bool false) := fun y => y.ext.ext.cell (HXI.out.cell KT.out)
                        have G1 : ∀ y : Grow [] wi.drew, y.v.cell? ⟨wg, t, none⟩ = some (.int .u64 wt) := fun y => y.ext.ext.cell (HXI.out.cell KW.out)
                        have G2 : ∀ y : Grow [] wi.drew, y.v.cell? ⟨wg, b, none⟩ = some (.int .u64 wb) := fun y => y.ext.ext.cell (HXI.out.cell KWB.out)
                        have G3 : ∀ y : Grow [] wi.drew, y.v.cell? ⟨x, 1, none⟩ = some (.slice (some ⟨lg, 0, none⟩) j c) := fun y => y.ext.ext.cell (HXI.out.cell K1O.out)
                        have G4 : ∀ y : Grow [] wi.drew, y.v.cell? ⟨lg, t * 2, none⟩ = some (.string ⟨nt.toArray⟩) := fun y => y.ext.ext.cell (HXI.out.cell KN.out)
                        have G5 : ∀ y : Grow [] wi.drew, y.v.cell? ⟨lg, b * 2, none⟩ = some (.string ⟨nb.toArray⟩) := fun y => y.ext.ext.cell (HXI.out.cell KNB.out)
                        (rw [wpSegs_inl]; simp only [pickOps, List.map_cons, List.map_nil, List.getD_cons_succ, List.getD_cons_zero]; (repeat (go_big_quiet_step (fail))); refine wpQuiet_nil ?_)
                        clear G0 G1 G2 G3 G4 G5
                        rw [wpSegs_nil]
                        go_wp2
                        go_roundw
                        case rel => exact ⟨t + 1, _, by omega, by go_num, rfl, Lib.hid (by rw [HST.out, if_neg HBT.out]; rfl), Lib.hid (HXI.out.trans (Ext.refl wi).drew)⟩
                        case measure => simp [RowKit.intOf]; omega
                    · have c2 : (wt == wb) = false := by simpa using h2
                      have HBT := Lib.hid (show ¬ betterB ltN (wt, nt) (wb, nb) = true from by rw [betterB_iff]; rintro (h | ⟨h, _⟩); exact h1 h; exact h2 h)
                      clear h1 h2
                      go_wp2_with fail
                      refine wp_region_segs [] [.inl [0, 1, 2, 3, 4, 5, 6, 7, 8, 9, 10, 11, 12, 13, 14, 15, 16, 17, 18, 19, 20, 21, 22, 23, 24, 25, 26, 27, 28, 29, 30, 31, 32, 33, 34, 35, 36, 37, 38, 39, 40, 41, 42, 43, 44, 45, 46, 47, 48, 49]] (by kernel_rfl) (by kernel_rfl) (fun c a d v w h => by cases d <;> exact h) ?_
                      have G0 : ∀ y : Grow [] wi.drew, y.v.cell? ⟨tg, t, none⟩ = some (.bool false) := fun y => y.ext.ext.cell (HXI.out.cell KT.out)
                      have G1 : ∀ y : Grow [] wi.drew, y.v.cell? ⟨wg, t, none⟩ = some (.int .u64 wt) := fun y => y.ext.ext.cell (HXI.out.cell KW.out)
                      have G2 : ∀ y : Grow [] wi.drew, y.v.cell? ⟨wg, b, none⟩ = some (.int .u64 wb) := fun y => y.ext.ext.cell (HXI.out.cell KWB.out)
                      (rw [wpSegs_inl]; simp only [pickOps, List.map_cons, List.map_nil, List.getD_cons_succ, List.getD_cons_zero]; (repeat (go_big_quiet_step (fail))); refine wpQuiet_nil ?_)
                      clear G0 G1 G2
                      rw [wpSegs_nil]
                      go_wp2
                      go_roundw
                      case rel => exact ⟨t + 1, _, by omega, by go_num, rfl, Lib.hid (by rw [HST.out, if_neg HBT.out]; rfl), Lib.hid (HXI.out.trans (Ext.refl wi).drew)⟩
                      case measure => simp [RowKit.intOf]; omega
            · have htj : t = j := by omega
              subst htj
              obtain ⟨b, hb⟩ : ∃ b, bestOf ltN xs tk t = some b := by
                cases hb : bestOf ltN xs tk t with
                | some b => exact ⟨b, rfl⟩
                | none =>
                  exfalso
                  have hbs := bestOf_spec ltN ltN_irr ltN_tr xs tk (by rw [HTL.out, HXL.out]) xs.length (Nat.le_refl _)
                  rw [HXL.out, hb] at hbs
                  have hall : (tk.filter (· == true)).length = tk.length := by
                    rw [List.filter_eq_self.2]
                    intro a ha
                    obtain ⟨i, hi, e⟩ := List.mem_iff_getElem.1 ha
                    have h1 := hbs i (by rw [← HTL.out]; exact hi)
                    rw [List.getElem?_eq_getElem hi, e] at h1
                    simpa using h1
                  have hcnt := HSP.out.cnt
                  rw [← HTK.out, hall, HTL.out] at hcnt
                  omega
              have hb2 : bq = (b : Int) := by rw [hbst.out, hb]; rfl
              subst hb2
              have hbj := best_lt hb
              obtain ⟨⟨nb, kb⟩, hL⟩ : ∃ y, L[b]? = some y := ⟨L[b]'(by rw [← HM.out]; exact hbj), by simp [show b < L.length by rw [← HM.out]; exact hbj]⟩
              have hX := HXA.out b _ hL
              simp only at hX
              have HSEL := Lib.hid (show selOf ltN xs (q + 1) = (tk.set b true, out ++ [nb]) from by
                show (match bestOf ltN xs (selOf ltN xs q).1 xs.length with | none => _ | some b => _) = _
                rw [← HTK.out, HXL.out, hb]
                simp only [hX]
                rw [← HOUT.out])
              obtain ⟨cur, c1, c2, c3, c4, c5, c6, c7⟩ := (hS.out.tk.ext HXI.out).blk
              have KNB := Lib.hid (CN.out b _ hL)
              have C1 := Lib.hid c1
              have hcs : b + 1 ≤ cur.size := by rw [c6, HXL.out]; omega
              have CS := Lib.hid hcs
              have HTR := Lib.hid (show ∀ W3 : World, W3.heap[tg]? = some (.cells (putA cur b [.bool true]) 4 (0, 0)) → TRow W3 w.heap.size (.slice (some ⟨tg, 0, none⟩) xs.length xs.length) (tk.set b true) from fun W3 e => by
                have c3' : xs.length = tk.length := by rw [HTL.out, HXL.out]
                rw [← HTK.out] at c7
                have hfs := flat_set (enc := encB) (k := 1) (fun _ => rfl) (by decide) c3' c4 c6 c7 (i := b) (by rw [HXL.out]; exact hbj) true
                rw [Nat.mul_one b] at hfs
                exact KRow.mk e c2 (by simpa using c3') c4 c5 (by rw [putA_size]; exact c6) hfs (fun _ => rfl))
              have knb := HXI.out.cell KNB.out
              have k1i := HXI.out.cell K1O.out
              have hnt : ∀ (v : Value) (g : Nat), v.ownBlock = some g → (∃ cur e, wi.heap[g]? = some (.cells cur e (0, 0)) ∧ e ≠ 4) → g ≠ tg := fun v g _ he hh => by
                obtain ⟨cur', e', h1, h2⟩ := he
                rw [hh, c1] at h1
                injection h1 with h1
                injection h1 with _ h1
                exact h2 h1.symm
              have HFO : Hid ((Value.slice Ao q co).ownBlock ≠ some tg) := Lib.hid (fun e => by
                rcases (ownsRow_below hS.out.row HXI.out).2 with ⟨hv, _⟩ | ⟨g', cap, cur', hv, _, hgg, _⟩
                · rw [hv] at e; cases e
                · rw [hv] at e; cases e; exact hnt (.slice (some ⟨g', 0, none⟩) 0 0) g' rfl ⟨cur', 9, hgg, by decide⟩ rfl)
              have HFW : Hid (wg ≠ tg) := Lib.hid (by
                obtain ⟨cur', h1, _⟩ := (hS.out.ws.ext HXI.out).blk
                exact hnt (.slice (some ⟨wg, 0, none⟩) 0 0) wg rfl ⟨cur', 57, h1, by decide⟩)
              have HFL : Hid (lg ≠ tg) := Lib.hid (by
                obtain ⟨cur', h1, _⟩ := (HROW.out.ext (hS.out.x.trans HXI.out)).blk
                exact hnt (.slice (some ⟨lg, 0, none⟩) 0 0) lg rfl ⟨cur', 69, h1, by decide⟩)
              have HFX : Hid (x ≠ tg) := Lib.hid (fun hh => by
                have h1 := (hS.out.x.trans HXI.out).cell k1
                rw [hh, blk_cell c1] at h1
                have hm2 : cur[1]? = some (Value.slice (some ⟨lg, 0, none⟩) t c) := h1
                have h3 := flat1 (enc := encB) (f := Value.bool) (fun _ => rfl) (selOf ltN xs q).1
                rw [h3] at c7
                have hl1 : 1 < cur.size := (Array.getElem?_eq_some_iff.1 hm2).1
                have h4 : (cur.toList.take (xs.length * 1))[1]? = some (Value.slice (some ⟨lg, 0, none⟩) t c) := by
                  rw [List.getElem?_take, if_pos (by rw [c6] at hl1; omega)]; simpa using hm2
                rw [c7, List.getElem?_map] at h4
                cases h5 : (selOf ltN xs q).1[1]? with
                | none => rw [h5] at h4; cases h4
                | some v => rw [h5] at h4; cases h4)
              have hout1 : out.length = q := by rw [HOUT.out]; exact HSP.out.len
              have HOL := Lib.hid hout1
              clear hb hL hX c1 c2 c3 c4 c5 c6 c7 hcs hbst hnt hout1
              go_wp2_with (refine wpList_put 4 rfl _ _ rfl tg b 4 _ (putA cur b [.bool true]) [.bool true] (.bool true) C1.out rfl rfl rfl (by simpa using CS.out) rfl size_bool rfl ?_; intro W3 x3 n3 s3; refine stop_of ?_)
              unfold Stop
              have TR3 := Lib.hid (HTR.out W3 n3)
              have k1w := x3.cell k1i (by simpa using HFX.out)
              have knw := x3.cell knb (by simpa using HFL.out)
              have R3 := Lib.hid (own_extB (ownsRow_below hS.out.row HXI.out) x3 (fun g hg e => HFO.out (by rw [e]; simpa using hg)))
              have U3 := Lib.hid ((hS.out.ws.ext HXI.out).extB x3 (fun g hg e => HFW.out (by cases e; simpa using hg)))
              have X3 := Lib.hid (show Ext w W3 from (hS.out.x.trans HXI.out).thenB x3 (by intro g hg; rw [show g = tg by simpa using hg]; obtain ⟨_, _, h2, _⟩ := hS.out.tk.blk; exact h2))
              clear x3 n3 s3 HTR knb k1i
              have RA := Lib.hid (ownsRow_below R3.out (ext_alloc1 W3 (.cells #[.string ⟨nb.toArray⟩] 9)))
              have XA := Lib.hid (X3.out.trans (ext_alloc1 W3 (.cells #[.string ⟨nb.toArray⟩] 9)))
              go_wp2_with (refine wpList_appendS rfl _ _ rfl nb (ss := out) (show SRow _ w.heap.size (.slice Ao q co) out from by have := RA.out; rw [← HOUT.out] at this; exact this) rfl W3.heap.size rfl (heap_alloc_new W3 _) (by have := HOL.out; omega) XA.out.size ?_; intro v5 W5 r5 g5; refine stop_of ?_)
              unfold Stop
              obtain ⟨A5, c5, hv5⟩ := own_slice r5
              have hl5 : (out ++ [nb]).length = q + 1 := by rw [List.length_append, HOL.out]; rfl
              rw [hl5] at hv5
              subst hv5
              have HS5 : Hid (RoS w W5 xs (q + 1) (.slice A5 (q + 1) c5) (.slice (some ⟨wg, 0, none⟩) t cw) tg) := Lib.hid (by
                have gB := grownBy_extB g5
                have hxx := ext_alloc1 W3 (.cells #[.string ⟨nb.toArray⟩] 9)
                refine ⟨by rw [HSEL.out]; exact r5, by rw [HSEL.out]; exact (TR3.out.ext hxx).extB gB (fun g hg e => HFO.out (by cases e; simpa using hg)), (U3.out.ext hxx).extB gB (fun g hg e => ?_), RowKit.Below.trans XA.out (own_below RA.out g5 XA.out.size)⟩
                have e2 : (Value.slice Ao q co).ownBlock = some g := by simpa using hg
                have e3 : g = wg := by cases e; rfl
                subst e3
                rcases R3.out.2 with ⟨hv, _⟩ | ⟨g', cap, cur', hv, _, hgg, _⟩
                · rw [hv] at e2; cases e2
                · rw [hv] at e2; cases e2
                  obtain ⟨cur2, h2, _⟩ := U3.out.blk
                  rw [hgg] at h2
                  injection h2 with h2
                  injection h2 with _ h2
                  exact absurd h2 (by decide))
              clear r5 g5 hl5 k1w knw
              go_wp2_with fail
              go_roundw
              case rel => exact ⟨q + 1, by omega, by omega, HS5⟩
              case measure => simp [sizeV]; omega
        · have hqe : q = (min k (j : Int)).toNat := by
            have : ¬ ((q : Int) < k ∧ q < j) := hc
            omega
          have HRES := Lib.hid (show SRow wo w.heap.size (.slice Ao q co) ((ordL pd each H L).take (min k (j : Int)).toNat) from by
            have h1 := hS.out.row
            rw [HFIN.out q (by rw [← HM.out]; exact hq)] at h1
            rw [← hqe]; exact h1)
          have HXX := Lib.hid hS.out.x
          clear hsp hql hqe
          by_cases hc1 : (q : Int) < k
          · have hc2 : ¬ q < j := fun h => hc ⟨hc1, h⟩
            clear hc
            go_wp2
            go_ret
            exact ⟨_, rfl, HRES.out, HXX.out⟩
          · clear hc
            go_wp2
            go_ret
            exact ⟨_, rfl, HRES.out, HXX.out⟩
end
end Go.Proofs.YtjphpblangeblaaDoor
