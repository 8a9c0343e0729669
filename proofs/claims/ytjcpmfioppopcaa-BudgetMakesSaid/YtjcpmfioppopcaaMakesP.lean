/- BudgetMakes: when just so many bytes went as have to, the new ones fit; with one fewer they don't. -/
import Derived.Test.YtjcpmfioppopcaaArgs
namespace Go.Proofs.Ytjcpmfioppopcaa
open Go.ChangeShapes Go.WideShapes Go.ChangeAt Go.RowKit
set_option linter.unusedVariables false

theorem less_facts {room share : Int} {L : List Ln} (hI : Inv room share L) {t : Bs} {n : Int} (h : lessE L t n = 0) : rSum (lessL L t n) = rSum L - n ∧ ∀ u, rOf (lessL L t n) u = if u = t then rOf L t - n else rOf L u := by
  unfold lessL; rw [if_pos h]
  exact ⟨by rw [rSum_with L t _ hI.one]; omega, fun u => rOf_with L t _ u⟩
theorem less_ok {L : List Ln} {t : Bs} {n : Int} (h0 : 0 ≤ n) (h1 : n ≤ 1125899906842624) (ht : t.length ≤ 200) (h : n ≤ rOf L t) : lessE L t n = 0 := by
  have ha : asksB t n = true := (asks_iff t n).2 ⟨⟨h0, h1⟩, ht⟩
  unfold lessE; rw [ha, if_neg (by simp), if_neg (by omega)]
theorem add_iff {room share : Int} {L : List Ln} {t : Bs} {n : Int} (h0 : 0 ≤ n) (h1 : n ≤ 1125899906842624) (ht : t.length ≤ 200) : addE room share L t n = 0 ↔ rSum L + n ≤ room ∧ rOf L t + n ≤ share := by
  have ha : asksB t n = true := (asks_iff t n).2 ⟨⟨h0, h1⟩, ht⟩
  unfold addE; rw [ha, if_neg (by simp)]
  split
  · constructor
    · intro h; cases h
    · intro h; omega
  · exact ⟨fun _ => by omega, fun _ => rfl⟩
theorem over_zero {share : Int} {t : Bs} {n : Int} (h : overE share t n = 0) : ((0 ≤ n ∧ n ≤ 1125899906842624) ∧ t.length ≤ 200) ∧ n ≤ share := by
  unfold overE at h
  split at h
  · cases h
  · split at h
    · cases h
    · rename_i h1 h2
      exact ⟨(asks_iff t n).1 (by simpa using h1), by omega⟩
theorem sum_zero {room share : Int} {L : List Ln} (hI : Inv room share L) (h : ∀ u, rOf L u = 0) : rSum L = 0 := by
  rw [← sum_tenants hI.one]
  have : rTen L = [] := by
    cases hT : rTen L with
    | nil => rfl
    | cons u r => exact absurd (h u) ((mem_rTen_iff hI.one u).1 (by rw [hT]; simp))
  rw [this]; rfl

structure Mk (room share n : Int) (L1 : List Ln) (k : Nat) (y : Int) (L : List Ln) : Prop where
  inv : Inv room share L
  gap : y = max (rSum L + n - room) 0
  le : ∀ u, rOf L u ≤ rOf L1 u
  done : y = 0 ∨ ∀ u ∈ (rTen L1).take k, rOf L u = 0
theorem Mk.less {room share n : Int} {L1 : List Ln} {k : Nat} {y : Int} {L : List Ln} (h : Mk room share n L1 k y L) (hk : k < (rTen L1).length) (hl : ((rTen L1)[k]).length ≤ 200) : lessE L (rTen L1)[k] (min y (rOf L (rTen L1)[k])) = 0 := by
  have b1 := h.inv.of0 (rTen L1)[k]; have b2 := h.inv.ofs (rTen L1)[k]; have b3 := h.inv.s1; have b4 := h.inv.r1
  have hy := h.gap
  exact less_ok (by omega) (by omega) hl (by omega)
theorem Mk.step {room share n : Int} {L1 : List Ln} {k : Nat} {y : Int} {L : List Ln} (h : Mk room share n L1 k y L) (hk : k < (rTen L1).length) (hl : ((rTen L1)[k]).length ≤ 200) : Mk room share n L1 (k + 1) (y - min y (rOf L (rTen L1)[k])) (lessL L (rTen L1)[k] (min y (rOf L (rTen L1)[k]))) := by
  have b1 := h.inv.of0 (rTen L1)[k]
  have hy := h.gap
  obtain ⟨s1, s2⟩ := less_facts h.inv (h.less hk hl)
  refine ⟨h.inv.less _ _, by rw [s1]; omega, fun u => ?_, ?_⟩
  · rw [s2]; split
    · rename_i e; have := h.le u; rw [e] at this ⊢; omega
    · exact h.le u
  · by_cases h0 : y - min y (rOf L (rTen L1)[k]) = 0
    · exact .inl h0
    · refine .inr fun u hu => ?_
      rw [List.take_succ_eq_append_getElem hk, List.mem_append] at hu
      rw [s2]
      split
      · omega
      · rename_i hne
        rcases hu with hu | hu
        · rcases h.done with h1 | h1
          · omega
          · exact h1 u hu
        · exact absurd (by simpa using hu) hne
theorem Mk.ends {room share n : Int} {L1 : List Ln} {y : Int} {L : List Ln} (h : Mk room share n L1 (rTen L1).length y L) (hI1 : Inv room share L1) (hn : n ≤ share) : y = 0 := by
  rcases h.done with h0 | h0
  · exact h0
  · rw [List.take_of_length_le (Nat.le_refl _)] at h0
    have : rSum L = 0 := sum_zero h.inv fun u => by
      by_cases hu : u ∈ rTen L1
      · exact h0 u hu
      · have h1 : rOf L1 u = 0 := by
          rw [mem_rTen_iff hI1.one] at hu; omega
        have := h.le u; have := h.inv.of0 u; omega
    have := h.gap; have := h.inv.s1; omega
theorem ten_mem' {room share : Int} {L : List Ln} (hI : Inv room share L) {t : Bs} (ht : t ∈ rTen L) : t.length ≤ 200 := by
  obtain ⟨x, hx, rfl, _⟩ := (mem_rTen L t).1 ht
  exact hI.len x hx
theorem Strs.extB {X : List Nat} {w w' : World} {v : Value} {l : List Bs} (h : Strs w 0 v l) (hx : ExtB X w w') (hX : ∀ g cur, w.heap[g]? = some (.cells cur 9 (0, 0)) → g ∉ X) : Strs w' 0 v l := by
  refine ⟨h.1, ?_⟩
  rcases h.2 with h0 | ⟨g, cap, cur, rfl, hb, hg, r⟩
  · exact .inl h0
  · exact .inr ⟨g, cap, cur, rfl, hb, hx.heap hg (hX g cur hg), r⟩

/-- What the loop holds at a round's head. -/
def MakesRel (room share n : Int) (L1 : List Ln) (W : World) (b : Nat) (v : Value) (k : Nat) (y : Int) (wr : World) : Prop :=
  ∃ mo L, Mk room share n L1 k y L ∧ BookAt wr b mo room share L (61 + k) ∧ Above W.heap.size mo ∧ Ext W wr ∧ Strs wr 0 v (rTen L1)

set_option maxRecDepth 100000 in
set_option maxHeartbeats 12000000 in
theorem makes_walk (all share : Int) (xs : List AR) (A : Option Addr) (c : Nat) (t : Bs) (n : Int) (l : Bool) (w : World) (hA : ActsAt w A xs) (hlen : xs.length ≤ maxLen) :
    Calls Try.prog 3 #[.agg #[.int .i64 all, .int .i64 share], .slice A xs.length c, .agg #[.string ⟨t.toArray⟩, .int .i64 n, .bool l]] w fun e w' => e = .returned (.bool true) ∧ Below w.heap.size w w' := by
  obtain ⟨W, hW⟩ : ∃ W, W = (w.alloc (.cells #[.int .i64 all, .int .i64 share] 23)).alloc (.cells #[.string ⟨t.toArray⟩, .int .i64 n, .bool l] 26) := ⟨_, rfl⟩
  have hE : Ext w W := by rw [hW]; exact ((Ext.refl w).alloc _).alloc _
  have hf := heap_new2 w (.cells #[.int .i64 all, .int .i64 share] 23) (.cells #[.string ⟨t.toArray⟩, .int .i64 n, .bool l] 26)
  rw [← hW] at hf
  have r0 : W.cell? ⟨w.heap.size, 0, none⟩ = some (.int .i64 all) := blk_cell hf.1 0
  have r1 : W.cell? ⟨w.heap.size, 1, none⟩ = some (.int .i64 share) := blk_cell hf.1 1
  have k0 : W.cell? ⟨w.heap.size + 1, 0, none⟩ = some (.string ⟨t.toArray⟩) := blk_cell hf.2 0
  have k1 : W.cell? ⟨w.heap.size + 1, 1, none⟩ = some (.int .i64 n) := blk_cell hf.2 1
  have HW := Lib.hid hW; have HA := Lib.hid (hA.ext hE); clear hW hA hf
  have hsz : w.heap.size + 1 < W.heap.size := World.block_lt_of_cell? _ _ k0
  cases hsm : smallB xs
  · go_enter Try.func3, Try.ntmps3
    go_wp2_with (first | (go_at_call 9; rw [← HW.out]; refine (wakes_any _).mono ?_; rintro e w1 ⟨rfl, hx1⟩) | (go_at_call 10; refine (small_any xs A c _ (HA.out.ext hx1) hlen).mono ?_; rintro e w2 ⟨rfl, hx2⟩))
    go_ret
    exact ⟨rfl, (hE.trans hx1).trans hx2⟩
  · obtain ⟨hxs, h60⟩ := small_spec hsm
    clear hxs
    go_enter Try.func3, Try.ntmps3
    go_wp2_with fail
    rw [← HW.out]
    refine (wakes_any _).mono ?_
    rintro e w1 ⟨rfl, hx1⟩
    go_wp2_with fail
    refine (small_any xs A c _ (HA.out.ext hx1) hlen).mono ?_
    rintro e w2 ⟨rfl, hx2⟩
    have hx2' : Ext W w2 := Ext.trans hx1 hx2
    have i0 := hx2'.cell k0; have i1 := hx2'.cell k1; have q0 := hx2'.cell r0; have q1 := hx2'.cell r1
    rw [hsm]
    by_cases htl : t.length ≤ 200
    · have hdl : decide (200 < (t.length : Int)) = false := by simp; omega
      by_cases hok : okR all share
      · have hI := play_inv (inv0 hok.1 hok.2.1 hok.2.2) xs
        have hll := play_len all share xs
        go_wp2_with fail
        refine (play_ok all share xs A c _ (HA.out.ext hx2') h60 hok).mono ?_
        rintro e w3 ⟨b, mo, s, rfl, hB, hL, hAb, hb, hx3⟩
        obtain ⟨L, hLe⟩ : ∃ L, L = playL all share xs := ⟨_, rfl⟩
        rw [← hLe] at hI hll hB hL
        clear hLe
        obtain ⟨As, cs, rfl⟩ := hL.slice
        have hx3' : Ext W w3 := hx2'.trans hx3
        have hAb' : Above W.heap.size mo := fun m e => Nat.le_trans hx2'.size (hAb m e)
        have hb' : W.heap.size ≤ b := Nat.le_trans hx2'.size hb
        obtain ⟨wb, hwb⟩ : ∃ wb, wb = w3.alloc (.cells #[.int .i64 all, .int .i64 share, .slice As L.length cs] 32) := ⟨_, rfl⟩
        have hx4 : Ext w3 wb := by rw [hwb]; exact (Ext.refl w3).alloc _
        have hB4 := hB.ext (.of hx4 []) (by simp) (by simp)
        have hx4' : Ext W wb := hx3'.trans hx4
        have HWB := Lib.hid hwb
        have y0 := hx3'.cell k0; have y1 := hx3'.cell k1
        have hs3 : w.heap.size + 1 < w3.heap.size := World.block_lt_of_cell? _ _ y0
        clear hB hL hwb i0 i1 q0 q1 hAb hb
        go_wp2_with fail
        clear y0 y1
        rw [← HWB.out]
        refine (over_any b mo L 60 all share n t _ hB4 hI).mono ?_
        rintro e w5 ⟨rfl, hx5⟩
        have hx5' : Ext W w5 := hx4'.trans hx5
        by_cases hov : overE share t n = 0
        · obtain ⟨⟨⟨n0, n1⟩, _⟩, n2⟩ := over_zero hov
          obtain ⟨o, ho⟩ : ∃ o, o = overOwn share L t n := ⟨_, rfl⟩
          obtain ⟨y, hy⟩ : ∃ y, y = overAny all share L t n := ⟨_, rfl⟩
          rw [← ho, ← hy, hov]
          unfold overOwn at ho; unfold overAny at hy
          rw [if_pos hov] at ho hy
          rw [← ho] at hy
          have b1 := hI.of0 t; have b2 := hI.ofs t; have b3 := hI.sum0; have b4 := hI.sum; have b5 := hI.s0; have b6 := hI.s1; have b7 := hI.r1; have b8 := hI.of_sum t
          have hle : lessE L t o = 0 := less_ok (by omega) (by omega) htl (by omega)
          obtain ⟨s1, s2⟩ := less_facts hI hle
          have s3 := s2 t
          rw [if_pos rfl] at s3
          have hI1 := hI.less t o
          have hl1 := len_less L t o
          have hmk : Mk all share n (lessL L t o) 0 y (lessL L t o) := ⟨hI1, by rw [s1]; omega, fun u => Int.le_refl _, .inr (by simp)⟩
          have HMK := Lib.hid hmk
          have z0 := hx5'.cell k0; have z1 := hx5'.cell k1
          have hB5 := hB4.ext (.of hx5 []) (by simp) (by simp)
          have HB5 := Lib.hid hB5
          have ho1 : 0 ≤ o := by omega
          have ho2 : rOf L t + n - share ≤ o := by omega
          have ho3 : o ≤ 0 ∨ o ≤ rOf L t + n - share := by omega
          have ho4 : o ≤ rOf L t := by omega
          clear hmk hB4 hB5 s2 hy ho
          have hyn : 0 ≤ y := by have := HMK.out.gap; omega
          rcases Int.lt_or_le 0 o with h0 | h0
          · rcases Int.lt_or_le 0 y with hy0 | hy0
            · have d1 : decide (o = 0) = false := by simp; omega
              have d3 : decide (0 < o) = true := by simp; omega
              have d2 : decide (y = 0) = false := by simp; omega
              have hfb : (addE all share L t n == 0) = false := by
                have := add_iff (room := all) (share := share) (L := L) n0 n1 htl
                simp; rw [this]; have := HMK.out.gap; rw [s1] at this; omega
              go_wp2_with fail
              refine (fits_any b mo L 60 all share n t _ HB5.out hI).mono ?_
              rintro e w6 ⟨rfl, hx6⟩
              rw [hfb]
              have hB6 := HB5.out.ext (.of hx6 []) (by simp) (by simp)
              have hx6' : Ext W w6 := hx5'.trans hx6
              have p0 := hx6'.cell k0; have p1 := hx6'.cell k1
              clear z0 z1
              go_wp2_with fail
              clear p0 p1
              refine (less_any b mo L 60 all share o t _ hB6 (by omega) hI).mono ?_
              rintro e w7 ⟨rfl, mo7, hB7, hx7, hn7⟩
              rw [hle]
              have hx7' : Ext W w7 := Below.trans hx6' (below_bks hx7 hb' hAb' hx6'.size)
              have hAb7 := hAb'.new hx6'.size hn7
              obtain ⟨w8, hw8⟩ : ∃ w8, w8 = w7 := ⟨_, rfl⟩
              have hx8' : Ext W w8 := by rw [hw8]; exact hx7'
              have hB8 := hB7
              rw [← hw8] at hB8 ⊢
              clear hw8
              clear hB6 hB7
              have HB8 := Lib.hid hB8; clear hB8
              go_wp2_with fail
              refine (tenants_any b mo7 _ 61 all share _ HB8.out (by omega) hI1).mono ?_
              rintro e w9 ⟨v, rfl, hT, hx9⟩
              obtain ⟨At, ct, rfl⟩ := hT.slice
              obtain ⟨L1, hL1⟩ : ∃ L1, L1 = lessL L t o := ⟨_, rfl⟩
              have HMK1 := HMK.out
              have HB9 := HB8.out.ext (.of hx9 []) (by simp) (by simp)
              rw [← hL1] at hT hI1 hl1 s3 HMK1 HB9 ⊢
              have hTl : (rTen L1).length ≤ 61 := by have := len_rTen L1; omega
              have hrel0 : MakesRel all share n L1 W b (.slice At (rTen L1).length ct) 0 y w9 := ⟨mo7, L1, HMK1, HB9, hAb7, hx8'.trans hx9, hT⟩
              have HR0 := Lib.hid hrel0
              clear hrel0 hT HMK1 HB9 hL1 hx9 hx8'
              go_wp2
              go_loopw [11, 14, 15, 88] (fun a _ _ i wr => ∃ (k : Nat) (yk : Int), k ≤ (rTen L1).length ∧ i = .int .i64 k ∧ a = .int .i64 yk ∧ MakesRel all share n L1 W b (.slice At (rTen L1).length ct) k yk wr) (fun _ _ _ i _ => (rTen L1).length - (intOf i).toNat)
              case atStart => exact ⟨0, y, by omega, rfl, rfl, HR0.out⟩
              case round =>
                clear HR0
                obtain ⟨k, yk, hk, rfl, rfl, mk, Lk, hM, hBk, hAk, hEr, hSt⟩ := hrel
                have c1 := hM.inv.sum0; have c2 := hM.inv.sum; have c0 := hM.gap
                have c3 : 0 ≤ yk := by omega
                have c5 : rSum Lk + n - all ≤ yk := by omega
                have c6 : yk ≤ 0 ∨ yk ≤ rSum Lk + n - all := by omega
                clear c0
                have v0 := hEr.cell k0; have v1 := hEr.cell k1
                have HBK := Lib.hid hBk; have HST := Lib.hid hSt; have HM := Lib.hid hM
                clear hBk hSt hM
                by_cases hlt : k < (rTen L1).length
                · obtain ⟨g, hAt, hg, hgc⟩ := HST.out.at_ hlt
                  have m3 := ten_mem' hI1 (List.getElem_mem hlt)
                  have hle2 := HM.out.less hlt m3
                  have hMs := HM.out.step hlt m3
                  have HMS := Lib.hid hMs
                  have c4 := HM.out.inv.of0 (rTen L1)[k]
                  obtain ⟨u, hu⟩ : ∃ u, u = (rTen L1)[k] := ⟨_, rfl⟩
                  rw [← hu] at m3 hle2 hgc c4
                  have HU := Lib.hid hu; have HAT := Lib.hid hAt; clear hu hAt hMs
                  have i1 : IntKind.i64.wrap (yk - min yk (rOf Lk u)) = yk - min yk (rOf Lk u) := IntWalk.i64_in _ (by omega)
                  rw [HAT.out]
                  go_wp2_with fail
                  refine (of_any b mk Lk (61 + k) all share u _ HBK.out (by omega)).mono ?_
                  rintro e wx ⟨rfl, rfl⟩
                  rcases Int.lt_or_le 0 yk with hyk | hyk
                  rotate_left
                  · have d5 : decide (0 < yk) = false := by simp; omega
                    go_wp2_with fail
                    refine (less_any b mk Lk (61 + k) all share _ u _ HBK.out (by omega) HM.out.inv).mono ?_
                    rintro e w11 ⟨rfl, mo11, hB11, hx11, hn11⟩
                    rw [hle2]
                    have hE11 : Ext W w11 := Below.trans hEr (below_bks hx11 hb' hAk hEr.size)
                    have hS11 := HST.out.extB hx11 fun g cur hg => HBK.out.apart hg (by decide)
                    have hA11 := hAk.new hEr.size hn11
                    have hfin : MakesRel all share n L1 W b (.slice At (rTen L1).length ct) (k + 1) (yk - min yk (rOf Lk u)) w11 := ⟨mo11, _, by rw [HU.out]; exact HMS.out, hB11, hA11, hE11, hS11⟩
                    have HF := Lib.hid hfin; clear hfin hB11 hS11
                    go_wp2
                    go_roundw
                    case rel => have hff := HF.out; rw [HAT.out] at hff; exact ⟨k + 1, _, by omega, by go_num, rfl, hff⟩
                    case measure => simp [intOf]; omega
                  · have d5 : decide (0 < yk) = true := by simp; omega
                    have hfk : (addE all share Lk t n == 0) = false := by
                      have := add_iff (room := all) (share := share) (L := Lk) n0 n1 htl
                      simp; rw [this]; omega
                    go_wp2_with fail
                    refine (fits_any b mk Lk (61 + k) all share n t _ HBK.out HM.out.inv).mono ?_
                    rintro e w10 ⟨rfl, hx10⟩
                    rw [hfk]
                    have hBt := HBK.out.ext (.of hx10 []) (by simp) (by simp)
                    have HBT := Lib.hid hBt; clear hBt
                    have hEt := Ext.trans hEr hx10
                    go_wp2_with fail
                    refine (less_any b mk Lk (61 + k) all share _ u _ HBT.out (by omega) HM.out.inv).mono ?_
                    rintro e w11 ⟨rfl, mo11, hB11, hx11, hn11⟩
                    rw [hle2]
                    have hE11 : Ext W w11 := Below.trans hEt (below_bks hx11 hb' hAk hEt.size)
                    have hS11 := (HST.out.below hx10).extB hx11 fun g cur hg => HBT.out.apart hg (by decide)
                    have hA11 := hAk.new hEt.size hn11
                    have hfin : MakesRel all share n L1 W b (.slice At (rTen L1).length ct) (k + 1) (yk - min yk (rOf Lk u)) w11 := ⟨mo11, _, by rw [HU.out]; exact HMS.out, hB11, hA11, hE11, hS11⟩
                    have HF := Lib.hid hfin; clear hfin hB11 hS11
                    go_wp2
                    go_roundw
                    case rel => have hff := HF.out; rw [HAT.out] at hff; exact ⟨k + 1, _, by omega, by go_num, rfl, hff⟩
                    case measure => simp [intOf]; omega
                · obtain rfl : k = (rTen L1).length := by omega
                  have hz := HM.out.ends hI1 n2
                  have hlt1 := HM.out.le t
                  have hae : addE all share Lk t n = 0 := (add_iff n0 n1 htl).2 ⟨by omega, by omega⟩
                  subst hz
                  go_wp2_with fail
                  refine (add_any b mk Lk _ all share n t _ HBK.out (by omega) HM.out.inv).mono ?_
                  rintro e w12 ⟨rfl, mo12, hB12, hx12, hn12⟩
                  rw [hae]
                  have hE12 : Ext W w12 := Below.trans hEr (below_bks hx12 hb' hAk hEr.size)
                  clear hB12
                  go_wp2
                  go_ret
                  exact ⟨rfl, hE.trans hE12⟩
            · obtain rfl : y = 0 := by omega
              have d1 : decide (o = 0) = false := by simp; omega
              have d3 : decide (0 < o) = true := by simp; omega
              have hfb : (addE all share L t n == 0) = false := by
                have := add_iff (room := all) (share := share) (L := L) n0 n1 htl
                simp; rw [this]; have := HMK.out.gap; rw [s1] at this; omega
              go_wp2_with fail
              refine (fits_any b mo L 60 all share n t _ HB5.out hI).mono ?_
              rintro e w6 ⟨rfl, hx6⟩
              rw [hfb]
              have hB6 := HB5.out.ext (.of hx6 []) (by simp) (by simp)
              have hx6' : Ext W w6 := hx5'.trans hx6
              have p0 := hx6'.cell k0; have p1 := hx6'.cell k1
              clear z0 z1
              go_wp2_with fail
              clear p0 p1
              refine (less_any b mo L 60 all share o t _ hB6 (by omega) hI).mono ?_
              rintro e w7 ⟨rfl, mo7, hB7, hx7, hn7⟩
              rw [hle]
              have hx7' : Ext W w7 := Below.trans hx6' (below_bks hx7 hb' hAb' hx6'.size)
              have hAb7 := hAb'.new hx6'.size hn7
              have hfc : (addE all share (lessL L t o) t n == 0) = true := by
                have := add_iff (room := all) (share := share) (L := lessL L t o) n0 n1 htl
                simp; rw [this, s1, s3]; have := HMK.out.gap; rw [s1] at this; omega
              have p0 := hx7'.cell k0; have p1 := hx7'.cell k1
              go_wp2_with fail
              clear p0 p1
              refine (fits_any b mo7 _ 61 all share n t _ hB7 hI1).mono ?_
              rintro e w8 ⟨rfl, hx8⟩
              rw [hfc]
              have hx8' : Ext W w8 := hx7'.trans hx8
              have hB8 := hB7.ext (.of hx8 []) (by simp) (by simp)
              clear hB6 hB7
              have HB8 := Lib.hid hB8; clear hB8
              go_wp2_with fail
              refine (tenants_any b mo7 _ 61 all share _ HB8.out (by omega) hI1).mono ?_
              rintro e w9 ⟨v, rfl, hT, hx9⟩
              obtain ⟨At, ct, rfl⟩ := hT.slice
              obtain ⟨L1, hL1⟩ : ∃ L1, L1 = lessL L t o := ⟨_, rfl⟩
              have HMK1 := HMK.out
              have HB9 := HB8.out.ext (.of hx9 []) (by simp) (by simp)
              rw [← hL1] at hT hI1 hl1 s3 HMK1 HB9 ⊢
              have hTl : (rTen L1).length ≤ 61 := by have := len_rTen L1; omega
              have hrel0 : MakesRel all share n L1 W b (.slice At (rTen L1).length ct) 0 0 w9 := ⟨mo7, L1, HMK1, HB9, hAb7, hx8'.trans hx9, hT⟩
              have HR0 := Lib.hid hrel0
              clear hrel0 hT HMK1 HB9 hL1 hx9 hx8'
              go_wp2
              go_loopw [11, 14, 15, 88] (fun a _ _ i wr => ∃ (k : Nat) (yk : Int), k ≤ (rTen L1).length ∧ i = .int .i64 k ∧ a = .int .i64 yk ∧ MakesRel all share n L1 W b (.slice At (rTen L1).length ct) k yk wr) (fun _ _ _ i _ => (rTen L1).length - (intOf i).toNat)
              case atStart => exact ⟨0, 0, by omega, rfl, rfl, HR0.out⟩
              case round =>
                clear HR0
                obtain ⟨k, yk, hk, rfl, rfl, mk, Lk, hM, hBk, hAk, hEr, hSt⟩ := hrel
                have c1 := hM.inv.sum0; have c2 := hM.inv.sum; have c0 := hM.gap
                have c3 : 0 ≤ yk := by omega
                have c5 : rSum Lk + n - all ≤ yk := by omega
                have c6 : yk ≤ 0 ∨ yk ≤ rSum Lk + n - all := by omega
                clear c0
                have v0 := hEr.cell k0; have v1 := hEr.cell k1
                have HBK := Lib.hid hBk; have HST := Lib.hid hSt; have HM := Lib.hid hM
                clear hBk hSt hM
                by_cases hlt : k < (rTen L1).length
                · obtain ⟨g, hAt, hg, hgc⟩ := HST.out.at_ hlt
                  have m3 := ten_mem' hI1 (List.getElem_mem hlt)
                  have hle2 := HM.out.less hlt m3
                  have hMs := HM.out.step hlt m3
                  have HMS := Lib.hid hMs
                  have c4 := HM.out.inv.of0 (rTen L1)[k]
                  obtain ⟨u, hu⟩ : ∃ u, u = (rTen L1)[k] := ⟨_, rfl⟩
                  rw [← hu] at m3 hle2 hgc c4
                  have HU := Lib.hid hu; have HAT := Lib.hid hAt; clear hu hAt hMs
                  have i1 : IntKind.i64.wrap (yk - min yk (rOf Lk u)) = yk - min yk (rOf Lk u) := IntWalk.i64_in _ (by omega)
                  rw [HAT.out]
                  go_wp2_with fail
                  refine (of_any b mk Lk (61 + k) all share u _ HBK.out (by omega)).mono ?_
                  rintro e wx ⟨rfl, rfl⟩
                  rcases Int.lt_or_le 0 yk with hyk | hyk
                  rotate_left
                  · have d5 : decide (0 < yk) = false := by simp; omega
                    go_wp2_with fail
                    refine (less_any b mk Lk (61 + k) all share _ u _ HBK.out (by omega) HM.out.inv).mono ?_
                    rintro e w11 ⟨rfl, mo11, hB11, hx11, hn11⟩
                    rw [hle2]
                    have hE11 : Ext W w11 := Below.trans hEr (below_bks hx11 hb' hAk hEr.size)
                    have hS11 := HST.out.extB hx11 fun g cur hg => HBK.out.apart hg (by decide)
                    have hA11 := hAk.new hEr.size hn11
                    have hfin : MakesRel all share n L1 W b (.slice At (rTen L1).length ct) (k + 1) (yk - min yk (rOf Lk u)) w11 := ⟨mo11, _, by rw [HU.out]; exact HMS.out, hB11, hA11, hE11, hS11⟩
                    have HF := Lib.hid hfin; clear hfin hB11 hS11
                    go_wp2
                    go_roundw
                    case rel => have hff := HF.out; rw [HAT.out] at hff; exact ⟨k + 1, _, by omega, by go_num, rfl, hff⟩
                    case measure => simp [intOf]; omega
                  · have d5 : decide (0 < yk) = true := by simp; omega
                    have hfk : (addE all share Lk t n == 0) = false := by
                      have := add_iff (room := all) (share := share) (L := Lk) n0 n1 htl
                      simp; rw [this]; omega
                    go_wp2_with fail
                    refine (fits_any b mk Lk (61 + k) all share n t _ HBK.out HM.out.inv).mono ?_
                    rintro e w10 ⟨rfl, hx10⟩
                    rw [hfk]
                    have hBt := HBK.out.ext (.of hx10 []) (by simp) (by simp)
                    have HBT := Lib.hid hBt; clear hBt
                    have hEt := Ext.trans hEr hx10
                    go_wp2_with fail
                    refine (less_any b mk Lk (61 + k) all share _ u _ HBT.out (by omega) HM.out.inv).mono ?_
                    rintro e w11 ⟨rfl, mo11, hB11, hx11, hn11⟩
                    rw [hle2]
                    have hE11 : Ext W w11 := Below.trans hEt (below_bks hx11 hb' hAk hEt.size)
                    have hS11 := (HST.out.below hx10).extB hx11 fun g cur hg => HBT.out.apart hg (by decide)
                    have hA11 := hAk.new hEt.size hn11
                    have hfin : MakesRel all share n L1 W b (.slice At (rTen L1).length ct) (k + 1) (yk - min yk (rOf Lk u)) w11 := ⟨mo11, _, by rw [HU.out]; exact HMS.out, hB11, hA11, hE11, hS11⟩
                    have HF := Lib.hid hfin; clear hfin hB11 hS11
                    go_wp2
                    go_roundw
                    case rel => have hff := HF.out; rw [HAT.out] at hff; exact ⟨k + 1, _, by omega, by go_num, rfl, hff⟩
                    case measure => simp [intOf]; omega
                · obtain rfl : k = (rTen L1).length := by omega
                  have hz := HM.out.ends hI1 n2
                  have hlt1 := HM.out.le t
                  have hae : addE all share Lk t n = 0 := (add_iff n0 n1 htl).2 ⟨by omega, by omega⟩
                  subst hz
                  go_wp2_with fail
                  refine (add_any b mk Lk _ all share n t _ HBK.out (by omega) HM.out.inv).mono ?_
                  rintro e w12 ⟨rfl, mo12, hB12, hx12, hn12⟩
                  rw [hae]
                  have hE12 : Ext W w12 := Below.trans hEr (below_bks hx12 hb' hAk hEr.size)
                  clear hB12
                  go_wp2
                  go_ret
                  exact ⟨rfl, hE.trans hE12⟩
          · obtain rfl : o = 0 := by omega
            rcases Int.lt_or_le 0 y with hy0 | hy0
            · have d2 : decide (y = 0) = false := by simp; omega
              have hfb : (addE all share L t n == 0) = false := by
                have := add_iff (room := all) (share := share) (L := L) n0 n1 htl
                simp; rw [this]; have := HMK.out.gap; rw [s1] at this; omega
              go_wp2_with fail
              refine (fits_any b mo L 60 all share n t _ HB5.out hI).mono ?_
              rintro e w6 ⟨rfl, hx6⟩
              rw [hfb]
              have hB6 := HB5.out.ext (.of hx6 []) (by simp) (by simp)
              have hx6' : Ext W w6 := hx5'.trans hx6
              have p0 := hx6'.cell k0; have p1 := hx6'.cell k1
              clear z0 z1
              go_wp2_with fail
              clear p0 p1
              refine (less_any b mo L 60 all share 0 t _ hB6 (by omega) hI).mono ?_
              rintro e w7 ⟨rfl, mo7, hB7, hx7, hn7⟩
              rw [hle]
              have hx7' : Ext W w7 := Below.trans hx6' (below_bks hx7 hb' hAb' hx6'.size)
              have hAb7 := hAb'.new hx6'.size hn7
              obtain ⟨w8, hw8⟩ : ∃ w8, w8 = w7 := ⟨_, rfl⟩
              have hx8' : Ext W w8 := by rw [hw8]; exact hx7'
              have hB8 := hB7
              rw [← hw8] at hB8 ⊢
              clear hw8
              clear hB6 hB7
              have HB8 := Lib.hid hB8; clear hB8
              go_wp2_with fail
              refine (tenants_any b mo7 _ 61 all share _ HB8.out (by omega) hI1).mono ?_
              rintro e w9 ⟨v, rfl, hT, hx9⟩
              obtain ⟨At, ct, rfl⟩ := hT.slice
              obtain ⟨L1, hL1⟩ : ∃ L1, L1 = lessL L t 0 := ⟨_, rfl⟩
              have HMK1 := HMK.out
              have HB9 := HB8.out.ext (.of hx9 []) (by simp) (by simp)
              rw [← hL1] at hT hI1 hl1 s3 HMK1 HB9 ⊢
              have hTl : (rTen L1).length ≤ 61 := by have := len_rTen L1; omega
              have hrel0 : MakesRel all share n L1 W b (.slice At (rTen L1).length ct) 0 y w9 := ⟨mo7, L1, HMK1, HB9, hAb7, hx8'.trans hx9, hT⟩
              have HR0 := Lib.hid hrel0
              clear hrel0 hT HMK1 HB9 hL1 hx9 hx8'
              go_wp2
              go_loopw [11, 14, 15, 88] (fun a _ _ i wr => ∃ (k : Nat) (yk : Int), k ≤ (rTen L1).length ∧ i = .int .i64 k ∧ a = .int .i64 yk ∧ MakesRel all share n L1 W b (.slice At (rTen L1).length ct) k yk wr) (fun _ _ _ i _ => (rTen L1).length - (intOf i).toNat)
              case atStart => exact ⟨0, y, by omega, rfl, rfl, HR0.out⟩
              case round =>
                clear HR0
                obtain ⟨k, yk, hk, rfl, rfl, mk, Lk, hM, hBk, hAk, hEr, hSt⟩ := hrel
                have c1 := hM.inv.sum0; have c2 := hM.inv.sum; have c0 := hM.gap
                have c3 : 0 ≤ yk := by omega
                have c5 : rSum Lk + n - all ≤ yk := by omega
                have c6 : yk ≤ 0 ∨ yk ≤ rSum Lk + n - all := by omega
                clear c0
                have v0 := hEr.cell k0; have v1 := hEr.cell k1
                have HBK := Lib.hid hBk; have HST := Lib.hid hSt; have HM := Lib.hid hM
                clear hBk hSt hM
                by_cases hlt : k < (rTen L1).length
                · obtain ⟨g, hAt, hg, hgc⟩ := HST.out.at_ hlt
                  have m3 := ten_mem' hI1 (List.getElem_mem hlt)
                  have hle2 := HM.out.less hlt m3
                  have hMs := HM.out.step hlt m3
                  have HMS := Lib.hid hMs
                  have c4 := HM.out.inv.of0 (rTen L1)[k]
                  obtain ⟨u, hu⟩ : ∃ u, u = (rTen L1)[k] := ⟨_, rfl⟩
                  rw [← hu] at m3 hle2 hgc c4
                  have HU := Lib.hid hu; have HAT := Lib.hid hAt; clear hu hAt hMs
                  have i1 : IntKind.i64.wrap (yk - min yk (rOf Lk u)) = yk - min yk (rOf Lk u) := IntWalk.i64_in _ (by omega)
                  rw [HAT.out]
                  go_wp2_with fail
                  refine (of_any b mk Lk (61 + k) all share u _ HBK.out (by omega)).mono ?_
                  rintro e wx ⟨rfl, rfl⟩
                  rcases Int.lt_or_le 0 yk with hyk | hyk
                  rotate_left
                  · have d5 : decide (0 < yk) = false := by simp; omega
                    go_wp2_with fail
                    refine (less_any b mk Lk (61 + k) all share _ u _ HBK.out (by omega) HM.out.inv).mono ?_
                    rintro e w11 ⟨rfl, mo11, hB11, hx11, hn11⟩
                    rw [hle2]
                    have hE11 : Ext W w11 := Below.trans hEr (below_bks hx11 hb' hAk hEr.size)
                    have hS11 := HST.out.extB hx11 fun g cur hg => HBK.out.apart hg (by decide)
                    have hA11 := hAk.new hEr.size hn11
                    have hfin : MakesRel all share n L1 W b (.slice At (rTen L1).length ct) (k + 1) (yk - min yk (rOf Lk u)) w11 := ⟨mo11, _, by rw [HU.out]; exact HMS.out, hB11, hA11, hE11, hS11⟩
                    have HF := Lib.hid hfin; clear hfin hB11 hS11
                    go_wp2
                    go_roundw
                    case rel => have hff := HF.out; rw [HAT.out] at hff; exact ⟨k + 1, _, by omega, by go_num, rfl, hff⟩
                    case measure => simp [intOf]; omega
                  · have d5 : decide (0 < yk) = true := by simp; omega
                    have hfk : (addE all share Lk t n == 0) = false := by
                      have := add_iff (room := all) (share := share) (L := Lk) n0 n1 htl
                      simp; rw [this]; omega
                    go_wp2_with fail
                    refine (fits_any b mk Lk (61 + k) all share n t _ HBK.out HM.out.inv).mono ?_
                    rintro e w10 ⟨rfl, hx10⟩
                    rw [hfk]
                    have hBt := HBK.out.ext (.of hx10 []) (by simp) (by simp)
                    have HBT := Lib.hid hBt; clear hBt
                    have hEt := Ext.trans hEr hx10
                    go_wp2_with fail
                    refine (less_any b mk Lk (61 + k) all share _ u _ HBT.out (by omega) HM.out.inv).mono ?_
                    rintro e w11 ⟨rfl, mo11, hB11, hx11, hn11⟩
                    rw [hle2]
                    have hE11 : Ext W w11 := Below.trans hEt (below_bks hx11 hb' hAk hEt.size)
                    have hS11 := (HST.out.below hx10).extB hx11 fun g cur hg => HBT.out.apart hg (by decide)
                    have hA11 := hAk.new hEt.size hn11
                    have hfin : MakesRel all share n L1 W b (.slice At (rTen L1).length ct) (k + 1) (yk - min yk (rOf Lk u)) w11 := ⟨mo11, _, by rw [HU.out]; exact HMS.out, hB11, hA11, hE11, hS11⟩
                    have HF := Lib.hid hfin; clear hfin hB11 hS11
                    go_wp2
                    go_roundw
                    case rel => have hff := HF.out; rw [HAT.out] at hff; exact ⟨k + 1, _, by omega, by go_num, rfl, hff⟩
                    case measure => simp [intOf]; omega
                · obtain rfl : k = (rTen L1).length := by omega
                  have hz := HM.out.ends hI1 n2
                  have hlt1 := HM.out.le t
                  have hae : addE all share Lk t n = 0 := (add_iff n0 n1 htl).2 ⟨by omega, by omega⟩
                  subst hz
                  go_wp2_with fail
                  refine (add_any b mk Lk _ all share n t _ HBK.out (by omega) HM.out.inv).mono ?_
                  rintro e w12 ⟨rfl, mo12, hB12, hx12, hn12⟩
                  rw [hae]
                  have hE12 : Ext W w12 := Below.trans hEr (below_bks hx12 hb' hAk hEr.size)
                  clear hB12
                  go_wp2
                  go_ret
                  exact ⟨rfl, hE.trans hE12⟩
            · obtain rfl : y = 0 := by omega
              have hfb : (addE all share L t n == 0) = true := by
                have := add_iff (room := all) (share := share) (L := L) n0 n1 htl
                simp; rw [this]; have := HMK.out.gap; rw [s1] at this; omega
              go_wp2_with fail
              refine (fits_any b mo L 60 all share n t _ HB5.out hI).mono ?_
              rintro e w6 ⟨rfl, hx6⟩
              rw [hfb]
              have hB6 := HB5.out.ext (.of hx6 []) (by simp) (by simp)
              have hx6' : Ext W w6 := hx5'.trans hx6
              have p0 := hx6'.cell k0; have p1 := hx6'.cell k1
              clear z0 z1
              go_wp2_with fail
              clear p0 p1
              refine (less_any b mo L 60 all share 0 t _ hB6 (by omega) hI).mono ?_
              rintro e w7 ⟨rfl, mo7, hB7, hx7, hn7⟩
              rw [hle]
              have hx7' : Ext W w7 := Below.trans hx6' (below_bks hx7 hb' hAb' hx6'.size)
              have hAb7 := hAb'.new hx6'.size hn7
              obtain ⟨w8, hw8⟩ : ∃ w8, w8 = w7 := ⟨_, rfl⟩
              have hx8' : Ext W w8 := by rw [hw8]; exact hx7'
              have hB8 := hB7
              rw [← hw8] at hB8 ⊢
              clear hw8
              clear hB6 hB7
              have HB8 := Lib.hid hB8; clear hB8
              go_wp2_with fail
              refine (tenants_any b mo7 _ 61 all share _ HB8.out (by omega) hI1).mono ?_
              rintro e w9 ⟨v, rfl, hT, hx9⟩
              obtain ⟨At, ct, rfl⟩ := hT.slice
              obtain ⟨L1, hL1⟩ : ∃ L1, L1 = lessL L t 0 := ⟨_, rfl⟩
              have HMK1 := HMK.out
              have HB9 := HB8.out.ext (.of hx9 []) (by simp) (by simp)
              rw [← hL1] at hT hI1 hl1 s3 HMK1 HB9 ⊢
              have hTl : (rTen L1).length ≤ 61 := by have := len_rTen L1; omega
              have hrel0 : MakesRel all share n L1 W b (.slice At (rTen L1).length ct) 0 0 w9 := ⟨mo7, L1, HMK1, HB9, hAb7, hx8'.trans hx9, hT⟩
              have HR0 := Lib.hid hrel0
              clear hrel0 hT HMK1 HB9 hL1 hx9 hx8'
              go_wp2
              go_loopw [11, 14, 15, 88] (fun a _ _ i wr => ∃ (k : Nat) (yk : Int), k ≤ (rTen L1).length ∧ i = .int .i64 k ∧ a = .int .i64 yk ∧ MakesRel all share n L1 W b (.slice At (rTen L1).length ct) k yk wr) (fun _ _ _ i _ => (rTen L1).length - (intOf i).toNat)
              case atStart => exact ⟨0, 0, by omega, rfl, rfl, HR0.out⟩
              case round =>
                clear HR0
                obtain ⟨k, yk, hk, rfl, rfl, mk, Lk, hM, hBk, hAk, hEr, hSt⟩ := hrel
                have c1 := hM.inv.sum0; have c2 := hM.inv.sum; have c0 := hM.gap
                have c3 : 0 ≤ yk := by omega
                have c5 : rSum Lk + n - all ≤ yk := by omega
                have c6 : yk ≤ 0 ∨ yk ≤ rSum Lk + n - all := by omega
                clear c0
                have v0 := hEr.cell k0; have v1 := hEr.cell k1
                have HBK := Lib.hid hBk; have HST := Lib.hid hSt; have HM := Lib.hid hM
                clear hBk hSt hM
                by_cases hlt : k < (rTen L1).length
                · obtain ⟨g, hAt, hg, hgc⟩ := HST.out.at_ hlt
                  have m3 := ten_mem' hI1 (List.getElem_mem hlt)
                  have hle2 := HM.out.less hlt m3
                  have hMs := HM.out.step hlt m3
                  have HMS := Lib.hid hMs
                  have c4 := HM.out.inv.of0 (rTen L1)[k]
                  obtain ⟨u, hu⟩ : ∃ u, u = (rTen L1)[k] := ⟨_, rfl⟩
                  rw [← hu] at m3 hle2 hgc c4
                  have HU := Lib.hid hu; have HAT := Lib.hid hAt; clear hu hAt hMs
                  have i1 : IntKind.i64.wrap (yk - min yk (rOf Lk u)) = yk - min yk (rOf Lk u) := IntWalk.i64_in _ (by omega)
                  rw [HAT.out]
                  go_wp2_with fail
                  refine (of_any b mk Lk (61 + k) all share u _ HBK.out (by omega)).mono ?_
                  rintro e wx ⟨rfl, rfl⟩
                  rcases Int.lt_or_le 0 yk with hyk | hyk
                  rotate_left
                  · have d5 : decide (0 < yk) = false := by simp; omega
                    go_wp2_with fail
                    refine (less_any b mk Lk (61 + k) all share _ u _ HBK.out (by omega) HM.out.inv).mono ?_
                    rintro e w11 ⟨rfl, mo11, hB11, hx11, hn11⟩
                    rw [hle2]
                    have hE11 : Ext W w11 := Below.trans hEr (below_bks hx11 hb' hAk hEr.size)
                    have hS11 := HST.out.extB hx11 fun g cur hg => HBK.out.apart hg (by decide)
                    have hA11 := hAk.new hEr.size hn11
                    have hfin : MakesRel all share n L1 W b (.slice At (rTen L1).length ct) (k + 1) (yk - min yk (rOf Lk u)) w11 := ⟨mo11, _, by rw [HU.out]; exact HMS.out, hB11, hA11, hE11, hS11⟩
                    have HF := Lib.hid hfin; clear hfin hB11 hS11
                    go_wp2
                    go_roundw
                    case rel => have hff := HF.out; rw [HAT.out] at hff; exact ⟨k + 1, _, by omega, by go_num, rfl, hff⟩
                    case measure => simp [intOf]; omega
                  · have d5 : decide (0 < yk) = true := by simp; omega
                    have hfk : (addE all share Lk t n == 0) = false := by
                      have := add_iff (room := all) (share := share) (L := Lk) n0 n1 htl
                      simp; rw [this]; omega
                    go_wp2_with fail
                    refine (fits_any b mk Lk (61 + k) all share n t _ HBK.out HM.out.inv).mono ?_
                    rintro e w10 ⟨rfl, hx10⟩
                    rw [hfk]
                    have hBt := HBK.out.ext (.of hx10 []) (by simp) (by simp)
                    have HBT := Lib.hid hBt; clear hBt
                    have hEt := Ext.trans hEr hx10
                    go_wp2_with fail
                    refine (less_any b mk Lk (61 + k) all share _ u _ HBT.out (by omega) HM.out.inv).mono ?_
                    rintro e w11 ⟨rfl, mo11, hB11, hx11, hn11⟩
                    rw [hle2]
                    have hE11 : Ext W w11 := Below.trans hEt (below_bks hx11 hb' hAk hEt.size)
                    have hS11 := (HST.out.below hx10).extB hx11 fun g cur hg => HBT.out.apart hg (by decide)
                    have hA11 := hAk.new hEt.size hn11
                    have hfin : MakesRel all share n L1 W b (.slice At (rTen L1).length ct) (k + 1) (yk - min yk (rOf Lk u)) w11 := ⟨mo11, _, by rw [HU.out]; exact HMS.out, hB11, hA11, hE11, hS11⟩
                    have HF := Lib.hid hfin; clear hfin hB11 hS11
                    go_wp2
                    go_roundw
                    case rel => have hff := HF.out; rw [HAT.out] at hff; exact ⟨k + 1, _, by omega, by go_num, rfl, hff⟩
                    case measure => simp [intOf]; omega
                · obtain rfl : k = (rTen L1).length := by omega
                  have hz := HM.out.ends hI1 n2
                  have hlt1 := HM.out.le t
                  have hae : addE all share Lk t n = 0 := (add_iff n0 n1 htl).2 ⟨by omega, by omega⟩
                  subst hz
                  go_wp2_with fail
                  refine (add_any b mk Lk _ all share n t _ HBK.out (by omega) HM.out.inv).mono ?_
                  rintro e w12 ⟨rfl, mo12, hB12, hx12, hn12⟩
                  rw [hae]
                  have hE12 : Ext W w12 := Below.trans hEr (below_bks hx12 hb' hAk hEr.size)
                  clear hB12
                  go_wp2
                  go_ret
                  exact ⟨rfl, hE.trans hE12⟩
        · have d1 : decide (overE share t n = 0) = false := by simp; exact hov
          go_wp2
          go_ret
          exact ⟨rfl, hE.trans hx5'⟩
      · go_wp2_with fail
        refine (play_bad all share xs.length A c _ hok).mono ?_
        rintro e w3 ⟨x, y, rfl, ⟨a', b', s', rfl, rfl⟩, hx3⟩
        go_wp2
        go_ret
        exact ⟨rfl, ((hE.trans hx2').trans hx3).alloc _⟩
    · have hdl : decide (200 < (t.length : Int)) = true := by simp; omega
      go_wp2
      go_ret
      exact ⟨rfl, hE.trans hx2'⟩

set_option maxRecDepth 100000 in
theorem budgetMakes_lifted (os : Os) (started : os.Started) (H : Type) (enc : TypeId × Value → H) :
    ReturnsInHanded {} Try.checked os 3 .any (Rows.budgetMakesSpec.pre6 enc Try.prog Try.f3 Rows.budgetMakesRow.domain false) (Rows.budgetMakesSpec.post enc Try.prog Try.f3 false true false false) := by
  refine returnsInHanded_of_change (C := Try.checked) own started (by kernel_rfl) Try.func3
    (ChangeSpec.witness6 (enc := enc) (C := Try.checked) false ⟨#[], #[.agg #[.int .i64 0, .int .i64 0], .slice none 0 0, .agg #[.string ⟨#[]⟩, .int .i64 0, .bool false]], []⟩ 8 (by kernel_rfl) (by kernel_rfl) (by kernel_rfl) (by kernel_rfl)) ?_
  intro W base args ds gs before hval0 hW hcnd _
  have hval : ∀ (j : Nat) t v, Try.f3.params[j]? = some t → args[j]? = some v → Value.okWide Try.prog W .any base t v := hval0
  have hW' := hW
  obtain ⟨p, q, hA0, hV, rfl, hfz, hnd⟩ := hW
  have hA : DataW.TrodAll enc Try.prog W 0 (fun _ => true) true Try.f3.params.toList args.toList ds p := hA0
  rw [Try.params3] at hA hval
  obtain ⟨v0, vs0, d0, ds0, p0, q0, hargs, rfl, rfl, h0, r0⟩ := trodAll_cons hA
  obtain ⟨v1, vs1, d1, ds1, p1, q1, rfl, rfl, rfl, h1, r1⟩ := trodAll_cons r0
  obtain ⟨v2, vs2, d2, ds2, p2, q2, rfl, rfl, rfl, h2, r2⟩ := trodAll_cons r1
  obtain ⟨rfl, rfl, rfl⟩ := trodAll_nil r2
  obtain rfl : args = #[v0, v1, v2] := by cases args; simp_all
  obtain ⟨rfl, rfl⟩ := trodVars_none hV
  have lt0 : ∀ x ∈ p0, x.block < W.heap.size := by obtain ⟨m, hm⟩ := h0; exact DataW.trod_lt m _ _ _ hm
  have t0 := fun W' (bel : Below W.heap.size W W') => Below.trod laidOut (by kernel_rfl) (of_decide_eq_true (by kernel_rfl)) h0 bel lt0
  have lt1 : ∀ x ∈ p1, x.block < W.heap.size := by obtain ⟨m, hm⟩ := h1; exact DataW.trod_lt m _ _ _ hm
  have t1 := fun W' (bel : Below W.heap.size W W') => Below.trod laidOut (by kernel_rfl) (of_decide_eq_true (by kernel_rfl)) h1 bel lt1
  have lt2 : ∀ x ∈ p2, x.block < W.heap.size := by obtain ⟨m, hm⟩ := h2; exact DataW.trod_lt m _ _ _ hm
  have t2 := fun W' (bel : Below W.heap.size W W') => Below.trod laidOut (by kernel_rfl) (of_decide_eq_true (by kernel_rfl)) h2 bel lt2
  obtain ⟨a0, s0, rfl⟩ := room_open (hval 0 23 v0 rfl rfl) h0
  obtain ⟨A1, xs1, c1, rfl, ha1, hl1⟩ := acts_open (hval 1 24 v1 rfl rfl) h1
  obtain ⟨u2, n2, b2, rfl⟩ := act_open (hval 2 26 v2 rfl rfl) h2
  clear hA0 hval0
  refine (makes_walk a0 s0 xs1 A1 c1 u2 n2 b2 W ha1 hl1).mono fun e W' ⟨he, bel⟩ => ?_
  subst he
  exact ⟨_, rfl, _, _, _, [], _, [], hW', trodAll_mk1 (shut_bool Try.underlying4 _), (trodAll_cons_mk (t0 W' bel) (trodAll_cons_mk (t1 W' bel) (trodAll_cons_mk (t2 W' bel) trodAll_mk0))), rfl, bel.frame _, fun h => by cases h⟩

/-- The statement. -/
theorem BudgetMakes_proved : Rows.BudgetMakesSaid :=
  OpenClaim.holds_of_wide 3 Try.f3 rfl rfl rfl rfl rfl rfl rfl ⟨rfl, rfl, rfl, rfl, rfl⟩ rfl rfl rfl rfl rfl (by kernel_rfl) Try.func3 (by kernel_rfl)
    (of_decide_eq_true (by kernel_rfl)) (by unfold Func.isWrapper; first | (rw [if_pos (by decide +kernel)]; kernel_rfl) | (rw [if_neg (by decide +kernel)]; exact ⟨rfl, rfl⟩))
    (fun os started H enc _ => budgetMakes_lifted os started H enc)
#print axioms BudgetMakes_proved
end Go.Proofs.Ytjcpmfioppopcaa
