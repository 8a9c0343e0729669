/- BudgetPlays: act by act the book is what the document says. -/
import Derived.Test.YtjcpmfioppopcaaArgs
namespace Go.Proofs.Ytjcpmfioppopcaa
open Go.ChangeShapes Go.WideShapes Go.ChangeAt Go.RowKit
set_option linter.unusedVariables false

def PlaysRel (room share : Int) (xs : List AR) (w : World) (b bx : Nat) (k : Nat) (wr : World) : Prop :=
  ∃ mo s, PlayAt wr b mo bx s room share (playL room share (xs.take k)) k ∧ Above w.heap.size mo ∧ Ext w wr ∧ w.heap.size ≤ b ∧ w.heap.size ≤ bx

theorem PlaysRel.ext {room share : Int} {xs : List AR} {w : World} {b bx k : Nat} {wr : World} (h : PlaysRel room share xs w b bx k wr) : Ext w wr := by
  obtain ⟨_, _, _, _, h, _⟩ := h; exact h
theorem PlaysRel.grow {room share : Int} {xs : List AR} {w : World} {b bx k : Nat} {wr wr' : World} (h : PlaysRel room share xs w b bx k wr) (hx : Ext wr wr') : PlaysRel room share xs w b bx k wr' := by
  obtain ⟨mo, s, h1, h2, h3, h4, h5⟩ := h
  exact ⟨mo, s, h1.ext hx, h2, h3.trans hx, h4, h5⟩

theorem plays_step {room share : Int} {xs : List AR} {w wr wa w3 w4 : World} {b bx : Nat} {mo mo3 : Option Nat} {k : Nat} {s4 : Value} (hE : Ext w wr) (hea : Ext wr wa) (hx3 : ExtB (bks b mo) wa w3) (hx4 : Ext w3 w4) (hn3 : NewMap wa mo mo3) (hAb : Above w.heap.size mo) (hb : w.heap.size ≤ b) (hbx : w.heap.size ≤ bx)
    (hP : PlayAt (((w4.setCell ⟨bx, 0, none⟩ (.int .i64 room)).setCell ⟨bx, 1, none⟩ (.int .i64 share)).setCell ⟨bx, 2, none⟩ s4) b mo3 bx s4 room share (playL room share (xs.take (k + 1))) (k + 1)) :
    PlaysRel room share xs w b bx (k + 1) (((w4.setCell ⟨bx, 0, none⟩ (.int .i64 room)).setCell ⟨bx, 1, none⟩ (.int .i64 share)).setCell ⟨bx, 2, none⟩ s4) := by
  have hEa : Ext w wa := hE.trans hea
  have s1 : w.heap.size ≤ wa.heap.size := hEa.size
  have l3 := below_bks hx3 hb hAb s1
  have s3 : w.heap.size ≤ w3.heap.size := Nat.le_trans s1 l3.size
  have l4 : Below w.heap.size w3 w4 := Below.mono hx4 s3
  have hx5 := set3_ext w4 bx (.int .i64 room) (.int .i64 share) s4
  have l5 : Below w.heap.size w4 (((w4.setCell ⟨bx, 0, none⟩ (.int .i64 room)).setCell ⟨bx, 1, none⟩ (.int .i64 share)).setCell ⟨bx, 2, none⟩ s4) := hx5.below (Nat.le_trans s3 l4.size) (by simpa using hbx)
  exact ⟨mo3, s4, hP, hAb.new s1 hn3, ((Below.trans hEa l3).trans l4).trans l5, hb, hbx⟩

set_option maxRecDepth 100000 in
set_option maxHeartbeats 8000000 in
theorem plays_walk (room share : Int) (xs : List AR) (A : Option Addr) (c : Nat) (w : World) (hA : ActsAt w A xs) (hlen : xs.length ≤ maxLen) :
    Calls Try.prog 4 #[.int .i64 room, .int .i64 share, .slice A xs.length c] w fun e w' => e = .returned (.bool true) ∧ Below w.heap.size w w' := by
  have HA := Lib.hid hA; clear hA
  cases hsm : smallB xs
  · go_enter Try.func4, Try.ntmps4
    go_wp2_with (first | (go_at_call 9; refine (wakes_any _).mono ?_; rintro e w1 ⟨rfl, hx1⟩) | (go_at_call 10; refine (small_any xs A c _ (HA.out.ext hx1) hlen).mono ?_; rintro e w2 ⟨rfl, hx2⟩))
    go_ret
    exact ⟨rfl, hx1.trans hx2⟩
  · obtain ⟨hxs, h60⟩ := small_spec hsm
    have HXS := Lib.hid hxs; clear hxs
    go_enter Try.func4, Try.ntmps4
    go_wp2_with fail
    refine (wakes_any _).mono ?_
    rintro e w1 ⟨rfl, hx1⟩
    go_wp2_with fail
    refine (small_any xs A c _ (HA.out.ext hx1) hlen).mono ?_
    rintro e w2 ⟨rfl, hx2⟩
    have hx2' : Ext w w2 := Ext.trans hx1 hx2
    rw [hsm]
    clear hx1 hx2
    by_cases hok : okR room share
    · have hI0 := inv0 hok.1 hok.2.1 hok.2.2
      go_wp2_with fail
      refine (new_ok room share _ hok.1 hok.2.1 hok.2.2).mono ?_
      rintro e wn ⟨rfl, hB1, hxn⟩
      go_wp2_with fail
      refine (rnew_ok room share _ hok.1 hok.2.1 hok.2.2).mono ?_
      rintro e wm ⟨rfl, hxm⟩
      have hxw : Ext w wm := (hx2'.trans hxn).trans hxm
      have hB2 := (hB1.ext (.of hxm []) (by simp) (by simp)).ext (.of (Ext.alloc (Ext.refl wm) (.cells #[.int .i64 room, .int .i64 share, .slice none 0 0] 32)) []) (by simp) (by simp)
      obtain ⟨b, hbe⟩ : ∃ b, b = w2.heap.size := ⟨_, rfl⟩
      obtain ⟨bx, hbxe⟩ : ∃ bx, bx = wm.heap.size := ⟨_, rfl⟩
      rw [← hbe] at hB2
      have hrel0 : PlaysRel room share xs w b bx 0 (wm.alloc (.cells #[.int .i64 room, .int .i64 share, .slice none 0 0] 32)) :=
        ⟨none, .slice none 0 0, ⟨hB2, by rw [hbxe]; exact heap_alloc_new wm _, World.ownsRow_nil _ _ _ _⟩, Above.none _, hxw.alloc _, by rw [hbe]; exact hx2'.size, by rw [hbxe]; exact hxw.size⟩
      have HR0 := Lib.hid hrel0
      have HBE := Lib.hid hbe; have HBXE := Lib.hid hbxe
      clear hB1 hB2 hrel0 hxn hxm
      go_wp2
      rw [← hbe, ← hbxe]
      clear hbe hbxe
      go_loopw [12, 13, 14, 48] (fun _ _ _ i wr => ∃ k : Nat, k ≤ xs.length ∧ i = .int .i64 k ∧ PlaysRel room share xs w b bx k wr) (fun _ _ _ i _ => xs.length - (intOf i).toNat)
      case atStart => exact ⟨0, by omega, rfl, HR0.out⟩
      case round =>
        clear HR0
        obtain ⟨k, hk, rfl, mo, s, hP, hAb, hE, hb, hbx⟩ := hrel
        have hI := play_inv hI0 (xs.take k)
        have hlen : (playL room share (xs.take k)).length ≤ 1000 := by have := play_len room share (xs.take k); simp at this; omega
        by_cases hlt : k < xs.length
        · obtain ⟨ba, off, rfl, h0, h1, h2⟩ := (HA.out.ext hE) k hlt
          have hba : ba < wr.heap.size := World.block_lt_of_cell? _ _ h0
          have hst := playL_take (room := room) (share := share) hlt
          have HST := Lib.hid hst; clear hst
          obtain ⟨wa, hwa⟩ : ∃ wa, wa = wr.alloc (.cells #[.string ⟨xs[k].1.toArray⟩, .int .i64 xs[k].2.1, .bool xs[k].2.2] 26) := ⟨_, rfl⟩
          have hea : Ext wr wa := by rw [hwa]; exact Ext.alloc (Ext.refl wr) _
          have hla : wa.heap[wr.heap.size]? = some (.cells #[.string ⟨xs[k].1.toArray⟩, .int .i64 xs[k].2.1, .bool xs[k].2.2] 26 (0, 0)) := by rw [hwa]; exact heap_alloc_new wr _
          have hPa := hP.ext hea
          have l0 : wa.cell? ⟨wr.heap.size, 0, none⟩ = some (.string ⟨xs[k].1.toArray⟩) := blk_cell hla 0
          have l1 : wa.cell? ⟨wr.heap.size, 1, none⟩ = some (.int .i64 xs[k].2.1) := blk_cell hla 1
          have l2 : wa.cell? ⟨wr.heap.size, 2, none⟩ = some (.bool xs[k].2.2) := blk_cell hla 2
          obtain ⟨L, hL⟩ : ∃ L, L = playL room share (xs.take k) := ⟨_, rfl⟩
          rw [← hL] at hI hlen hPa
          have HL := Lib.hid hL
          obtain ⟨As, cs, rfl⟩ := hPa.lines.slice
          have HPa := Lib.hid hPa; have HWA := Lib.hid hwa; have HLA := Lib.hid hla
          clear hL hPa hla hP
          cases hq : xs[k].2.2
          · have hact : playL room share (xs.take (k + 1)) = addL room share L xs[k].1 xs[k].2.1 := by rw [HST.out, ← HL.out]; unfold actL; rw [hq]; rfl
            have HACT := Lib.hid hact
            rw [hq] at l2
            clear hact hwa
            go_wp2_with fail
            have hwa2 := HWA.out
            rw [hq] at hwa2
            rw [← hwa2]
            clear hwa2
            refine (add_any b mo L k room share xs[k].2.1 xs[k].1 _ HPa.out.book (by omega) hI).mono ?_
            rintro e w3 ⟨rfl, mo3, hB3, hx3, hn3⟩
            have hap := HPa.out.book.apart HLA.out (by decide)
            have n0 := hx3.cell l0 hap; have n1 := hx3.cell l1 hap
            obtain ⟨hbox3, hl3⟩ := HPa.out.others hx3
            have m0 : w3.cell? ⟨bx, 0, none⟩ = some (.int .i64 room) := blk_cell hbox3 0
            have m1 : w3.cell? ⟨bx, 1, none⟩ = some (.int .i64 share) := blk_cell hbox3 1
            have m2 : w3.cell? ⟨bx, 2, none⟩ = some (.slice As L.length cs) := blk_cell hbox3 2
            have HB3 := Lib.hid hB3; have HBX := Lib.hid hbox3; clear hbox3 hB3
            go_wp2_with fail
            refine (radd_any L _ xs[k].1 room share xs[k].2.1 _ hl3 hlen hI).mono ?_
            rintro e w4 ⟨s4, rfl, hl4, hx4⟩
            obtain ⟨A4, c4, rfl⟩ := hl4.slice
            have hbox4 := Ext.heap hx4 HBX.out
            have p0 : w4.cell? ⟨bx, 0, none⟩ = some (.int .i64 room) := blk_cell hbox4 0
            have p1 : w4.cell? ⟨bx, 1, none⟩ = some (.int .i64 share) := blk_cell hbox4 1
            have p2 : w4.cell? ⟨bx, 2, none⟩ = some (.slice As L.length cs) := blk_cell hbox4 2
            have q0 := blk_free hbox4 0; have q1 := blk_free hbox4 1; have q2 := blk_free hbox4 2
            have hfin := HPa.out.step HB3.out hx3 hx4 hl4
            have HF := Lib.hid hfin; clear hfin hbox4 hl4 hl3
            have hI' : Inv room share (addL room share L xs[k].1 xs[k].2.1) := hI.add _ _
            have hR := plays_step (xs := xs) (k := k) hE hea hx3 hx4 hn3 hAb hb hbx (by rw [HACT.out]; exact HF.out)
            have hlen' : (addL room share L xs[k].1 xs[k].2.1).length ≤ 1000 := by rw [← HACT.out]; have := play_len room share (xs.take (k + 1)); simp only [List.length_take] at this; omega
            have HR := Lib.hid hR; clear hR
            go_wp2_with fail
            refine (same_any b mo3 _ (k + 1) room share _ xs _ c _ HF.out.book HF.out.lines (by omega) hlen' hI' (HA.out.ext (PlaysRel.ext HR.out)) HXS.out (by omega)).mono ?_
            rintro e w5 ⟨rfl, hx5⟩
            go_wp2
            go_roundw
            case rel => exact ⟨k + 1, by omega, by go_num, (HR.out).grow hx5⟩
            case measure => simp [intOf]; omega
          · have hact : playL room share (xs.take (k + 1)) = lessL L xs[k].1 xs[k].2.1 := by rw [HST.out, ← HL.out]; unfold actL; rw [hq]; rfl
            have HACT := Lib.hid hact
            rw [hq] at l2
            clear hact hwa
            go_wp2_with fail
            have hwa2 := HWA.out
            rw [hq] at hwa2
            rw [← hwa2]
            clear hwa2
            refine (less_any b mo L k room share xs[k].2.1 xs[k].1 _ HPa.out.book (by omega) hI).mono ?_
            rintro e w3 ⟨rfl, mo3, hB3, hx3, hn3⟩
            have hap := HPa.out.book.apart HLA.out (by decide)
            have n0 := hx3.cell l0 hap; have n1 := hx3.cell l1 hap
            obtain ⟨hbox3, hl3⟩ := HPa.out.others hx3
            have m0 : w3.cell? ⟨bx, 0, none⟩ = some (.int .i64 room) := blk_cell hbox3 0
            have m1 : w3.cell? ⟨bx, 1, none⟩ = some (.int .i64 share) := blk_cell hbox3 1
            have m2 : w3.cell? ⟨bx, 2, none⟩ = some (.slice As L.length cs) := blk_cell hbox3 2
            have HB3 := Lib.hid hB3; have HBX := Lib.hid hbox3; clear hbox3 hB3
            go_wp2_with fail
            refine (rless_any L _ xs[k].1 room share xs[k].2.1 _ hl3 hlen hI).mono ?_
            rintro e w4 ⟨s4, rfl, hl4, hx4⟩
            obtain ⟨A4, c4, rfl⟩ := hl4.slice
            have hbox4 := Ext.heap hx4 HBX.out
            have p0 : w4.cell? ⟨bx, 0, none⟩ = some (.int .i64 room) := blk_cell hbox4 0
            have p1 : w4.cell? ⟨bx, 1, none⟩ = some (.int .i64 share) := blk_cell hbox4 1
            have p2 : w4.cell? ⟨bx, 2, none⟩ = some (.slice As L.length cs) := blk_cell hbox4 2
            have q0 := blk_free hbox4 0; have q1 := blk_free hbox4 1; have q2 := blk_free hbox4 2
            have hfin := HPa.out.step HB3.out hx3 hx4 hl4
            have HF := Lib.hid hfin; clear hfin hbox4 hl4 hl3
            have hI' : Inv room share (lessL L xs[k].1 xs[k].2.1) := hI.less _ _
            have hR := plays_step (xs := xs) (k := k) hE hea hx3 hx4 hn3 hAb hb hbx (by rw [HACT.out]; exact HF.out)
            have hlen' : (lessL L xs[k].1 xs[k].2.1).length ≤ 1000 := by rw [← HACT.out]; have := play_len room share (xs.take (k + 1)); simp only [List.length_take] at this; omega
            have HR := Lib.hid hR; clear hR
            go_wp2_with fail
            refine (same_any b mo3 _ (k + 1) room share _ xs _ c _ HF.out.book HF.out.lines (by omega) hlen' hI' (HA.out.ext (PlaysRel.ext HR.out)) HXS.out (by omega)).mono ?_
            rintro e w5 ⟨rfl, hx5⟩
            go_wp2
            go_roundw
            case rel => exact ⟨k + 1, by omega, by go_num, (HR.out).grow hx5⟩
            case measure => simp [intOf]; omega
        · obtain rfl : k = xs.length := by omega
          rw [List.take_of_length_le (Nat.le_refl _)] at hP hI hlen
          obtain ⟨As, cs, rfl⟩ := hP.lines.slice
          have m0 : wr.cell? ⟨bx, 0, none⟩ = some (.int .i64 room) := blk_cell hP.box 0
          have m1 : wr.cell? ⟨bx, 1, none⟩ = some (.int .i64 share) := blk_cell hP.box 1
          have m2 : wr.cell? ⟨bx, 2, none⟩ = some (.slice As (playL room share xs).length cs) := blk_cell hP.box 2
          have HP := Lib.hid hP
          clear hP
          go_wp2_with fail
          refine (same_any b mo _ xs.length room share _ xs A c _ HP.out.book HP.out.lines (by omega) hlen hI (HA.out.ext hE) HXS.out (by omega)).mono ?_
          rintro e w5 ⟨rfl, hx5⟩
          go_wp2
          go_ret
          exact ⟨rfl, hE.trans hx5⟩
    · go_wp2_with fail
      refine (new_bad room share _ hok).mono ?_
      rintro e w3 ⟨rfl, rfl⟩
      go_wp2_with fail
      refine (rnew_bad room share _ hok).mono ?_
      rintro e w4 ⟨rfl, hx4⟩
      go_wp2
      go_ret
      exact ⟨rfl, (hx2'.trans hx4).alloc _⟩

set_option maxRecDepth 100000 in
theorem budgetPlays_lifted (os : Os) (started : os.Started) (H : Type) (enc : TypeId × Value → H) :
    ReturnsInHanded {} Try.checked os 4 .any (Rows.budgetPlaysSpec.pre6 enc Try.prog Try.f4 Rows.budgetPlaysRow.domain false) (Rows.budgetPlaysSpec.post enc Try.prog Try.f4 false true false false) := by
  refine returnsInHanded_of_change (C := Try.checked) own started (by kernel_rfl) Try.func4
    (ChangeSpec.witness6 (enc := enc) (C := Try.checked) false ⟨#[], #[.int .i64 0, .int .i64 0, .slice none 0 0], []⟩ 8 (by kernel_rfl) (by kernel_rfl) (by kernel_rfl) (by kernel_rfl)) ?_
  intro W base args ds gs before hval0 hW hcnd _
  have hval : ∀ (j : Nat) t v, Try.f4.params[j]? = some t → args[j]? = some v → Value.okWide Try.prog W .any base t v := hval0
  have hW' := hW
  obtain ⟨p, q, hA0, hV, rfl, hfz, hnd⟩ := hW
  have hA : DataW.TrodAll enc Try.prog W 0 (fun _ => true) true Try.f4.params.toList args.toList ds p := hA0
  rw [Try.params4] at hA hval
  obtain ⟨v0, vs0, d0, ds0, p0, q0, hargs, rfl, rfl, h0, r0⟩ := trodAll_cons hA
  obtain ⟨v1, vs1, d1, ds1, p1, q1, rfl, rfl, rfl, h1, r1⟩ := trodAll_cons r0
  obtain ⟨v2, vs2, d2, ds2, p2, q2, rfl, rfl, rfl, h2, r2⟩ := trodAll_cons r1
  obtain ⟨rfl, rfl, rfl⟩ := trodAll_nil r2
  obtain rfl : args = #[v0, v1, v2] := by cases args; simp_all
  obtain ⟨rfl, rfl⟩ := trodVars_none hV
  have lt0 : ∀ x ∈ p0, x.block < W.heap.size := by obtain ⟨m, hm⟩ := h0; exact DataW.trod_lt m _ _ _ hm
  have t0 := fun W' (bel : Below W.heap.size W W') => Below.trod laidOut (by kernel_rfl) (of_decide_eq_true (by kernel_rfl)) h0 bel lt0
  have lt1 : ∀ x ∈ p1, x.block < W.heap.size := by obtain ⟨m, hm⟩ := h1; exact DataW.trod_lt m _ _ _ hm
  have t1 := fun W' (bel : Below W.heap.size W W') => Below.trod laidOut (by kernel_rfl) (of_decide_eq_true (by kernel_rfl)) h1 bel lt1
  have lt2 : ∀ x ∈ p2, x.block < W.heap.size := by obtain ⟨m, hm⟩ := h2; exact DataW.trod_lt m _ _ _ hm
  have t2 := fun W' (bel : Below W.heap.size W W') => Below.trod laidOut (by kernel_rfl) (of_decide_eq_true (by kernel_rfl)) h2 bel lt2
  obtain ⟨i0, rfl, _, _, _⟩ := open_int Try.underlying2 (hval 0 2 v0 rfl rfl) h0
  obtain ⟨i1, rfl, _, _, _⟩ := open_int Try.underlying2 (hval 1 2 v1 rfl rfl) h1
  obtain ⟨A2, xs2, c2, rfl, ha2, hl2⟩ := acts_open (hval 2 24 v2 rfl rfl) h2
  clear hA0 hval0
  refine (plays_walk i0 i1 xs2 A2 c2 W ha2 hl2).mono fun e W' ⟨he, bel⟩ => ?_
  subst he
  exact ⟨_, rfl, _, _, _, [], _, [], hW', trodAll_mk1 (shut_bool Try.underlying4 _), (trodAll_cons_mk (t0 W' bel) (trodAll_cons_mk (t1 W' bel) (trodAll_cons_mk (t2 W' bel) trodAll_mk0))), rfl, bel.frame _, fun h => by cases h⟩

/-- The statement. -/
theorem BudgetPlays_proved : Rows.BudgetPlaysSaid :=
  OpenClaim.holds_of_wide 4 Try.f4 rfl rfl rfl rfl rfl rfl rfl ⟨rfl, rfl, rfl, rfl, rfl⟩ rfl rfl rfl rfl rfl (by kernel_rfl) Try.func4 (by kernel_rfl)
    (of_decide_eq_true (by kernel_rfl)) (by unfold Func.isWrapper; first | (rw [if_pos (by decide +kernel)]; kernel_rfl) | (rw [if_neg (by decide +kernel)]; exact ⟨rfl, rfl⟩))
    (fun os started H enc _ => budgetPlays_lifted os started H enc)
#print axioms BudgetPlays_proved
end Go.Proofs.Ytjcpmfioppopcaa
