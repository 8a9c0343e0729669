/- The iterator's contract; the law of the loop over it. -/
import Derived.Test.YtgbhhofmghgpbaaDoorSplit
namespace Go.Proofs.YtgbhhofmghgpbaaDoor
open Go.RowKit Go.Shelf
set_option linter.unusedVariables false
set_option linter.unusedSimpArgs false
attribute [local go_sem] Oper.semAt_some
/-- How much is left in the box. -/
def restLen (b : Nat) (W : World) : Nat := match W.heap[b]? with
  | some (Obj.cells cs _ _) => match cs[0]? with
    | some (Value.string x) => x.size
    | _ => 0
  | _ => 0
theorem Boxes.rest {b : Nat} {r : Bs} {W : World} (h : Boxes b r W) : restLen b W = r.length := by
  unfold restLen
  rw [h.s]; rfl
theorem index_cases (r : Bs) : Lib.indexByte r 32 = -1 ∨ ∃ o : Nat, Lib.indexByte r 32 = o := by
  have := Lib.indexByte_ge r 32
  by_cases h : Lib.indexByte r 32 = -1
  · exact .inl h
  · exact .inr ⟨(Lib.indexByte r 32).toNat, by omega⟩
set_option maxRecDepth 100000 in
set_option maxHeartbeats 4000000 in
theorem split_in (n : Nat) (hn : 1 ≤ n) (l b : Nat) (s : Bs) (hlen : s.length ≤ 1000000) (J Jx : List Bs → World → Prop)
    (hJ : ∀ pre A B, J pre A → A.grownBy B (some b) → J pre B)
    (hY : ∀ pre x W, J pre W → (pre ++ [x]) <+: splitW s → YieldAt Fence.wide (n - 1) Tryd.prog l #[.string ⟨x.toArray⟩] W fun e W' =>
      (e = .returned (.bool true) ∧ J (pre ++ [x]) W' ∧ Kb b W W') ∨ (e = .returned (.bool false) ∧ Jx (pre ++ [x]) W'))
    (W : World) (hB : Boxes b s W) (h0 : J [] W) :
    CallsIn Fence.wide n Tryd.prog 42 #[.func (.yield l) #[] #[], .pointer (some ⟨b + 1, 0, none⟩), .pointer (some ⟨b, 0, none⟩), .pointer (some ⟨b + 2, 0, none⟩)] W fun e W' => (∃ v, e = .returned v) ∧
      (J (splitW s) W' ∨ ∃ pre, pre <+: splitW s ∧ Jx pre W') := by
  have hJ' := Lib.hid hJ; have hY' := Lib.hid hY; have h0' := Lib.hid h0; have HB := Lib.hid hB
  clear hJ hY h0
  have hw : Fence.wide.fn 44 := trivial
  refine callsIn_of_wp Tryd.func42 rfl trivial ?_ rfl
  simp only [Tryd.ntmps42, List.size_toArray, List.length_cons, List.length_nil, Nat.reduceAdd, Nat.reduceSub, Array.replicate_succ, Array.replicate_zero, List.push_toArray, List.append_toArray, List.nil_append, List.cons_append]
  have c1 : W.cell? ⟨b + 1, 0, none⟩ = some (.string ⟨#[32]⟩) := blk_cell hB.sep 0
  clear hB
  gi_wp2
  clear c1
  gi_loopw [7, 8] (fun i f wr => ∃ pre r, splitW s = pre ++ splitW r ∧ r.length ≤ s.length ∧ Hid (Boxes b r wr) ∧ Hid (J pre wr)) (fun i f wr => restLen b wr)
  case atStart => exact ⟨[], s, rfl, Nat.le_refl _, HB, h0'⟩
  case round =>
    obtain ⟨pre, r, hsp, hrl, hBx, hJs⟩ := hrel
    have c0 : wr.cell? ⟨b, 0, none⟩ = some (.string ⟨r.toArray⟩) := blk_cell hBx.out.s 0
    have c1 : wr.cell? ⟨b + 1, 0, none⟩ = some (.string ⟨#[32]⟩) := blk_cell hBx.out.sep 0
    have c2 : wr.cell? ⟨b + 2, 0, none⟩ = some (.int .i64 0) := blk_cell hBx.out.save 0
    have HI := index_any r wr
    rcases index_cases r with hix | ⟨o, hix⟩
    · rw [hix] at HI
      have HI' := Lib.hid HI
      have hsr := index_none hix
      rw [hsr] at hsp
      clear HI hix
      obtain ⟨fn, tmps, assign, body, hy, hR⟩ := hY'.out pre r wr hJs.out (by rw [hsp]; exact List.prefix_refl _)
      have HSP := Lib.hid hsp
      clear hsp
      gi_wp2_with (gi_at_call 44; refine (callsIn_wide.2 HI'.out).mono ?_; rintro e w' ⟨rfl, rfl⟩)
      refine hR.mono ?_
      rintro e W3 (⟨rfl, hJ3, hk3⟩ | ⟨rfl, hJx3⟩)
      · gi_wp2
        go_end0
        exact ⟨⟨_, rfl⟩, .inl (by rw [HSP.out]; exact hJ3)⟩
      · gi_wp2
        go_end0
        exact ⟨⟨_, rfl⟩, .inr ⟨_, by rw [HSP.out]; exact List.prefix_refl _, hJx3⟩⟩
    · obtain ⟨hor, hsr⟩ := index_some hix
      rw [hix] at HI
      have HI' := Lib.hid HI
      rw [hsr] at hsp
      clear HI hix
      obtain ⟨x, hx⟩ : ∃ x, x = r.take o := ⟨_, rfl⟩
      obtain ⟨r', hr'⟩ : ∃ r', r' = r.drop (o + 1) := ⟨_, rfl⟩
      have s1 : ∀ W, (Instr.slice 9 (.string ⟨r.toArray⟩) none (some (.int .i64 (o : Int))) none).run Tryd.prog W = .ok (.string ⟨x.toArray⟩) W := fun W => by rw [hx]; exact str_to W r o (by omega)
      have s2 : ∀ W, (Instr.slice 9 (.string ⟨r.toArray⟩) (some (.int .i64 ((o : Int) + 1))) none none).run Tryd.prog W = .ok (.string ⟨r'.toArray⟩) W := fun W => by rw [hr']; exact str_from W r (o + 1) (by omega)
      have hrl' : r'.length < r.length := by rw [hr', List.length_drop]; omega
      rw [← hx, ← hr'] at hsp
      obtain ⟨fn, tmps, assign, body, hy, hR⟩ := hY'.out pre x wr hJs.out (by rw [hsp]; exact ⟨splitW r', by simp⟩)
      have HSP := Lib.hid (show splitW s = (pre ++ [x]) ++ splitW r' by rw [hsp]; simp)
      have HL := Lib.hid hrl'
      have HS2 := Lib.hid s2
      clear hsp hx hr' hrl' s2
      gi_wp2_with (gi_at_call 44; refine (callsIn_wide.2 HI'.out).mono ?_; rintro e w' ⟨rfl, rfl⟩)
      refine hR.mono ?_
      rintro e W3 (⟨rfl, hJ3, hk3⟩ | ⟨rfl, hJx3⟩)
      · have hB3 := hBx.out.kept hk3
        have d0 : W3.cell? ⟨b, 0, none⟩ = some (.string ⟨r.toArray⟩) := blk_cell hB3.s 0
        have d1 : W3.cell? ⟨b + 1, 0, none⟩ = some (.string ⟨#[32]⟩) := blk_cell hB3.sep 0
        have f0 : W3.frozen? ⟨b, 0, none⟩ = false := blk_free hB3.s 0
        have s2 := HS2.out
        have HB4 : Hid (Boxes b r' (W3.setCell ⟨b, 0, none⟩ (.string ⟨r'.toArray⟩))) := Lib.hid ⟨blk_set hB3.s 0 _, blk_far hB3.sep (by simp) _, blk_far hB3.save (by simp) _⟩
        have HJ4 := Lib.hid (hJ'.out _ _ _ hJ3 (grownBy_setCell' W3 b (.string ⟨r'.toArray⟩)))
        clear hB3 hJ3 hk3
        gi_wp2
        go_roundw
        case rel => exact ⟨pre ++ [x], r', HSP.out, by have := HL.out; omega, HB4, HJ4⟩
        case measure => rw [HB4.out.rest, hBx.out.rest]; exact HL.out
      · gi_wp2
        refine bodyPost_ret (results_none rfl _ _ _) rfl ?_
        exact ⟨⟨_, rfl⟩, .inr ⟨_, by rw [HSP.out]; exact ⟨splitW r', rfl⟩, hJx3⟩⟩
end Go.Proofs.YtgbhhofmghgpbaaDoor
