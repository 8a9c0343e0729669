/- A line of the program's text: the closure, walked. -/
import Derived.Test.YtlddpdlebdjniaaDoorTxtC
namespace Go.Proofs.YtlddpdlebdjniaaDoor
open Go.RowKit Go.Maps Go.ChangeMaps
set_option linter.unusedVariables false
set_option linter.unusedSimpArgs false
theorem str_add (W : World) {x y z : Bs} (hx : x.length ≤ 1000000) (hy : y.length ≤ 1000000) (hz : z = x ++ y) : (binOp .add 9 (.string ⟨x.toArray⟩) (.string ⟨y.toArray⟩)).run Tryd.prog W = .ok (.string ⟨z.toArray⟩) W := by
  subst hz
  have h1 : (x.length : Int) ≤ 8388608 := by omega
  have h2 : (y.length : Int) ≤ 8388608 := by omega
  simp [binOp, run_string_add_lists, *]
/-- Two texts put together. -/
theorem wpList_add {W : World} {ops : Array Oper} {rest : List Oper} {o : Oper} {a : Act} {Q : Exit → Act → World → Prop} (hgd : o.guard = none) (s t : Operand) (ho : o.op = .binOp .add 9 s t 9) (x y z : Bs) (hs : a.eval s = .string ⟨x.toArray⟩) (ht : a.eval t = .string ⟨y.toArray⟩) (hx : x.length ≤ 1000000) (hy : y.length ≤ 1000000) (hz : z = x ++ y)
    (h : wpList Tryd.prog ops Q rest (a.put o.dst (.string ⟨z.toArray⟩)) W) : wpList Tryd.prog ops Q (o :: rest) a W :=
  wpList_plain hgd fun K hK => by
    unfold Oper.wp execOp
    have e := str_add W hx hy hz
    simp only [ho, hs, ht, eqGuard, Sem.run_bind, Sem.run_pure, Result.andThen_ok, Bool.not_false, if_true, e]
    exact hK _ _ h
def lineL (word : Bs) (n : Int) : Bs := word ++ [32] ++ itoaZ n ++ [10]
set_option maxRecDepth 100000 in
set_option maxHeartbeats 1000000 in
theorem line_any (B b : Nat) (l word : Bs) (n : Int) (h0 : -9223372036854775808 ≤ n) (h1 : n ≤ 9223372036854775807) (w : World) (hT : Tab w) (h : Bd B b l w) (hl : l.length ≤ 1000000) (hw : word.length ≤ 1000) (hB : B ≤ w.heap.size) : Calls Tryd.prog 10 #[.string ⟨word.toArray⟩, .int .i64 n, .pointer (some ⟨b, 0, none⟩)] w fun e w' => e = .returned (.tuple #[]) ∧ Bd B b (l ++ lineL word n) w' ∧ Below B w w' := by
  have hil := itoaZ_len n h0 h1
  unfold lineL
  obtain ⟨ds, hds⟩ : ∃ ds, ds = itoaZ n := ⟨_, rfl⟩
  have HF := Lib.hid (fmt_any n h0 h1 w hT)
  rw [← hds] at HF hil ⊢
  have HBD := Lib.hid h; have HL := Lib.hid hl; have HW := Lib.hid hw; have HI := Lib.hid hil; have HBS := Lib.hid hB
  obtain ⟨t1, h1'⟩ : ∃ t, t = word ++ [32] := ⟨_, rfl⟩
  obtain ⟨t2, h2'⟩ : ∃ t, t = t1 ++ ds := ⟨_, rfl⟩
  obtain ⟨t3, h3'⟩ : ∃ t, t = t2 ++ [10] := ⟨_, rfl⟩
  rw [← h1', ← h2', ← h3']
  have L1 := Lib.hid (show t1.length ≤ 1001 by rw [h1']; simp; omega)
  have L2 := Lib.hid (show t2.length ≤ 1021 by rw [h2', List.length_append]; have := L1.out; omega)
  have L3 := Lib.hid (show t3.length ≤ 1022 by rw [h3', List.length_append]; have := L2.out; simp; omega)
  have E1 := Lib.hid h1'; have E2 := Lib.hid h2'; have E3 := Lib.hid h3'
  clear hds h hl hw hil hB hT h0 h1 h1' h2' h3'
  go_enter Tryd.func10, Tryd.ntmps10
  go_wp2_with (refine wpList_add rfl _ _ rfl word [32] t1 rfl rfl (by have := HW.out; omega) (by simp) E1.out ?_; refine stop_of ?_)
  unfold Stop
  go_wp2_with (go_at_call 12; refine HF.out.mono ?_; rintro e w1 ⟨rfl, x1⟩; refine stop_of ?_)
  unfold Stop
  have X1 := Lib.hid x1
  clear x1
  go_wp2_with (refine wpList_add rfl _ _ rfl t1 ds t2 rfl rfl (by have := L1.out; omega) (by have := HI.out; omega) E2.out ?_; refine stop_of ?_)
  unfold Stop
  go_wp2_with (refine wpList_add rfl _ _ rfl t2 [10] t3 rfl rfl (by have := L2.out; omega) (by simp) E3.out ?_; refine stop_of ?_)
  unfold Stop
  have HWR := Lib.hid (write_any B b l t3 w1 (HBD.out.ext X1.out) HL.out (by have := L3.out; omega) (Nat.le_trans HBS.out X1.out.size))
  go_wp2_with (go_at_call 11; refine HWR.out.mono ?_; rintro e w2 ⟨rfl, h2, x2⟩; refine stop_of ?_)
  unfold Stop
  have H2 := Lib.hid h2; have X2 := Lib.hid (Below.trans (Below.mono X1.out HBS.out) x2)
  clear h2 x2 HWR
  go_wp2_with fail
  go_end0
  exact ⟨rfl, H2.out, X2.out⟩
end Go.Proofs.YtlddpdlebdjniaaDoor
