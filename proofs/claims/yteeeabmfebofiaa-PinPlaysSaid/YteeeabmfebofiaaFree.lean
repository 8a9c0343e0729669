/- Free of a hold. -/
import Derived.Test.YteeeabmfebofiaaOps
import Derived.LaidEqlPtr
namespace Go.Proofs.Yteeeabmfebofiaa
open Go.RowKit Go.ChangeMaps Go.Maps
set_option linter.unusedVariables false

set_option maxRecDepth 100000 in
theorem eqPtr (w : World) (a : Addr) : (binOp .eql 71 (.pointer (some a)) (.pointer (some a))).run Try.prog w = .ok (.bool true) w := by
  have hs : (Try.prog.info? 87).isSome = true := by kernel_rfl
  obtain ⟨j, hj⟩ := Option.isSome_iff_exists.1 hs
  exact run_eql_ptr_same w a Try.underlying71 hj
theorem PinsAt.look1 {w : World} {B b : Nat} {mo : Option Nat} {F : St} {N : Nat} {s rc : Int} (h : PinsAt w B b mo F N s rc) {k : Int} (hk : (Lit.int .i64 k).wf = true) {g : Nat} {c : Int} (hF : F k = some (g, c)) :
    (Instr.lookup 67 (.map mo) (.int .i64 k) false).run Try.prog w = .ok (.pointer (some ⟨g, 0, none⟩)) w := by
  rcases h.map with ⟨rfl, h0⟩ | ⟨mb, D, rfl, hown, ht⟩
  · rw [h0] at hF; cases hF
  · obtain ⟨v, ps, hrun, hv⟩ := hown.lookup law2 Try.underlying67 (zero71 w) (zd := .lit (.int .i64 (-1))) (zp := []) rfl (key2 hk)
    have hk' := ht k
    rw [hF] at hk'
    rw [hk'.2] at hv
    rw [ptrElem_int hv] at hrun
    exact hrun
theorem PinsAt.some_of {w : World} {B b : Nat} {mo : Option Nat} {F : St} {N : Nat} {s rc : Int} (h : PinsAt w B b mo F N s rc) {k : Int} {g : Nat} {c : Int} (hF : F k = some (g, c)) : ∃ mb, mo = some mb := by
  rcases h.map with ⟨rfl, h0⟩ | ⟨mb, D, rfl, hown, ht⟩
  · rw [h0] at hF; cases hF
  · exact ⟨mb, rfl⟩

def downOf (F : St) (k : Int) (g : Nat) (c : Int) : St := if c = 1 then upd F k none else upd F k (some (g, c - 1))
def LessR (w : World) (B b : Nat) (F : St) (N : Nat) (k : Int) (g : Nat) (c : Int) (w' : World) : Prop := ∃ mo', PinsAt w' B b mo' (downOf F k g c) N 0 0 ∧ Fr B [] w w'

set_option maxRecDepth 100000 in
set_option maxHeartbeats 2000000 in
theorem less_more (w : World) (B b : Nat) (mo : Option Nat) (F : St) (N : Nat) (k : Int) (g : Nat) (c : Int) (h : PinsAt w B b mo F N 0 0) (hF : F k = some (g, c)) (hc : 2 ≤ c) (hc2 : c ≤ 100001) :
    Calls Try.prog 29 #[.pointer (some ⟨b, 0, none⟩), .int .i64 k, .pointer (some ⟨g, 0, none⟩)] w fun e w' => e = .returned (.tuple #[]) ∧ LessR w B b F N k g c w' := by
  obtain ⟨w1, hw1⟩ : ∃ w1, w1 = w.setCell ⟨b, 4, none⟩ (.int .i32 1) := ⟨_, rfl⟩
  have h1 : PinsAt w1 B b mo F N 0 1 := by rw [hw1]; exact h.cell (pb_rc _ _ _ _)
  obtain ⟨hg, hB⟩ := h1.cnt k g c hF
  have f1 : Fr B [] w w1 := by rw [hw1]; exact (Fr.refl B [] w).set _ (.inr ⟨h.low, _, 69, _, h.blk, .inl rfl⟩)
  have gc : w1.cell? ⟨g, 0, none⟩ = some (.int .i64 c) := blk_cell hg 0
  have gz := blk_free hg 0
  obtain ⟨w2, hw2⟩ : ∃ w2, w2 = w1.setCell ⟨g, 0, none⟩ (.int .i64 (c - 1)) := ⟨_, rfl⟩
  have h2 : PinsAt w2 B b mo (upd F k (some (g, c - 1))) N 0 1 := by rw [hw2]; exact h1.count hF _
  have f2 : Fr B [] w w2 := by rw [hw2]; exact f1.set _ (.inr ⟨hB, _, 87, _, hg, .inr rfl⟩)
  have hs : IntKind.i64.wrap (c + -1) = c - 1 := by rw [IntWalk.i64_in _ (by omega)]; omega
  have n1 : 0 < c - 1 := by omega
  have n2 : decide (0 < c - 1) = true := by simpa using n1
  have HP := Lib.hid h; have HW1 := Lib.hid hw1; have HW2 := Lib.hid hw2; have HP2 := Lib.hid h2; have HF2 := Lib.hid f2; have HS := Lib.hid hs; have HC := Lib.hid hc
  clear h h1 hw1 hw2 h2 f2 f1 hg hF hs hc
  go_enter_defers Try.func29, Try.ntmps29
  go_wp2_with (first | (go_at_call 30; refine (rlock_pins _ B b mo F N HP.out).mono ?_; rintro e w' ⟨rfl, rfl⟩; rw [← HW1.out]) | (go_at_call 41; refine (aadd _ _ _ _ _ gc gz HS.out).mono ?_; rintro e w' ⟨rfl, rfl⟩; rw [← HW2.out]) | (go_at_call 31; refine (runlock_pins _ B b _ _ N HP2.out).mono ?_; rintro e w' ⟨rfl, rfl⟩))
  refine ⟨_, results_none rfl _ _ _, rfl, mo, ?_, ?_⟩
  · have : downOf F k g c = upd F k (some (g, c - 1)) := by unfold downOf; rw [if_neg (by have := HC.out; omega)]
    rw [this]
    exact HP2.out.cell (pb_rc _ _ _ _)
  · exact HF2.out.set _ (.inr ⟨HP2.out.low, _, 69, _, HP2.out.blk, .inl rfl⟩)

set_option maxRecDepth 100000 in
set_option maxHeartbeats 4000000 in
theorem less_last (w : World) (B b : Nat) (mo : Option Nat) (F : St) (N : Nat) (k : Int) (g : Nat) (h : PinsAt w B b mo F N 0 0) (hk : (Lit.int .i64 k).wf = true) (hF : F k = some (g, 1)) :
    Calls Try.prog 29 #[.pointer (some ⟨b, 0, none⟩), .int .i64 k, .pointer (some ⟨g, 0, none⟩)] w fun e w' => e = .returned (.tuple #[]) ∧ LessR w B b F N k g 1 w' := by
  obtain ⟨mb, rfl⟩ := h.some_of hF
  obtain ⟨w1, hw1⟩ : ∃ w1, w1 = w.setCell ⟨b, 4, none⟩ (.int .i32 1) := ⟨_, rfl⟩
  have h1 : PinsAt w1 B b (some mb) F N 0 1 := by rw [hw1]; exact h.cell (pb_rc _ _ _ _)
  obtain ⟨hg, hB⟩ := h1.cnt k g 1 hF
  have f1 : Fr B [] w w1 := by rw [hw1]; exact (Fr.refl B [] w).set _ (.inr ⟨h.low, _, 69, _, h.blk, .inl rfl⟩)
  have gc : w1.cell? ⟨g, 0, none⟩ = some (.int .i64 1) := blk_cell hg 0
  have gz := blk_free hg 0
  obtain ⟨w2, hw2⟩ : ∃ w2, w2 = w1.setCell ⟨g, 0, none⟩ (.int .i64 0) := ⟨_, rfl⟩
  have h2 : PinsAt w2 B b (some mb) (upd F k (some (g, 0))) N 0 1 := by rw [hw2]; exact h1.count hF _
  have f2 : Fr B [] w w2 := by rw [hw2]; exact f1.set _ (.inr ⟨hB, _, 87, _, hg, .inr rfl⟩)
  obtain ⟨w3, hw3⟩ : ∃ w3, w3 = w2.setCell ⟨b, 4, none⟩ (.int .i32 0) := ⟨_, rfl⟩
  have h3 : PinsAt w3 B b (some mb) (upd F k (some (g, 0))) N 0 0 := by rw [hw3]; exact h2.cell (pb_rc _ _ _ _)
  have f3 : Fr B [] w w3 := by rw [hw3]; exact f2.set _ (.inr ⟨h2.low, _, 69, _, h2.blk, .inl rfl⟩)
  obtain ⟨w4, hw4⟩ : ∃ w4, w4 = (w3.setCell ⟨b, 0, none⟩ (.int .i32 1)).setCell ⟨b, 4, none⟩ (.int .i32 (-1073741824)) := ⟨_, rfl⟩
  have h4 : PinsAt w4 B b (some mb) (upd F k (some (g, 0))) N 1 (-1073741824) := by rw [hw4]; exact (h3.cell (pb_st _ _ 1 _)).cell (pb_rc _ _ _ _)
  have f4 : Fr B [] w w4 := by
    rw [hw4]
    exact (f3.set _ (.inr ⟨h3.low, _, 69, _, h3.blk, .inl rfl⟩)).set _ (.inr ⟨h3.low, _, 69, _, blk_set h3.blk 0 _, .inl rfl⟩)
  have d6 : w4.cell? ⟨b, 6, none⟩ = some (.map (some mb)) := blk_cell h4.blk 6
  have hl := h4.look1 hk (upd_same F k (some (g, 0)))
  have gc4 : w4.cell? ⟨g, 0, none⟩ = some (.int .i64 0) := blk_cell (h4.cnt k g 0 (upd_same _ _ _)).1 0
  obtain ⟨w5, hdel, h5, ht5⟩ := h4.del hk 0
  rw [upd_twice] at h5
  have f5 : Fr B [] w w5 := by
    obtain ⟨_, _, _, es, cl, hm⟩ := h4.mapAt
    exact f4.turned ht5 (h.lowm mb rfl) hm
  have hs : IntKind.i64.wrap (1 + -1) = 0 := by decide
  have HP := Lib.hid h; have HW1 := Lib.hid hw1; have HW2 := Lib.hid hw2; have HP2 := Lib.hid h2; have HW3 := Lib.hid hw3; have HW4 := Lib.hid hw4; have HP3 := Lib.hid h3; have HP5 := Lib.hid h5; have HF5 := Lib.hid f5; have HS := Lib.hid hs
  clear h h1 hw1 hw2 h2 f2 f1 hg hF hs h3 f3 hw3 h4 f4 hw4 h5 f5 ht5
  have hq := eqPtr
  go_enter_defers Try.func29, Try.ntmps29
  go_wp2_with (first | (go_at_call 30; refine (rlock_pins _ B b (some mb) F N HP.out).mono ?_; rintro e w' ⟨rfl, rfl⟩; rw [← HW1.out]) | (go_at_call 41; refine (aadd _ _ _ _ _ gc gz HS.out).mono ?_; rintro e w' ⟨rfl, rfl⟩; rw [← HW2.out]) | (go_at_call 31; refine (runlock_pins _ B b _ _ N HP2.out).mono ?_; rintro e w' ⟨rfl, rfl⟩; rw [← HW3.out]) | (go_at_call 34; refine (lock_pins _ B b _ _ N HP3.out).mono ?_; rintro e w' ⟨rfl, rfl⟩; rw [← HW4.out]) | (go_at_call 25; refine (aload _ _ _ gc4).mono ?_; rintro e w' ⟨rfl, rfl⟩))
  refine leaves_cons (f := 35) (args := #[.pointer (some ⟨b, 0, none⟩)]) (by simp) (by simp [go_sem]) ?_
  refine (unlock_pinsD _ B b _ _ _ .returning HP5.out).mono ?_
  rintro e u' w'' ⟨rfl, rfl, rfl⟩
  have hp6 := HP5.out.cell (pb_rc _ _ 0 _)
  refine ⟨_, results_none rfl _ _ _, rfl, some mb, ?_, ?_⟩
  · have : downOf F k g 1 = upd F k none := by unfold downOf; rw [if_pos rfl]
    rw [this]
    exact hp6.cell (pb_st _ _ _ _)
  · exact (HF5.out.set _ (.inr ⟨hp6.low, _, 69, _, HP5.out.blk, .inl rfl⟩)).set _ (.inr ⟨hp6.low, _, 69, _, hp6.blk, .inl rfl⟩)

theorem less_any (w : World) (B b : Nat) (mo : Option Nat) (F : St) (N : Nat) (k : Int) (g : Nat) (c : Int) (h : PinsAt w B b mo F N 0 0) (hk : (Lit.int .i64 k).wf = true) (hF : F k = some (g, c)) (hc : 1 ≤ c) (hc2 : c ≤ 100001) :
    Calls Try.prog 29 #[.pointer (some ⟨b, 0, none⟩), .int .i64 k, .pointer (some ⟨g, 0, none⟩)] w fun e w' => e = .returned (.tuple #[]) ∧ LessR w B b F N k g c w' := by
  by_cases e : c = 1
  · subst e; exact less_last w B b mo F N k g h hk hF
  · exact less_more w B b mo F N k g c h hF (by omega) hc2

/-! ### sync.Once -/
theorem bstore (a : Addr) (x : Value) (u : FrameMode) (w : World) (hc : w.cell? a = some x) (hz : w.frozen? a = false) :
    CallsD Try.prog 59 #[.pointer (some a), .bool true] u w fun e u' w' => u' = u ∧ (e = .returned (.tuple #[]) ∧ w' = w.drew.setCell a (.int .u32 1)) := by
  have hc' : w.drew.cell? a = some x := by go_simp
  have hz' : w.drew.frozen? a = false := by go_simp
  have hst := run_call_store (P := Try.prog) Try.func75 (by kernel_rfl) (by kernel_rfl) (by kernel_rfl) (by kernel_rfl) (k := .u32) (y := 1) hc' hz'
  go_enter_d Try.func59, Try.ntmps59
  go_wp2
  go_region_calls
  all_goals (go_end0; exact ⟨rfl, rfl⟩)
theorem bload (a : Addr) (d : Int) (w : World) (h : w.cell? a = some (.int .u32 d)) :
    Calls Try.prog 39 #[.pointer (some a)] w fun e w' => e = .returned (.bool (d != 0)) ∧ w = w' := by
  have hl := run_call_load (P := Try.prog) Try.func58 (by kernel_rfl) (by kernel_rfl) (by kernel_rfl) .u32 (by kernel_rfl) h
  go_enter Try.func39, Try.ntmps39
  go_wp2
  go_ret
  exact ⟨rfl, rfl⟩

def pinBlk (b : Nat) (k : Int) (g : Nat) (d m : Int) : Array Value := #[.pointer (some ⟨b, 0, none⟩), .int .i64 k, .pointer (some ⟨g, 0, none⟩), .int .u32 d, .int .i32 m, .int .u32 0]
theorem newPin_eq (b : Nat) (k : Int) (g : Nat) : newPin b k g = pinBlk b k g 0 0 := rfl
def FreeR (w : World) (B b : Nat) (F : St) (N : Nat) (k : Int) (g h : Nat) (c : Int) (fb : Nat) (d m : Int) (w' : World) : Prop :=
  ∃ mo', PinsAt w' B b mo' (downOf F k g c) N 0 0 ∧ w'.heap[h]? = some (.cells (pinBlk b k g d m) 78 (0, 0)) ∧ w'.heap[fb]? = some (.cells #[.bool true] 4 (0, 0)) ∧ Fr B [h, fb] w w'

set_option maxRecDepth 100000 in
set_option maxHeartbeats 2000000 in
/-- The closure of Free. -/
theorem free1 (w : World) (B b : Nat) (mo : Option Nat) (F : St) (N : Nat) (k : Int) (g h : Nat) (c : Int) (fb pbx : Nat) (d m : Int) (hp : PinsAt w B b mo F N 0 0) (hk : (Lit.int .i64 k).wf = true) (hF : F k = some (g, c)) (hc : 1 ≤ c) (hc2 : c ≤ 100001)
    (h1 : w.heap[h]? = some (.cells (pinBlk b k g d m) 78 (0, 0))) (h2 : w.heap[fb]? = some (.cells #[.bool false] 4 (0, 0))) (h3 : w.heap[pbx]? = some (.cells #[.pointer (some ⟨h, 0, none⟩)] 26 (0, 0))) :
    Calls Try.prog 28 #[.pointer (some ⟨fb, 0, none⟩), .pointer (some ⟨pbx, 0, none⟩)] w fun e w' => e = .returned (.tuple #[]) ∧ FreeR w B b F N k g h c fb d m w' := by
  have n1 : fb ≠ pbx := fun e => by rw [e, h3] at h2; cases h2
  have n2 : h ≠ fb := fun e => by rw [e, h2] at h1; injection h1 with h1; injection h1 with _ h1; exact absurd h1 (by decide)
  have a2 : w.cell? ⟨fb, 0, none⟩ = some (.bool false) := blk_cell h2 0
  have z2 := blk_free h2 0
  obtain ⟨w1, hw1⟩ : ∃ w1, w1 = w.setCell ⟨fb, 0, none⟩ (.bool true) := ⟨_, rfl⟩
  have p1 : PinsAt w1 B b mo F N 0 0 := by rw [hw1]; exact hp.other h2 (by decide) (by decide) _
  have f1 : Fr B [h, fb] w w1 := by rw [hw1]; exact (Fr.refl _ _ _).set _ (.inl (by simp))
  have b1 : w1.heap[h]? = some (.cells (pinBlk b k g d m) 78 (0, 0)) := by rw [hw1]; exact blk_far h1 n2 _
  have b2 : w1.heap[fb]? = some (.cells #[.bool true] 4 (0, 0)) := by rw [hw1, blk_set h2]; rfl
  have b3 : w1.heap[pbx]? = some (.cells #[.pointer (some ⟨h, 0, none⟩)] 26 (0, 0)) := by rw [hw1]; exact blk_far h3 (Ne.symm n1) _
  have hl := less_any w1.drew B b mo F N k g c (p1.ext (Ext.drew (Ext.refl _))) hk hF hc hc2
  have k3 : ∀ x : Grow [] w1.drew, x.v.cell? ⟨pbx, 0, none⟩ = some (.pointer (some ⟨h, 0, none⟩)) := fun x => blk_cell (x.ext.heap (a := w1.drew) b3 (by simp)) 0
  have k10 : ∀ x : Grow [] w1.drew, x.v.cell? ⟨h, 0, none⟩ = some (.pointer (some ⟨b, 0, none⟩)) := fun x => blk_cell (x.ext.heap (a := w1.drew) b1 (by simp)) 0
  have k11 : ∀ x : Grow [] w1.drew, x.v.cell? ⟨h, 1, none⟩ = some (.int .i64 k) := fun x => blk_cell (x.ext.heap (a := w1.drew) b1 (by simp)) 1
  have k12 : ∀ x : Grow [] w1.drew, x.v.cell? ⟨h, 2, none⟩ = some (.pointer (some ⟨g, 0, none⟩)) := fun x => blk_cell (x.ext.heap (a := w1.drew) b1 (by simp)) 2
  have HP1 := Lib.hid p1; have HF1 := Lib.hid f1; have HB1 := Lib.hid b1; have HB2 := Lib.hid b2; have HW1 := Lib.hid hw1; have HL := Lib.hid hl
  clear hp hF h1 h2 h3 p1 f1 b1 b2 b3 hw1 hl
  go_enter Try.func28, Try.ntmps28
  go_wp2
  rw [← HW1.out]
  refine wp_region_segs [] [.inl [0, 1, 2, 3, 4, 5, 6, 7, 8, 9, 10, 11], .inr (.inr 12)] (by kernel_rfl) (by kernel_rfl) (fun c a d v w h => by cases d <;> exact h) ?_
  (rw [wpSegs_inl]; simp only [pickOps, List.map_cons, List.map_nil, List.getD_cons_succ, List.getD_cons_zero]; (repeat (go_big_quiet_step (fail))); refine wpQuiet_nil ?_)
  (rw [wpSegs_last]; simp only [pickOps, List.map_cons, List.map_nil, List.getD_cons_succ, List.getD_cons_zero]; go_wp2_with (go_at_call 29; refine HL.out.mono ?_; rintro e w' ⟨rfl, mo', q1, q2⟩; have Q1 := Lib.hid q1; have Q2 := Lib.hid q2; clear q1 q2))
  rw [wpSegs_nil]
  go_end0
  have q2 := Q2.out
  refine ⟨rfl, mo', Q1.out, q2.heap HB1.out (by simp) (by decide) (by decide), q2.heap HB2.out (by simp) (by decide) (by decide), HF1.out.trans (Fr.trans (b := w1.drew) (Fr.drew (Fr.refl _ _ _)) (q2.mono (by simp)))⟩

set_option maxRecDepth 100000 in
set_option maxHeartbeats 2000000 in
theorem doSlow1 (w : World) (B b : Nat) (mo : Option Nat) (F : St) (N : Nat) (k : Int) (g h : Nat) (c : Int) (fb pbx : Nat) (hp : PinsAt w B b mo F N 0 0) (hk : (Lit.int .i64 k).wf = true) (hF : F k = some (g, c)) (hc : 1 ≤ c) (hc2 : c ≤ 100001)
    (h1 : w.heap[h]? = some (.cells (pinBlk b k g 0 0) 78 (0, 0))) (h2 : w.heap[fb]? = some (.cells #[.bool false] 4 (0, 0))) (h3 : w.heap[pbx]? = some (.cells #[.pointer (some ⟨h, 0, none⟩)] 26 (0, 0))) :
    Calls Try.prog 40 #[.pointer (some ⟨h, 3, none⟩), .func (.func 28) #[] #[.pointer (some ⟨fb, 0, none⟩), .pointer (some ⟨pbx, 0, none⟩)]] w fun e w' => e = .returned (.tuple #[]) ∧ FreeR w B b F N k g h c fb 1 0 w' := by
  have n2 : h ≠ fb := fun e => by rw [e, h2] at h1; injection h1 with h1; injection h1 with _ h1; exact absurd h1 (by decide)
  have n3 : h ≠ pbx := fun e => by rw [e, h3] at h1; injection h1 with h1; injection h1 with _ h1; exact absurd h1 (by decide)
  have a4 : w.cell? ⟨h, 4, none⟩ = some (.int .i32 0) := blk_cell h1 4
  have z4 := blk_free h1 4
  obtain ⟨w1, hw1⟩ : ∃ w1, w1 = w.setCell ⟨h, 4, none⟩ (.int .i32 1) := ⟨_, rfl⟩
  have p1 : PinsAt w1 B b mo F N 0 0 := by rw [hw1]; exact hp.other h1 (by decide) (by decide) _
  have f1 : Fr B [h, fb] w w1 := by rw [hw1]; exact (Fr.refl _ _ _).set _ (.inl (by simp))
  have b1 : w1.heap[h]? = some (.cells (pinBlk b k g 0 1) 78 (0, 0)) := by rw [hw1, blk_set h1]; rfl
  have b2 : w1.heap[fb]? = some (.cells #[.bool false] 4 (0, 0)) := by rw [hw1]; exact blk_far h2 (Ne.symm n2) _
  have b3 : w1.heap[pbx]? = some (.cells #[.pointer (some ⟨h, 0, none⟩)] 26 (0, 0)) := by rw [hw1]; exact blk_far h3 (Ne.symm n3) _
  have a3 : w1.cell? ⟨h, 3, none⟩ = some (.int .u32 0) := blk_cell b1 3
  have hl := free1 w1 B b mo F N k g h c fb pbx 0 1 p1 hk hF hc hc2 b1 b2 b3
  have HF1 := Lib.hid f1; have HW1 := Lib.hid hw1; have HL := Lib.hid hl
  clear hp hF h1 h2 h3 p1 f1 b1 b2 b3 hw1 hl
  go_enter_defers Try.func40, Try.ntmps40
  go_wp2_with (first | (go_at_call 50; refine (MuLone.lock_free Try.muLib _ _ a4 z4).mono ?_; rintro e w' ⟨rfl, rfl⟩; rw [← HW1.out]) | (go_at_call 39; refine (bload _ _ _ a3).mono ?_; rintro e w' ⟨rfl, rfl⟩) | (go_at_call 28; refine HL.out.mono ?_; rintro e w' ⟨rfl, mo', q1, q2, q3, q4⟩; have Q1 := Lib.hid q1; have Q2 := Lib.hid q2; have Q3 := Lib.hid q3; have Q4 := Lib.hid q4; clear q1 q2 q3 q4))
  refine leaves_cons (f := 59) (args := #[.pointer (some ⟨h, 3, none⟩), .bool true]) (by simp) (by simp [go_sem]) ?_
  have q2 := Q2.out
  refine (bstore ⟨h, 3, none⟩ (.int .u32 0) .returning _ (blk_cell q2 3) (blk_free q2 3)).mono ?_
  rintro e u' w'' ⟨rfl, rfl, rfl⟩
  have q5 : (w'.drew.setCell ⟨h, 3, none⟩ (.int .u32 1)).heap[h]? = some (.cells (pinBlk b k g 1 1) 78 (0, 0)) := blk_set (w := w'.drew) q2 3 _
  have p5 : PinsAt w'.drew B b mo' (downOf F k g c) N 0 0 := Q1.out.ext (Ext.drew (Ext.refl _))
  have p6 := p5.other (p := ⟨h, 3, none⟩) q2 (by decide) (by decide) (.int .u32 1)
  refine leaves_cons (f := 55) (args := #[.pointer (some ⟨h, 4, none⟩)]) (by simp [settle]) (by simp [go_sem]) ?_
  refine (MuLone.unlock_deferred Try.muLib ⟨h, 4, none⟩ _ _ (blk_cell q5 4) (blk_free q5 4)).mono ?_
  rintro e u' w'' ⟨rfl, rfl, rfl⟩
  have q3 : (w'.drew.setCell ⟨h, 3, none⟩ (.int .u32 1)).heap[fb]? = some (.cells #[.bool true] 4 (0, 0)) := blk_far (w := w'.drew) Q3.out (Ne.symm n2) _
  refine ⟨_, results_none rfl _ _ _, rfl, mo', p6.other (p := ⟨h, 4, none⟩) q5 (by decide) (by decide) _, blk_set q5 4 _, blk_far q3 (Ne.symm n2) _, ?_⟩
  exact (((HF1.out.trans Q4.out).drew).set _ (.inl (by simp))).set _ (.inl (by simp))

set_option maxRecDepth 100000 in
theorem do1 (w : World) (B b : Nat) (mo : Option Nat) (F : St) (N : Nat) (k : Int) (g h : Nat) (c : Int) (fb pbx : Nat) (hp : PinsAt w B b mo F N 0 0) (hk : (Lit.int .i64 k).wf = true) (hF : F k = some (g, c)) (hc : 1 ≤ c) (hc2 : c ≤ 100001)
    (h1 : w.heap[h]? = some (.cells (pinBlk b k g 0 0) 78 (0, 0))) (h2 : w.heap[fb]? = some (.cells #[.bool false] 4 (0, 0))) (h3 : w.heap[pbx]? = some (.cells #[.pointer (some ⟨h, 0, none⟩)] 26 (0, 0))) :
    Calls Try.prog 27 #[.pointer (some ⟨h, 3, none⟩), .func (.func 28) #[] #[.pointer (some ⟨fb, 0, none⟩), .pointer (some ⟨pbx, 0, none⟩)]] w fun e w' => e = .returned (.tuple #[]) ∧ FreeR w B b F N k g h c fb 1 0 w' := by
  have a3 : w.cell? ⟨h, 3, none⟩ = some (.int .u32 0) := blk_cell h1 3
  have HL := Lib.hid (doSlow1 w B b mo F N k g h c fb pbx hp hk hF hc hc2 h1 h2 h3)
  clear hp hF h1 h2 h3
  go_enter Try.func27, Try.ntmps27
  go_wp2_with (first | (go_at_call 40; refine HL.out.mono ?_; rintro e w' ⟨rfl, q1⟩; have Q1 := Lib.hid q1; clear q1) | (go_at_call 39; refine (bload _ _ _ a3).mono ?_; rintro e w' ⟨rfl, rfl⟩))
  go_end0
  exact ⟨rfl, Q1.out⟩
theorem do2 (w : World) (a : Addr) (fv : Value) (h3 : w.cell? a = some (.int .u32 1)) : Calls Try.prog 27 #[.pointer (some a), fv] w fun e w' => e = .returned (.tuple #[]) ∧ w = w' := by
  go_enter Try.func27, Try.ntmps27
  go_wp2_with (go_at_call 39; refine (bload _ _ _ h3).mono ?_; rintro e w' ⟨rfl, rfl⟩)
  go_end0
  exact ⟨rfl, rfl⟩

def Freed (w : World) (B b : Nat) (F : St) (N : Nat) (k : Int) (g h : Nat) (c : Int) (e : Ending) (w' : World) : Prop :=
  e = .returned (.bool true) ∧ ∃ mo', PinsAt w' B b mo' (downOf F k g c) N 0 0 ∧ w'.heap[h]? = some (.cells (pinBlk b k g 1 0) 78 (0, 0)) ∧ Fr B [h] w w'

set_option maxRecDepth 100000 in
set_option maxHeartbeats 2000000 in
/-- Free, the first time. -/
theorem free_first (w : World) (B b : Nat) (mo : Option Nat) (F : St) (N : Nat) (k : Int) (g h : Nat) (c : Int) (hp : PinsAt w B b mo F N 0 0) (hk : (Lit.int .i64 k).wf = true) (hF : F k = some (g, c)) (hc : 1 ≤ c) (hc2 : c ≤ 100001)
    (h1 : w.heap[h]? = some (.cells (pinBlk b k g 0 0) 78 (0, 0))) : Calls Try.prog 12 #[.pointer (some ⟨h, 0, none⟩)] w (Freed w B b F N k g h c) := by
  obtain ⟨W, hW⟩ : ∃ W, W = (w.alloc (.cells #[.pointer (some ⟨h, 0, none⟩)] 26)).alloc (.cells #[.bool false] 4) := ⟨_, rfl⟩
  have x : Ext w W := by rw [hW]; exact Ext.alloc (Ext.alloc (Ext.refl _) _) _
  obtain ⟨y1, y2⟩ := heap_new2 w (.cells #[.pointer (some ⟨h, 0, none⟩)] 26) (.cells #[.bool false] 4)
  rw [← hW] at y1 y2
  have a0 : w.cell? ⟨h, 0, none⟩ = some (.pointer (some ⟨b, 0, none⟩)) := blk_cell h1 0
  have lh := blk_lt h1
  have HL := Lib.hid (do1 W B b mo F N k g h c _ _ (hp.ext x) hk hF hc hc2 (x.heap h1) y2 y1)
  have HX := Lib.hid x; have HW := Lib.hid hW
  clear hp hF h1 x hW y1 y2
  have hmf := hmf
  go_enter Try.func12, Try.ntmps12
  go_wp2_with (go_at_call 27; rw [← HW.out]; refine HL.out.mono ?_; rintro e w' ⟨rfl, mo', q1, q2, q3, q4⟩; have c1 : w'.cell? ⟨w.heap.size + 1, 0, none⟩ = some (.bool true) := blk_cell q3 0; have Q1 := Lib.hid q1; have Q2 := Lib.hid q2; have Q4 := Lib.hid q4; clear q1 q2 q3 q4)
  go_ret
  exact ⟨rfl, mo', Q1.out, Q2.out, ((Fr.of_ext HX.out B _).trans Q4.out).new (by simp)⟩

set_option maxRecDepth 100000 in
set_option maxHeartbeats 2000000 in
/-- Free, later. -/
theorem free_again (w : World) (b : Nat) (k : Int) (g h : Nat) (h1 : w.heap[h]? = some (.cells (pinBlk b k g 1 0) 78 (0, 0))) : Calls Try.prog 12 #[.pointer (some ⟨h, 0, none⟩)] w fun e w' => e = .returned (.bool false) ∧ Ext w w' := by
  have a0 : w.cell? ⟨h, 0, none⟩ = some (.pointer (some ⟨b, 0, none⟩)) := blk_cell h1 0
  have lh := blk_lt h1
  have x : Ext w ((w.alloc (.cells #[.pointer (some ⟨h, 0, none⟩)] 26)).alloc (.cells #[.bool false] 4)) := Ext.alloc (Ext.alloc (Ext.refl _) _) _
  have h4 : ((w.alloc (.cells #[.pointer (some ⟨h, 0, none⟩)] 26)).alloc (.cells #[.bool false] 4)).cell? ⟨h, 3, none⟩ = some (.int .u32 1) := blk_cell (x.heap h1) 3
  have HX := Lib.hid x
  clear h1 x
  have hmf := hmf
  go_enter Try.func12, Try.ntmps12
  go_wp2_with (go_at_call 27; refine (do2 _ _ _ h4).mono ?_; rintro e w' ⟨rfl, rfl⟩)
  go_ret
  exact ⟨rfl, HX.out⟩

theorem key_any (w : World) (b : Nat) (k : Int) (g h : Nat) (d m : Int) (h1 : w.heap[h]? = some (.cells (pinBlk b k g d m) 78 (0, 0))) : Calls Try.prog 16 #[.pointer (some ⟨h, 0, none⟩)] w fun e w' => e = .returned (.int .i64 k) ∧ w = w' := by
  have a0 : w.cell? ⟨h, 1, none⟩ = some (.int .i64 k) := blk_cell h1 1
  clear h1
  go_enter Try.func16, Try.ntmps16
  go_wp2
  go_ret
  exact ⟨rfl, rfl⟩
end Go.Proofs.Yteeeabmfebofiaa
