/- Take and Shut of Pins, whole. -/
import Derived.Test.YteeeabmfebofiaaChange
namespace Go.Proofs.Yteeeabmfebofiaa
open Go.RowKit Go.ChangeMaps Go.Maps
set_option linter.unusedVariables false

/-- Behind Take's closure: the hold lies in a new block, and in the closure's variable. -/
def TakeR (B b : Nat) (k : Int) (g hbx : Nat) (w1 w2 : World) : Prop :=
  ∃ h, w2.heap[hbx]? = some (.cells #[.pointer (some ⟨h, 0, none⟩)] 26 (0, 0)) ∧ w2.heap[h]? = some (.cells (newPin b k g) 78 (0, 0)) ∧ w1.heap.size ≤ h ∧ Fr B [hbx] w1 w2

theorem take1_R (w : World) (B b : Nat) (mo : Option Nat) (F : St) (N : Nat) (s rc : Int) (g pbx kbx hbx : Nat) (k c : Int) (h : PinsAt w B b mo F N s rc) (hF : F k = some (g, c)) (hb1 : 0 ≤ c) (hb2 : c ≤ 100000)
    (h1 : w.heap[pbx]? = some (.cells #[.pointer (some ⟨b, 0, none⟩)] 23 (0, 0))) (h2 : w.heap[kbx]? = some (.cells #[.int .i64 k] 2 (0, 0))) (h3 : w.heap[hbx]? = some (.cells #[.pointer none] 26 (0, 0))) :
    Calls Try.prog 24 #[.pointer (some ⟨g, 0, none⟩), .pointer (some ⟨pbx, 0, none⟩), .pointer (some ⟨kbx, 0, none⟩), .pointer (some ⟨hbx, 0, none⟩)] w fun e w2 => e = .returned (.tuple #[]) ∧
      (TakeR B b k g hbx w w2 ∧ PinsAt w2 B b mo (upd F k (some (g, c + 1))) N s rc) := by
  obtain ⟨hg, hB⟩ := h.cnt k g c hF
  refine (take1_ok w b g pbx kbx hbx k c (by omega) hb1 hb2 hg h1 h2 h3).mono ?_
  rintro e w2 ⟨rfl, rfl⟩
  have n3 : hbx ≠ g := fun e => by rw [e, hg] at h3; injection h3 with h3; injection h3 with _ h3; exact absurd h3 (by decide)
  have a3 := blk_far h3 (p := ⟨g, 0, none⟩) n3 (.int .i64 (c + 1))
  have hp := h.count hF (c + 1)
  have hp2 := hp.other (p := ⟨hbx, 0, none⟩) a3 (by decide) (by decide) (.pointer (some ⟨w.heap.size, 0, none⟩))
  refine ⟨rfl, ⟨w.heap.size, ?_, ?_, Nat.le_refl _, ?_⟩, hp2.ext (Ext.alloc (Ext.refl _) _)⟩
  · rw [Below.heap_alloc _ _ _ (by have := blk_lt h3; simp; omega), blk_set a3]; rfl
  · have := heap_alloc_new ((w.setCell ⟨g, 0, none⟩ (.int .i64 (c + 1))).setCell ⟨hbx, 0, none⟩ (.pointer (some ⟨w.heap.size, 0, none⟩))) (.cells (newPin b k g) 78)
    simpa using this
  · exact (((Fr.refl B [hbx] w).set _ (.inr ⟨hB, _, 87, _, hg, .inr rfl⟩)).set _ (.inl (by simp))).alloc _

def cntOf (F : St) (k : Int) : Int := match F k with | none => 0 | some (_, c) => c
def Took (w : World) (B b : Nat) (F : St) (N : Nat) (k : Int) (e : Ending) (w' : World) : Prop :=
  ∃ h g mo', e = .returned (.tuple #[.pointer (some ⟨h, 0, none⟩), .int .i64 0]) ∧ w'.heap[h]? = some (.cells (newPin b k g) 78 (0, 0)) ∧ w.heap.size ≤ h ∧ (∀ g0 c0, F k = some (g0, c0) → g0 = g) ∧
    PinsAt w' B b mo' (upd F k (some (g, cntOf F k + 1))) (N + 1) 0 0 ∧ Fr B [] w w'

theorem PinsAt.more {w : World} {B b : Nat} {mo : Option Nat} {F : St} {N M : Nat} {s rc : Int} (h : PinsAt w B b mo F N s rc) (hM : N ≤ M) : PinsAt w B b mo F M s rc := by
  refine ⟨h.blk, ?_, h.cnt, h.inj, h.low, h.lowm⟩
  rcases h.map with h0 | ⟨mb, D, rfl, hown, ht⟩
  · exact .inl h0
  · exact .inr ⟨mb, D, rfl, hown.mono hM, ht⟩

/-- The world behind change in Take. -/
def TookIn (w : World) (B b : Nat) (F : St) (N : Nat) (k : Int) (hbx : Nat) (w' : World) : Prop :=
  ∃ h g mo', w'.heap[hbx]? = some (.cells #[.pointer (some ⟨h, 0, none⟩)] 26 (0, 0)) ∧ w'.heap[h]? = some (.cells (newPin b k g) 78 (0, 0)) ∧ w.heap.size ≤ h ∧ (∀ g0 c0, F k = some (g0, c0) → g0 = g) ∧
    PinsAt w' B b mo' (upd F k (some (g, cntOf F k + 1))) (N + 1) 0 0 ∧ Fr B [hbx] w w'
theorem take_change (w : World) (B b : Nat) (mo : Option Nat) (F : St) (N : Nat) (k : Int) (pbx kbx hbx : Nat) (h : PinsAt w B b mo F N 0 0) (hk : (Lit.int .i64 k).wf = true) (hN : N ≤ 100000) (hc : ∀ g c, F k = some (g, c) → 1 ≤ c ∧ c ≤ 100000) (hB : B ≤ w.heap.size)
    (h1 : w.heap[pbx]? = some (.cells #[.pointer (some ⟨b, 0, none⟩)] 23 (0, 0))) (h2 : w.heap[kbx]? = some (.cells #[.int .i64 k] 2 (0, 0))) (h3 : w.heap[hbx]? = some (.cells #[.pointer none] 26 (0, 0))) :
    Calls Try.prog 23 #[.pointer (some ⟨b, 0, none⟩), .int .i64 k, .func (.func 24) #[] #[.pointer (some ⟨pbx, 0, none⟩), .pointer (some ⟨kbx, 0, none⟩), .pointer (some ⟨hbx, 0, none⟩)]] w fun e w' => e = .returned (.tuple #[]) ∧ TookIn w B b F N k hbx w' := by
  cases hF : F k with
  | some gc =>
    obtain ⟨g, c⟩ := gc
    obtain ⟨c1, c2⟩ := hc g c hF
    have fr1 : Fr B [hbx] w (w.setCell ⟨b, 4, none⟩ (.int .i32 1)) := (Fr.refl B [hbx] w).set _ (.inr ⟨h.low, _, 69, _, h.blk, .inl rfl⟩)
    refine (change_take_there w B b mo F (upd F k (some (g, c + 1))) N k g c _ _ _ (fun w2 => TakeR B b k g hbx (w.setCell ⟨b, 4, none⟩ (.int .i32 1)) w2 ∧ PinsAt w2 B b mo (upd F k (some (g, c + 1))) N 0 1) h hk hF ?_).mono ?_
    · rintro w1 hp1 rfl
      refine (take1_R _ B b mo F N 0 1 g pbx kbx hbx k c hp1 hF (by omega) c2 (fr1.heap h1 ?_ (by decide) (by decide)) (fr1.heap h2 ?_ (by decide) (by decide)) (blk_far h3 ?_ _)).mono fun e w2 ⟨he, hr, hp⟩ => ⟨he, ⟨hr, hp⟩, hp⟩
      · simp; rintro rfl; rw [h1] at h3; cases h3
      · simp; rintro rfl; rw [h2] at h3; cases h3
      · exact (h.apart h3).2 (by decide)
    · rintro e w' ⟨rfl, w2, ⟨⟨hh, a1, a2, a3, a4⟩, hp2⟩, rfl⟩
      refine ⟨rfl, hh, g, mo, blk_far a1 ((hp2.apart a1).2 (by decide)) _, blk_far a2 ((hp2.apart a2).2 (by decide)) _, by simpa using a3, ?_, ?_, ?_⟩
      · intro g0 c0 e; rw [hF] at e; injection e with e; injection e with e _; exact e.symm
      · have : cntOf F k = c := by unfold cntOf; rw [hF]
        rw [this]
        exact (hp2.cell (pb_rc _ _ _ _)).more (by omega)
      · exact (fr1.trans a4).set _ (.inr ⟨hp2.low, _, 69, _, hp2.blk, .inl rfl⟩)
  | none =>
    refine (change_take_new w B b mo F N k 1 _ _ _ (fun mb g w2 => w.heap.size ≤ g ∧ PinsAt w2 B b (some mb) (upd F k (some (g, 1))) (N + 1) 1 (-1073741824) ∧ ∃ w1, Fr B [] w w1 ∧ TakeR B b k g hbx w1 w2) h hN hk hF (by decide) hB ?_).mono ?_
    · intro mb g w1 hp1 fr1 hg
      have key : ∀ {i : Nat} {cs : Array Value} {t : TypeId} {z : Nat × Nat}, w.heap[i]? = some (.cells cs t z) → t ≠ 69 → t ≠ 87 → w1.heap[i]? = some (.cells cs t z) := fun hi h1 h2 => fr1.heap hi (by simp) h1 h2
      refine (take1_R _ B b (some mb) _ (N + 1) _ _ g pbx kbx hbx k 0 hp1 (upd_same _ _ _) (by omega) (by omega) (key h1 (by decide) (by decide)) (key h2 (by decide) (by decide)) (key h3 (by decide) (by decide))).mono fun e w2 ⟨he, hr, hp⟩ => ?_
      rw [upd_twice] at hp
      exact ⟨he, ⟨hg, hp, w1, fr1, hr⟩, hp⟩
    · rintro e w' ⟨rfl, mb, g, w2, ⟨hg, hp2, w1, fr1, hh, a1, a2, a3, a4⟩, rfl⟩
      have b1 := blk_far a1 (p := ⟨b, 4, none⟩) ((hp2.apart a1).2 (by decide)) (.int .i32 0)
      have b2 := blk_far a2 (p := ⟨b, 4, none⟩) ((hp2.apart a2).2 (by decide)) (.int .i32 0)
      have hp3 := hp2.cell (pb_rc _ _ 0 _)
      refine ⟨rfl, hh, g, some mb, blk_far b1 ((hp3.apart b1).2 (by decide)) _, blk_far b2 ((hp3.apart b2).2 (by decide)) _, by have := fr1.size; omega, ?_, ?_, ?_⟩
      · intro g0 c0 e; rw [hF] at e; cases e
      · have : cntOf F k = 0 := by unfold cntOf; rw [hF]
        rw [this]
        exact hp3.cell (pb_st _ _ _ _)
      · exact ((((fr1.mono (by simp)).trans a4).set _ (.inr ⟨hp2.low, _, 69, _, hp2.blk, .inl rfl⟩)).set _ (.inr ⟨hp2.low, _, 69, _, hp3.blk, .inl rfl⟩))

set_option maxRecDepth 100000 in
set_option maxHeartbeats 2000000 in
theorem take_any (w : World) (B b : Nat) (mo : Option Nat) (F : St) (N : Nat) (k : Int) (h : PinsAt w B b mo F N 0 0) (hk : (Lit.int .i64 k).wf = true) (hN : N ≤ 100000) (hc : ∀ g c, F k = some (g, c) → 1 ≤ c ∧ c ≤ 100000) (hB : B ≤ w.heap.size) :
    Calls Try.prog 11 #[.pointer (some ⟨b, 0, none⟩), .int .i64 k] w (Took w B b F N k) := by
  obtain ⟨W, hW⟩ : ∃ W, W = ((w.alloc (.cells #[.pointer (some ⟨b, 0, none⟩)] 23)).alloc (.cells #[.int .i64 k] 2)).alloc (.cells #[.pointer none] 26) := ⟨_, rfl⟩
  have x : Ext w W := by rw [hW]; exact Ext.alloc (Ext.alloc (Ext.alloc (Ext.refl _) _) _) _
  obtain ⟨y1, y2⟩ := heap_new2 w (.cells #[.pointer (some ⟨b, 0, none⟩)] 23) (.cells #[.int .i64 k] 2)
  have h1 : W.heap[w.heap.size]? = some (.cells #[.pointer (some ⟨b, 0, none⟩)] 23 (0, 0)) := by rw [hW, Below.heap_alloc _ _ _ (by simp; omega)]; exact y1
  have h2 : W.heap[w.heap.size + 1]? = some (.cells #[.int .i64 k] 2 (0, 0)) := by rw [hW, Below.heap_alloc _ _ _ (by simp)]; exact y2
  have h3 : W.heap[w.heap.size + 1 + 1]? = some (.cells #[.pointer none] 26 (0, 0)) := by
    have := heap_alloc_new ((w.alloc (.cells #[.pointer (some ⟨b, 0, none⟩)] 23)).alloc (.cells #[.int .i64 k] 2)) (.cells #[.pointer none] 26)
    rw [hW]; simpa using this
  have hch := take_change W B b mo F N k _ _ _ (h.ext x) hk hN hc (Nat.le_trans hB x.size) h1 h2 h3
  have HC := Lib.hid hch; have HW := Lib.hid hW; have HX := Lib.hid x
  clear hch h h1 h2 h3 y1 y2 hW x hc
  have hmf := hmf
  go_enter Try.func11, Try.ntmps11
  go_wp2_with (go_at_call 23; rw [← HW.out]; refine HC.out.mono ?_; rintro e w' ⟨rfl, hh, g, mo', q1, q2, q3, q4, q5, q6⟩; have c1 : w'.cell? ⟨w.heap.size + 1 + 1, 0, none⟩ = some (.pointer (some ⟨hh, 0, none⟩)) := blk_cell q1 0; have Q2 := Lib.hid q2; have Q3 := Lib.hid q3; have Q4 := Lib.hid q4; have Q5 := Lib.hid q5; have Q6 := Lib.hid q6; clear q1 q2 q3 q4 q5 q6)
  go_ret2
  have hx := HX.out
  refine ⟨hh, g, mo', rfl, Q2.out, by have := hx.size; have := Q3.out; omega, Q4.out, Q5.out, ((Fr.of_ext hx B [w.heap.size + 1 + 1]).trans Q6.out).new ?_⟩
  intro i hi
  simp at hi
  omega

def Stays (w : World) (B b : Nat) (F : St) (N : Nat) (v : Value) (e : Ending) (w' : World) : Prop := e = .returned v ∧ ∃ mo', PinsAt w' B b mo' F N 0 0 ∧ Fr B [] w w'

set_option maxRecDepth 100000 in
set_option maxHeartbeats 2000000 in
/-- Take of a key that is shut. -/
theorem take_shut (w : World) (B b : Nat) (mo : Option Nat) (F : St) (N : Nat) (k : Int) (g : Nat) (h : PinsAt w B b mo F N 0 0) (hk : (Lit.int .i64 k).wf = true) (hF : F k = some (g, -1)) :
    Calls Try.prog 11 #[.pointer (some ⟨b, 0, none⟩), .int .i64 k] w (Stays w B b F N (.tuple #[.pointer none, .int .i64 15])) := by
  obtain ⟨W, hW⟩ : ∃ W, W = ((w.alloc (.cells #[.pointer (some ⟨b, 0, none⟩)] 23)).alloc (.cells #[.int .i64 k] 2)).alloc (.cells #[.pointer none] 26) := ⟨_, rfl⟩
  have x : Ext w W := by rw [hW]; exact Ext.alloc (Ext.alloc (Ext.alloc (Ext.refl _) _) _) _
  have hx := h.ext x
  have h3 : W.heap[w.heap.size + 1 + 1]? = some (.cells #[.pointer none] 26 (0, 0)) := by
    have := heap_alloc_new ((w.alloc (.cells #[.pointer (some ⟨b, 0, none⟩)] 23)).alloc (.cells #[.int .i64 k] 2)) (.cells #[.pointer none] 26)
    rw [hW]; simpa using this
  have hch := change_take_there W B b mo F F N k g (-1) (.pointer (some ⟨w.heap.size, 0, none⟩)) (.pointer (some ⟨w.heap.size + 1, 0, none⟩)) (.pointer (some ⟨w.heap.size + 1 + 1, 0, none⟩)) (fun w2 => w2 = W.setCell ⟨b, 4, none⟩ (.int .i32 1)) hx hk hF (by
    rintro w1 hp1 rfl
    exact (take1_shut _ g _ _ _ (hp1.cnt k g _ hF).1).mono fun e w2 ⟨he, hw⟩ => ⟨he, hw, hw ▸ hp1⟩)
  have hend : (W.setCell ⟨b, 4, none⟩ (.int .i32 1)).setCell ⟨b, 4, none⟩ (.int .i32 0) = W := by rw [setCell_twice]; exact setCell_self (blk_cell hx.blk 4)
  have c1 : W.cell? ⟨w.heap.size + 1 + 1, 0, none⟩ = some (.pointer none) := blk_cell h3 0
  have HC := Lib.hid hch; have HW := Lib.hid hW; have HX := Lib.hid x; have HE := Lib.hid hend; have HP := Lib.hid hx
  clear hch h h3 hW x hF hx hend
  have hmf := hmf
  go_enter Try.func11, Try.ntmps11
  go_wp2_with (go_at_call 23; rw [← HW.out]; refine HC.out.mono ?_; rintro e w' ⟨rfl, w2, rfl, rfl⟩; rw [HE.out])
  go_ret2
  exact ⟨rfl, mo, HP.out, Fr.of_ext HX.out B []⟩

set_option maxRecDepth 100000 in
set_option maxHeartbeats 2000000 in
/-- Shut of a key that is held, or shut. -/
theorem shut_stays (w : World) (B b : Nat) (mo : Option Nat) (F : St) (N : Nat) (k : Int) (g : Nat) (c : Int) (h : PinsAt w B b mo F N 0 0) (hk : (Lit.int .i64 k).wf = true) (hF : F k = some (g, c)) (hc : c ≠ 0) :
    Calls Try.prog 14 #[.pointer (some ⟨b, 0, none⟩), .int .i64 k] w (Stays w B b F N (.bool (decide (c = -1)))) := by
  obtain ⟨bv, hbv⟩ : ∃ bv, bv = decide (c = -1) := ⟨_, rfl⟩
  rw [← hbv]
  obtain ⟨W, hW⟩ : ∃ W, W = w.alloc (.cells #[.bool false] 4) := ⟨_, rfl⟩
  have x : Ext w W := by rw [hW]; exact Ext.alloc (Ext.refl _) _
  have hx := h.ext x
  have h3 : W.heap[w.heap.size]? = some (.cells #[.bool false] 4 (0, 0)) := by rw [hW]; exact heap_alloc_new _ _
  have nb : w.heap.size ≠ b := by have := blk_lt h.blk; omega
  have hch := change_shut_there W B b mo F F N k g c (.pointer (some ⟨w.heap.size, 0, none⟩)) (fun w2 => w2 = (W.setCell ⟨b, 4, none⟩ (.int .i32 1)).setCell ⟨w.heap.size, 0, none⟩ (.bool bv)) hx hk hF (by
    rintro w1 hp1 rfl
    have f3 := blk_far h3 (p := ⟨b, 4, none⟩) nb (.int .i32 1)
    exact (shut1_else _ g _ c hc (hp1.cnt k g _ hF).1 f3).mono fun e w2 ⟨he, hw⟩ => ⟨he, by rw [hbv]; exact hw, hw ▸ hp1.other f3 (by decide) (by decide) _⟩)
  obtain ⟨W', hW'⟩ : ∃ W', W' = ((W.setCell ⟨b, 4, none⟩ (.int .i32 1)).setCell ⟨w.heap.size, 0, none⟩ (.bool bv)).setCell ⟨b, 4, none⟩ (.int .i32 0) := ⟨_, rfl⟩
  have f3 := blk_far h3 (p := ⟨b, 4, none⟩) nb (.int .i32 1)
  have hp2 := (hx.cell (pb_rc _ _ 1 _)).other (p := ⟨w.heap.size, 0, none⟩) f3 (by decide) (by decide) (.bool bv)
  have hp3 : PinsAt W' B b mo F N 0 0 := by rw [hW']; exact hp2.cell (pb_rc _ _ _ _)
  have f4 : W'.heap[w.heap.size]? = some (.cells #[.bool bv] 4 (0, 0)) := by rw [hW']; exact blk_far (by rw [blk_set f3]; rfl) nb _
  have fr : Fr B [] w W' := by
    rw [hW']
    refine Fr.new (X := [w.heap.size]) ((((Fr.of_ext x B _).set _ (.inr ⟨h.low, _, 69, _, hx.blk, .inl rfl⟩)).set _ (.inl (by simp))).set _ (.inr ⟨h.low, _, 69, _, hp2.blk, .inl rfl⟩)) (by simp)
  have c1 : W'.cell? ⟨w.heap.size, 0, none⟩ = some (.bool bv) := blk_cell f4 0
  have HC := Lib.hid hch; have HW := Lib.hid hW; have HE := Lib.hid hW'; have HP := Lib.hid hp3; have HFR := Lib.hid fr
  clear hch h h3 hW x hF hx hp2 hp3 f3 f4 fr hW' hbv hc
  have hmf := hmf
  go_enter Try.func14, Try.ntmps14
  go_wp2_with (go_at_call 23; rw [← HW.out]; refine HC.out.mono ?_; rintro e w' ⟨rfl, w2, rfl, rfl⟩; rw [← HE.out])
  go_ret
  exact ⟨rfl, mo, HP.out, HFR.out⟩

def Shutted (w : World) (B b : Nat) (F : St) (N : Nat) (k : Int) (e : Ending) (w' : World) : Prop := e = .returned (.bool true) ∧ ∃ mo' g, PinsAt w' B b mo' (upd F k (some (g, -1))) (N + 1) 0 0 ∧ Fr B [] w w'
def ShutIn (w : World) (B b : Nat) (F : St) (N : Nat) (k : Int) (dbx : Nat) (w' : World) : Prop := w'.heap[dbx]? = some (.cells #[.bool true] 4 (0, 0)) ∧ ∃ mo' g, PinsAt w' B b mo' (upd F k (some (g, -1))) (N + 1) 0 0 ∧ Fr B [dbx] w w'
theorem shut_change (w : World) (B b : Nat) (mo : Option Nat) (F : St) (N : Nat) (k : Int) (dbx : Nat) (h : PinsAt w B b mo F N 0 0) (hk : (Lit.int .i64 k).wf = true) (hF : F k = none) (hN : N ≤ 100000) (hB : B ≤ w.heap.size)
    (h3 : w.heap[dbx]? = some (.cells #[.bool false] 4 (0, 0))) :
    Calls Try.prog 23 #[.pointer (some ⟨b, 0, none⟩), .int .i64 k, .func (.func 32) #[] #[.pointer (some ⟨dbx, 0, none⟩)]] w fun e w' => e = .returned (.tuple #[]) ∧ ShutIn w B b F N k dbx w' := by
  refine (change_shut_new w B b mo F N k (-1) _ (fun mb g w2 => PinsAt w2 B b (some mb) (upd F k (some (g, -1))) (N + 1) 1 (-1073741824) ∧ w2.heap[dbx]? = some (.cells #[.bool true] 4 (0, 0)) ∧ Fr B [dbx] w w2) h hN hk hF (by decide) hB ?_).mono ?_
  · intro mb g w1 hp1 fr1 hg
    have a3 := fr1.heap h3 (by simp) (by decide) (by decide)
    obtain ⟨hg1, hB1⟩ := hp1.cnt k g 0 (upd_same _ _ _)
    refine (shut1_zero w1 g dbx hg1 a3).mono ?_
    rintro e w2 ⟨rfl, rfl⟩
    have n3 : dbx ≠ g := fun e => by rw [e, hg1] at a3; injection a3 with a3; injection a3 with _ a3; exact absurd a3 (by decide)
    have b3 := blk_far a3 (p := ⟨g, 0, none⟩) n3 (.int .i64 (-1))
    have hp := hp1.count (upd_same _ _ _) (-1)
    rw [upd_twice] at hp
    have hp2 := hp.other (p := ⟨dbx, 0, none⟩) b3 (by decide) (by decide) (.bool true)
    exact ⟨rfl, ⟨hp2, by rw [blk_set b3]; rfl, ((fr1.mono (by simp)).set _ (.inr ⟨hB1, _, 87, _, hg1, .inr rfl⟩)).set _ (.inl (by simp))⟩, hp2⟩
  · rintro e w' ⟨rfl, mb, g, w2, ⟨hp2, a1, a4⟩, rfl⟩
    have b1 := blk_far a1 (p := ⟨b, 4, none⟩) ((hp2.apart a1).2 (by decide)) (.int .i32 0)
    have hp3 := hp2.cell (pb_rc _ _ 0 _)
    exact ⟨rfl, blk_far b1 ((hp3.apart b1).2 (by decide)) _, some mb, g, hp3.cell (pb_st _ _ _ _), (a4.set _ (.inr ⟨hp2.low, _, 69, _, hp2.blk, .inl rfl⟩)).set _ (.inr ⟨hp2.low, _, 69, _, hp3.blk, .inl rfl⟩)⟩

set_option maxRecDepth 100000 in
set_option maxHeartbeats 2000000 in
/-- Shut of a key that nobody holds. -/
theorem shut_free (w : World) (B b : Nat) (mo : Option Nat) (F : St) (N : Nat) (k : Int) (h : PinsAt w B b mo F N 0 0) (hk : (Lit.int .i64 k).wf = true) (hF : F k = none) (hN : N ≤ 100000) (hB : B ≤ w.heap.size) :
    Calls Try.prog 14 #[.pointer (some ⟨b, 0, none⟩), .int .i64 k] w (Shutted w B b F N k) := by
  obtain ⟨W, hW⟩ : ∃ W, W = w.alloc (.cells #[.bool false] 4) := ⟨_, rfl⟩
  have x : Ext w W := by rw [hW]; exact Ext.alloc (Ext.refl _) _
  have h3 : W.heap[w.heap.size]? = some (.cells #[.bool false] 4 (0, 0)) := by rw [hW]; exact heap_alloc_new _ _
  have hch := shut_change W B b mo F N k _ (h.ext x) hk hF hN (Nat.le_trans hB x.size) h3
  have HC := Lib.hid hch; have HW := Lib.hid hW; have HX := Lib.hid x
  clear hch h h3 hW x hF
  have hmf := hmf
  go_enter Try.func14, Try.ntmps14
  go_wp2_with (go_at_call 23; rw [← HW.out]; refine HC.out.mono ?_; rintro e w' ⟨rfl, q1, mo', g, q2, q3⟩; have c1 : w'.cell? ⟨w.heap.size, 0, none⟩ = some (.bool true) := blk_cell q1 0; have Q2 := Lib.hid q2; have Q3 := Lib.hid q3; clear q1 q2 q3)
  go_ret
  exact ⟨rfl, mo', g, Q2.out, ((Fr.of_ext HX.out B [w.heap.size]).trans Q3.out).new (by simp)⟩

/-- New. -/
theorem new_any (w : World) (B : Nat) (hB : B ≤ w.heap.size) : Calls Try.prog 10 #[] w fun e w' => e = .returned (.pointer (some ⟨w.heap.size, 0, none⟩)) ∧ w' = w.alloc (.cells (pb 0 0 none) 69) := by
  go_enter Try.func10, Try.ntmps10
  go_wp2
  go_ret
  exact ⟨rfl, rfl⟩
theorem new_pins (w : World) (B : Nat) (hB : B ≤ w.heap.size) : PinsAt (w.alloc (.cells (pb 0 0 none) 69)) B w.heap.size none (fun _ => none) 0 0 0 :=
  ⟨heap_alloc_new _ _, .inl ⟨rfl, fun _ => rfl⟩, (fun _ _ _ e => by cases e), (fun _ _ _ _ _ e => by cases e), hB, (fun _ e => by cases e)⟩
end Go.Proofs.Yteeeabmfebofiaa
