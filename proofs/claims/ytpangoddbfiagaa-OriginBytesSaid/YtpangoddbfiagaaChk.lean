/- The checks of texts, tags and spans, walked: the program's and the reference's (printed by gen_chk.py). -/
import Derived.Test.YtpangoddbfiagaaProg
import Derived.Test.YtpangoddbfiagaaKit
import Derived.Test.YtpangoddbfiagaaSeg
import Derived.Test.YtpangoddbfiagaaSegR
import Derived.WalkKit
import Derived.WalkSpells
import Derived.WalkLawsBesides
import Derived.Deep.QuietTactic
import Derived.BigQuiet
import Derived.BigRegion
import Derived.Lib.Hide
import Derived.Laws.Rows
namespace Go.Proofs.Ytpangoddbfiagaa
open Go.RowKit
set_option linter.unusedVariables false
set_option linter.unusedSimpArgs false

abbrev Bs := List UInt8
def byteB (c : UInt8) : Bool := decide (33 ≤ c.toNat) && decide (c.toNat ≤ 126)
def tagByte (c : UInt8) : Bool := byteB c && !decide (c.toNat = 34)
def tenByte (c : UInt8) : Bool := (decide (97 ≤ c.toNat) && decide (c.toNat ≤ 122)) || (decide (65 ≤ c.toNat) && decide (c.toNat ≤ 90)) || (decide (48 ≤ c.toNat) && decide (c.toNat ≤ 57)) || decide (c.toNat = 45) || decide (c.toNat = 95)
def first47 (t : Bs) : Bool := match t with | [] => false | c :: _ => decide (c.toNat = 47)
def first45 (t : Bs) : Bool := match t with | [] => false | c :: _ => decide (c.toNat = 45)
def objB (t : Bs) : Bool := decide (1 ≤ t.length) && decide (t.length ≤ 200) && first47 t && t.all byteB
def keyB (t : Bs) : Bool := decide (1 ≤ t.length) && decide (t.length ≤ 200) && t.all byteB
def tagB (t : Bs) : Bool := decide (1 ≤ t.length) && decide (t.length ≤ 100) && t.all tagByte
def tenB (t : Bs) : Bool := decide (t.length ≤ 40) && !first45 t && t.all tenByte
theorem all_bad {f : UInt8 → Bool} {t : Bs} {j : Nat} (hj : j < t.length) (hb : f t[j] = false) : t.all f = false := by
  rw [List.all_eq_false]
  exact ⟨t[j], by simp, by simp [hb]⟩
theorem all_good {f : UInt8 → Bool} {t : Bs} {j : Nat} (hj : j < t.length) (h : (t.take j).all f = true) (hb : f t[j] = true) : (t.take (j + 1)).all f = true := by
  rw [List.take_succ_eq_append_getElem hj, List.all_append, h]; simp [hb]
theorem first47_of {t : Bs} (h : 0 < t.length) : first47 t = decide ((t[0].toNat : Int) = 47) := by
  cases t with
  | nil => simp at h
  | cons c r => simp [first47]; omega
theorem first45_of {t : Bs} (h : 0 < t.length) : first45 t = decide ((t[0].toNat : Int) = 45) := by
  cases t with
  | nil => simp at h
  | cons c r => simp [first45]; omega

set_option maxRecDepth 100000 in
set_option maxHeartbeats 1000000 in
theorem obj_any (t : Bs) (w : World) (ht : t.length ≤ 1000000) : Calls Try.prog 35 #[.string ⟨t.toArray⟩] w fun e w' => e = .returned (.bool (objB t)) ∧ w = w' := by
  by_cases h1 : t.length < 1
  · have e0 : objB t = false := by unfold objB; rw [decide_eq_false (by omega)]; rfl
    rw [e0]
    go_enter Try.func35, Try.ntmps35
    go_wp2
    go_ret
    exact ⟨rfl, rfl⟩
  by_cases h2 : 200 < t.length
  · have e0 : objB t = false := by unfold objB; rw [decide_eq_false (p := t.length ≤ 200) (by omega)]; simp
    rw [e0]
    go_enter Try.func35, Try.ntmps35
    go_wp2
    go_ret
    exact ⟨rfl, rfl⟩
  by_cases h3 : ((((⟨t.toArray⟩ : ByteArray)[0]'(by simp [ByteArray.size]; omega)).toNat : Int) != 47) = true
  · have e0 : objB t = false := by unfold objB; rw [first47_of (by omega), decide_eq_false (p := (t[0].toNat : Int) = 47) (bne_iff_ne.1 h3)]; simp
    rw [e0]
    go_enter Try.func35, Try.ntmps35
    go_wp2
    go_ret
    exact ⟨rfl, rfl⟩
  · have h3' := Bool.eq_false_iff.2 h3
    have e0 : objB t = t.all byteB := by unfold objB; rw [first47_of (by omega), decide_eq_true (p := t.length ≤ 200) (by omega), decide_eq_true (p := 1 ≤ t.length) (by omega), decide_eq_true (p := (t[0].toNat : Int) = 47) (bne_eq_false_iff_eq.1 h3')]; rfl
    rw [e0]
    clear e0 h3
    go_enter Try.func35, Try.ntmps35
    go_wp2
    go_loop [19, 3] (fun i _ => ∃ j : Nat, j ≤ t.length ∧ i = .int .i64 j ∧ (t.take j).all byteB = true) (fun i _ => t.length - (intOf i).toNat)
    case atStart => exact ⟨0, by omega, rfl, rfl⟩
    case round =>
      obtain ⟨j, hj, rfl, hall⟩ := hrel
      have HALL := Lib.hid hall
      clear hall
      by_cases hlt : j < t.length
      · have HE : Hid (((⟨t.toArray⟩ : ByteArray)[j]'(by simpa [ByteArray.size] using hlt)).toNat = t[j].toNat) := Lib.hid rfl
        go_wp2
        all_goals first
          | (go_round
             case rel => exact ⟨j + 1, by omega, by go_num, all_good hlt HALL.out (by have := HE.out; have := t[j].toNat_lt; simp [byteB, byteB]; first | omega | (simp at *; omega))⟩
             case measure => simp [intOf]; omega)
          | (have hbad : t.all byteB = false := all_bad hlt (by have := HE.out; have := t[j].toNat_lt; simp [byteB, byteB]; first | omega | (simp at *; omega))
             go_ret
             exact ⟨ret_bool (by first | rw [hbad] | simp [keyB, tenB, hbad]), rfl⟩)
      · have hjn : t.take j = t := List.take_of_length_le (by omega)
        rw [hjn] at HALL
        go_wp2
        go_ret
        exact ⟨ret_bool HALL.out.symm, rfl⟩

set_option maxRecDepth 100000 in
set_option maxHeartbeats 1000000 in
theorem robj_any (t : Bs) (w : World) (ht : t.length ≤ 1000000) : Calls Try.prog 61 #[.string ⟨t.toArray⟩] w fun e w' => e = .returned (.bool (objB t)) ∧ w = w' := by
  by_cases h1 : t.length < 1
  · have e0 : objB t = false := by unfold objB; rw [decide_eq_false (by omega)]; rfl
    rw [e0]
    go_enter Try.func61, Try.ntmps61
    go_wp2
    go_ret
    exact ⟨rfl, rfl⟩
  by_cases h2 : 200 < t.length
  · have e0 : objB t = false := by unfold objB; rw [decide_eq_false (p := t.length ≤ 200) (by omega)]; simp
    rw [e0]
    go_enter Try.func61, Try.ntmps61
    go_wp2
    go_ret
    exact ⟨rfl, rfl⟩
  by_cases h3 : ((((⟨t.toArray⟩ : ByteArray)[0]'(by simp [ByteArray.size]; omega)).toNat : Int) != 47) = true
  · have e0 : objB t = false := by unfold objB; rw [first47_of (by omega), decide_eq_false (p := (t[0].toNat : Int) = 47) (bne_iff_ne.1 h3)]; simp
    rw [e0]
    go_enter Try.func61, Try.ntmps61
    go_wp2
    go_ret
    exact ⟨rfl, rfl⟩
  · have h3' := Bool.eq_false_iff.2 h3
    have e0 : objB t = t.all byteB := by unfold objB; rw [first47_of (by omega), decide_eq_true (p := t.length ≤ 200) (by omega), decide_eq_true (p := 1 ≤ t.length) (by omega), decide_eq_true (p := (t[0].toNat : Int) = 47) (bne_eq_false_iff_eq.1 h3')]; rfl
    rw [e0]
    clear e0 h3
    go_enter Try.func61, Try.ntmps61
    go_wp2
    go_loop [3] (fun i  => ∃ j : Nat, j ≤ t.length ∧ i = .int .i64 j ∧ (t.take j).all byteB = true) (fun i  => t.length - (intOf i).toNat)
    case atStart => exact ⟨0, by omega, rfl, rfl⟩
    case round =>
      obtain ⟨j, hj, rfl, hall⟩ := hrel
      have HALL := Lib.hid hall
      clear hall
      by_cases hlt : j < t.length
      · have HE : Hid (((⟨t.toArray⟩ : ByteArray)[j]'(by simpa [ByteArray.size] using hlt)).toNat = t[j].toNat) := Lib.hid rfl
        go_wp2
        all_goals first
          | (go_round
             case rel => exact ⟨j + 1, by omega, by go_num, all_good hlt HALL.out (by have := HE.out; have := t[j].toNat_lt; simp [byteB, byteB]; first | omega | (simp at *; omega))⟩
             case measure => simp [intOf]; omega)
          | (have hbad : t.all byteB = false := all_bad hlt (by have := HE.out; have := t[j].toNat_lt; simp [byteB, byteB]; first | omega | (simp at *; omega))
             go_ret
             exact ⟨ret_bool (by first | rw [hbad] | simp [keyB, tenB, hbad]), rfl⟩)
      · have hjn : t.take j = t := List.take_of_length_le (by omega)
        rw [hjn] at HALL
        go_wp2
        go_ret
        exact ⟨ret_bool HALL.out.symm, rfl⟩

set_option maxRecDepth 100000 in
set_option maxHeartbeats 1000000 in
theorem key_any (t : Bs) (w : World) (ht : t.length ≤ 1000000) : Calls Try.prog 58 #[.string ⟨t.toArray⟩] w fun e w' => e = .returned (.bool (keyB t)) ∧ w = w' := by
  by_cases h1 : t.length < 1
  · have e0 : keyB t = false := by unfold keyB; rw [decide_eq_false (by omega)]; rfl
    rw [e0]
    go_enter Try.func58, Try.ntmps58
    go_wp2
    go_ret
    exact ⟨rfl, rfl⟩
  by_cases h2 : 200 < t.length
  · have e0 : keyB t = false := by unfold keyB; rw [decide_eq_false (p := t.length ≤ 200) (by omega)]; simp
    rw [e0]
    go_enter Try.func58, Try.ntmps58
    go_wp2
    go_ret
    exact ⟨rfl, rfl⟩
  have e0 : keyB t = t.all byteB := by unfold keyB; rw [decide_eq_true (p := t.length ≤ 200) (by omega), decide_eq_true (p := 1 ≤ t.length) (by omega)]; rfl
  rw [e0]
  go_enter Try.func58, Try.ntmps58
  go_wp2
  go_loop [14, 3] (fun i _ => ∃ j : Nat, j ≤ t.length ∧ i = .int .i64 j ∧ (t.take j).all byteB = true) (fun i _ => t.length - (intOf i).toNat)
  case atStart => exact ⟨0, by omega, rfl, rfl⟩
  case round =>
    obtain ⟨j, hj, rfl, hall⟩ := hrel
    have HALL := Lib.hid hall
    clear hall
    by_cases hlt : j < t.length
    · have HE : Hid (((⟨t.toArray⟩ : ByteArray)[j]'(by simpa [ByteArray.size] using hlt)).toNat = t[j].toNat) := Lib.hid rfl
      go_wp2
      all_goals first
        | (go_round
           case rel => exact ⟨j + 1, by omega, by go_num, all_good hlt HALL.out (by have := HE.out; have := t[j].toNat_lt; simp [byteB, byteB]; first | omega | (simp at *; omega))⟩
           case measure => simp [intOf]; omega)
        | (have hbad : t.all byteB = false := all_bad hlt (by have := HE.out; have := t[j].toNat_lt; simp [byteB, byteB]; first | omega | (simp at *; omega))
           go_ret
           exact ⟨ret_bool (by first | rw [hbad] | simp [keyB, tenB, hbad]), rfl⟩)
    · have hjn : t.take j = t := List.take_of_length_le (by omega)
      rw [hjn] at HALL
      go_wp2
      go_ret
      exact ⟨ret_bool HALL.out.symm, rfl⟩

set_option maxRecDepth 100000 in
set_option maxHeartbeats 1000000 in
theorem rkey_any (t : Bs) (w : World) (ht : t.length ≤ 1000000) : Calls Try.prog 81 #[.string ⟨t.toArray⟩] w fun e w' => e = .returned (.bool (keyB t)) ∧ w = w' := by
  go_enter Try.func81, Try.ntmps81
  go_wp2
  go_loop [3] (fun i  => ∃ j : Nat, j ≤ t.length ∧ i = .int .i64 j ∧ (t.take j).all byteB = true) (fun i  => t.length - (intOf i).toNat)
  case atStart => exact ⟨0, by omega, rfl, rfl⟩
  case round =>
    obtain ⟨j, hj, rfl, hall⟩ := hrel
    have HALL := Lib.hid hall
    clear hall
    by_cases hlt : j < t.length
    · have HE : Hid (((⟨t.toArray⟩ : ByteArray)[j]'(by simpa [ByteArray.size] using hlt)).toNat = t[j].toNat) := Lib.hid rfl
      go_wp2
      all_goals first
        | (go_round
           case rel => exact ⟨j + 1, by omega, by go_num, all_good hlt HALL.out (by have := HE.out; have := t[j].toNat_lt; simp [byteB, byteB]; first | omega | (simp at *; omega))⟩
           case measure => simp [intOf]; omega)
        | (have hbad : t.all byteB = false := all_bad hlt (by have := HE.out; have := t[j].toNat_lt; simp [byteB, byteB]; first | omega | (simp at *; omega))
           go_ret
           exact ⟨ret_bool (by first | rw [hbad] | simp [keyB, tenB, hbad]), rfl⟩)
    · have hjn : t.take j = t := List.take_of_length_le (by omega)
      rw [hjn] at HALL
      by_cases h1 : t.length < 1
      · go_wp2
        go_ret
        exact ⟨ret_bool (by unfold keyB; rw [decide_eq_false (by omega)]; first | rfl | (simp; omega)), rfl⟩
      · by_cases h2 : 200 < t.length
        · go_wp2
          go_ret
          exact ⟨ret_bool (by unfold keyB; rw [decide_eq_false (p := t.length ≤ 200) (by omega)]; first | (simp; done) | (simp; omega)), rfl⟩
        · go_wp2
          go_ret
          exact ⟨ret_bool (by unfold keyB; rw [HALL.out, decide_eq_true (p := t.length ≤ 200) (by omega), decide_eq_true (p := 1 ≤ t.length) (by omega)]; first | rfl | (simp; omega)), rfl⟩

set_option maxRecDepth 100000 in
set_option maxHeartbeats 1000000 in
theorem tag_any (t : Bs) (w : World) (b : Bool) (ht : t.length ≤ 1000000) : Calls Try.prog 39 #[.agg #[.string ⟨t.toArray⟩, .bool b]] w fun e w' => e = .returned (.bool (tagB t)) ∧ Ext w w' := by
  by_cases h1 : t.length < 1
  · have e0 : tagB t = false := by unfold tagB; rw [decide_eq_false (by omega)]; rfl
    rw [e0]
    go_enter Try.func39, Try.ntmps39
    go_wp2
    go_ret
    exact ⟨rfl, Ext.alloc (Ext.refl _) _⟩
  by_cases h2 : 100 < t.length
  · have e0 : tagB t = false := by unfold tagB; rw [decide_eq_false (p := t.length ≤ 100) (by omega)]; simp
    rw [e0]
    go_enter Try.func39, Try.ntmps39
    go_wp2
    go_ret
    exact ⟨rfl, Ext.alloc (Ext.refl _) _⟩
  have e0 : tagB t = t.all tagByte := by unfold tagB; rw [decide_eq_true (p := t.length ≤ 100) (by omega), decide_eq_true (p := 1 ≤ t.length) (by omega)]; rfl
  rw [e0]
  go_enter Try.func39, Try.ntmps39
  go_wp2
  go_loop [18, 3, 4] (fun i _ _ => ∃ j : Nat, j ≤ t.length ∧ i = .int .i64 j ∧ (t.take j).all tagByte = true) (fun i _ _ => t.length - (intOf i).toNat)
  case atStart => exact ⟨0, by omega, rfl, rfl⟩
  case round =>
    obtain ⟨j, hj, rfl, hall⟩ := hrel
    have HALL := Lib.hid hall
    clear hall
    by_cases hlt : j < t.length
    · have HE : Hid (((⟨t.toArray⟩ : ByteArray)[j]'(by simpa [ByteArray.size] using hlt)).toNat = t[j].toNat) := Lib.hid rfl
      go_wp2
      all_goals first
        | (go_round
           case rel => exact ⟨j + 1, by omega, by go_num, all_good hlt HALL.out (by have := HE.out; have := t[j].toNat_lt; simp [tagByte, byteB]; first | omega | (simp at *; omega))⟩
           case measure => simp [intOf]; omega)
        | (have hbad : t.all tagByte = false := all_bad hlt (by have := HE.out; have := t[j].toNat_lt; simp [tagByte, byteB]; first | omega | (simp at *; omega))
           go_ret
           exact ⟨ret_bool (by first | rw [hbad] | simp [keyB, tenB, hbad]), Ext.alloc (Ext.refl _) _⟩)
    · have hjn : t.take j = t := List.take_of_length_le (by omega)
      rw [hjn] at HALL
      go_wp2
      go_ret
      exact ⟨ret_bool HALL.out.symm, Ext.alloc (Ext.refl _) _⟩

set_option maxRecDepth 100000 in
set_option maxHeartbeats 1000000 in
theorem rtag_any (t : Bs) (w : World) (b : Bool) (ht : t.length ≤ 1000000) : Calls Try.prog 71 #[.agg #[.string ⟨t.toArray⟩, .bool b]] w fun e w' => e = .returned (.bool (tagB t)) ∧ Ext w w' := by
  by_cases h1 : t.length < 1
  · have e0 : tagB t = false := by unfold tagB; rw [decide_eq_false (by omega)]; rfl
    rw [e0]
    go_enter Try.func71, Try.ntmps71
    go_wp2
    go_ret
    exact ⟨rfl, Ext.alloc (Ext.refl _) _⟩
  by_cases h2 : 100 < t.length
  · have e0 : tagB t = false := by unfold tagB; rw [decide_eq_false (p := t.length ≤ 100) (by omega)]; simp
    rw [e0]
    go_enter Try.func71, Try.ntmps71
    go_wp2
    go_ret
    exact ⟨rfl, Ext.alloc (Ext.refl _) _⟩
  have e0 : tagB t = t.all tagByte := by unfold tagB; rw [decide_eq_true (p := t.length ≤ 100) (by omega), decide_eq_true (p := 1 ≤ t.length) (by omega)]; rfl
  rw [e0]
  go_enter Try.func71, Try.ntmps71
  go_wp2
  go_loop [3, 4] (fun i _ => ∃ j : Nat, j ≤ t.length ∧ i = .int .i64 j ∧ (t.take j).all tagByte = true) (fun i _ => t.length - (intOf i).toNat)
  case atStart => exact ⟨0, by omega, rfl, rfl⟩
  case round =>
    obtain ⟨j, hj, rfl, hall⟩ := hrel
    have HALL := Lib.hid hall
    clear hall
    by_cases hlt : j < t.length
    · have HE : Hid (((⟨t.toArray⟩ : ByteArray)[j]'(by simpa [ByteArray.size] using hlt)).toNat = t[j].toNat) := Lib.hid rfl
      go_wp2
      all_goals first
        | (go_round
           case rel => exact ⟨j + 1, by omega, by go_num, all_good hlt HALL.out (by have := HE.out; have := t[j].toNat_lt; simp [tagByte, byteB]; first | omega | (simp at *; omega))⟩
           case measure => simp [intOf]; omega)
        | (have hbad : t.all tagByte = false := all_bad hlt (by have := HE.out; have := t[j].toNat_lt; simp [tagByte, byteB]; first | omega | (simp at *; omega))
           go_ret
           exact ⟨ret_bool (by first | rw [hbad] | simp [keyB, tenB, hbad]), Ext.alloc (Ext.refl _) _⟩)
    · have hjn : t.take j = t := List.take_of_length_le (by omega)
      rw [hjn] at HALL
      go_wp2
      go_ret
      exact ⟨ret_bool HALL.out.symm, Ext.alloc (Ext.refl _) _⟩

def Stop (p : Prop) : Prop := p
theorem stop_of {p : Prop} (h : Stop p) : p := h
theorem ext_alloc1 (W : World) (o : Obj) : Ext W (W.alloc o) := Ext.alloc (Ext.refl _) _
theorem ext_alloc2 (W : World) (o o' : Obj) : Ext W ((W.alloc o).alloc o') := (ext_alloc1 _ _).trans (ext_alloc1 _ _)
/-- A tag, as a value. -/
def tagV (t : Bs) (b : Bool) : Value := .agg #[.string ⟨t.toArray⟩, .bool b]
def spanB (a b : Int) : Bool := decide (0 ≤ a) && decide (a ≤ b) && decide (b ≤ 4611686018427387904)
def weakB (t t' : Bs) : Bool := tagB t && tagB t' && (t == t')
def strongB (t : Bs) (b : Bool) (t' : Bs) (b' : Bool) : Bool := !b && !b' && weakB t t'
def ticksB (n : Int) : Bool := decide (0 ≤ n) && decide (n ≤ 1099511627776)
set_option maxRecDepth 100000 in
theorem span_any (a b : Int) (w : World) : Calls Try.prog 40 #[.agg #[.int .i64 a, .int .i64 b]] w fun e w' => e = .returned (.bool (spanB a b)) ∧ Ext w w' := by
  go_enter Try.func40, Try.ntmps40
  go_wp2
  all_goals trace_state
  all_goals (go_ret; exact ⟨ret_bool (by simp [spanB] <;> omega), ext_alloc1 _ _⟩)
set_option maxRecDepth 100000 in
theorem ticks_any (a : Int) (w : World) : Calls Try.prog 56 #[.int .i64 a] w fun e w' => e = .returned (.bool (ticksB a)) ∧ w = w' := by
  go_enter Try.func56, Try.ntmps56
  go_wp2
  all_goals (go_ret; exact ⟨ret_bool (by simp [ticksB] <;> omega), rfl⟩)
set_option maxRecDepth 100000 in
theorem end_any (w : World) : Calls Try.prog 82 #[] w fun e w' => e = .returned (.int .i64 4611686018427387904) ∧ w = w' := by
  go_enter Try.func82, Try.ntmps82
  go_wp2
  go_ret
  exact ⟨rfl, rfl⟩

set_option maxRecDepth 100000 in
set_option maxHeartbeats 1000000 in
theorem weak_any (t t' : Bs) (b b' : Bool) (w : World) (ht : t.length ≤ 1000000) (ht' : t'.length ≤ 1000000) : Calls Try.prog 60 #[tagV t b, tagV t' b'] w fun e w' => e = .returned (.bool (weakB t t')) ∧ Ext w w' := by
  unfold tagV
  have H1 := Lib.hid fun W => tag_any t W b ht
  have H2 := Lib.hid fun W => tag_any t' W b' ht'
  obtain ⟨x, hx⟩ : ∃ x, x = tagB t := ⟨_, rfl⟩
  obtain ⟨y, hy⟩ : ∃ y, y = tagB t' := ⟨_, rfl⟩
  obtain ⟨z, hz⟩ : ∃ z, z = (t == t') := ⟨_, rfl⟩
  have e0 : weakB t t' = (x && y && z) := by rw [hx, hy, hz]; rfl
  rw [e0]
  rw [← hx] at H1
  rw [← hy] at H2
  clear hx hy e0
  go_enter Try.func60, Try.ntmps60
  go_wp2_with (go_at_call 39; refine (H1.out _).mono ?_; rintro e w1 ⟨rfl, x1⟩; refine stop_of ?_)
  unfold Stop
  obtain ⟨n1, n2⟩ := heap_new2 w (.cells #[.string ⟨t.toArray⟩, .bool b] 27) (.cells #[.string ⟨t'.toArray⟩, .bool b'] 27)
  have k1 := blk_cell (x1.heap n1) 0
  have k2 := blk_cell (x1.heap n2) 0
  have k3 := blk_cell (x1.heap n2) 1
  have N1 := Lib.hid (And.intro (x1.heap n1) (x1.heap n2))
  have X1 := Lib.hid ((ext_alloc2 _ _ _).trans x1)
  clear x1 n1 n2
  simp at k1 k2 k3
  cases x with
  | false =>
    go_wp2
    go_ret
    exact ⟨ret_bool (by simp), X1.out⟩
  | true =>
    go_wp2_with (go_at_call 39; refine (H2.out _).mono ?_; rintro e w2 ⟨rfl, x2⟩; refine stop_of ?_)
    unfold Stop
    clear k1 k2 k3
    have k1 := blk_cell (x2.heap N1.out.1) 0
    have k2 := blk_cell (x2.heap N1.out.2) 0
    have X2 := Lib.hid (X1.out.trans x2)
    clear x2
    simp at k1 k2
    cases y with
    | false =>
      go_wp2
      go_ret
      exact ⟨ret_bool (by simp), X2.out⟩
    | true =>
      go_wp2
      go_ret
      exact ⟨ret_bool (by simp [hz]), X2.out⟩

set_option maxRecDepth 100000 in
set_option maxHeartbeats 1000000 in
theorem rweak_any (t t' : Bs) (b b' : Bool) (w : World) (ht : t.length ≤ 1000000) (ht' : t'.length ≤ 1000000) : Calls Try.prog 76 #[tagV t b, tagV t' b'] w fun e w' => e = .returned (.bool (weakB t t')) ∧ Ext w w' := by
  unfold tagV
  have H1 := Lib.hid fun W => rtag_any t W b ht
  have H2 := Lib.hid fun W => rtag_any t' W b' ht'
  obtain ⟨x, hx⟩ : ∃ x, x = tagB t := ⟨_, rfl⟩
  obtain ⟨y, hy⟩ : ∃ y, y = tagB t' := ⟨_, rfl⟩
  obtain ⟨z, hz⟩ : ∃ z, z = (t == t') := ⟨_, rfl⟩
  have e0 : weakB t t' = (x && y && z) := by rw [hx, hy, hz]; rfl
  rw [e0]
  rw [← hx] at H1
  rw [← hy] at H2
  clear hx hy e0
  go_enter Try.func76, Try.ntmps76
  go_wp2_with (go_at_call 71; refine (H1.out _).mono ?_; rintro e w1 ⟨rfl, x1⟩; refine stop_of ?_)
  unfold Stop
  obtain ⟨n1, n2⟩ := heap_new2 w (.cells #[.string ⟨t.toArray⟩, .bool b] 27) (.cells #[.string ⟨t'.toArray⟩, .bool b'] 27)
  have k1 := blk_cell (x1.heap n1) 0
  have k2 := blk_cell (x1.heap n2) 0
  have k3 := blk_cell (x1.heap n2) 1
  have N1 := Lib.hid (And.intro (x1.heap n1) (x1.heap n2))
  have X1 := Lib.hid ((ext_alloc2 _ _ _).trans x1)
  clear x1 n1 n2
  simp at k1 k2 k3
  cases x with
  | false =>
    go_wp2
    go_ret
    exact ⟨ret_bool (by simp), X1.out⟩
  | true =>
    go_wp2_with (go_at_call 71; refine (H2.out _).mono ?_; rintro e w2 ⟨rfl, x2⟩; refine stop_of ?_)
    unfold Stop
    clear k1 k2 k3
    have k1 := blk_cell (x2.heap N1.out.1) 0
    have k2 := blk_cell (x2.heap N1.out.2) 0
    have X2 := Lib.hid (X1.out.trans x2)
    clear x2
    simp at k1 k2
    cases y with
    | false =>
      go_wp2
      go_ret
      exact ⟨ret_bool (by simp), X2.out⟩
    | true =>
      go_wp2
      go_ret
      exact ⟨ret_bool (by simp [hz]), X2.out⟩

end Go.Proofs.Ytpangoddbfiagaa
