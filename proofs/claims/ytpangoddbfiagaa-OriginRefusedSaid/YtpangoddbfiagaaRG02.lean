import Derived.Test.YtpangoddbfiagaaProg
import Derived.Test.YtpangoddbfiagaaRG01
import Derived.WalkKit
import Derived.WalkSpells
import Derived.WalkLawsBesides
import Derived.Deep.QuietTactic
import Derived.BigQuiet
import Derived.BigRegion
import Derived.Lib.Hide
import Derived.Laws.Rows
import Derived.Lib.Strings
namespace Go.Proofs.Ytpangoddbfiagaa
open Go.RowKit
set_option linter.unusedVariables false
set_option linter.unusedSimpArgs false
abbrev Bs := List UInt8
def byteB (c : UInt8) : Bool := decide (33 ≤ c.toNat) && decide (c.toNat ≤ 126)
def tagByte (c : UInt8) : Bool := byteB c && !decide (c.toNat = 34)
def tenByte (c : UInt8) : Bool := (decide (97 ≤ c.toNat) && decide (c.toNat ≤ 122)) || (decide (65 ≤ c.toNat) && decide (c.toNat ≤ 90)) || (decide (48 ≤ c.toNat) && decide (c.toNat ≤ 57)) || decide (c.toNat = 45) || decide (c.toNat = 95)
def first47 (t : Bs) : Bool := match t with | [] => false | c :: _ => decide (c.toNat = 47)
def first45 (t : Bs) : Bool := match t with | [] => false | c :: _ => decide (c.toNat = 45)
def objB (t : Bs) : Bool := decide (1 ≤ t.length) && decide (t.length ≤ 200) && first47 t && t.all byteB
def keyB (t : Bs) : Bool := decide (1 ≤ t.length) && decide (t.length ≤ 200) && t.all byteB
def tagB (t : Bs) : Bool := decide (1 ≤ t.length) && decide (t.length ≤ 100) && t.all tagByte
def tenB (t : Bs) : Bool := decide (t.length ≤ 40) && !first45 t && t.all tenByte
theorem all_bad {f : UInt8 → Bool} {t : Bs} {j : Nat} (hj : j < t.length) (hb : f t[j] = false) : t.all f = false := by
 rw [List.all_eq_false]
 exact ⟨t[j], by simp, by simp [hb]⟩
theorem all_good {f : UInt8 → Bool} {t : Bs} {j : Nat} (hj : j < t.length) (h : (t.take j).all f = true) (hb : f t[j] = true) : (t.take (j + 1)).all f = true := by
 rw [List.take_succ_eq_append_getElem hj, List.all_append, h]; simp [hb]
theorem first47_of {t : Bs} (h : 0 < t.length) : first47 t = decide ((t[0].toNat : Int) = 47) := by
 cases t with
 | nil => simp at h
 | cons c r => simp [first47]; omega
set_option maxRecDepth 100000 in
set_option maxHeartbeats 1000000 in
theorem obj_any (t : Bs) (w : World) (ht : t.length ≤ 1000000) : Calls Try.prog 35 #[.string ⟨t.toArray⟩] w fun e w' => e = .returned (.bool (objB t)) ∧ w = w' := by
 by_cases h1 : t.length < 1
 ·have e0 : objB t = false := by unfold objB; rw [decide_eq_false (by omega)]; rfl
  rw [e0]
  go_enter Try.func35, Try.ntmps35
  go_wp2
  go_ret
  exact ⟨rfl, rfl⟩
 by_cases h2 : 200 < t.length
 ·have e0 : objB t = false := by unfold objB; rw [decide_eq_false (p := t.length ≤ 200) (by omega)]; simp
  rw [e0]
  go_enter Try.func35, Try.ntmps35
  go_wp2
  go_ret
  exact ⟨rfl, rfl⟩
 by_cases h3 : ((((⟨t.toArray⟩ : ByteArray)[0]'(by simp [ByteArray.size]; omega)).toNat : Int) != 47) = true
 ·have e0 : objB t = false := by unfold objB; rw [first47_of (by omega), decide_eq_false (p := (t[0].toNat : Int) = 47) (bne_iff_ne.1 h3)]; simp
  rw [e0]
  go_enter Try.func35, Try.ntmps35
  go_wp2
  go_ret
  exact ⟨rfl, rfl⟩
 ·have h3' := Bool.eq_false_iff.2 h3
  have e0 : objB t = t.all byteB := by unfold objB; rw [first47_of (by omega), decide_eq_true (p := t.length ≤ 200) (by omega), decide_eq_true (p := 1 ≤ t.length) (by omega), decide_eq_true (p := (t[0].toNat : Int) = 47) (bne_eq_false_iff_eq.1 h3')]; rfl
  rw [e0]
  clear e0 h3
  go_enter Try.func35, Try.ntmps35
  go_wp2
  go_loop [19, 3] (fun i _ => ∃ j : Nat, j ≤ t.length ∧ i = .int .i64 j ∧ (t.take j).all byteB = true) (fun i _ => t.length - (intOf i).toNat)
  case atStart => exact ⟨0, by omega, rfl, rfl⟩
  case round =>
   obtain ⟨j, hj, rfl, hall⟩ := hrel
   have HALL := Lh hall
   clear hall
   by_cases hlt : j < t.length
   ·have HE : Hid (((⟨t.toArray⟩ : ByteArray)[j]'(by simpa [ByteArray.size] using hlt)).toNat = t[j].toNat) := Lh rfl
    go_wp2
    all_goals first
     | (go_round
        case rel => exact ⟨j + 1, by omega, by go_num, all_good hlt HALL.out (by have := HE.out; have := t[j].toNat_lt; simp [byteB, byteB]; first | omega | (simp at *; omega))⟩
        case measure => simp [intOf]; omega)
     | (have hbad : t.all byteB = false := all_bad hlt (by have := HE.out; have := t[j].toNat_lt; simp [byteB, byteB]; first | omega | (simp at *; omega))
        go_ret
        exact ⟨ret_bool (by first | rw [hbad] | simp [keyB, tenB, hbad]), rfl⟩)
   ·have hjn : t.take j = t := List.take_of_length_le (by omega)
    rw [hjn] at HALL
    go_wp2
    go_ret
    exact ⟨ret_bool HALL.out.symm, rfl⟩
set_option maxRecDepth 100000 in
set_option maxHeartbeats 1000000 in
theorem robj_any (t : Bs) (w : World) (ht : t.length ≤ 1000000) : Calls Try.prog 61 #[.string ⟨t.toArray⟩] w fun e w' => e = .returned (.bool (objB t)) ∧ w = w' := by
 by_cases h1 : t.length < 1
 ·have e0 : objB t = false := by unfold objB; rw [decide_eq_false (by omega)]; rfl
  rw [e0]
  go_enter Try.func61, Try.ntmps61
  go_wp2
  go_ret
  exact ⟨rfl, rfl⟩
 by_cases h2 : 200 < t.length
 ·have e0 : objB t = false := by unfold objB; rw [decide_eq_false (p := t.length ≤ 200) (by omega)]; simp
  rw [e0]
  go_enter Try.func61, Try.ntmps61
  go_wp2
  go_ret
  exact ⟨rfl, rfl⟩
 by_cases h3 : ((((⟨t.toArray⟩ : ByteArray)[0]'(by simp [ByteArray.size]; omega)).toNat : Int) != 47) = true
 ·have e0 : objB t = false := by unfold objB; rw [first47_of (by omega), decide_eq_false (p := (t[0].toNat : Int) = 47) (bne_iff_ne.1 h3)]; simp
  rw [e0]
  go_enter Try.func61, Try.ntmps61
  go_wp2
  go_ret
  exact ⟨rfl, rfl⟩
 ·have h3' := Bool.eq_false_iff.2 h3
  have e0 : objB t = t.all byteB := by unfold objB; rw [first47_of (by omega), decide_eq_true (p := t.length ≤ 200) (by omega), decide_eq_true (p := 1 ≤ t.length) (by omega), decide_eq_true (p := (t[0].toNat : Int) = 47) (bne_eq_false_iff_eq.1 h3')]; rfl
  rw [e0]
  clear e0 h3
  go_enter Try.func61, Try.ntmps61
  go_wp2
  go_loop [3] (fun i  => ∃ j : Nat, j ≤ t.length ∧ i = .int .i64 j ∧ (t.take j).all byteB = true) (fun i  => t.length - (intOf i).toNat)
  case atStart => exact ⟨0, by omega, rfl, rfl⟩
  case round =>
   obtain ⟨j, hj, rfl, hall⟩ := hrel
   have HALL := Lh hall
   clear hall
   by_cases hlt : j < t.length
   ·have HE : Hid (((⟨t.toArray⟩ : ByteArray)[j]'(by simpa [ByteArray.size] using hlt)).toNat = t[j].toNat) := Lh rfl
    go_wp2
    all_goals first
     | (go_round
        case rel => exact ⟨j + 1, by omega, by go_num, all_good hlt HALL.out (by have := HE.out; have := t[j].toNat_lt; simp [byteB, byteB]; first | omega | (simp at *; omega))⟩
        case measure => simp [intOf]; omega)
     | (have hbad : t.all byteB = false := all_bad hlt (by have := HE.out; have := t[j].toNat_lt; simp [byteB, byteB]; first | omega | (simp at *; omega))
        go_ret
        exact ⟨ret_bool (by first | rw [hbad] | simp [keyB, tenB, hbad]), rfl⟩)
   ·have hjn : t.take j = t := List.take_of_length_le (by omega)
    rw [hjn] at HALL
    go_wp2
    go_ret
    exact ⟨ret_bool HALL.out.symm, rfl⟩
set_option maxRecDepth 100000 in
set_option maxHeartbeats 1000000 in
theorem key_any (t : Bs) (w : World) (ht : t.length ≤ 1000000) : Calls Try.prog 58 #[.string ⟨t.toArray⟩] w fun e w' => e = .returned (.bool (keyB t)) ∧ w = w' := by
 by_cases h1 : t.length < 1
 ·have e0 : keyB t = false := by unfold keyB; rw [decide_eq_false (by omega)]; rfl
  rw [e0]
  go_enter Try.func58, Try.ntmps58
  go_wp2
  go_ret
  exact ⟨rfl, rfl⟩
 by_cases h2 : 200 < t.length
 ·have e0 : keyB t = false := by unfold keyB; rw [decide_eq_false (p := t.length ≤ 200) (by omega)]; simp
  rw [e0]
  go_enter Try.func58, Try.ntmps58
  go_wp2
  go_ret
  exact ⟨rfl, rfl⟩
 have e0 : keyB t = t.all byteB := by unfold keyB; rw [decide_eq_true (p := t.length ≤ 200) (by omega), decide_eq_true (p := 1 ≤ t.length) (by omega)]; rfl
 rw [e0]
 go_enter Try.func58, Try.ntmps58
 go_wp2
 go_loop [14, 3] (fun i _ => ∃ j : Nat, j ≤ t.length ∧ i = .int .i64 j ∧ (t.take j).all byteB = true) (fun i _ => t.length - (intOf i).toNat)
 case atStart => exact ⟨0, by omega, rfl, rfl⟩
 case round =>
  obtain ⟨j, hj, rfl, hall⟩ := hrel
  have HALL := Lh hall
  clear hall
  by_cases hlt : j < t.length
  ·have HE : Hid (((⟨t.toArray⟩ : ByteArray)[j]'(by simpa [ByteArray.size] using hlt)).toNat = t[j].toNat) := Lh rfl
   go_wp2
   all_goals first
    | (go_round
       case rel => exact ⟨j + 1, by omega, by go_num, all_good hlt HALL.out (by have := HE.out; have := t[j].toNat_lt; simp [byteB, byteB]; first | omega | (simp at *; omega))⟩
       case measure => simp [intOf]; omega)
    | (have hbad : t.all byteB = false := all_bad hlt (by have := HE.out; have := t[j].toNat_lt; simp [byteB, byteB]; first | omega | (simp at *; omega))
       go_ret
       exact ⟨ret_bool (by first | rw [hbad] | simp [keyB, tenB, hbad]), rfl⟩)
  ·have hjn : t.take j = t := List.take_of_length_le (by omega)
   rw [hjn] at HALL
   go_wp2
   go_ret
   exact ⟨ret_bool HALL.out.symm, rfl⟩
set_option maxRecDepth 100000 in
set_option maxHeartbeats 1000000 in
theorem rkey_any (t : Bs) (w : World) (ht : t.length ≤ 1000000) : Calls Try.prog 81 #[.string ⟨t.toArray⟩] w fun e w' => e = .returned (.bool (keyB t)) ∧ w = w' := by
 go_enter Try.func81, Try.ntmps81
 go_wp2
 go_loop [3] (fun i  => ∃ j : Nat, j ≤ t.length ∧ i = .int .i64 j ∧ (t.take j).all byteB = true) (fun i  => t.length - (intOf i).toNat)
 case atStart => exact ⟨0, by omega, rfl, rfl⟩
 case round =>
  obtain ⟨j, hj, rfl, hall⟩ := hrel
  have HALL := Lh hall
  clear hall
  by_cases hlt : j < t.length
  ·have HE : Hid (((⟨t.toArray⟩ : ByteArray)[j]'(by simpa [ByteArray.size] using hlt)).toNat = t[j].toNat) := Lh rfl
   go_wp2
   all_goals first
    | (go_round
       case rel => exact ⟨j + 1, by omega, by go_num, all_good hlt HALL.out (by have := HE.out; have := t[j].toNat_lt; simp [byteB, byteB]; first | omega | (simp at *; omega))⟩
       case measure => simp [intOf]; omega)
    | (have hbad : t.all byteB = false := all_bad hlt (by have := HE.out; have := t[j].toNat_lt; simp [byteB, byteB]; first | omega | (simp at *; omega))
       go_ret
       exact ⟨ret_bool (by first | rw [hbad] | simp [keyB, tenB, hbad]), rfl⟩)
  ·have hjn : t.take j = t := List.take_of_length_le (by omega)
   rw [hjn] at HALL
   by_cases h1 : t.length < 1
   ·go_wp2
    go_ret
    exact ⟨ret_bool (by unfold keyB; rw [decide_eq_false (by omega)]; first | rfl | (simp; omega)), rfl⟩
   ·by_cases h2 : 200 < t.length
    ·go_wp2
     go_ret
     exact ⟨ret_bool (by unfold keyB; rw [decide_eq_false (p := t.length ≤ 200) (by omega)]; first | (simp; done) | (simp; omega)), rfl⟩
    ·go_wp2
     go_ret
     exact ⟨ret_bool (by unfold keyB; rw [HALL.out, decide_eq_true (p := t.length ≤ 200) (by omega), decide_eq_true (p := 1 ≤ t.length) (by omega)]; first | rfl | (simp; omega)), rfl⟩
set_option maxRecDepth 100000 in
set_option maxHeartbeats 1000000 in
theorem tag_any (t : Bs) (w : World) (b : Bool) (ht : t.length ≤ 1000000) : Calls Try.prog 39 #[.agg #[.string ⟨t.toArray⟩, .bool b]] w fun e w' => e = .returned (.bool (tagB t)) ∧ Ext w w' := by
 by_cases h1 : t.length < 1
 ·have e0 : tagB t = false := by unfold tagB; rw [decide_eq_false (by omega)]; rfl
  rw [e0]
  go_enter Try.func39, Try.ntmps39
  go_wp2
  go_ret
  exact ⟨rfl, Ext.alloc (Ext.refl _) _⟩
 by_cases h2 : 100 < t.length
 ·have e0 : tagB t = false := by unfold tagB; rw [decide_eq_false (p := t.length ≤ 100) (by omega)]; simp
  rw [e0]
  go_enter Try.func39, Try.ntmps39
  go_wp2
  go_ret
  exact ⟨rfl, Ext.alloc (Ext.refl _) _⟩
 have e0 : tagB t = t.all tagByte := by unfold tagB; rw [decide_eq_true (p := t.length ≤ 100) (by omega), decide_eq_true (p := 1 ≤ t.length) (by omega)]; rfl
 rw [e0]
 go_enter Try.func39, Try.ntmps39
 go_wp2
 go_loop [18, 3, 4] (fun i _ _ => ∃ j : Nat, j ≤ t.length ∧ i = .int .i64 j ∧ (t.take j).all tagByte = true) (fun i _ _ => t.length - (intOf i).toNat)
 case atStart => exact ⟨0, by omega, rfl, rfl⟩
 case round =>
  obtain ⟨j, hj, rfl, hall⟩ := hrel
  have HALL := Lh hall
  clear hall
  by_cases hlt : j < t.length
  ·have HE : Hid (((⟨t.toArray⟩ : ByteArray)[j]'(by simpa [ByteArray.size] using hlt)).toNat = t[j].toNat) := Lh rfl
   go_wp2
   all_goals first
    | (go_round
       case rel => exact ⟨j + 1, by omega, by go_num, all_good hlt HALL.out (by have := HE.out; have := t[j].toNat_lt; simp [tagByte, byteB]; first | omega | (simp at *; omega))⟩
       case measure => simp [intOf]; omega)
    | (have hbad : t.all tagByte = false := all_bad hlt (by have := HE.out; have := t[j].toNat_lt; simp [tagByte, byteB]; first | omega | (simp at *; omega))
       go_ret
       exact ⟨ret_bool (by first | rw [hbad] | simp [keyB, tenB, hbad]), Ext.alloc (Ext.refl _) _⟩)
  ·have hjn : t.take j = t := List.take_of_length_le (by omega)
   rw [hjn] at HALL
   go_wp2
   go_ret
   exact ⟨ret_bool HALL.out.symm, Ext.alloc (Ext.refl _) _⟩
set_option maxRecDepth 100000 in
set_option maxHeartbeats 1000000 in
theorem rtag_any (t : Bs) (w : World) (b : Bool) (ht : t.length ≤ 1000000) : Calls Try.prog 71 #[.agg #[.string ⟨t.toArray⟩, .bool b]] w fun e w' => e = .returned (.bool (tagB t)) ∧ Ext w w' := by
 by_cases h1 : t.length < 1
 ·have e0 : tagB t = false := by unfold tagB; rw [decide_eq_false (by omega)]; rfl
  rw [e0]
  go_enter Try.func71, Try.ntmps71
  go_wp2
  go_ret
  exact ⟨rfl, Ext.alloc (Ext.refl _) _⟩
 by_cases h2 : 100 < t.length
 ·have e0 : tagB t = false := by unfold tagB; rw [decide_eq_false (p := t.length ≤ 100) (by omega)]; simp
  rw [e0]
  go_enter Try.func71, Try.ntmps71
  go_wp2
  go_ret
  exact ⟨rfl, Ext.alloc (Ext.refl _) _⟩
 have e0 : tagB t = t.all tagByte := by unfold tagB; rw [decide_eq_true (p := t.length ≤ 100) (by omega), decide_eq_true (p := 1 ≤ t.length) (by omega)]; rfl
 rw [e0]
 go_enter Try.func71, Try.ntmps71
 go_wp2
 go_loop [3, 4] (fun i _ => ∃ j : Nat, j ≤ t.length ∧ i = .int .i64 j ∧ (t.take j).all tagByte = true) (fun i _ => t.length - (intOf i).toNat)
 case atStart => exact ⟨0, by omega, rfl, rfl⟩
 case round =>
  obtain ⟨j, hj, rfl, hall⟩ := hrel
  have HALL := Lh hall
  clear hall
  by_cases hlt : j < t.length
  ·have HE : Hid (((⟨t.toArray⟩ : ByteArray)[j]'(by simpa [ByteArray.size] using hlt)).toNat = t[j].toNat) := Lh rfl
   go_wp2
   all_goals first
    | (go_round
       case rel => exact ⟨j + 1, by omega, by go_num, all_good hlt HALL.out (by have := HE.out; have := t[j].toNat_lt; simp [tagByte, byteB]; first | omega | (simp at *; omega))⟩
       case measure => simp [intOf]; omega)
    | (have hbad : t.all tagByte = false := all_bad hlt (by have := HE.out; have := t[j].toNat_lt; simp [tagByte, byteB]; first | omega | (simp at *; omega))
       go_ret
       exact ⟨ret_bool (by first | rw [hbad] | simp [keyB, tenB, hbad]), Ext.alloc (Ext.refl _) _⟩)
  ·have hjn : t.take j = t := List.take_of_length_le (by omega)
   rw [hjn] at HALL
   go_wp2
   go_ret
   exact ⟨ret_bool HALL.out.symm, Ext.alloc (Ext.refl _) _⟩
def Stop (p : Prop) : Prop := p
theorem stop_of {p : Prop} (h : Stop p) : p := h
theorem ext_alloc1 (W : World) (o : Obj) : Ext W (W.alloc o) := Ext.alloc (Ext.refl _) _
theorem ext_alloc2 (W : World) (o o' : Obj) : Ext W ((W.alloc o).alloc o') := (ext_alloc1 _ _).trans (ext_alloc1 _ _)
def tagV (t : Bs) (b : Bool) : Value := .agg #[.string ⟨t.toArray⟩, .bool b]
def spanB (a b : Int) : Bool := decide (0 ≤ a) && decide (a ≤ b) && decide (b ≤ 4611686018427387904)
def weakB (t t' : Bs) : Bool := tagB t && tagB t' && (t == t')
def strongB (t : Bs) (b : Bool) (t' : Bs) (b' : Bool) : Bool := !b && !b' && weakB t t'
def ticksB (n : Int) : Bool := decide (0 ≤ n) && decide (n ≤ 1099511627776)
set_option maxRecDepth 100000 in
theorem span_any (a b : Int) (w : World) : Calls Try.prog 40 #[.agg #[.int .i64 a, .int .i64 b]] w fun e w' => e = .returned (.bool (spanB a b)) ∧ Ext w w' := by
 go_enter Try.func40, Try.ntmps40
 go_wp2
 all_goals trace_state
 all_goals (go_ret; exact ⟨ret_bool (by simp [spanB] <;> omega), ext_alloc1 _ _⟩)
set_option maxRecDepth 100000 in
theorem ticks_any (a : Int) (w : World) : Calls Try.prog 56 #[.int .i64 a] w fun e w' => e = .returned (.bool (ticksB a)) ∧ w = w' := by
 go_enter Try.func56, Try.ntmps56
 go_wp2
 all_goals (go_ret; exact ⟨ret_bool (by simp [ticksB] <;> omega), rfl⟩)
set_option maxRecDepth 100000 in
theorem end_any (w : World) : Calls Try.prog 82 #[] w fun e w' => e = .returned (.int .i64 4611686018427387904) ∧ w = w' := by
 go_enter Try.func82, Try.ntmps82
 go_wp2
 go_ret
 exact ⟨rfl, rfl⟩
set_option maxRecDepth 100000 in
set_option maxHeartbeats 1000000 in
theorem weak_any (t t' : Bs) (b b' : Bool) (w : World) (ht : t.length ≤ 1000000) (ht' : t'.length ≤ 1000000) : Calls Try.prog 60 #[tagV t b, tagV t' b'] w fun e w' => e = .returned (.bool (weakB t t')) ∧ Ext w w' := by
 unfold tagV
 have H1 := Lh fun W => tag_any t W b ht
 have H2 := Lh fun W => tag_any t' W b' ht'
 obtain ⟨x, hx⟩ : ∃ x, x = tagB t := ⟨_, rfl⟩
 obtain ⟨y, hy⟩ : ∃ y, y = tagB t' := ⟨_, rfl⟩
 obtain ⟨z, hz⟩ : ∃ z, z = (t == t') := ⟨_, rfl⟩
 have e0 : weakB t t' = (x && y && z) := by rw [hx, hy, hz]; rfl
 rw [e0]
 rw [← hx] at H1
 rw [← hy] at H2
 clear hx hy e0
 go_enter Try.func60, Try.ntmps60
 go_wp2_with (go_at_call 39; refine (H1.out _).mono ?_; rintro e w1 ⟨rfl, x1⟩; refine stop_of ?_)
 unfold Stop
 obtain ⟨n1, n2⟩ := heap_new2 w (.cells #[.string ⟨t.toArray⟩, .bool b] 27) (.cells #[.string ⟨t'.toArray⟩, .bool b'] 27)
 have k1 := blk_cell (x1.heap n1) 0
 have k2 := blk_cell (x1.heap n2) 0
 have k3 := blk_cell (x1.heap n2) 1
 have N1 := Lh (And.intro (x1.heap n1) (x1.heap n2))
 have X1 := Lh ((ext_alloc2 _ _ _).trans x1)
 clear x1 n1 n2
 simp at k1 k2 k3
 cases x with
 | false =>
  go_wp2
  go_ret
  exact ⟨ret_bool (by simp), X1.out⟩
 | true =>
  go_wp2_with (go_at_call 39; refine (H2.out _).mono ?_; rintro e w2 ⟨rfl, x2⟩; refine stop_of ?_)
  unfold Stop
  clear k1 k2 k3
  have k1 := blk_cell (x2.heap N1.out.1) 0
  have k2 := blk_cell (x2.heap N1.out.2) 0
  have X2 := Lh (X1.out.trans x2)
  clear x2
  simp at k1 k2
  cases y with
  | false =>
   go_wp2
   go_ret
   exact ⟨ret_bool (by simp), X2.out⟩
  | true =>
   go_wp2
   go_ret
   exact ⟨ret_bool (by simp [hz]), X2.out⟩
set_option maxRecDepth 100000 in
set_option maxHeartbeats 1000000 in
theorem rweak_any (t t' : Bs) (b b' : Bool) (w : World) (ht : t.length ≤ 1000000) (ht' : t'.length ≤ 1000000) : Calls Try.prog 76 #[tagV t b, tagV t' b'] w fun e w' => e = .returned (.bool (weakB t t')) ∧ Ext w w' := by
 unfold tagV
 have H1 := Lh fun W => rtag_any t W b ht
 have H2 := Lh fun W => rtag_any t' W b' ht'
 obtain ⟨x, hx⟩ : ∃ x, x = tagB t := ⟨_, rfl⟩
 obtain ⟨y, hy⟩ : ∃ y, y = tagB t' := ⟨_, rfl⟩
 obtain ⟨z, hz⟩ : ∃ z, z = (t == t') := ⟨_, rfl⟩
 have e0 : weakB t t' = (x && y && z) := by rw [hx, hy, hz]; rfl
 rw [e0]
 rw [← hx] at H1
 rw [← hy] at H2
 clear hx hy e0
 go_enter Try.func76, Try.ntmps76
 go_wp2_with (go_at_call 71; refine (H1.out _).mono ?_; rintro e w1 ⟨rfl, x1⟩; refine stop_of ?_)
 unfold Stop
 obtain ⟨n1, n2⟩ := heap_new2 w (.cells #[.string ⟨t.toArray⟩, .bool b] 27) (.cells #[.string ⟨t'.toArray⟩, .bool b'] 27)
 have k1 := blk_cell (x1.heap n1) 0
 have k2 := blk_cell (x1.heap n2) 0
 have k3 := blk_cell (x1.heap n2) 1
 have N1 := Lh (And.intro (x1.heap n1) (x1.heap n2))
 have X1 := Lh ((ext_alloc2 _ _ _).trans x1)
 clear x1 n1 n2
 simp at k1 k2 k3
 cases x with
 | false =>
  go_wp2
  go_ret
  exact ⟨ret_bool (by simp), X1.out⟩
 | true =>
  go_wp2_with (go_at_call 71; refine (H2.out _).mono ?_; rintro e w2 ⟨rfl, x2⟩; refine stop_of ?_)
  unfold Stop
  clear k1 k2 k3
  have k1 := blk_cell (x2.heap N1.out.1) 0
  have k2 := blk_cell (x2.heap N1.out.2) 0
  have X2 := Lh (X1.out.trans x2)
  clear x2
  simp at k1 k2
  cases y with
  | false =>
   go_wp2
   go_ret
   exact ⟨ret_bool (by simp), X2.out⟩
  | true =>
   go_wp2
   go_ret
   exact ⟨ret_bool (by simp [hz]), X2.out⟩
end Go.Proofs.Ytpangoddbfiagaa
namespace Go.Proofs.Ytpangoddbfiagaa
open Go.RowKit
set_option linter.unusedVariables false
set_option linter.unusedSimpArgs false
set_option maxRecDepth 100000 in
set_option maxHeartbeats 1000000 in
theorem strong_any (t t' : Bs) (b b' : Bool) (w : World) (ht : t.length ≤ 1000000) (ht' : t'.length ≤ 1000000) : Calls Try.prog 42 #[tagV t b, tagV t' b'] w fun e w' => e = .returned (.bool (strongB t b t' b')) ∧ Ext w w' := by
 have H1 := Lh fun W => weak_any t t' b b' W ht ht'
 obtain ⟨x, hx⟩ : ∃ x, x = weakB t t' := ⟨_, rfl⟩
 have e0 : strongB t b t' b' = (!b && !b' && x) := by rw [hx]; rfl
 rw [e0]
 rw [← hx] at H1
 clear hx e0
 unfold tagV at H1 ⊢
 cases b with
 | true =>
  go_enter Try.func42, Try.ntmps42
  go_wp2
  go_ret
  exact ⟨rfl, ext_alloc2 _ _ _⟩
 | false =>
  cases b' with
  | true =>
   go_enter Try.func42, Try.ntmps42
   go_wp2
   go_ret
   exact ⟨rfl, ext_alloc2 _ _ _⟩
  | false =>
   go_enter Try.func42, Try.ntmps42
   go_wp2_with (go_at_call 60; refine (H1.out _).mono ?_; rintro e w1 ⟨rfl, x1⟩; refine stop_of ?_)
   unfold Stop
   have X1 := Lh ((ext_alloc2 _ _ _).trans x1)
   clear x1
   go_wp2
   go_ret
   exact ⟨ret_bool (by simp), X1.out⟩
set_option maxRecDepth 100000 in
set_option maxHeartbeats 1000000 in
theorem rstrong_any (t t' : Bs) (b b' : Bool) (w : World) (ht : t.length ≤ 1000000) (ht' : t'.length ≤ 1000000) : Calls Try.prog 64 #[tagV t b, tagV t' b'] w fun e w' => e = .returned (.bool (strongB t b t' b')) ∧ Ext w w' := by
 have H1 := Lh fun W => rweak_any t t' b b' W ht ht'
 obtain ⟨x, hx⟩ : ∃ x, x = weakB t t' := ⟨_, rfl⟩
 have e0 : strongB t b t' b' = (!b && !b' && x) := by rw [hx]; rfl
 rw [e0]
 rw [← hx] at H1
 clear hx e0
 unfold tagV at H1 ⊢
 go_enter Try.func64, Try.ntmps64
 go_wp2_with (go_at_call 76; refine (H1.out _).mono ?_; rintro e w1 ⟨rfl, x1⟩; refine stop_of ?_)
 unfold Stop
 obtain ⟨n1, n2⟩ := heap_new2 w (.cells #[.string ⟨t.toArray⟩, .bool b] 27) (.cells #[.string ⟨t'.toArray⟩, .bool b'] 27)
 have k1 := blk_cell (x1.heap n1) 1
 have k2 := blk_cell (x1.heap n2) 1
 have X1 := Lh ((ext_alloc2 _ _ _).trans x1)
 clear x1 n1 n2
 simp at k1 k2
 cases x <;> cases b <;> cases b' <;>
 (go_wp2
  go_ret
  exact ⟨ret_bool (by simp), X1.out⟩)
set_option maxRecDepth 100000 in
theorem dash_any (t : Bs) (w : World) (ht : t.length ≤ 1000000) : Calls Try.prog 80 #[.string ⟨t.toArray⟩, .string ⟨#[45]⟩] w fun e w' => e = .returned (.bool (first45 t)) ∧ w = w' := by
 cases t with
 | nil =>
  go_enter Try.func80, Try.ntmps80
  go_wp2
  go_ret
  exact ⟨rfl, rfl⟩
 | cons c r =>
  go_enter Try.func80, Try.ntmps80
  go_wp2
  go_ret
  refine ⟨ret_bool ?_, rfl⟩
  rw [Go.Lib.extract_toList]
  simp [first45]
  rw [Bool.eq_iff_iff]
  simp
  exact ⟨fun h => by rw [h]; rfl, fun h => UInt8.toNat_inj.1 (by simpa using h)⟩
set_option maxRecDepth 100000 in
theorem prefix_any (t : Bs) (w : World) (ht : t.length ≤ 1000000) : Calls Try.prog 68 #[.string ⟨t.toArray⟩, .string ⟨#[45]⟩] w fun e w' => e = .returned (.bool (first45 t)) ∧ w = w' := by
 have H1 := Lh (dash_any t w ht)
 go_enter Try.func68, Try.ntmps68
 go_wp2_with (go_at_call 80; refine H1.out.mono ?_; rintro e w1 ⟨rfl, rfl⟩; refine stop_of ?_)
 unfold Stop
 go_wp2
 go_ret
 exact ⟨rfl, rfl⟩
set_option maxRecDepth 100000 in
set_option maxHeartbeats 4000000 in
theorem ten_any (t : Bs) (w : World) (ht : t.length ≤ 1000000) : Calls Try.prog 57 #[.string ⟨t.toArray⟩] w fun e w' => e = .returned (.bool (tenB t)) ∧ w = w' := by
 have H1 := Lh (prefix_any t w ht)
 by_cases h1 : 40 < t.length
 ·have e0 : tenB t = false := by unfold tenB; rw [decide_eq_false (by omega)]; rfl
  rw [e0]
  go_enter Try.func57, Try.ntmps57
  go_wp2
  go_ret
  exact ⟨rfl, rfl⟩
 ·obtain ⟨x, hx⟩ : ∃ x, x = first45 t := ⟨_, rfl⟩
  have e0 : tenB t = (!x && t.all tenByte) := by unfold tenB; rw [decide_eq_true (by omega), hx]; rfl
  rw [e0]
  rw [← hx] at H1
  clear hx e0
  go_enter Try.func57, Try.ntmps57
  go_wp2_with (go_at_call 68; refine H1.out.mono ?_; rintro e w1 ⟨rfl, rfl⟩; refine stop_of ?_)
  unfold Stop
  cases x with
  | true =>
   go_wp2
   go_ret
   exact ⟨rfl, rfl⟩
  | false =>
   go_wp2
   go_loop [15, 3, 4, 5] (fun i _ _ _ => ∃ j : Nat, j ≤ t.length ∧ i = .int .i64 j ∧ (t.take j).all tenByte = true) (fun i _ _ _ => t.length - (intOf i).toNat)
   case atStart => exact ⟨0, by omega, rfl, rfl⟩
   case round =>
    obtain ⟨j, hj, rfl, hall⟩ := hrel
    have HALL := Lh hall
    clear hall
    by_cases hlt : j < t.length
    ·have HE : Hid (((⟨t.toArray⟩ : ByteArray)[j]'(by simpa [ByteArray.size] using hlt)).toNat = t[j].toNat) := Lh rfl
     go_wp2
     all_goals first
      | (go_round
         case rel => exact ⟨j + 1, by omega, by go_num, all_good hlt HALL.out (by have := HE.out; have := t[j].toNat_lt; simp [tenByte]; first | omega | (simp at *; omega))⟩
         case measure => simp [intOf]; omega)
      | (have hbad : t.all tenByte = false := all_bad hlt (by have := HE.out; have := t[j].toNat_lt; simp [tenByte]; first | omega | (simp at *; omega))
         go_ret
         exact ⟨ret_bool (by rw [hbad]), rfl⟩)
    ·have hjn : t.take j = t := List.take_of_length_le (by omega)
     rw [hjn] at HALL
     go_wp2
     go_ret
     exact ⟨ret_bool (by rw [HALL.out]), rfl⟩
end Go.Proofs.Ytpangoddbfiagaa
namespace Go.Proofs.Ytpangoddbfiagaa
open Go.RowKit
set_option linter.unusedVariables false
set_option linter.unusedSimpArgs false
def TextsAt (w : World) (v : Value) (ss : List Bs) : Prop :=
 ∃ (A : Option Addr) (c : Nat), v = .slice A ss.length c ∧ ss.length ≤ c ∧ (A = none → c = 0) ∧ ∀ j (hj : j < ss.length), ∃ b off, A = some ⟨b, off, none⟩ ∧ w.cell? ⟨b, off + j, none⟩ = some (.string ⟨ss[j].toArray⟩)
theorem TextsAt.ext {w w' : World} {v : Value} {ss : List Bs} (h : TextsAt w v ss) (hx : Ext w w') : TextsAt w' v ss := by
 obtain ⟨A, c, h1, h2, h3, h4⟩ := h
 exact ⟨A, c, h1, h2, h3, fun j hj => by obtain ⟨b, off, e1, e2⟩ := h4 j hj; exact ⟨b, off, e1, hx.cell e2⟩⟩
structure MetaP where
 tt : Bs
 tw : Bool
 mod : Int
 len : Int
 hav : Int
 fr : Int
 wh : Int
 er : Int
 keys : List Bs
 ten : Bs
 keep : Bool
def metaC (m : MetaP) (kv : Value) : List Value := [.string ⟨m.tt.toArray⟩, .bool m.tw, .int .i64 m.mod, .int .i64 m.len, .int .i64 m.hav, .int .i64 m.fr, .int .i64 m.wh, .int .i64 m.er, kv, .string ⟨m.ten.toArray⟩, .bool m.keep]
def metaV (m : MetaP) (kv : Value) : Value := .agg #[.string ⟨m.tt.toArray⟩, .bool m.tw, .int .i64 m.mod, .int .i64 m.len, .int .i64 m.hav, .int .i64 m.fr, .int .i64 m.wh, .int .i64 m.er, kv, .string ⟨m.ten.toArray⟩, .bool m.keep]
structure MetaZ (m : MetaP) : Prop where
 tt : m.tt.length ≤ 1000
 keys : m.keys.length ≤ 1000
 key : ∀ k ∈ m.keys, k.length ≤ 1000
 ten : m.ten.length ≤ 1000
def keysB (ks : List Bs) : Bool := decide (ks.length ≤ 32) && ks.all keyB && decide ks.Nodup
def numsB (m : MetaP) : Bool := decide (-1 ≤ m.mod) && decide (m.mod ≤ 253402300799) && decide (-1 ≤ m.len) && decide (m.len ≤ 1099511627776) && decide (0 ≤ m.hav) && decide (m.hav ≤ 1099511627776) && decide (m.len = -1 ∨ m.hav = m.len)
def noTag (m : MetaP) : Bool := m.tt == [] && !m.tw
def metaB (m : MetaP) : Bool := (noTag m || tagB m.tt) && numsB m && ticksB m.fr && ticksB m.wh && ticksB m.er && keysB m.keys && tenB m.ten
set_option maxRecDepth 100000 in
set_option maxHeartbeats 1000000 in
theorem index_any (w : World) (A : Option Addr) (c : Nat) (ss : List Bs) (t : Bs) (hl : ss.length ≤ 1000000) (hc : ∀ j (hj : j < ss.length), ∃ b off, A = some ⟨b, off, none⟩ ∧ w.cell? ⟨b, off + j, none⟩ = some (.string ⟨ss[j].toArray⟩)) :
  Calls Try.prog 69 #[.slice A ss.length c, .string ⟨t.toArray⟩] w fun e w' => ∃ z : Int, e = .returned (.int .i64 z) ∧ -1 ≤ z ∧ z ≤ 1000000 ∧ decide (0 ≤ z) = decide (t ∈ ss) ∧ w = w' := by
 obtain ⟨m, hm⟩ : ∃ m, m = ss.length := ⟨_, rfl⟩
 rw [← hm] at hl ⊢
 have HC := Lh hc; have HM := Lh hm
 clear hc hm
 go_enter Try.func69, Try.ntmps69
 go_wp2
 go_loop [8, 5] (fun i _ => ∃ j : Nat, j ≤ m ∧ i = .int .i64 j ∧ t ∉ ss.take j) (fun i _ => m - (intOf i).toNat)
 case atStart => exact ⟨0, by omega, rfl, by simp⟩
 case round =>
  obtain ⟨j, hj, rfl, hr⟩ := hrel
  have R := Lh hr
  clear hr
  by_cases hlt : j < m
  ·have hjs : j < ss.length := by rw [← HM.out]; exact hlt
   obtain ⟨b, off, rfl, hcell⟩ := HC.out j hjs
   have htk : ss.take (j + 1) = ss.take j ++ [ss[j]] := List.take_succ_eq_append_getElem hjs
   have hmem : ss[j] ∈ ss := by simp
   obtain ⟨k, hkk⟩ : ∃ k, k = ss[j] := ⟨_, rfl⟩
   rw [← hkk] at hcell htk hmem
   have HTK := Lh htk; have HMEM := Lh hmem
   clear htk hmem hkk hjs
   go_wp2
   ·have h : (t == k) = true := by assumption
    go_ret
    refine ⟨j, rfl, by omega, by omega, ?_, rfl⟩
    have e : t = k := by simpa using h
    exact ⟨fun _ => by rw [e]; exact HMEM.out, fun _ => by omega⟩
   ·have h : (t == k) = false := by assumption
    go_round
    case rel => exact ⟨j + 1, by omega, by go_num, by
     rw [HTK.out, List.mem_append, List.mem_singleton]
     rintro (h1 | h1)
     ·exact R.out h1
     ·rw [h1] at h; simp at h⟩
    case measure => simp [intOf]; omega
  ·have hjn : ss.take j = ss := List.take_of_length_le (by have := HM.out; omega)
   rw [hjn] at R
   go_wp2
   go_ret
   exact ⟨-1, rfl, by omega, by omega, by exact ⟨fun h => by omega, fun h => absurd h R.out⟩, rfl⟩
set_option maxRecDepth 100000 in
theorem contains_any (w : World) (A : Option Addr) (c : Nat) (ss : List Bs) (t : Bs) (hl : ss.length ≤ 1000000) (hc : ∀ j (hj : j < ss.length), ∃ b off, A = some ⟨b, off, none⟩ ∧ w.cell? ⟨b, off + j, none⟩ = some (.string ⟨ss[j].toArray⟩)) :
  Calls Try.prog 59 #[.slice A ss.length c, .string ⟨t.toArray⟩] w fun e w' => e = .returned (.bool (decide (t ∈ ss))) ∧ w = w' := by
 have H1 := Lh (index_any w A c ss t hl hc)
 obtain ⟨m, hm⟩ : ∃ m, m = ss.length := ⟨_, rfl⟩
 rw [← hm] at H1 ⊢
 obtain ⟨x, hx⟩ : ∃ x, x = decide (t ∈ ss) := ⟨_, rfl⟩
 rw [← hx] at H1 ⊢
 clear hc hm hx hl
 go_enter Try.func59, Try.ntmps59
 go_wp2_with (go_at_call 69; refine H1.out.mono ?_; rintro e w1 ⟨z, rfl, z1, z2, z3, rfl⟩; refine stop_of ?_)
 unfold Stop
 have Z := Lh z3
 clear z3
 go_wp2
 go_ret
 exact ⟨ret_bool (by rw [← Z.out]), rfl⟩
theorem metaB_parts {m : MetaP} (h : metaB m = true) : (noTag m = true ∨ tagB m.tt = true) ∧ -1 ≤ m.mod ∧ m.mod ≤ 253402300799 ∧ -1 ≤ m.len ∧ m.len ≤ 1099511627776 ∧ 0 ≤ m.hav ∧ m.hav ≤ 1099511627776 ∧ (m.len = -1 ∨ m.hav = m.len) ∧ ticksB m.fr = true ∧ ticksB m.wh = true ∧ ticksB m.er = true ∧ m.keys.length ≤ 32 ∧ m.keys.all keyB = true ∧ m.keys.Nodup ∧ tenB m.ten = true := by
 simp only [metaB, numsB, keysB, Bool.and_eq_true, Bool.or_eq_true, decide_eq_true_eq] at h
 obtain ⟨⟨⟨⟨⟨⟨h1, h2⟩, h3⟩, h4⟩, h5⟩, ⟨h6, h7⟩, h8⟩, h9⟩ := h
 obtain ⟨⟨⟨⟨⟨⟨a1, a2⟩, a3⟩, a4⟩, a5⟩, a6⟩, a7⟩ := h2
 exact ⟨h1, a1, a2, a3, a4, a5, a6, a7, h3, h4, h5, h6, h7, h8, h9⟩
theorem metaB_mk {m : MetaP} (h1 : noTag m = true ∨ tagB m.tt = true) (a1 : -1 ≤ m.mod) (a2 : m.mod ≤ 253402300799) (a3 : -1 ≤ m.len) (a4 : m.len ≤ 1099511627776) (a5 : 0 ≤ m.hav) (a6 : m.hav ≤ 1099511627776) (a7 : m.len = -1 ∨ m.hav = m.len) (h3 : ticksB m.fr = true) (h4 : ticksB m.wh = true) (h5 : ticksB m.er = true) (h6 : m.keys.length ≤ 32) (h7 : m.keys.all keyB = true) (h8 : m.keys.Nodup) (h9 : tenB m.ten = true) : metaB m = true := by
 simp only [metaB, numsB, keysB, Bool.and_eq_true, Bool.or_eq_true, decide_eq_true_eq]
 exact ⟨⟨⟨⟨⟨⟨h1, ⟨⟨⟨⟨⟨a1, a2⟩, a3⟩, a4⟩, a5⟩, a6⟩, a7⟩, h3⟩, h4⟩, h5⟩, ⟨h6, h7⟩, h8⟩, h9⟩
set_option maxRecDepth 100000 in
set_option maxHeartbeats 4000000 in
theorem meta_right (m : MetaP) (kv : Value) (w : World) (hz : MetaZ m) (hk : TextsAt w kv m.keys) : Calls Try.prog 36 #[metaV m kv] w fun e w' => e = .returned (.bool (metaB m)) ∧ Ext w w' := by
 have HT := Lh fun W => tag_any m.tt W m.tw (by have := hz.tt; omega)
 have HN := Lh fun W => ten_any m.ten W (by have := hz.ten; omega)
 have HK := Lh hk; have HZ := Lh hz
 obtain ⟨A, c, rfl, hc1, hc2, hc3⟩ := hk
 clear hc3 hz
 unfold metaV
 obtain ⟨x, hx⟩ : ∃ x, x = metaB m := ⟨_, rfl⟩
 rw [← hx]
 have HXX := Lh hx
 clear hx
 obtain ⟨tt, tw, mod, len, hav, fr, wh, er, keys, ten, keep⟩ := m
 simp only at *
 cases tt with
 | nil =>
  cases tw with
  | false =>
   obtain ⟨W0, hW0⟩ : ∃ W, W = w.alloc (.cells #[.string ⟨#[]⟩, .bool false, .int .i64 mod, .int .i64 len, .int .i64 hav, .int .i64 fr, .int .i64 wh, .int .i64 er, .slice A keys.length c, .string ⟨ten.toArray⟩, .bool keep] 38) := ⟨_, rfl⟩
   have nb := heap_alloc_new w (.cells #[.string ⟨#[]⟩, .bool false, .int .i64 mod, .int .i64 len, .int .i64 hav, .int .i64 fr, .int .i64 wh, .int .i64 er, .slice A keys.length c, .string ⟨ten.toArray⟩, .bool keep] 38)
   rw [← hW0] at nb
   have X1 : Hid (Ext w W0) := Lh (by rw [hW0]; exact ext_alloc1 w _)
   have HW0 := Lh hW0
   clear hW0
   have k0 := blk_cell nb 0; have k1 := blk_cell nb 1
   have k2 := blk_cell nb 2; have k3 := blk_cell nb 3; have k4 := blk_cell nb 4; have k5 := blk_cell nb 5; have k6 := blk_cell nb 6; have k7 := blk_cell nb 7; have k8 := blk_cell nb 8; have k9 := blk_cell nb 9
   clear nb
   simp at k0 k1 k2 k3 k4 k5 k6 k7 k8 k9
   go_enter Try.func36, Try.ntmps36
   go_wp2_with (rw [← HW0.out]; refine stop_of ?_)
   unfold Stop
   clear HW0
   go_wp2_with (first | (go_at_call 56; refine (ticks_any _ _).mono ?_; rintro e w2 ⟨rfl, rfl⟩) | (go_at_call 57; refine (HN.out _).mono ?_; rintro e w2 ⟨rfl, rfl⟩))
   all_goals first
    | (go_ret
       refine ⟨ret_bool ?_, X1.out⟩
       rw [HXX.out, eq_comm, Bool.eq_false_iff]
       intro h
       obtain ⟨p1, p2, p3, p4, p5, p6, p7, p8, p9, p10, p11, p12, p13, p14, p15⟩ := metaB_parts h
       (try simp only at *)
       first | omega | (simp_all; done) | (rename_i hh; simp [p15] at hh; omega) | (simp at *; omega))
    | skip
   all_goals
    rename -1 ≤ mod => q1
    rename mod ≤ 253402300799 => q2
    rename -1 ≤ len => q3
    rename ((-1 ≤ mod ∧ mod ≤ 253402300799) ∧ -1 ≤ len) ∧ len ≤ 1099511627776 => q4
    rename 0 ≤ hav => q5
    rename hav ≤ 1099511627776 => q6
    first | rename len = -1 => q7 | rename ¬ len = -1 => q7
    first | rename 0 ≤ hav ∧ hav ≤ 1099511627776 => q8 | rename (0 ≤ hav ∧ hav ≤ 1099511627776) ∧ ((len != -1) = false ∨ (hav != len) = false) => q8
    rename ticksB fr = true => q9
    rename ticksB wh = true => q10
    rename ticksB er = true => q11
    rename (keys.length : Int) ≤ 32 => q12
    rename (keys.length : Int) ≤ 32 ∧ (!tenB ten) = false => q13
    have HF : Hid (keys.all keyB = true → keys.Nodup → x = true) := Lh fun r1 r2 => by
     rw [HXX.out]
     refine metaB_mk (.inl (by simp [noTag])) q1 q2 q3 q4.2 q5 q6 ?_ q9 q10 q11 (show keys.length ≤ 32 by omega) r1 r2 (by simpa using q13.2)
     first | exact .inl q7 | (have := q8.2; simp [q7] at this; exact .inr this)
    have HQ12 := Lh q12
    have hkl : keys.length ≤ 1000000 := by omega
    clear q1 q2 q3 q4 q5 q6 q7 q8 q9 q10 q11 q12 q13
    go_loop [84, 3, 4] (fun i _ _ => ∃ j : Nat, j ≤ keys.length ∧ i = .int .i64 j ∧ (keys.take j).all keyB = true ∧ (keys.take j).Nodup) (fun i _ _ => keys.length - (intOf i).toNat)
    case atStart => exact ⟨0, by omega, rfl, rfl, by simp⟩
    case round =>
     obtain ⟨j, hj, rfl, hr1, hr2⟩ := hrel
     have R := Lh (And.intro hr1 hr2)
     clear hr1 hr2
     by_cases hlt : j < keys.length
     ·obtain ⟨A', c', ea, _, _, hcc⟩ := HK.out.ext X1.out
      cases ea
      obtain ⟨b, off, rfl, hcell⟩ := hcc j hlt
      have h59 := contains_any _ (some ⟨b, off, none⟩) c (keys.take j) keys[j] (by have := HQ12.out; simp; omega) (fun i hi => by
       have hi' : i < keys.length := by simp at hi; omega
       obtain ⟨b1, o1, e1, e2⟩ := hcc i hi'
       rw [List.getElem_take]
       exact ⟨b1, o1, e1, e2⟩)
      rw [List.length_take_of_le (by omega)] at h59
      have h58 := fun W => key_any keys[j] W (by have := HZ.out.key keys[j] (by simp); omega)
      have htk : keys.take (j + 1) = keys.take j ++ [keys[j]] := List.take_succ_eq_append_getElem hlt
      have hmem : keys[j] ∈ keys := by simp
      have hdup : keys[j] ∈ keys.take j → ¬ keys.Nodup := fun h1 h2 => by
       have h3 : keys[j] ∈ keys.drop j := by rw [List.drop_eq_getElem_cons hlt]; exact List.mem_cons_self
       rw [← List.take_append_drop j keys] at h2
       exact (List.nodup_append.1 h2).2.2 _ h1 _ h3 rfl
      obtain ⟨k, hkk⟩ : ∃ k, k = keys[j] := ⟨_, rfl⟩
      rw [← hkk] at hcell htk hmem h58 h59 hdup
      obtain ⟨y1, hy1⟩ : ∃ y, y = keyB k := ⟨_, rfl⟩
      obtain ⟨y2, hy2⟩ : ∃ y, y = decide (k ∈ keys.take j) := ⟨_, rfl⟩
      rw [← hy1] at h58
      rw [← hy2] at h59
      have H58 := Lh h58; have H59 := Lh h59; have HTK := Lh htk; have HMEM := Lh hmem; have HDUP := Lh hdup; have Y1 := Lh hy1; have Y2 := Lh hy2
      clear htk hmem hkk h58 h59 hdup hy1 hy2 hcc
      cases y1 with
      | false =>
       go_wp2_with (go_at_call 58; refine (H58.out _).mono ?_; rintro e w2 ⟨rfl, rfl⟩)
       go_ret
       refine ⟨ret_bool ?_, X1.out⟩
       rw [HXX.out, eq_comm, Bool.eq_false_iff]
       intro h
       obtain ⟨p1, p2, p3, p4, p5, p6, p7, p8, p9, p10, p11, p12, p13, p14, p15⟩ := metaB_parts h
       have := List.all_eq_true.1 p13 k HMEM.out
       rw [← Y1.out] at this
       cases this
      | true =>
       cases y2 with
       | true =>
        go_wp2_with (first | (go_at_call 58; refine (H58.out _).mono ?_; rintro e w2 ⟨rfl, rfl⟩) | (go_at_call 59; refine H59.out.mono ?_; rintro e w2 ⟨rfl, rfl⟩))
        go_ret
        refine ⟨ret_bool ?_, X1.out⟩
        rw [HXX.out, eq_comm, Bool.eq_false_iff]
        intro h
        obtain ⟨p1, p2, p3, p4, p5, p6, p7, p8, p9, p10, p11, p12, p13, p14, p15⟩ := metaB_parts h
        exact HDUP.out (of_decide_eq_true Y2.out.symm) p14
       | false =>
        go_wp2_with (first | (go_at_call 58; refine (H58.out _).mono ?_; rintro e w2 ⟨rfl, rfl⟩) | (go_at_call 59; refine H59.out.mono ?_; rintro e w2 ⟨rfl, rfl⟩))
        go_round
        case rel => exact ⟨j + 1, by omega, by go_num, by rw [HTK.out, List.all_append, R.out.1]; simp [← Y1.out], by
         rw [HTK.out, List.nodup_append]
         refine ⟨R.out.2, by simp, fun a ha b hb e => ?_⟩
         have hb' : b = k := by simpa using hb
         rw [e, hb'] at ha
         exact of_decide_eq_false Y2.out.symm ha⟩
        case measure => simp [intOf]; omega
     ·have hjn : keys.take j = keys := List.take_of_length_le (by omega)
      rw [hjn] at R
      have HTR : Hid (x = true) := Lh (HF.out R.out.1 R.out.2)
      go_wp2
      go_ret
      exact ⟨ret_bool HTR.out.symm, X1.out⟩
  | true =>
   go_enter Try.func36, Try.ntmps36
   go_wp2_with (go_at_call 39; refine (HT.out _).mono ?_; rintro e w1 ⟨rfl, x1⟩)
   go_ret
   refine ⟨ret_bool ?_, (ext_alloc1 w _).trans x1⟩
   rw [HXX.out, eq_comm, Bool.eq_false_iff]
   intro h
   obtain ⟨p1, _⟩ := metaB_parts h
   simp [noTag, tagB] at p1
 | cons c0 t0 =>
  obtain ⟨yt, hyt⟩ : ∃ y, y = tagB (c0 :: t0) := ⟨_, rfl⟩
  rw [← hyt] at HT
  have YT := Lh hyt
  clear hyt
  have hne : (c0 :: t0 == []) = false := rfl
  go_enter Try.func36, Try.ntmps36
  go_wp2_with (go_at_call 39; refine (HT.out _).mono ?_; rintro e w1 ⟨rfl, x1⟩; refine stop_of ?_)
  unfold Stop
  have nb := x1.heap (heap_alloc_new w (.cells #[.string ⟨(c0 :: t0).toArray⟩, .bool tw, .int .i64 mod, .int .i64 len, .int .i64 hav, .int .i64 fr, .int .i64 wh, .int .i64 er, .slice A keys.length c, .string ⟨ten.toArray⟩, .bool keep] 38))
  have X1 := Lh ((ext_alloc1 w _).trans x1)
  clear x1
  cases yt with
  | false =>
   go_wp2
   go_ret
   refine ⟨ret_bool ?_, X1.out⟩
   rw [HXX.out, eq_comm, Bool.eq_false_iff]
   intro h
   obtain ⟨p1, _⟩ := metaB_parts h
   simp only [← YT.out] at p1
   simp [noTag] at p1
  | true =>
   have k2 := blk_cell nb 2; have k3 := blk_cell nb 3; have k4 := blk_cell nb 4; have k5 := blk_cell nb 5; have k6 := blk_cell nb 6; have k7 := blk_cell nb 7; have k8 := blk_cell nb 8; have k9 := blk_cell nb 9
   clear nb
   simp at k2 k3 k4 k5 k6 k7 k8 k9
   go_wp2_with (first | (go_at_call 56; refine (ticks_any _ _).mono ?_; rintro e w2 ⟨rfl, rfl⟩) | (go_at_call 57; refine (HN.out _).mono ?_; rintro e w2 ⟨rfl, rfl⟩))
   all_goals first
    | (go_ret
       refine ⟨ret_bool ?_, X1.out⟩
       rw [HXX.out, eq_comm, Bool.eq_false_iff]
       intro h
       obtain ⟨p1, p2, p3, p4, p5, p6, p7, p8, p9, p10, p11, p12, p13, p14, p15⟩ := metaB_parts h
       (try simp only at *)
       first | omega | (simp_all; done) | (rename_i hh; simp [p15] at hh; omega) | (simp at *; omega))
    | skip
   all_goals
    rename -1 ≤ mod => q1
    rename mod ≤ 253402300799 => q2
    rename -1 ≤ len => q3
    rename ((-1 ≤ mod ∧ mod ≤ 253402300799) ∧ -1 ≤ len) ∧ len ≤ 1099511627776 => q4
    rename 0 ≤ hav => q5
    rename hav ≤ 1099511627776 => q6
    first | rename len = -1 => q7 | rename ¬ len = -1 => q7
    first | rename 0 ≤ hav ∧ hav ≤ 1099511627776 => q8 | rename (0 ≤ hav ∧ hav ≤ 1099511627776) ∧ ((len != -1) = false ∨ (hav != len) = false) => q8
    rename ticksB fr = true => q9
    rename ticksB wh = true => q10
    rename ticksB er = true => q11
    rename (keys.length : Int) ≤ 32 => q12
    rename (keys.length : Int) ≤ 32 ∧ (!tenB ten) = false => q13
    have HF : Hid (keys.all keyB = true → keys.Nodup → x = true) := Lh fun r1 r2 => by
     rw [HXX.out]
     refine metaB_mk (.inr YT.out.symm) q1 q2 q3 q4.2 q5 q6 ?_ q9 q10 q11 (show keys.length ≤ 32 by omega) r1 r2 (by simpa using q13.2)
     first | exact .inl q7 | (have := q8.2; simp [q7] at this; exact .inr this)
    have HQ12 := Lh q12
    have hkl : keys.length ≤ 1000000 := by omega
    clear q1 q2 q3 q4 q5 q6 q7 q8 q9 q10 q11 q12 q13
    go_loop [84, 3, 4] (fun i _ _ => ∃ j : Nat, j ≤ keys.length ∧ i = .int .i64 j ∧ (keys.take j).all keyB = true ∧ (keys.take j).Nodup) (fun i _ _ => keys.length - (intOf i).toNat)
    case atStart => exact ⟨0, by omega, rfl, rfl, by simp⟩
    case round =>
     obtain ⟨j, hj, rfl, hr1, hr2⟩ := hrel
     have R := Lh (And.intro hr1 hr2)
     clear hr1 hr2
     by_cases hlt : j < keys.length
     ·obtain ⟨A', c', ea, _, _, hcc⟩ := HK.out.ext X1.out
      cases ea
      obtain ⟨b, off, rfl, hcell⟩ := hcc j hlt
      have h59 := contains_any _ (some ⟨b, off, none⟩) c (keys.take j) keys[j] (by have := HQ12.out; simp; omega) (fun i hi => by
       have hi' : i < keys.length := by simp at hi; omega
       obtain ⟨b1, o1, e1, e2⟩ := hcc i hi'
       rw [List.getElem_take]
       exact ⟨b1, o1, e1, e2⟩)
      rw [List.length_take_of_le (by omega)] at h59
      have h58 := fun W => key_any keys[j] W (by have := HZ.out.key keys[j] (by simp); omega)
      have htk : keys.take (j + 1) = keys.take j ++ [keys[j]] := List.take_succ_eq_append_getElem hlt
      have hmem : keys[j] ∈ keys := by simp
      have hdup : keys[j] ∈ keys.take j → ¬ keys.Nodup := fun h1 h2 => by
       have h3 : keys[j] ∈ keys.drop j := by rw [List.drop_eq_getElem_cons hlt]; exact List.mem_cons_self
       rw [← List.take_append_drop j keys] at h2
       exact (List.nodup_append.1 h2).2.2 _ h1 _ h3 rfl
      obtain ⟨k, hkk⟩ : ∃ k, k = keys[j] := ⟨_, rfl⟩
      rw [← hkk] at hcell htk hmem h58 h59 hdup
      obtain ⟨y1, hy1⟩ : ∃ y, y = keyB k := ⟨_, rfl⟩
      obtain ⟨y2, hy2⟩ : ∃ y, y = decide (k ∈ keys.take j) := ⟨_, rfl⟩
      rw [← hy1] at h58
      rw [← hy2] at h59
      have H58 := Lh h58; have H59 := Lh h59; have HTK := Lh htk; have HMEM := Lh hmem; have HDUP := Lh hdup; have Y1 := Lh hy1; have Y2 := Lh hy2
      clear htk hmem hkk h58 h59 hdup hy1 hy2 hcc
      cases y1 with
      | false =>
       go_wp2_with (go_at_call 58; refine (H58.out _).mono ?_; rintro e w2 ⟨rfl, rfl⟩)
       go_ret
       refine ⟨ret_bool ?_, X1.out⟩
       rw [HXX.out, eq_comm, Bool.eq_false_iff]
       intro h
       obtain ⟨p1, p2, p3, p4, p5, p6, p7, p8, p9, p10, p11, p12, p13, p14, p15⟩ := metaB_parts h
       have := List.all_eq_true.1 p13 k HMEM.out
       rw [← Y1.out] at this
       cases this
      | true =>
       cases y2 with
       | true =>
        go_wp2_with (first | (go_at_call 58; refine (H58.out _).mono ?_; rintro e w2 ⟨rfl, rfl⟩) | (go_at_call 59; refine H59.out.mono ?_; rintro e w2 ⟨rfl, rfl⟩))
        go_ret
        refine ⟨ret_bool ?_, X1.out⟩
        rw [HXX.out, eq_comm, Bool.eq_false_iff]
        intro h
        obtain ⟨p1, p2, p3, p4, p5, p6, p7, p8, p9, p10, p11, p12, p13, p14, p15⟩ := metaB_parts h
        exact HDUP.out (of_decide_eq_true Y2.out.symm) p14
       | false =>
        go_wp2_with (first | (go_at_call 58; refine (H58.out _).mono ?_; rintro e w2 ⟨rfl, rfl⟩) | (go_at_call 59; refine H59.out.mono ?_; rintro e w2 ⟨rfl, rfl⟩))
        go_round
        case rel => exact ⟨j + 1, by omega, by go_num, by rw [HTK.out, List.all_append, R.out.1]; simp [← Y1.out], by
         rw [HTK.out, List.nodup_append]
         refine ⟨R.out.2, by simp, fun a ha b hb e => ?_⟩
         have hb' : b = k := by simpa using hb
         rw [e, hb'] at ha
         exact of_decide_eq_false Y2.out.symm ha⟩
        case measure => simp [intOf]; omega
     ·have hjn : keys.take j = keys := List.take_of_length_le (by omega)
      rw [hjn] at R
      have HTR : Hid (x = true) := Lh (HF.out R.out.1 R.out.2)
      go_wp2
      go_ret
      exact ⟨ret_bool HTR.out.symm, X1.out⟩
end Go.Proofs.Ytpangoddbfiagaa
