import Derived.Test.YtpangoddbfiagaaRG17
namespace Go.Proofs.Ytpangoddbfiagaa
open Go.RowKit Go.Maps Go.ChangeMaps
set_option linter.unusedVariables false
set_option linter.unusedSimpArgs false
set_option maxRecDepth 100000 in
theorem rnone_any (t : Bs) (b : Bool) (w : World) : Calls Try.prog 70 #[.agg #[.string ⟨t.toArray⟩, .bool b]] w fun e w' => e = .returned (.bool (t == [] && !b)) ∧ Ext w w' := by
 cases t with
 | nil =>
  go_enter Try.func70, Try.ntmps70
  go_wp2
  go_ret
  exact ⟨ret_bool (by simp), ext_alloc1 _ _⟩
 | cons c0 t0 =>
  go_enter Try.func70, Try.ntmps70
  go_wp2
  go_ret
  exact ⟨ret_bool (by simp), ext_alloc1 _ _⟩
theorem first45_at {t : Bs} (h : 0 < t.length) : first45 t = decide (t[0].toNat = 45) := by
 cases t with
 | nil => simp at h
 | cons c r => rfl
theorem tenB_all {t : Bs} (h : t.all tenByte = false) : tenB t = false := by unfold tenB; rw [h]; simp
theorem tenB_dash {t : Bs} (h : first45 t = true) : tenB t = false := by unfold tenB; rw [h]; simp
theorem tenB_end {t : Bs} (h : t.all tenByte = true) (h1 : 0 < t.length → first45 t = false) : tenB t = decide ((t.length : Int) ≤ 40) := by
 have : first45 t = false := by
  cases t with
  | nil => rfl
  | cons c r => exact h1 (by simp)
 unfold tenB
 rw [h, this]
 simp
 omega
set_option maxRecDepth 100000 in
set_option maxHeartbeats 4000000 in
theorem rten_any (t : Bs) (w : World) (ht : t.length ≤ 1000000) : Calls Try.prog 73 #[.string ⟨t.toArray⟩] w fun e w' => e = .returned (.bool (tenB t)) ∧ w = w' := by
 obtain ⟨z, hz⟩ : ∃ z, z = tenB t := ⟨_, rfl⟩
 have Z := Lh hz
 rw [← hz]
 clear hz
 go_enter Try.func73, Try.ntmps73
 go_wp2
 go_loop [3, 4] (fun i _ => ∃ j : Nat, j ≤ t.length ∧ i = .int .i64 j ∧ Hid ((t.take j).all tenByte = true ∧ (0 < j → first45 t = false))) (fun i _ => t.length - (intOf i).toNat)
 case atStart => exact ⟨0, by omega, rfl, Lh ⟨rfl, fun h => by omega⟩⟩
 case round =>
  obtain ⟨j, hj, rfl, HALL⟩ := hrel
  by_cases hlt : j < t.length
  ·have HE : Hid (((⟨t.toArray⟩ : ByteArray)[j]'(by simpa [ByteArray.size] using hlt)).toNat = t[j].toNat) := Lh rfl
   by_cases h0 : j = 0
   ·subst h0
    go_wp2
    all_goals first
     | (go_round
        case rel => exact ⟨1, by omega, by go_num, Lh ⟨all_good hlt HALL.out.1 (by have := HE.out; have := t[0].toNat_lt; simp [tenByte]; first | omega | (simp at *; omega)), fun _ => by
          rw [first45_at hlt]; have := HE.out; have := t[0].toNat_lt; simp; first | omega | (simp at *; omega)⟩⟩
        case measure => simp [intOf]; omega)
     | (go_ret
        refine ⟨ret_bool ?_, rfl⟩
        rw [Z.out, eq_comm]
        first
        | exact tenB_all (all_bad hlt (by have := HE.out; have := t[0].toNat_lt; simp [tenByte]; first | omega | (simp at *; omega)))
        | exact tenB_dash (by rw [first45_at hlt]; have := HE.out; have := t[0].toNat_lt; simp; first | omega | (simp at *; omega)))
   ·have e0 : ((j : Int) == 0) = false := by simp; omega
    go_wp2
    all_goals first
     | (go_round
        case rel => exact ⟨j + 1, by omega, by go_num, Lh ⟨all_good hlt HALL.out.1 (by have := HE.out; have := t[j].toNat_lt; simp [tenByte]; first | omega | (simp at *; omega)), fun _ => HALL.out.2 (by omega)⟩⟩
        case measure => simp [intOf]; omega)
     | (go_ret
        refine ⟨ret_bool ?_, rfl⟩
        rw [Z.out, eq_comm]
        exact tenB_all (all_bad hlt (by have := HE.out; have := t[j].toNat_lt; simp [tenByte]; first | omega | (simp at *; omega))))
  ·have hjn : t.take j = t := List.take_of_length_le (by omega)
   have HA := Lh (show z = decide ((t.length : Int) ≤ 40) by
    rw [Z.out]
    exact tenB_end (by have := HALL.out.1; rwa [hjn] at this) (fun h => HALL.out.2 (by omega)))
   clear Z hjn
   go_wp2
   go_ret
   exact ⟨ret_bool HA.out.symm, rfl⟩
end Go.Proofs.Ytpangoddbfiagaa
namespace Go.Proofs.Ytpangoddbfiagaa
open Go.RowKit Go.Maps Go.ChangeMaps
set_option linter.unusedVariables false
set_option linter.unusedSimpArgs false
theorem keysB_mk {ks : List Bs} (h : ks.length ≤ 32) (h1 : ks.all keyB = true) (h2 : ks.Nodup) : keysB ks = true := by
 unfold keysB; rw [decide_eq_true h, h1, decide_eq_true h2]; rfl
theorem keysB_key {ks : List Bs} {k : Bs} (hm : k ∈ ks) (h : keyB k = false) : keysB ks = false := by
 unfold keysB
 rw [show ks.all keyB = false from by rw [List.all_eq_false]; exact ⟨k, hm, by simp [h]⟩]
 simp
theorem keysB_dup {ks : List Bs} {k : Bs} {i j : Nat} (hj : j < i) (h1 : ks[j]? = some k) (h2 : ks[i]? = some k) : keysB ks = false := by
 obtain ⟨a1, a2⟩ := List.getElem?_eq_some_iff.1 h1
 obtain ⟨b1, b2⟩ := List.getElem?_eq_some_iff.1 h2
 unfold keysB
 rw [decide_eq_false (p := ks.Nodup) (fun hn => by have := (List.getElem_inj hn).1 (a2.trans b2.symm); omega)]
 simp
theorem take_nodup {ks : List Bs} {k : Bs} {i : Nat} (hi : ks[i]? = some k) (h : (ks.take i).Nodup) (hn : k ∉ ks.take i) : (ks.take (i + 1)).Nodup := by
 obtain ⟨a1, a2⟩ := List.getElem?_eq_some_iff.1 hi
 rw [List.take_succ_eq_append_getElem a1, List.nodup_append]
 refine ⟨h, by simp, fun a ha b hb e => hn ?_⟩
 have hb' : b = ks[i] := by simpa using hb
 rw [← a2, ← hb', ← e]; exact ha
theorem take_all {f : Bs → Bool} {ks : List Bs} {k : Bs} {i : Nat} (hi : ks[i]? = some k) (h : (ks.take i).all f = true) (hn : f k = true) : (ks.take (i + 1)).all f = true := by
 obtain ⟨a1, a2⟩ := List.getElem?_eq_some_iff.1 hi
 rw [List.take_succ_eq_append_getElem a1, List.all_append, h, a2]; simp [hn]
theorem take_notin {ks : List Bs} {k k1 : Bs} {j : Nat} (hj : ks[j]? = some k1) (h : k ∉ ks.take j) (hn : (k1 == k) = false) : k ∉ ks.take (j + 1) := by
 obtain ⟨a1, a2⟩ := List.getElem?_eq_some_iff.1 hj
 rw [List.take_succ_eq_append_getElem a1, List.mem_append, List.mem_singleton, a2]
 rintro (h1 | h1)
 ·exact h h1
 ·rw [h1] at hn; simp at hn
set_option maxRecDepth 100000 in
set_option maxHeartbeats 4000000 in
theorem rkeys_any (ks : List Bs) (kv : Value) (w : World) (hl : ks.length ≤ 1000) (hk : ∀ k ∈ ks, k.length ≤ 1000) (hkt : TextsAt w kv ks) : Calls Try.prog 72 #[kv] w fun e w' => e = .returned (.bool (keysB ks)) ∧ Ext w w' := by
 obtain ⟨A, c, rfl, _, _, hc⟩ := hkt
 obtain ⟨n, hn⟩ : ∃ n, n = ks.length := ⟨_, rfl⟩
 have HN := Lh hn; have HC : Hid (∀ (W : World), Ext w W → ∀ (j : Nat) (hj : j < ks.length), ∃ b off, A = some ⟨b, off, none⟩ ∧ W.cell? ⟨b, off + j, none⟩ = some (.string ⟨(ks[j]'hj).toArray⟩)) := Lh fun W y j hj => by obtain ⟨b, off, e1, e2⟩ := hc j hj; exact ⟨b, off, e1, y.cell e2⟩
 have HK := Lh hk
 rw [← hn] at hl ⊢
 obtain ⟨z, hz⟩ : ∃ z, z = keysB ks := ⟨_, rfl⟩
 have Z := Lh hz
 rw [← hz]
 clear hz hn hc hk
 by_cases h32 : 32 < n
 ·have ez := Lh (show z = false by rw [Z.out]; unfold keysB; rw [decide_eq_false (p := ks.length ≤ 32) (by rw [← HN.out]; omega)]; rfl)
  go_enter Try.func72, Try.ntmps72
  go_wp2
  go_ret
  exact ⟨ret_bool ez.out.symm, Ext.refl _⟩
 ·have H32 := Lh h32
  have d32 : decide (32 < (n : Int)) = false := decide_eq_false (by omega)
  clear h32
  have XR := Lh (Ext.refl w)
  go_enter Try.func72, Try.ntmps72
  go_wp2
  clear d32
  go_loopw [3, 4] (fun i _ wr => ∃ j : Nat, j ≤ n ∧ i = .int .i64 j ∧ Hid ((ks.take j).all keyB = true ∧ (ks.take j).Nodup) ∧ Hid (Ext w wr)) (fun i _ _ => n - (intOf i).toNat)
  case atStart => exact ⟨0, by omega, rfl, Lh ⟨rfl, by simp⟩, XR⟩
  case round =>
   clear XR
   obtain ⟨i, hi, rfl, R, XW⟩ := hrel
   by_cases hlt : i < n
   ·have hik : i < ks.length := by rw [← HN.out]; exact hlt
    obtain ⟨b, off, rfl, hcell⟩ := HC.out _ XW.out i hik
    obtain ⟨k, hkk⟩ : ∃ k, k = ks[i] := ⟨_, rfl⟩
    have HKE : Hid (ks[i]? = some k) := Lh (by rw [hkk]; simp [hik])
    have hkl : k.length ≤ 1000 := by rw [hkk]; exact HK.out _ (by simp)
    have HKK := Lh fun W => rkey_any k W (by omega)
    rw [← hkk] at hcell
    obtain ⟨y, hy⟩ : ∃ y, y = keyB k := ⟨_, rfl⟩
    have HY := Lh hy
    rw [← hy] at HKK
    clear hkk hy hik hkl
    cases y with
    | false =>
     have ez := Lh (show z = false by rw [Z.out]; exact keysB_key (k := k) (List.mem_of_getElem? HKE.out) HY.out.symm)
     go_wp2_with (go_at_call 81; refine (HKK.out _).mono ?_; rintro e w2 ⟨rfl, rfl⟩)
     go_ret
     exact ⟨ret_bool ez.out.symm, XW.out⟩
    | true =>
     go_wp2_with (go_at_call 81; refine (HKK.out _).mono ?_; rintro e w2 ⟨rfl, rfl⟩)
     clear hcell
     go_loopw [4] (fun i2 wr2 => ∃ j : Nat, j ≤ i ∧ i2 = .int .i64 j ∧ Hid (k ∉ ks.take j) ∧ Hid (Ext w wr2)) (fun i2 _ => i - (intOf i2).toNat)
     case atStart => exact ⟨0, by omega, rfl, Lh (by simp), XW⟩
     case round =>
      clear XW
      obtain ⟨j, hj, rfl, R2, X2⟩ := hrel
      by_cases hlt2 : j < i
      ·have hik : i < ks.length := (List.getElem?_eq_some_iff.1 HKE.out).1
       have hjk : j < ks.length := by omega
       obtain ⟨b1, off1, eb, hc1⟩ := HC.out _ X2.out j hjk
       obtain ⟨b2, off2, eb2, hc2⟩ := HC.out _ X2.out i hik
       cases eb
       cases eb2
       obtain ⟨k1, hk1⟩ : ∃ k1, k1 = ks[j] := ⟨_, rfl⟩
       have HK1 : Hid (ks[j]? = some k1) := Lh (by rw [hk1]; simp [hjk])
       rw [← hk1] at hc1
       rw [(List.getElem?_eq_some_iff.1 HKE.out).2] at hc2
       clear hk1 hjk hik
       obtain ⟨W2, hW2⟩ : ∃ W, W = wr := ⟨_, rfl⟩
       subst hW2
       have G0 : ∀ x : Grow [] W2, x.v.cell? ⟨b, off + j, none⟩ = some (.string ⟨k1.toArray⟩) := fun x => x.ext.cell hc1 (by simp)
       have G1 : ∀ x : Grow [] W2, x.v.cell? ⟨b, off + i, none⟩ = some (.string ⟨k.toArray⟩) := fun x => x.ext.cell hc2 (by simp)
       clear hc1 hc2
       cases hy2 : (k1 == k) with
       | true =>
        have ez := Lh (show z = false by
         have e : k1 = k := by simpa using hy2
         have h1 := HK1.out
         rw [e] at h1
         rw [Z.out]; exact keysB_dup hlt2 h1 HKE.out)
        go_wp2
        (refine wp_region_grow (by kernel_rfl) (by kernel_rfl) ?_; (repeat (go_big_quiet_step (fail))); refine wpQuiet_nil ?_)
        clear G0 G1 hy2
        intro w3 hx3
        go_wp2
        go_ret
        exact ⟨ret_bool ez.out.symm, X2.out.trans hx3⟩
       | false =>
        have R3 := Lh (take_notin HK1.out R2.out hy2)
        go_wp2
        (refine wp_region_grow (by kernel_rfl) (by kernel_rfl) ?_; (repeat (go_big_quiet_step (fail))); refine wpQuiet_nil ?_)
        clear G0 G1 hy2
        intro w3 hx3
        have X3 := Lh (X2.out.trans hx3)
        clear hx3
        go_wp2
        go_roundw
        case rel => exact ⟨j + 1, by omega, by go_num, R3, X3⟩
        case measure => simp [intOf]; omega
      ·have R3 := Lh (show k ∉ ks.take i from by have := R2.out; rwa [show j = i by omega] at this)
       go_wp2
       go_roundw
       case rel => exact ⟨i + 1, by omega, by go_num, Lh ⟨take_all HKE.out R.out.1 HY.out.symm, take_nodup HKE.out R.out.2 R3.out⟩, X2⟩
       case measure => simp [intOf]; omega
   ·have hjn : ks.take i = ks := List.take_of_length_le (by have := HN.out; omega)
    have ez := Lh (show z = true by
     rw [Z.out]
     have h1 := R.out.1; have h2 := R.out.2
     rw [hjn] at h1 h2
     exact keysB_mk (by have := HN.out; have := H32.out; omega) h1 h2)
    clear hjn
    go_wp2
    go_ret
    exact ⟨ret_bool ez.out.symm, XW.out⟩
end Go.Proofs.Ytpangoddbfiagaa
