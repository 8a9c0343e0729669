import Derived.Test.YtpangoddbfiagaaRG14
import Derived.Test.YtpangoddbfiagaaRows
import Derived.ProofKit
import Derived.OpenShut
import Derived.ShutString
import Derived.ChangeOld
import Derived.Deep.Slices
import Derived.Lib.SmallJoins
import Derived.Laws.Concat
namespace Go.Proofs.Ytpangoddbfiagaa
open Go.RowKit Go.Maps Go.ChangeMaps
set_option linter.unusedVariables false
set_option linter.unusedSimpArgs false
theorem fld49_0 (W : World) (a0 a1 a2 a3 a4 a5 a6 a7 a8 a9 a10 a11 a12 a13 a14 : Value) : (Instr.field 49 (.agg #[a0, a1, a2, a3, a4, a5, a6, a7, a8, a9, a10, a11, a12, a13, a14]) 0).run Try.prog W = .ok a0 W := by kernel_rfl
theorem fld49_2 (W : World) (a0 a1 a2 a3 a4 a5 a6 a7 a8 a9 a10 a11 a12 a13 a14 : Value) : (Instr.field 49 (.agg #[a0, a1, a2, a3, a4, a5, a6, a7, a8, a9, a10, a11, a12, a13, a14]) 2).run Try.prog W = .ok (.agg #[a12, a13]) W := by kernel_rfl
section
variable {w0 w w' : World} {b N : Nat} {vs : List Vn} {ss : List Sn} {sa : List Nat} {hl : List (Value × Bs)} {u : Value} {P : Nat → Prop}
theorem size9 : (Try.prog.info? 9).map (·.size) = some 1 := by kernel_rfl
theorem aw_set1 (h : St w0 w b 0 [] [] [] hl P) (hu : (u, [97, 98, 99]) ∈ hl) : Calls Try.prog 13 #[.pointer (some ⟨b, 0, none⟩), .string ⟨#[47, 97]⟩, .agg #[.string ⟨#[116]⟩, .bool false, .int .i64 (-1), .int .i64 (-1), .int .i64 0, .int .i64 0, .int .i64 0, .int .i64 0, .slice none 0 0, .string ⟨#[]⟩, .bool true], u] w fun e w' => e = .returned (.int .i64 0) ∧ St w0 w' b 2 exV1 [] [] hl P := by
 have := st_set (o := [47, 97]) (m := exM (-1)) (kv := .slice none 0 0) h (by omega) (by decide) (exM_z _) (texts_nil _) (low_nil _) hu (by decide)
 rw [ex_set1] at this
 exact this.mono fun e w' ⟨h1, h2, _⟩ => ⟨h1, h2⟩
theorem aw_ask1 (h : St w0 w b N exV1 [] [] hl P) : Calls Try.prog 15 #[.pointer (some ⟨b, 0, none⟩), .agg #[.string ⟨#[47, 97]⟩, .int .i64 1, .int .i64 4611686018427387904, .string ⟨#[]⟩, .bool false, .string ⟨#[]⟩, .bool false]] w fun e w' => ∃ sb, e = .returned (.tuple #[.pointer (some ⟨sb, 0, none⟩), .int .i64 0]) ∧ St w0 w' b N exV1 [exS1] [sb] hl P := by
 have := st_ask h wf_ex1 exF1 ⟨by decide, by decide, by decide⟩ ex_ft1
 rw [ex_ask1] at this
 exact this.mono fun e w' ⟨sb, h1, h2, _⟩ => ⟨sb, h1, h2⟩
theorem aw_take1 {sb : Nat} (h : St w0 w b N exV1 [exS1] [sb] hl P) : Calls Try.prog 18 #[.pointer (some ⟨sb, 0, none⟩), .int .i64 9] w fun e w' => ∃ v, e = .returned (.tuple #[v, .int .i64 2]) ∧ St w0 w' b N exV1 [exS2] [sb] ((v, [98, 99]) :: hl) P := by
 have := st_take (j := 0) (s := exS1) h rfl rfl 9
 rw [ex_mov1, ex_take1, ex_has1] at this
 exact this.mono fun e w' ⟨v, h1, _, h2, _⟩ => ⟨v, h1, h2⟩
theorem aw_grow (h : St w0 w b N exV1 ss sa hl P) (hu : (u, [100]) ∈ hl) : Calls Try.prog 17 #[.pointer (some ⟨b, 0, none⟩), .string ⟨#[47, 97]⟩, u] w fun e w' => e = .returned (.int .i64 0) ∧ St w0 w' b N exV2 ss sa hl P := by
 have := st_grow (o := [47, 97]) h (by decide) hu (by decide) (fun i v hn hv => by
  have : i = 0 := by
   have e : nowI exV1 [47, 97] = some 0 := by kernel_rfl
   rw [e] at hn; exact (Option.some.inj hn).symm
  subst this
  obtain rfl := Option.some.inj hv
  decide)
 rw [ex_grow] at this
 exact this.mono fun e w' ⟨h1, h2, _⟩ => ⟨h1, h2⟩
theorem aw_has1 {sb : Nat} (h : St w0 w b N exV2 [exS2] [sb] hl P) : Calls Try.prog 30 #[.pointer (some ⟨sb, 0, none⟩)] w fun e w' => e = .returned (.int .i64 1) ∧ St w0 w' b N exV2 [exS2] [sb] hl P := by
 have := st_has (j := 0) (s := exS2) h rfl rfl
 rw [ex_has2] at this
 exact this.mono fun e w' ⟨h1, h2, _⟩ => ⟨h1, h2⟩
theorem aw_set2 (h : St w0 w b 2 exV2 ss sa hl P) (hu : (u, [120]) ∈ hl) : Calls Try.prog 13 #[.pointer (some ⟨b, 0, none⟩), .string ⟨#[47, 97]⟩, .agg #[.string ⟨#[116]⟩, .bool false, .int .i64 (-1), .int .i64 1, .int .i64 0, .int .i64 0, .int .i64 0, .int .i64 0, .slice none 0 0, .string ⟨#[]⟩, .bool true], u] w fun e w' => e = .returned (.int .i64 12) ∧ St w0 w' b 4 exV2 ss sa hl P := by
 have := st_set (o := [47, 97]) (m := exM 1) (kv := .slice none 0 0) h (by omega) (by decide) (exM_z _) (texts_nil _) (low_nil _) hu (by decide)
 rw [ex_set2] at this
 exact this.mono fun e w' ⟨h1, h2, _⟩ => ⟨h1, h2⟩
theorem aw_set3 (h : St w0 w b 4 exV2 ss sa hl P) (hu : (u, [120]) ∈ hl) : Calls Try.prog 13 #[.pointer (some ⟨b, 0, none⟩), .string ⟨#[47, 97]⟩, .agg #[.string ⟨#[117]⟩, .bool false, .int .i64 (-1), .int .i64 1, .int .i64 0, .int .i64 0, .int .i64 0, .int .i64 0, .slice none 0 0, .string ⟨#[]⟩, .bool true], u] w fun e w' => e = .returned (.int .i64 0) ∧ St w0 w' b 6 exV3 ss sa hl P := by
 have := st_set (o := [47, 97]) (m := exU) (kv := .slice none 0 0) h (by omega) (by decide) exU_z (texts_nil _) (low_nil _) hu (by decide)
 rw [ex_set3] at this
 exact this.mono fun e w' ⟨h1, h2, _⟩ => ⟨h1, h2⟩
theorem aw_take2 {sb : Nat} (h : St w0 w b N exV3 [exS2] [sb] hl P) : Calls Try.prog 18 #[.pointer (some ⟨sb, 0, none⟩), .int .i64 9] w fun e w' => ∃ v, e = .returned (.tuple #[v, .int .i64 4]) ∧ St w0 w' b N exV3 [exS3] [sb] ((v, [100]) :: hl) P := by
 have := st_take (j := 0) (s := exS2) h rfl rfl 9
 rw [ex_mov2, ex_take2, ex_has3] at this
 exact this.mono fun e w' ⟨v, h1, _, h2, _⟩ => ⟨v, h1, h2⟩
theorem aw_ask2 {sb : Nat} (h : St w0 w b N exV3 [exS3] [sb] hl P) : Calls Try.prog 15 #[.pointer (some ⟨b, 0, none⟩), .agg #[.string ⟨#[47, 98]⟩, .int .i64 0, .int .i64 1, .string ⟨#[]⟩, .bool false, .string ⟨#[]⟩, .bool false]] w fun e w' => ∃ tb, e = .returned (.tuple #[.pointer (some ⟨tb, 0, none⟩), .int .i64 0]) ∧ St w0 w' b N exV3 [exS3, exT] [sb, tb] hl P := by
 have := st_ask h wf_ex3 exF2 ⟨by decide, by decide, by decide⟩ ex_ft2
 rw [ex_ask2] at this
 exact this.mono fun e w' ⟨sb, h1, h2, _⟩ => ⟨sb, h1, h2⟩
theorem aw_meta (h : St w0 w b N exV3 ss sa hl P) : Calls Try.prog 21 #[.pointer (some ⟨b, 0, none⟩), .string ⟨#[47, 97]⟩] w fun e w' => ∃ A c, e = .returned (.tuple #[.agg #[.string ⟨#[117]⟩, .bool false, .int .i64 (-1), .int .i64 1, .int .i64 1, .int .i64 0, .int .i64 0, .int .i64 0, .slice A 0 c, .string ⟨#[]⟩, .bool true], .bool true]) ∧ St w0 w' b N exV3 ss sa hl P := by
 have := st_meta (o := [47, 97]) h (by decide)
 rw [ex_meta] at this
 refine this.mono fun e w' ⟨kv, h1, hr, h2, _⟩ => ?_
 obtain ⟨A, c, rfl⟩ := own_slice hr
 exact ⟨A, c, h1, h2⟩
theorem aw_head {sb tb : Nat} (h : St w0 w b N exV3 [exS3, exT] [sb, tb] hl P) : Calls Try.prog 16 #[.pointer (some ⟨sb, 0, none⟩)] w fun e w' => ∃ kv, e = .returned (.agg #[.int .i64 206, .string ⟨#[116]⟩, .bool false, .int .i64 (-1), .int .i64 (-1), .int .i64 3, .int .i64 0, .int .i64 0, .int .i64 0, kv, .string ⟨#[]⟩, .bool true, .int .i64 1, .int .i64 4611686018427387904, .int .i64 0]) ∧ St w0 w' b N exV3 [exS3, exT] [sb, tb] hl P ∧ Ext w w' :=
 (st_head (j := 0) (s := exS3) h rfl rfl).mono fun e w' ⟨kv, h1, _, h2, x⟩ => ⟨kv, h1, h2, x⟩
theorem aw_headT {sb tb : Nat} (h : St w0 w b N exV3 [exS3, exT] [sb, tb] hl P) : Calls Try.prog 16 #[.pointer (some ⟨tb, 0, none⟩)] w fun e w' => ∃ kv, e = .returned (.agg #[.int .i64 404, .string ⟨#[]⟩, .bool false, .int .i64 0, .int .i64 0, .int .i64 0, .int .i64 0, .int .i64 0, .int .i64 0, kv, .string ⟨#[]⟩, .bool false, .int .i64 0, .int .i64 0, .int .i64 0]) ∧ St w0 w' b N exV3 [exS3, exT] [sb, tb] hl P ∧ Ext w w' :=
 (st_head (j := 1) (s := exT) h rfl rfl).mono fun e w' ⟨kv, h1, _, h2, x⟩ => ⟨kv, h1, h2, x⟩
theorem aw_hasT {sb tb : Nat} (h : St w0 w b N exV3 [exS3, exT] [sb, tb] hl P) : Calls Try.prog 30 #[.pointer (some ⟨tb, 0, none⟩)] w fun e w' => e = .returned (.int .i64 3) ∧ St w0 w' b N exV3 [exS3, exT] [sb, tb] hl P ∧ Ext w w' := by
 have := st_has (j := 1) (s := exT) h rfl rfl
 rw [ex_hasT] at this
 exact this
theorem aw_bytes (h : St w0 w b N exV3 ss sa hl P) : Calls Try.prog 20 #[.pointer (some ⟨b, 0, none⟩), .string ⟨#[47, 97]⟩] w fun e w' => ∃ v, e = .returned v ∧ St w0 w' b N exV3 ss sa ((v, [120]) :: hl) P ∧ Ext w w' := by
 have := st_bytes (o := [47, 97]) h (by decide)
 rw [ex_bytes] at this
 exact this.mono fun e w' ⟨v, h1, _, h2, x⟩ => ⟨v, h1, h2, x⟩
theorem aw_objs (h : St w0 w b 6 exV3 ss sa hl P) : Calls Try.prog 25 #[.pointer (some ⟨b, 0, none⟩)] w fun e w' => ∃ A c, e = .returned (.slice A 1 c) ∧ St w0 w' b 6 exV3 ss sa hl P ∧ Ext w w' := by
 refine (st_objs h (by omega)).mono fun e w' ⟨v, ns, h1, h2, h3, _, h4, x⟩ => ?_
 obtain ⟨A, c, hv⟩ := own_slice h2
 rw [ex_names h3] at hv
 exact ⟨A, c, by rw [h1, hv], h4, x⟩
end
set_option maxRecDepth 100000 in
set_option maxHeartbeats 8000000 in
theorem awake_any (w0 : World) : Calls Try.prog 11 #[] w0 fun e w' => e = .returned (.bool true) ∧ Ext w0 w' := by
 have kc := fun (w : World) (C : Array Value) (n c : Nat) => Lib.run_convert_bytes_const (P := Try.prog) w 22 5 C n c Try.underlying22 Try.underlying5
 have f0 := fld49_0; have f2 := fld49_2
 go_enter Try.func11, Try.ntmps11
 go_wp2_with (go_at_call 10; refine (st_new _).mono ?_; rintro e w1 ⟨rfl, h1, _⟩; refine stop_of ?_)
 unfold Stop
 obtain ⟨b, hb⟩ : ∃ b, b = w0.heap.size := ⟨_, rfl⟩
 rw [← hb] at h1 ⊢
 have H1 := Lh h1
 clear hb h1
 go_wp2_with (go_at_call 14; refine (lmeta_any _ _).mono ?_; rintro e w2 ⟨rfl, x2⟩; refine stop_of ?_)
 unfold Stop
 have H2 : Hid (St w0 (w2.alloc (.cells #[.int .u8 97, .int .u8 98, .int .u8 99] 5 (3, 4))) b 0 [] [] [] [(.slice (some ⟨w2.heap.size, 0, none⟩) 3 3, [97, 98, 99])] noP) := Lh ((H1.out.ext x2).lit [97, 98, 99] (3, 4))
 clear H1 x2
 go_wp2_with (go_at_call 13; refine (aw_set1 H2.out (List.mem_singleton.2 rfl)).mono ?_; rintro e w3 ⟨rfl, h3⟩; refine stop_of ?_)
 unfold Stop
 have H3 := Lh h3
 clear H2 h3
 go_wp2_with (go_at_call 15; refine (aw_ask1 H3.out).mono ?_; rintro e w4 ⟨sb, rfl, h4⟩; refine stop_of ?_)
 unfold Stop
 have H4 := Lh h4
 clear H3 h4
 go_wp2_with (go_at_call 18; refine (aw_take1 H4.out).mono ?_; rintro e w5 ⟨v5, rfl, h5⟩; refine stop_of ?_)
 unfold Stop
 have H5 : Hid (St w0 (w5.alloc (.cells #[.int .u8 100] 5 (1, 2))) b 2 exV1 [exS2] [sb] _ noP) := Lh (h5.lit [100] (1, 2))
 clear H4 h5
 go_wp2_with (go_at_call 17; refine (aw_grow H5.out List.mem_cons_self).mono ?_; rintro e w6 ⟨rfl, h6⟩; refine stop_of ?_)
 unfold Stop
 have H6 := Lh h6
 clear H5 h6
 go_wp2_with (go_at_call 30; refine (aw_has1 H6.out).mono ?_; rintro e w7 ⟨rfl, h7⟩; refine stop_of ?_)
 unfold Stop
 have H7 := Lh h7
 clear H6 h7
 go_wp2_with (go_at_call 14; refine (lmeta_any _ _).mono ?_; rintro e w8 ⟨rfl, x8⟩; refine stop_of ?_)
 unfold Stop
 have H8 : Hid (St w0 (w8.alloc (.cells #[.int .u8 120] 5 (1, 2))) b 2 exV2 [exS2] [sb] _ noP) := Lh ((H7.out.ext x8).lit [120] (1, 2))
 clear H7 x8
 go_wp2_with (go_at_call 13; refine (aw_set2 H8.out List.mem_cons_self).mono ?_; rintro e w9 ⟨rfl, h9⟩; refine stop_of ?_)
 unfold Stop
 have H9 := Lh h9
 clear H8 h9
 go_wp2_with (go_at_call 14; refine (lmeta_any _ _).mono ?_; rintro e w10 ⟨rfl, x10⟩; refine stop_of ?_)
 unfold Stop
 have H10 := Lh (H9.out.ext x10)
 clear H9 x10
 go_wp2_with (refine wpList_new 38 _ zero38 rfl rfl ?_; intro W11 x11 n11 s11; refine stop_of ?_)
 unfold Stop
 obtain ⟨mb, hmb⟩ : ∃ mb, mb = w10.heap.size := ⟨_, rfl⟩
 rw [← hmb] at n11 ⊢
 have H11 := Lh (H10.out.other (P' := fun i => i = mb) (.of x11) (fun g hg => .inr ⟨by rw [hg, hmb]; exact Nat.le_refl _, by rw [hg]; exact blk_lt n11⟩))
 have N11 := Lh n11
 clear H10 x11 n11 s11 hmb
 go_wp2_with (refine wpList_put 38 rfl _ _ rfl mb 0 38 _ #[.string ⟨#[116]⟩, .bool false, .int .i64 (-1), .int .i64 1, .int .i64 0, .int .i64 0, .int .i64 0, .int .i64 0, .slice none 0 0, .string ⟨#[]⟩, .bool true] [.string ⟨#[116]⟩, .bool false, .int .i64 (-1), .int .i64 1, .int .i64 0, .int .i64 0, .int .i64 0, .int .i64 0, .slice none 0 0, .string ⟨#[]⟩, .bool true] _ N11.out rfl rfl rfl (by simp) rfl size38 (by kernel_rfl) ?_; intro W12 x12 n12 s12; refine stop_of ?_)
 unfold Stop
 have H12 := Lh (H11.out.other (P' := fun i => i = mb) (.ofB x12 (fun k hk => .inl (by simpa using hk))) (fun g hg => .inl hg))
 have N12 := Lh n12
 clear H11 N11 x12 n12 s12
 go_wp2_with (refine wpList_put 9 rfl _ _ rfl mb 0 38 _ #[.string ⟨#[117]⟩, .bool false, .int .i64 (-1), .int .i64 1, .int .i64 0, .int .i64 0, .int .i64 0, .int .i64 0, .slice none 0 0, .string ⟨#[]⟩, .bool true] [.string ⟨#[117]⟩] _ N12.out rfl rfl rfl (by simp) rfl size9 (by kernel_rfl) ?_; intro W13 x13 n13 s13; refine stop_of ?_)
 unfold Stop
 have H13 : Hid (St w0 (W13.alloc (.cells #[.int .u8 120] 5 (1, 2))) b 4 exV2 [exS2] [sb] _ _) := Lh ((H12.out.other (P' := fun i => i = mb) (.ofB x13 (fun k hk => .inl (by simpa using hk))) (fun g hg => .inl hg)).lit [120] (1, 2))
 have N13 := Lh n13
 clear H12 N12 x13 n13 s13
 go_wp2_with (first | (refine wpList_get 38 _ rfl _ rfl mb 0 38 _ [.string ⟨#[117]⟩, .bool false, .int .i64 (-1), .int .i64 1, .int .i64 0, .int .i64 0, .int .i64 0, .int .i64 0, .slice none 0 0, .string ⟨#[]⟩, .bool true] N13.out rfl (by kernel_rfl) Try.underlying38 rfl size38 ?_) | (go_at_call 13; refine (aw_set3 H13.out List.mem_cons_self).mono ?_; rintro e w14 ⟨rfl, h14⟩; refine stop_of ?_))
 unfold Stop
 have H14 := Lh h14
 clear H13 N13 h14
 go_wp2_with (go_at_call 18; refine (aw_take2 H14.out).mono ?_; rintro e w15 ⟨v15, rfl, h15⟩; refine stop_of ?_)
 unfold Stop
 have H15 := Lh h15
 clear H14 h15
 go_wp2_with (go_at_call 15; refine (aw_ask2 H15.out).mono ?_; rintro e w16 ⟨tb, rfl, h16⟩; refine stop_of ?_)
 unfold Stop
 have H16 := Lh h16
 clear H15 h16
 go_wp2_with (go_at_call 21; refine (aw_meta H16.out).mono ?_; rintro e w17 ⟨kA, kc2, rfl, h17⟩; refine stop_of ?_)
 unfold Stop
 have H17 := Lh h17
 clear H16 h17
 go_wp2_with (refine wpList_new 38 _ zero38 rfl rfl ?_; intro W18 x18 n18 s18; refine stop_of ?_)
 unfold Stop
 obtain ⟨xb, hxb⟩ : ∃ xb, xb = w17.heap.size := ⟨_, rfl⟩
 rw [← hxb] at n18 ⊢
 have H18 := Lh (H17.out.other (P' := fun i => i = xb) (.of x18) (fun g hg => .inr ⟨by rw [hg, hxb]; exact Nat.le_refl _, by rw [hg]; exact blk_lt n18⟩))
 have N18 := Lh n18
 clear H17 x18 n18 s18 hxb
 go_wp2_with (refine wpList_put 38 rfl _ _ rfl xb 0 38 _ #[.string ⟨#[117]⟩, .bool false, .int .i64 (-1), .int .i64 1, .int .i64 1, .int .i64 0, .int .i64 0, .int .i64 0, .slice kA 0 kc2, .string ⟨#[]⟩, .bool true] [.string ⟨#[117]⟩, .bool false, .int .i64 (-1), .int .i64 1, .int .i64 1, .int .i64 0, .int .i64 0, .int .i64 0, .slice kA 0 kc2, .string ⟨#[]⟩, .bool true] _ N18.out rfl rfl rfl (by simp) rfl size38 (by kernel_rfl) ?_; intro W19 x19 n19 s19; refine stop_of ?_)
 unfold Stop
 have H19 := Lh (H18.out.other (P' := fun i => i = xb) (.ofB x19 (fun k hk => .inl (by simpa using hk))) (fun g hg => .inl hg))
 have N19 := Lh n19
 clear H18 N18 x19 n19 s19
 go_wp2_with (go_at_call 16; refine (aw_head H19.out).mono ?_; rintro e w20 ⟨kv1, rfl, h20, x20⟩; refine stop_of ?_)
 unfold Stop
 have H20 := Lh h20; have N20 := Lh (x20.heap N19.out)
 clear H19 N19 h20 x20
 go_wp2_with (go_at_call 16; refine (aw_head H20.out).mono ?_; rintro e w21 ⟨kv2, rfl, h21, x21⟩; refine stop_of ?_)
 unfold Stop
 have H21 := Lh h21; have N21 := Lh (x21.heap N20.out)
 have c1 := run_str (H21.out.bytes (v := v5) (bs := [98, 99]) (by simp))
 have c2 := run_str (H21.out.bytes (v := v15) (bs := [100]) (by simp))
 clear H20 N20 h21 x21
 go_wp2_with (go_at_call 16; refine (aw_headT H21.out).mono ?_; rintro e w22 ⟨kv3, rfl, h22, x22⟩; refine stop_of ?_)
 unfold Stop
 have H22 := Lh h22; have N22 := Lh (x22.heap N21.out)
 clear H21 N21 h22 x22 c1 c2
 go_wp2_with (go_at_call 30; refine (aw_hasT H22.out).mono ?_; rintro e w23 ⟨rfl, h23, x23⟩; refine stop_of ?_)
 unfold Stop
 have H23 := Lh h23
 have k4 := blk_cell (x23.heap N22.out) 4
 simp at k4
 clear H22 N22 h23 x23
 go_wp2_with (go_at_call 20; refine (aw_bytes H23.out).mono ?_; rintro e w24 ⟨v24, rfl, h24, x24⟩; refine stop_of ?_)
 unfold Stop
 have H24 := Lh h24
 have c1 := run_str (H24.out.bytes (v := v24) (bs := [120]) (by simp))
 clear H23 h24 x24 k4
 go_wp2_with (go_at_call 25; refine (aw_objs H24.out).mono ?_; rintro e w25 ⟨A, c, rfl, h25, x25⟩; refine stop_of ?_)
 unfold Stop
 have X := Lh h25.base
 clear H24 h25 x25 c1
 go_wp2
 go_ret
 exact ⟨rfl, X.out⟩
end Go.Proofs.Ytpangoddbfiagaa
namespace Go.Proofs.Ytpangoddbfiagaa
open Go.ChangeShapes Go.WideShapes Go.ChangeAt Go.RowKit Go.Deep Go.Joins
set_option linter.unusedVariables false
set_option linter.unusedSimpArgs false
theorem own : ownKnob Try.prog.godebug = none := by kernel_rfl
theorem laidOut : laidOutB Try.prog = true := by kernel_rfl
theorem u8_nat {z : Int} (h : (Lit.int .u8 z).wf = true) : ∃ n : Nat, z = n ∧ n ≤ 255 := by
 have : 0 ≤ z ∧ z ≤ 255 := by
  simp [Lit.wf] at h
  have e1 : IntKind.u8.min = 0 := rfl
  have e2 : IntKind.u8.max = 255 := rfl
  omega
 exact ⟨z.toNat, by omega, by omega⟩
def RowsG {α : Type} (w : World) (z : Nat) (R : α → List Value → Prop) (v : Value) (xs : List α) : Prop :=
 ∃ A c, v = .slice A xs.length c ∧ xs.length ≤ c ∧ (A = none → c = 0) ∧
  ∀ k (hk : k < xs.length), ∃ b off cs, A = some ⟨b, off, none⟩ ∧ R xs[k] cs ∧ b < w.heap.size ∧ ∀ j u, cs[j]? = some u → w.cell? ⟨b, off + k * z + j, none⟩ = some u
theorem RowsG.ext {α : Type} {w w' : World} {z : Nat} {R : α → List Value → Prop} {v : Value} {xs : List α} (h : RowsG w z R v xs) (x : Ext w w') : RowsG w' z R v xs := by
 obtain ⟨A, c, h1, h2, h3, h6⟩ := h
 refine ⟨A, c, h1, h2, h3, fun k hk => ?_⟩
 obtain ⟨b, off, cs, e, hr, hb, hc⟩ := h6 k hk
 exact ⟨b, off, cs, e, hr, x.lt hb, fun j u hj => x.cell (hc j u hj)⟩
theorem RowsG.mono {α : Type} {w : World} {z : Nat} {R R' : α → List Value → Prop} {v : Value} {xs : List α} (h : RowsG w z R v xs) (hR : ∀ a cs, R a cs → R' a cs) : RowsG w z R' v xs := by
 obtain ⟨A, c, h1, h2, h3, h6⟩ := h
 refine ⟨A, c, h1, h2, h3, fun k hk => ?_⟩
 obtain ⟨b, off, cs, e, hr, hb, hc⟩ := h6 k hk
 exact ⟨b, off, cs, e, hR _ _ hr, hb, hc⟩
theorem RowsG.low {α : Type} {w : World} {z : Nat} {R : α → List Value → Prop} {v : Value} {xs : List α} (h : RowsG w z R v xs) : LowV w v := by
 obtain ⟨A, c, h1, h2, h3, h6⟩ := h
 intro A' n c' e hn
 rw [h1] at e
 injection e with e1 e2 e3
 obtain ⟨b, off, cs, e4, _, hb, _⟩ := h6 0 (by omega)
 rw [e1] at e4
 rw [Option.some.inj e4]; exact hb
def RByte (b : UInt8) (cs : List Value) : Prop := cs = [byteV b]
def RText (t : Bs) (cs : List Value) : Prop := cs = [.string ⟨t.toArray⟩]
def BytesA (w : World) (v : Value) (bs : Bs) : Prop := RowsG w 1 RByte v bs
def TextsA (w : World) (v : Value) (ts : List Bs) : Prop := RowsG w 1 RText v ts
theorem BytesA.at_ {w : World} {v : Value} {bs : Bs} (h : BytesA w v bs) : BytesAt w v bs := by
 obtain ⟨A, c, h1, h2, h3, h6⟩ := h
 refine ⟨A, c, by simpa using h1, by simpa using h2, h3, fun j hj => ?_⟩
 have hj' : j < bs.length := by simpa using hj
 obtain ⟨b, off, cs, e, hr, hb, hc⟩ := h6 j hj'
 have := hc 0 (byteV bs[j]) (by rw [hr]; rfl)
 exact ⟨b, off, e, by simpa using this⟩
theorem TextsA.at_ {w : World} {v : Value} {ts : List Bs} (h : TextsA w v ts) : TextsAt w v ts := by
 obtain ⟨A, c, h1, h2, h3, h6⟩ := h
 refine ⟨A, c, h1, h2, h3, fun j hj => ?_⟩
 obtain ⟨b, off, cs, e, hr, hb, hc⟩ := h6 j hj
 have := hc 0 (.string ⟨ts[j].toArray⟩) (by rw [hr]; rfl)
 exact ⟨b, off, e, by simpa using this⟩
theorem cellsT5 : Try.prog.cellsOf 5 = 1 := by kernel_rfl
theorem cellsT9 : Try.prog.cellsOf 9 = 1 := by kernel_rfl
section
variable {H : Type} {enc : TypeId × Value → H} {w : World} {base : Nat} {spare : Nat → Bool} {held : Bool}
set_option maxRecDepth 100000 in
theorem rows_of {α : Type} {t e : TypeId} {z : Nat} (ht : Try.prog.underlying t = some (.slice e)) (he : Try.prog.cellsOf e = z) (hz : 0 < z) (R : α → List Value → Prop)
  (hR : ∀ {fuel : Nat} {cs : List Value} {x : DataW H × List MemPlace}, DataW.trod enc Try.prog w base (fun _ => true) held fuel e cs = some x → ∃ a, R a cs)
  {fuel : Nat} {cs : List Value} {x : DataW H × List MemPlace} (h : DataW.trod enc Try.prog w base (fun _ => true) held fuel t cs = some x) : ∃ (v : Value) (xs : List α), cs = [v] ∧ RowsG w z R v xs ∧ xs.length ≤ maxLen := by
 rcases open_slice ht h with ⟨hcs, _⟩ | ⟨a, len, cap, m, n, D, Pl, hcs, _, hl, hm, hmm, _, hi⟩
 ·exact ⟨_, [], hcs, ⟨none, 0, rfl, Nat.le_refl _, fun _ => rfl, fun k hk => by simp at hk⟩, by simp⟩
 ·have hm' : m = cap := by simpa using hmm
  subst hm'
  have ex : ∀ i : Fin len, ∃ a' : α, ∃ b off cs', a = ⟨b, off, none⟩ ∧ R a' cs' ∧ b < w.heap.size ∧ ∀ j u, cs'[j]? = some u → w.cell? ⟨b, off + i.1 * z + j, none⟩ = some u := fun i => by
   obtain ⟨cs', hc, ht'⟩ := hi i.1 (by have := i.2; omega)
   rw [he] at hc
   obtain ⟨a', ha'⟩ := hR ht'
   obtain ⟨_, hl', hat⟩ := World.cells?_some hc
   have hsp : a.spot = none := by
    obtain ⟨c0, hc0, _⟩ := hi 0 (by have := i.2; omega)
    rw [he] at hc0
    obtain ⟨_, hl0, hat0⟩ := World.cells?_some hc0
    have g0 := hat0 0 hz
    rw [List.getElem?_eq_getElem (by omega)] at g0
    have := World.cell?_spot g0
    simpa [Addr.add] using this
   have h0 := hat 0 hz
   have h1 : cs'[0]? = some (cs'[0]'(by omega)) := List.getElem?_eq_getElem (by omega)
   rw [h1] at h0
   obtain ⟨b, off, spot⟩ := a
   simp only at hsp
   subst hsp
   rw [add_plain, add_plain] at h0
   refine ⟨a', b, off, cs', rfl, ha', World.block_lt_of_cell? _ _ h0, fun j u hj => ?_⟩
   have hjz : j < z := by have := (List.getElem?_eq_some_iff.1 hj).1; omega
   have := hat j hjz
   rw [add_plain, add_plain] at this
   rw [this]; exact hj
  refine ⟨_, List.ofFn fun i => (ex i).choose, hcs, ⟨some a, m, by simp, by simpa using hl, fun e => (by cases e), fun k hk => ?_⟩, by rw [List.length_ofFn]; exact Nat.le_trans hl hm⟩
  simp only [List.length_ofFn] at hk
  obtain ⟨b, off, cs', e, hr, hb, hc⟩ := (ex ⟨k, hk⟩).choose_spec
  exact ⟨b, off, cs', by rw [e], by simpa using hr, hb, hc⟩
theorem fld {t : TypeId} {fs : Array Field} {fuel : Nat} {cs : List Value} {x : DataW H × List MemPlace} (ht : Try.prog.underlying t = some (.struct fs)) (h : DataW.trod enc Try.prog w base (fun _ => true) held fuel t cs = some x) (i : Nat) (f : Field) (hf : fs[i]? = some f) :
  ∃ m y, DataW.trod enc Try.prog w base (fun _ => true) held m f.type ((cs.drop f.offset).take (Try.prog.cellsOf f.type)) = some y := by
 obtain ⟨ys, m, _, _, hlen, hyl, hff⟩ := DataW.trod_struct ht h
 have hil : i < ys.length := by rw [hyl]; exact (Array.getElem?_eq_some_iff.1 hf).1
 exact ⟨m, ys[i], by rw [hff i f hf]; simp [hil]⟩
set_option maxRecDepth 100000 in
theorem byte_cells {fuel : Nat} {cs : List Value} {x : DataW H × List MemPlace} (h : DataW.trod enc Try.prog w base (fun _ => true) held fuel 5 cs = some x) : ∃ b, RByte b cs := by
 obtain ⟨n, rfl, _, hw⟩ := DataW.trod_int Try.underlying5 h
 obtain ⟨k, rfl, hk⟩ := u8_nat hw
 refine ⟨UInt8.ofNat k, ?_⟩
 unfold RByte byteV
 have : (UInt8.ofNat k).toNat = k := by rw [UInt8.toNat_ofNat']; exact Nat.mod_eq_of_lt (by omega)
 rw [this]
set_option maxRecDepth 100000 in
theorem text_cells {fuel : Nat} {cs : List Value} {x : DataW H × List MemPlace} (h : DataW.trod enc Try.prog w base (fun _ => true) held fuel 9 cs = some x) : ∃ b : Bs, RText b cs ∧ b.length ≤ maxLen := by
 obtain ⟨s, rfl, _, hw⟩ := DataW.trod_string Try.underlying9 h
 exact ⟨s.data.toList, by unfold RText; simp, by have e : s.data.toList.length = s.size := Array.length_toList; rw [e]; exact hw⟩
set_option maxRecDepth 100000 in
theorem bytes_cells {fuel : Nat} {cs : List Value} {x : DataW H × List MemPlace} (h : DataW.trod enc Try.prog w base (fun _ => true) held fuel 22 cs = some x) : ∃ (v : Value) (bs : Bs), cs = [v] ∧ BytesA w v bs ∧ bs.length ≤ maxLen :=
 rows_of Try.underlying22 cellsT5 (by omega) RByte byte_cells h
set_option maxRecDepth 100000 in
theorem texts_cells {fuel : Nat} {cs : List Value} {x : DataW H × List MemPlace} (h : DataW.trod enc Try.prog w base (fun _ => true) held fuel 36 cs = some x) : ∃ (v : Value) (ts : List Bs), cs = [v] ∧ TextsA w v ts ∧ ts.length ≤ maxLen :=
 rows_of Try.underlying36 cellsT9 (by omega) RText (fun h => by obtain ⟨b, hb, _⟩ := text_cells h; exact ⟨b, hb⟩) h
end
end Go.Proofs.Ytpangoddbfiagaa
namespace Go.Proofs.Ytpangoddbfiagaa
open Go.RowKit Go.Maps Go.ChangeMaps
set_option linter.unusedVariables false
set_option linter.unusedSimpArgs false
theorem RowsG.slice {α : Type} {w : World} {z : Nat} {R : α → List Value → Prop} {v : Value} {xs : List α} (h : RowsG w z R v xs) : ∃ A c, v = .slice A xs.length c := by
 obtain ⟨A, c, h1, _⟩ := h; exact ⟨A, c, h1⟩
theorem RowsG.at {α : Type} {w : World} {z : Nat} {R : α → List Value → Prop} {A : Option Addr} {n c : Nat} {xs : List α} (h : RowsG w z R (.slice A n c) xs) {k : Nat} (hk : k < xs.length) : ∃ b off cs, A = some ⟨b, off, none⟩ ∧ R xs[k] cs ∧ b < w.heap.size ∧ ∀ j u, cs[j]? = some u → w.cell? ⟨b, off + k * z + j, none⟩ = some u := by
 obtain ⟨A', c', h1, _, _, h6⟩ := h
 have hA : A = A' := by injection h1
 rw [hA]; exact h6 k hk
section
variable {w0 w w' : World} {b N : Nat} {vs : List Vn} {ss : List Sn} {sa : List Nat} {hl : List (Value × Bs)} {P : Nat → Prop}
theorem St.nil (h : St w0 w b N vs ss sa hl P) : St w0 w b N vs ss sa ((.slice none 0 0, []) :: hl) P := by
 obtain ⟨own, h⟩ := h
 refine ⟨own, h.oi, h.ext, fun p hp => ?_, h.priv⟩
 rcases List.mem_cons.1 hp with e | hp
 ·rw [e]; exact ⟨⟨none, 0, rfl, Nat.le_refl _, fun _ => rfl, fun j hj => by simp at hj⟩, fun A n c e => (by cases e), fun A n c e => (by cases e)⟩
 ·exact h.held p hp
theorem wpList_copyE {W : World} {ops : Array Oper} {rest : List Oper} {o : Oper} {a : Act} {Q : Exit → Act → World → Prop}
  (hgd : o.guard = none) (s x : Operand) (ho : o.op = .call { callee := .builtin .append, args := #[s, x], argTypes := #[22, 22] }) (u : Value) (bs : Bs) (hsrc : BytesAt W u bs) (hs : a.eval s = .slice (some ⟨W.heap.size, 0, none⟩) 0 0) (hx : a.eval x = u) (hlen : bs.length ≤ 1000000)
  (h : ∀ v' w', BRow w' W.heap.size v' bs → Ext W w' → wpList Try.prog ops Q rest (a.put o.dst v') w') : wpList Try.prog ops Q (o :: rest) a (W.alloc (.cells #[] 5)) := by
 have hm : BRow (W.alloc (.cells #[] 5)) W.heap.size (.slice (some ⟨W.heap.size, 0, none⟩) 0 0) [] := World.ownsRow_made W #[] 0 (Nat.le_refl _) (by unfold maxLen; omega) rfl
 refine wpList_appendB hgd s x ho W.heap.size (.slice (some ⟨W.heap.size, 0, none⟩) 0 0) u [] bs hm (hsrc.ext (ext_alloc1 _ _)) hs hx (by simpa using hlen) (by simp) fun v' w' h1 h2 => ?_
 refine h v' w' h1 ⟨h2.os, h2.tape, h2.output, by have := h2.size; simp at this; omega, fun k hk => (h2.block k (by simp; omega) ?_).trans (Below.heap_alloc _ _ _ hk)⟩
 intro e
 have : k = W.heap.size := by simpa [Value.ownBlock] using e
 omega
end
end Go.Proofs.Ytpangoddbfiagaa
