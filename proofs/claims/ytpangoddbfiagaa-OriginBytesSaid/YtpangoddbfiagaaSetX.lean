/- Set, walked over the state (printed by gen_set.py). -/
import Derived.Test.YtpangoddbfiagaaSetW
namespace Go.Proofs.Ytpangoddbfiagaa
open Go.RowKit Go.Maps Go.ChangeMaps
set_option linter.unusedVariables false
set_option linter.unusedSimpArgs false

section
variable {w w' : World} {b B N : Nat} {own : Nat → Prop} {vs : List Vn} {ss : List Sn} {sa : List Nat} {gs : List Vg} {mo mh : Option Nat} {H : Bs → Option Nat} {K : Bs → Bs → Option Bool}
set_option maxRecDepth 100000 in
set_option maxHeartbeats 1000000 in
theorem set_badA (hI : OIx w b B N own vs ss sa gs mo mh H K) (hN : N ≤ 800000) {o bs : Bs} {tt : Bs} {tw : Bool} {mod hav fr wh er : Int} {keys : List Bs} {ten : Bs} {keep : Bool} {kv u : Value} (ho : o.length ≤ 1000) (hz : MetaZ (⟨tt, tw, mod, (-1), hav, fr, wh, er, keys, ten, keep⟩ : MetaP)) (hk : TextsAt w kv keys) (hu : BytesAt w u bs) (hbs : bs.length ≤ 1000) (hfk : FarV own kv) (hfu : FarV own u) (hb : setOk o (⟨tt, tw, mod, (-1), hav, fr, wh, er, keys, ten, keep⟩ : MetaP) bs = false) : Calls Try.prog 13 #[.pointer (some ⟨b, 0, none⟩), .string ⟨o.toArray⟩, .agg ([.string ⟨tt.toArray⟩, .bool tw, .int .i64 mod, .int .i64 (-1), .int .i64 hav, .int .i64 fr, .int .i64 wh, .int .i64 er, kv, .string ⟨ten.toArray⟩, .bool keep]).toArray, u] w fun e w' => e = .returned (.int .i64 (setA vs o (⟨tt, tw, mod, (-1), hav, fr, wh, er, keys, ten, keep⟩ : MetaP) bs).1) ∧ OI w' b B (N + 2) (grownOwn own w w') (setA vs o (⟨tt, tw, mod, (-1), hav, fr, wh, er, keys, ten, keep⟩ : MetaP) bs).2 ss sa ∧ ExtP own w w' := by
  have HOBJ := Lib.hid fun W => obj_any o W (by omega)
  have HZ := Lib.hid hz; have HK := Lib.hid hk; have HU := Lib.hid hu; have HFK := Lib.hid hfk; have HFU := Lib.hid hfu; have HI := Lib.hid hI
  obtain ⟨A, c, rfl, hc0, _, _⟩ := hu
  obtain ⟨KA, KC, rfl, _, _, _⟩ := hk
  rw [List.length_map] at HU HFU hc0 ⊢
  obtain ⟨y1, hy1⟩ : ∃ y, y = objB o := ⟨_, rfl⟩
  rw [← hy1] at HOBJ
  obtain ⟨y2, hy2⟩ : ∃ y, y = metaB (⟨tt, tw, mod, (-1), bs.length, fr, wh, er, keys, ten, keep⟩ : MetaP) := ⟨_, rfl⟩
  have HMR : Hid (∀ W, Ext w W → Calls Try.prog 36 #[.agg ([.string ⟨tt.toArray⟩, .bool tw, .int .i64 mod, .int .i64 (-1), .int .i64 bs.length, .int .i64 fr, .int .i64 wh, .int .i64 er, .slice KA keys.length KC, .string ⟨ten.toArray⟩, .bool keep]).toArray] W fun e w' => e = .returned (.bool y2) ∧ Ext W w') := Lib.hid fun W x => by rw [hy2]; exact meta_right _ _ W ⟨HZ.out.tt, HZ.out.keys, HZ.out.key, HZ.out.ten⟩ (HK.out.ext x)
  obtain ⟨r, hr⟩ : ∃ r, r = setA vs o (⟨tt, tw, mod, (-1), hav, fr, wh, er, keys, ten, keep⟩ : MetaP) bs := ⟨_, rfl⟩
  rw [← hr]
  have HR : Hid (r = if (y1 && true && y2) = false then (1, vs) else if refused vs o (⟨tt, tw, mod, (-1), hav, fr, wh, er, keys, ten, keep⟩ : MetaP) = true then (12, vs) else (0, offVs vs o ++ [⟨o, (⟨tt, tw, mod, (-1), bs.length, fr, wh, er, keys, ten, keep⟩ : MetaP), bs, false⟩])) := Lib.hid (by rw [hr, hy1, hy2]; unfold setA setOk newV; simp)
  have HB : Hid ((y1 && y2) = false) := Lib.hid (by rw [hy1, hy2]; unfold setOk at hb; simpa using hb)
  clear hb
  clear hz hc0 hI hy1 hy2 HK HZ HU hfk hfu hr HFK HFU
  go_enter Try.func13, Try.ntmps13
  go_wp2_with (refine wpList_boxA 38 rfl _ rfl ([.string ⟨tt.toArray⟩, .bool tw, .int .i64 mod, .int .i64 (-1), .int .i64 hav, .int .i64 fr, .int .i64 wh, .int .i64 er, .slice KA keys.length KC, .string ⟨ten.toArray⟩, .bool keep]).toArray rfl ?_; intro W0 x0 n0 s0; refine stop_of ?_)
  unfold Stop
  have X0 := Lib.hid x0; have N0 := Lib.hid n0
  have k3 := blk_cell n0 3
  simp at k3
  clear x0 n0 s0
  go_wp2_with (go_at_call 35; refine (HOBJ.out _).mono ?_; rintro e w1 ⟨rfl, rfl⟩; refine stop_of ?_)
  unfold Stop
  cases y1 with
  | false =>
    go_wp2
    go_ret
    exact fin_same HI.out X0.out (by rw [HR.out]; simp)
  | true =>
    go_wp2_with (refine wpList_put 2 rfl _ _ rfl _ 4 38 _ ([.string ⟨tt.toArray⟩, .bool tw, .int .i64 mod, .int .i64 (-1), .int .i64 bs.length, .int .i64 fr, .int .i64 wh, .int .i64 er, .slice KA keys.length KC, .string ⟨ten.toArray⟩, .bool keep]).toArray [.int .i64 bs.length] (.int .i64 bs.length) N0.out rfl rfl rfl (by simp) rfl size2 (by kernel_rfl) ?_; intro W1 x1 n1 s1; refine stop_of ?_)
    unfold Stop
    have X1 := Lib.hid (X0.out.thenB x1 (by simp)); have N1 := Lib.hid n1
    clear x1 n1 s1 X0 N0 k3
    go_wp2_with (first | (refine wpList_get 38 _ rfl _ rfl _ 0 38 _ ([.string ⟨tt.toArray⟩, .bool tw, .int .i64 mod, .int .i64 (-1), .int .i64 bs.length, .int .i64 fr, .int .i64 wh, .int .i64 er, .slice KA keys.length KC, .string ⟨ten.toArray⟩, .bool keep]) N1.out rfl (by kernel_rfl) Try.underlying38 rfl size38 ?_) | (go_at_call 36; refine (HMR.out _ X1.out).mono ?_; rintro e w2 ⟨rfl, x2⟩; refine stop_of ?_))
    unfold Stop
    have X2 := Lib.hid (X1.out.trans x2); have N2 := Lib.hid (x2.heap N1.out)
    clear x2 X1 N1
    cases y2 with
    | false =>
      go_wp2
      go_ret
      exact fin_same HI.out X2.out (by rw [HR.out]; simp)
    | true => exact absurd HB.out (by simp)
set_option maxRecDepth 100000 in
set_option maxHeartbeats 1000000 in
theorem set_badB (hI : OIx w b B N own vs ss sa gs mo mh H K) (hN : N ≤ 800000) {o bs : Bs} {tt : Bs} {tw : Bool} {mod hav fr wh er : Int} {keys : List Bs} {ten : Bs} {keep : Bool} {kv u : Value} (ho : o.length ≤ 1000) (hz : MetaZ (⟨tt, tw, mod, bs.length, hav, fr, wh, er, keys, ten, keep⟩ : MetaP)) (hk : TextsAt w kv keys) (hu : BytesAt w u bs) (hbs : bs.length ≤ 1000) (hfk : FarV own kv) (hfu : FarV own u) (hb : setOk o (⟨tt, tw, mod, bs.length, hav, fr, wh, er, keys, ten, keep⟩ : MetaP) bs = false) : Calls Try.prog 13 #[.pointer (some ⟨b, 0, none⟩), .string ⟨o.toArray⟩, .agg ([.string ⟨tt.toArray⟩, .bool tw, .int .i64 mod, .int .i64 bs.length, .int .i64 hav, .int .i64 fr, .int .i64 wh, .int .i64 er, kv, .string ⟨ten.toArray⟩, .bool keep]).toArray, u] w fun e w' => e = .returned (.int .i64 (setA vs o (⟨tt, tw, mod, bs.length, hav, fr, wh, er, keys, ten, keep⟩ : MetaP) bs).1) ∧ OI w' b B (N + 2) (grownOwn own w w') (setA vs o (⟨tt, tw, mod, bs.length, hav, fr, wh, er, keys, ten, keep⟩ : MetaP) bs).2 ss sa ∧ ExtP own w w' := by
  have HOBJ := Lib.hid fun W => obj_any o W (by omega)
  have HZ := Lib.hid hz; have HK := Lib.hid hk; have HU := Lib.hid hu; have HFK := Lib.hid hfk; have HFU := Lib.hid hfu; have HI := Lib.hid hI
  obtain ⟨A, c, rfl, hc0, _, _⟩ := hu
  obtain ⟨KA, KC, rfl, _, _, _⟩ := hk
  rw [List.length_map] at HU HFU hc0 ⊢
  obtain ⟨y1, hy1⟩ : ∃ y, y = objB o := ⟨_, rfl⟩
  rw [← hy1] at HOBJ
  obtain ⟨y2, hy2⟩ : ∃ y, y = metaB (⟨tt, tw, mod, bs.length, bs.length, fr, wh, er, keys, ten, keep⟩ : MetaP) := ⟨_, rfl⟩
  have HMR : Hid (∀ W, Ext w W → Calls Try.prog 36 #[.agg ([.string ⟨tt.toArray⟩, .bool tw, .int .i64 mod, .int .i64 bs.length, .int .i64 bs.length, .int .i64 fr, .int .i64 wh, .int .i64 er, .slice KA keys.length KC, .string ⟨ten.toArray⟩, .bool keep]).toArray] W fun e w' => e = .returned (.bool y2) ∧ Ext W w') := Lib.hid fun W x => by rw [hy2]; exact meta_right _ _ W ⟨HZ.out.tt, HZ.out.keys, HZ.out.key, HZ.out.ten⟩ (HK.out.ext x)
  obtain ⟨r, hr⟩ : ∃ r, r = setA vs o (⟨tt, tw, mod, bs.length, hav, fr, wh, er, keys, ten, keep⟩ : MetaP) bs := ⟨_, rfl⟩
  rw [← hr]
  have HR : Hid (r = if (y1 && true && y2) = false then (1, vs) else if refused vs o (⟨tt, tw, mod, bs.length, hav, fr, wh, er, keys, ten, keep⟩ : MetaP) = true then (12, vs) else (0, offVs vs o ++ [⟨o, (⟨tt, tw, mod, bs.length, bs.length, fr, wh, er, keys, ten, keep⟩ : MetaP), bs, false⟩])) := Lib.hid (by rw [hr, hy1, hy2]; unfold setA setOk newV; simp)
  have HB : Hid ((y1 && y2) = false) := Lib.hid (by rw [hy1, hy2]; unfold setOk at hb; simpa using hb)
  clear hb
  clear hz hc0 hI hy1 hy2 HK HZ HU hfk hfu hr HFK HFU
  go_enter Try.func13, Try.ntmps13
  go_wp2_with (refine wpList_boxA 38 rfl _ rfl ([.string ⟨tt.toArray⟩, .bool tw, .int .i64 mod, .int .i64 bs.length, .int .i64 hav, .int .i64 fr, .int .i64 wh, .int .i64 er, .slice KA keys.length KC, .string ⟨ten.toArray⟩, .bool keep]).toArray rfl ?_; intro W0 x0 n0 s0; refine stop_of ?_)
  unfold Stop
  have X0 := Lib.hid x0; have N0 := Lib.hid n0
  have k3 := blk_cell n0 3
  simp at k3
  clear x0 n0 s0
  go_wp2_with (go_at_call 35; refine (HOBJ.out _).mono ?_; rintro e w1 ⟨rfl, rfl⟩; refine stop_of ?_)
  unfold Stop
  cases y1 with
  | false =>
    go_wp2
    go_ret
    exact fin_same HI.out X0.out (by rw [HR.out]; simp)
  | true =>
    go_wp2_with (refine wpList_put 2 rfl _ _ rfl _ 4 38 _ ([.string ⟨tt.toArray⟩, .bool tw, .int .i64 mod, .int .i64 bs.length, .int .i64 bs.length, .int .i64 fr, .int .i64 wh, .int .i64 er, .slice KA keys.length KC, .string ⟨ten.toArray⟩, .bool keep]).toArray [.int .i64 bs.length] (.int .i64 bs.length) N0.out rfl rfl rfl (by simp) rfl size2 (by kernel_rfl) ?_; intro W1 x1 n1 s1; refine stop_of ?_)
    unfold Stop
    have X1 := Lib.hid (X0.out.thenB x1 (by simp)); have N1 := Lib.hid n1
    clear x1 n1 s1 X0 N0 k3
    go_wp2_with (first | (refine wpList_get 38 _ rfl _ rfl _ 0 38 _ ([.string ⟨tt.toArray⟩, .bool tw, .int .i64 mod, .int .i64 bs.length, .int .i64 bs.length, .int .i64 fr, .int .i64 wh, .int .i64 er, .slice KA keys.length KC, .string ⟨ten.toArray⟩, .bool keep]) N1.out rfl (by kernel_rfl) Try.underlying38 rfl size38 ?_) | (go_at_call 36; refine (HMR.out _ X1.out).mono ?_; rintro e w2 ⟨rfl, x2⟩; refine stop_of ?_))
    unfold Stop
    have X2 := Lib.hid (X1.out.trans x2); have N2 := Lib.hid (x2.heap N1.out)
    clear x2 X1 N1
    cases y2 with
    | false =>
      go_wp2
      go_ret
      exact fin_same HI.out X2.out (by rw [HR.out]; simp)
    | true => exact absurd HB.out (by simp)
set_option maxRecDepth 100000 in
set_option maxHeartbeats 1000000 in
theorem set_badC (hI : OIx w b B N own vs ss sa gs mo mh H K) (hN : N ≤ 800000) {o bs : Bs} {tt : Bs} {tw : Bool} {mod hav fr wh er len : Int} {keys : List Bs} {ten : Bs} {keep : Bool} {kv u : Value} (ho : o.length ≤ 1000) (hz : MetaZ (⟨tt, tw, mod, len, hav, fr, wh, er, keys, ten, keep⟩ : MetaP)) (hk : TextsAt w kv keys) (hu : BytesAt w u bs) (hbs : bs.length ≤ 1000) (hfk : FarV own kv) (hfu : FarV own u) (hl1 : ¬ len = -1) (hl2 : ¬ len = (bs.length : Int)) : Calls Try.prog 13 #[.pointer (some ⟨b, 0, none⟩), .string ⟨o.toArray⟩, .agg ([.string ⟨tt.toArray⟩, .bool tw, .int .i64 mod, .int .i64 len, .int .i64 hav, .int .i64 fr, .int .i64 wh, .int .i64 er, kv, .string ⟨ten.toArray⟩, .bool keep]).toArray, u] w fun e w' => e = .returned (.int .i64 (setA vs o (⟨tt, tw, mod, len, hav, fr, wh, er, keys, ten, keep⟩ : MetaP) bs).1) ∧ OI w' b B (N + 2) (grownOwn own w w') (setA vs o (⟨tt, tw, mod, len, hav, fr, wh, er, keys, ten, keep⟩ : MetaP) bs).2 ss sa ∧ ExtP own w w' := by
  have HOBJ := Lib.hid fun W => obj_any o W (by omega)
  have HZ := Lib.hid hz; have HK := Lib.hid hk; have HU := Lib.hid hu; have HFK := Lib.hid hfk; have HFU := Lib.hid hfu; have HI := Lib.hid hI
  obtain ⟨A, c, rfl, hc0, _, _⟩ := hu
  obtain ⟨KA, KC, rfl, _, _, _⟩ := hk
  rw [List.length_map] at HU HFU hc0 ⊢
  obtain ⟨y1, hy1⟩ : ∃ y, y = objB o := ⟨_, rfl⟩
  rw [← hy1] at HOBJ
  obtain ⟨y2, hy2⟩ : ∃ y, y = metaB (⟨tt, tw, mod, len, bs.length, fr, wh, er, keys, ten, keep⟩ : MetaP) := ⟨_, rfl⟩
  have HMR : Hid (∀ W, Ext w W → Calls Try.prog 36 #[.agg ([.string ⟨tt.toArray⟩, .bool tw, .int .i64 mod, .int .i64 len, .int .i64 bs.length, .int .i64 fr, .int .i64 wh, .int .i64 er, .slice KA keys.length KC, .string ⟨ten.toArray⟩, .bool keep]).toArray] W fun e w' => e = .returned (.bool y2) ∧ Ext W w') := Lib.hid fun W x => by rw [hy2]; exact meta_right _ _ W ⟨HZ.out.tt, HZ.out.keys, HZ.out.key, HZ.out.ten⟩ (HK.out.ext x)
  obtain ⟨r, hr⟩ : ∃ r, r = setA vs o (⟨tt, tw, mod, len, hav, fr, wh, er, keys, ten, keep⟩ : MetaP) bs := ⟨_, rfl⟩
  rw [← hr]
  have HR : Hid (r = if (y1 && (len == -1 || len == (bs.length : Int)) && y2) = false then (1, vs) else if refused vs o (⟨tt, tw, mod, len, hav, fr, wh, er, keys, ten, keep⟩ : MetaP) = true then (12, vs) else (0, offVs vs o ++ [⟨o, (⟨tt, tw, mod, len, bs.length, fr, wh, er, keys, ten, keep⟩ : MetaP), bs, false⟩])) := Lib.hid (by rw [hr, hy1, hy2]; unfold setA setOk newV; rfl)
  have HL : Hid ((len == -1 || len == (bs.length : Int)) = false) := Lib.hid (by simp [hl1, hl2])
  have d1 : (len != -1) = true := by simpa using hl1
  have d2 : (len != (bs.length : Int)) = true := by simpa using hl2
  clear hl1 hl2
  clear hz hc0 hI hy1 hy2 HK HZ HU hfk hfu hr HFK HFU
  go_enter Try.func13, Try.ntmps13
  go_wp2_with (refine wpList_boxA 38 rfl _ rfl ([.string ⟨tt.toArray⟩, .bool tw, .int .i64 mod, .int .i64 len, .int .i64 hav, .int .i64 fr, .int .i64 wh, .int .i64 er, .slice KA keys.length KC, .string ⟨ten.toArray⟩, .bool keep]).toArray rfl ?_; intro W0 x0 n0 s0; refine stop_of ?_)
  unfold Stop
  have X0 := Lib.hid x0; have N0 := Lib.hid n0
  have k3 := blk_cell n0 3
  simp at k3
  clear x0 n0 s0
  go_wp2_with (go_at_call 35; refine (HOBJ.out _).mono ?_; rintro e w1 ⟨rfl, rfl⟩; refine stop_of ?_)
  unfold Stop
  cases y1 with
  | false =>
    go_wp2
    go_ret
    exact fin_same HI.out X0.out (by rw [HR.out]; simp)
  | true =>
    go_wp2
    go_ret
    exact fin_same HI.out X0.out (by rw [HR.out, HL.out]; simp)
set_option maxRecDepth 100000 in
set_option maxHeartbeats 8000000 in
theorem set_A_ref1 (hI : OIx w b B N own vs ss sa gs mo mh H K) (hN : N ≤ 800000) {o bs : Bs} {tt : Bs} {tw : Bool} {mod hav fr wh er : Int} {keys : List Bs} {ten : Bs} {keep : Bool} {kv u : Value} (ho : o.length ≤ 1000) (hz : MetaZ (⟨tt, tw, mod, (-1), hav, fr, wh, er, keys, ten, keep⟩ : MetaP)) (hk : TextsAt w kv keys) (hu : BytesAt w u bs) (hbs : bs.length ≤ 1000) (hfk : FarV own kv) (hfu : FarV own u) (hb : setOk o (⟨tt, tw, mod, (-1), hav, fr, wh, er, keys, ten, keep⟩ : MetaP) bs = true) (hnt : noTag (⟨tt, tw, mod, (-1), hav, fr, wh, er, keys, ten, keep⟩ : MetaP) = false) (hhd : hadF H K o tt = some true) : Calls Try.prog 13 #[.pointer (some ⟨b, 0, none⟩), .string ⟨o.toArray⟩, .agg ([.string ⟨tt.toArray⟩, .bool tw, .int .i64 mod, .int .i64 (-1), .int .i64 hav, .int .i64 fr, .int .i64 wh, .int .i64 er, kv, .string ⟨ten.toArray⟩, .bool keep]).toArray, u] w fun e w' => e = .returned (.int .i64 (setA vs o (⟨tt, tw, mod, (-1), hav, fr, wh, er, keys, ten, keep⟩ : MetaP) bs).1) ∧ OI w' b B (N + 2) (grownOwn own w w') (setA vs o (⟨tt, tw, mod, (-1), hav, fr, wh, er, keys, ten, keep⟩ : MetaP) bs).2 ss sa ∧ ExtP own w w' := by
  have HOBJ := Lib.hid fun W => obj_any o W (by omega)
  have HZ := Lib.hid hz; have HK := Lib.hid hk; have HU := Lib.hid hu; have HFK := Lib.hid hfk; have HFU := Lib.hid hfu; have HI := Lib.hid hI
  obtain ⟨A, c, rfl, hc0, _, _⟩ := hu
  obtain ⟨KA, KC, rfl, _, _, _⟩ := hk
  rw [List.length_map] at HU HFU hc0 ⊢
  obtain ⟨y1, hy1⟩ : ∃ y, y = objB o := ⟨_, rfl⟩
  rw [← hy1] at HOBJ
  obtain ⟨y2, hy2⟩ : ∃ y, y = metaB (⟨tt, tw, mod, (-1), bs.length, fr, wh, er, keys, ten, keep⟩ : MetaP) := ⟨_, rfl⟩
  have HMR : Hid (∀ W, Ext w W → Calls Try.prog 36 #[.agg ([.string ⟨tt.toArray⟩, .bool tw, .int .i64 mod, .int .i64 (-1), .int .i64 bs.length, .int .i64 fr, .int .i64 wh, .int .i64 er, .slice KA keys.length KC, .string ⟨ten.toArray⟩, .bool keep]).toArray] W fun e w' => e = .returned (.bool y2) ∧ Ext W w') := Lib.hid fun W x => by rw [hy2]; exact meta_right _ _ W ⟨HZ.out.tt, HZ.out.keys, HZ.out.key, HZ.out.ten⟩ (HK.out.ext x)
  obtain ⟨r, hr⟩ : ∃ r, r = setA vs o (⟨tt, tw, mod, (-1), hav, fr, wh, er, keys, ten, keep⟩ : MetaP) bs := ⟨_, rfl⟩
  rw [← hr]
  have HR : Hid (r = if (y1 && true && y2) = false then (1, vs) else if refused vs o (⟨tt, tw, mod, (-1), hav, fr, wh, er, keys, ten, keep⟩ : MetaP) = true then (12, vs) else (0, offVs vs o ++ [⟨o, (⟨tt, tw, mod, (-1), bs.length, fr, wh, er, keys, ten, keep⟩ : MetaP), bs, false⟩])) := Lib.hid (by rw [hr, hy1, hy2]; unfold setA setOk newV; simp)
  have hyy : y1 = true ∧ y2 = true := by rw [hy1, hy2]; unfold setOk at hb; simpa using hb
  obtain ⟨rfl, rfl⟩ := hyy
  have HNT : Hid ((!(tt == [] && !tw)) = true) := Lib.hid (by have h := hnt; unfold noTag at h; simp only at h; rw [h]; rfl)
  have hadE : ∀ o' t', hadF H K o' t' = hadA vs o' t' := fun o' t' => HI.out.maps.tie o' t'
  have HHD := Lib.hid hhd
  have HREF : refused vs o (⟨tt, tw, mod, (-1), hav, fr, wh, er, keys, ten, keep⟩ : MetaP) = true := by unfold refused; rw [hnt]; simp only; rw [← hadE, hhd]; simp
  have HR2 : Hid (r = (12, vs)) := Lib.hid (by rw [HR.out, HREF]; simp)
  clear hz hc0 hI hy1 hy2 hfk hfu hr HR hb hnt HREF hhd hadE
  have q82 := q82; have hmm := @run_makeMap Try.prog
  go_enter Try.func13, Try.ntmps13
  go_wp2_with (refine wpList_boxA 38 rfl _ rfl ([.string ⟨tt.toArray⟩, .bool tw, .int .i64 mod, .int .i64 (-1), .int .i64 hav, .int .i64 fr, .int .i64 wh, .int .i64 er, .slice KA keys.length KC, .string ⟨ten.toArray⟩, .bool keep]).toArray rfl ?_; intro W0 x0 n0 s0; refine stop_of ?_)
  unfold Stop
  have X0 := Lib.hid x0; have N0 := Lib.hid n0
  have k3 := blk_cell n0 3
  simp at k3
  clear x0 n0 s0
  go_wp2_with (go_at_call 35; refine (HOBJ.out _).mono ?_; rintro e w1 ⟨rfl, rfl⟩; refine stop_of ?_)
  unfold Stop
  go_wp2_with (refine wpList_put 2 rfl _ _ rfl _ 4 38 _ ([.string ⟨tt.toArray⟩, .bool tw, .int .i64 mod, .int .i64 (-1), .int .i64 bs.length, .int .i64 fr, .int .i64 wh, .int .i64 er, .slice KA keys.length KC, .string ⟨ten.toArray⟩, .bool keep]).toArray [.int .i64 bs.length] (.int .i64 bs.length) N0.out rfl rfl rfl (by simp) rfl size2 (by kernel_rfl) ?_; intro W1 x1 n1 s1; refine stop_of ?_)
  unfold Stop
  have X1 := Lib.hid (X0.out.thenB x1 (by simp)); have N1 := Lib.hid n1
  clear x1 n1 s1 X0 N0 k3
  go_wp2_with (first | (refine wpList_get 38 _ rfl _ rfl _ 0 38 _ ([.string ⟨tt.toArray⟩, .bool tw, .int .i64 mod, .int .i64 (-1), .int .i64 bs.length, .int .i64 fr, .int .i64 wh, .int .i64 er, .slice KA keys.length KC, .string ⟨ten.toArray⟩, .bool keep]) N1.out rfl (by kernel_rfl) Try.underlying38 rfl size38 ?_) | (go_at_call 36; refine (HMR.out _ X1.out).mono ?_; rintro e w2 ⟨rfl, x2⟩; refine stop_of ?_))
  unfold Stop
  have X2 := Lib.hid (X1.out.trans x2); have N2 := Lib.hid (x2.heap N1.out)
  clear x2 X1 N1
  have hq := fun W => q27 W tt tw
  rw [HNT.out] at hq
  go_wp2_with (refine wpList_get 27 _ rfl _ rfl _ 0 38 _ [.string ⟨tt.toArray⟩, .bool tw] N2.out rfl (by kernel_rfl) Try.underlying27 rfl size27 ?_; refine stop_of ?_)
  unfold Stop
  go_wp2_with fail
  have M2 := Lib.hid (HI.out.mid.ext X2.out)
  have G1 : ∀ x : Grow [] w2, x.v.cell? ⟨b, 1, none⟩ = some (.map mh) := fun x => x.ext.cell (blk_cell M2.out.blk 1) (by simp)
  have G2 : ∀ x : Grow [] w2, x.v.cell? ⟨w.heap.size, 0, none⟩ = some (.string ⟨tt.toArray⟩) := fun x => x.ext.cell (blk_cell N2.out 0) (by simp)
  have GL : ∀ x : Grow [] w2, (Instr.lookup 78 (.map mh) (.string ⟨o.toArray⟩) false).run Try.prog x.v = .ok (.map (H o)) x.v := fun x => M2.out.had.look_grow x (by omega)
  have GL2 : ∀ x : Grow [] w2, (Instr.lookup 79 (.map (H o)) (.string ⟨tt.toArray⟩) true).run Try.prog x.v = .ok (.tuple #[.bool true, .bool true]) x.v := fun x => by
    have h := (M2.out.ext (x.ext.ext)).had.look2 (o := o) (t := tt) (by have := HZ.out.tt; simp only at this; omega)
    rw [HHD.out] at h
    exact h
  (refine wp_region_grow (by kernel_rfl) (by kernel_rfl) ?_; (repeat (go_big_quiet_step (fail))); refine wpQuiet_nil ?_)
  clear G1 G2 GL GL2
  intro w3 hx3
  have X3 := Lib.hid (X2.out.trans hx3); have N3 := Lib.hid (hx3.heap N2.out)
  have M3 := Lib.hid (M2.out.ext hx3)
  clear hx3 X2 N2 M2
  go_wp2
  go_ret
  exact fin_same HI.out X3.out HR2.out
set_option maxRecDepth 100000 in
set_option maxHeartbeats 8000000 in
theorem set_A_ref2 (hI : OIx w b B N own vs ss sa gs mo mh H K) (hN : N ≤ 800000) {o bs : Bs} {tt : Bs} {tw : Bool} {mod hav fr wh er : Int} {keys : List Bs} {ten : Bs} {keep : Bool} {kv u : Value} (ho : o.length ≤ 1000) (hz : MetaZ (⟨tt, tw, mod, (-1), hav, fr, wh, er, keys, ten, keep⟩ : MetaP)) (hk : TextsAt w kv keys) (hu : BytesAt w u bs) (hbs : bs.length ≤ 1000) (hfk : FarV own kv) (hfu : FarV own u) (hb : setOk o (⟨tt, tw, mod, (-1), hav, fr, wh, er, keys, ten, keep⟩ : MetaP) bs = true) (hnt : noTag (⟨tt, tw, mod, (-1), hav, fr, wh, er, keys, ten, keep⟩ : MetaP) = false) (hhd : hadF H K o tt = some false) (htw : tw = false) : Calls Try.prog 13 #[.pointer (some ⟨b, 0, none⟩), .string ⟨o.toArray⟩, .agg ([.string ⟨tt.toArray⟩, .bool tw, .int .i64 mod, .int .i64 (-1), .int .i64 hav, .int .i64 fr, .int .i64 wh, .int .i64 er, kv, .string ⟨ten.toArray⟩, .bool keep]).toArray, u] w fun e w' => e = .returned (.int .i64 (setA vs o (⟨tt, tw, mod, (-1), hav, fr, wh, er, keys, ten, keep⟩ : MetaP) bs).1) ∧ OI w' b B (N + 2) (grownOwn own w w') (setA vs o (⟨tt, tw, mod, (-1), hav, fr, wh, er, keys, ten, keep⟩ : MetaP) bs).2 ss sa ∧ ExtP own w w' := by
  subst htw
  have HOBJ := Lib.hid fun W => obj_any o W (by omega)
  have HZ := Lib.hid hz; have HK := Lib.hid hk; have HU := Lib.hid hu; have HFK := Lib.hid hfk; have HFU := Lib.hid hfu; have HI := Lib.hid hI
  obtain ⟨A, c, rfl, hc0, _, _⟩ := hu
  obtain ⟨KA, KC, rfl, _, _, _⟩ := hk
  rw [List.length_map] at HU HFU hc0 ⊢
  obtain ⟨y1, hy1⟩ : ∃ y, y = objB o := ⟨_, rfl⟩
  rw [← hy1] at HOBJ
  obtain ⟨y2, hy2⟩ : ∃ y, y = metaB (⟨tt, false, mod, (-1), bs.length, fr, wh, er, keys, ten, keep⟩ : MetaP) := ⟨_, rfl⟩
  have HMR : Hid (∀ W, Ext w W → Calls Try.prog 36 #[.agg ([.string ⟨tt.toArray⟩, .bool false, .int .i64 mod, .int .i64 (-1), .int .i64 bs.length, .int .i64 fr, .int .i64 wh, .int .i64 er, .slice KA keys.length KC, .string ⟨ten.toArray⟩, .bool keep]).toArray] W fun e w' => e = .returned (.bool y2) ∧ Ext W w') := Lib.hid fun W x => by rw [hy2]; exact meta_right _ _ W ⟨HZ.out.tt, HZ.out.keys, HZ.out.key, HZ.out.ten⟩ (HK.out.ext x)
  obtain ⟨r, hr⟩ : ∃ r, r = setA vs o (⟨tt, false, mod, (-1), hav, fr, wh, er, keys, ten, keep⟩ : MetaP) bs := ⟨_, rfl⟩
  rw [← hr]
  have HR : Hid (r = if (y1 && true && y2) = false then (1, vs) else if refused vs o (⟨tt, false, mod, (-1), hav, fr, wh, er, keys, ten, keep⟩ : MetaP) = true then (12, vs) else (0, offVs vs o ++ [⟨o, (⟨tt, false, mod, (-1), bs.length, fr, wh, er, keys, ten, keep⟩ : MetaP), bs, false⟩])) := Lib.hid (by rw [hr, hy1, hy2]; unfold setA setOk newV; simp)
  have hyy : y1 = true ∧ y2 = true := by rw [hy1, hy2]; unfold setOk at hb; simpa using hb
  obtain ⟨rfl, rfl⟩ := hyy
  have HNT : Hid ((!(tt == [] && !false)) = true) := Lib.hid (by have h := hnt; unfold noTag at h; simp only at h; rw [h]; rfl)
  have hadE : ∀ o' t', hadF H K o' t' = hadA vs o' t' := fun o' t' => HI.out.maps.tie o' t'
  have HHD := Lib.hid hhd
  have HREF : refused vs o (⟨tt, false, mod, (-1), hav, fr, wh, er, keys, ten, keep⟩ : MetaP) = true := by unfold refused; rw [hnt]; simp only; rw [← hadE, hhd]; simp
  have HR2 : Hid (r = (12, vs)) := Lib.hid (by rw [HR.out, HREF]; simp)
  clear hz hc0 hI hy1 hy2 hfk hfu hr HR hb hnt HREF hhd hadE
  have q82 := q82; have hmm := @run_makeMap Try.prog
  go_enter Try.func13, Try.ntmps13
  go_wp2_with (refine wpList_boxA 38 rfl _ rfl ([.string ⟨tt.toArray⟩, .bool false, .int .i64 mod, .int .i64 (-1), .int .i64 hav, .int .i64 fr, .int .i64 wh, .int .i64 er, .slice KA keys.length KC, .string ⟨ten.toArray⟩, .bool keep]).toArray rfl ?_; intro W0 x0 n0 s0; refine stop_of ?_)
  unfold Stop
  have X0 := Lib.hid x0; have N0 := Lib.hid n0
  have k3 := blk_cell n0 3
  simp at k3
  clear x0 n0 s0
  go_wp2_with (go_at_call 35; refine (HOBJ.out _).mono ?_; rintro e w1 ⟨rfl, rfl⟩; refine stop_of ?_)
  unfold Stop
  go_wp2_with (refine wpList_put 2 rfl _ _ rfl _ 4 38 _ ([.string ⟨tt.toArray⟩, .bool false, .int .i64 mod, .int .i64 (-1), .int .i64 bs.length, .int .i64 fr, .int .i64 wh, .int .i64 er, .slice KA keys.length KC, .string ⟨ten.toArray⟩, .bool keep]).toArray [.int .i64 bs.length] (.int .i64 bs.length) N0.out rfl rfl rfl (by simp) rfl size2 (by kernel_rfl) ?_; intro W1 x1 n1 s1; refine stop_of ?_)
  unfold Stop
  have X1 := Lib.hid (X0.out.thenB x1 (by simp)); have N1 := Lib.hid n1
  clear x1 n1 s1 X0 N0 k3
  go_wp2_with (first | (refine wpList_get 38 _ rfl _ rfl _ 0 38 _ ([.string ⟨tt.toArray⟩, .bool false, .int .i64 mod, .int .i64 (-1), .int .i64 bs.length, .int .i64 fr, .int .i64 wh, .int .i64 er, .slice KA keys.length KC, .string ⟨ten.toArray⟩, .bool keep]) N1.out rfl (by kernel_rfl) Try.underlying38 rfl size38 ?_) | (go_at_call 36; refine (HMR.out _ X1.out).mono ?_; rintro e w2 ⟨rfl, x2⟩; refine stop_of ?_))
  unfold Stop
  have X2 := Lib.hid (X1.out.trans x2); have N2 := Lib.hid (x2.heap N1.out)
  clear x2 X1 N1
  have hq := fun W => q27 W tt false
  rw [HNT.out] at hq
  go_wp2_with (refine wpList_get 27 _ rfl _ rfl _ 0 38 _ [.string ⟨tt.toArray⟩, .bool false] N2.out rfl (by kernel_rfl) Try.underlying27 rfl size27 ?_; refine stop_of ?_)
  unfold Stop
  go_wp2_with fail
  have M2 := Lib.hid (HI.out.mid.ext X2.out)
  have G1 : ∀ x : Grow [] w2, x.v.cell? ⟨b, 1, none⟩ = some (.map mh) := fun x => x.ext.cell (blk_cell M2.out.blk 1) (by simp)
  have G2 : ∀ x : Grow [] w2, x.v.cell? ⟨w.heap.size, 0, none⟩ = some (.string ⟨tt.toArray⟩) := fun x => x.ext.cell (blk_cell N2.out 0) (by simp)
  have GL : ∀ x : Grow [] w2, (Instr.lookup 78 (.map mh) (.string ⟨o.toArray⟩) false).run Try.prog x.v = .ok (.map (H o)) x.v := fun x => M2.out.had.look_grow x (by omega)
  have GL2 : ∀ x : Grow [] w2, (Instr.lookup 79 (.map (H o)) (.string ⟨tt.toArray⟩) true).run Try.prog x.v = .ok (.tuple #[.bool false, .bool true]) x.v := fun x => by
    have h := (M2.out.ext (x.ext.ext)).had.look2 (o := o) (t := tt) (by have := HZ.out.tt; simp only at this; omega)
    rw [HHD.out] at h
    exact h
  (refine wp_region_grow (by kernel_rfl) (by kernel_rfl) ?_; (repeat (go_big_quiet_step (fail))); refine wpQuiet_nil ?_)
  clear G1 G2 GL GL2
  intro w3 hx3
  have X3 := Lib.hid (X2.out.trans hx3); have N3 := Lib.hid (hx3.heap N2.out)
  have M3 := Lib.hid (M2.out.ext hx3)
  clear hx3 X2 N2 M2
  have k1 := blk_cell N3.out 1
  simp at k1
  go_wp2
  go_ret
  exact fin_same HI.out X3.out HR2.out
set_option maxRecDepth 100000 in
set_option maxHeartbeats 8000000 in
theorem set_B_ref1 (hI : OIx w b B N own vs ss sa gs mo mh H K) (hN : N ≤ 800000) {o bs : Bs} {tt : Bs} {tw : Bool} {mod hav fr wh er : Int} {keys : List Bs} {ten : Bs} {keep : Bool} {kv u : Value} (ho : o.length ≤ 1000) (hz : MetaZ (⟨tt, tw, mod, bs.length, hav, fr, wh, er, keys, ten, keep⟩ : MetaP)) (hk : TextsAt w kv keys) (hu : BytesAt w u bs) (hbs : bs.length ≤ 1000) (hfk : FarV own kv) (hfu : FarV own u) (hb : setOk o (⟨tt, tw, mod, bs.length, hav, fr, wh, er, keys, ten, keep⟩ : MetaP) bs = true) (hnt : noTag (⟨tt, tw, mod, bs.length, hav, fr, wh, er, keys, ten, keep⟩ : MetaP) = false) (hhd : hadF H K o tt = some true) : Calls Try.prog 13 #[.pointer (some ⟨b, 0, none⟩), .string ⟨o.toArray⟩, .agg ([.string ⟨tt.toArray⟩, .bool tw, .int .i64 mod, .int .i64 bs.length, .int .i64 hav, .int .i64 fr, .int .i64 wh, .int .i64 er, kv, .string ⟨ten.toArray⟩, .bool keep]).toArray, u] w fun e w' => e = .returned (.int .i64 (setA vs o (⟨tt, tw, mod, bs.length, hav, fr, wh, er, keys, ten, keep⟩ : MetaP) bs).1) ∧ OI w' b B (N + 2) (grownOwn own w w') (setA vs o (⟨tt, tw, mod, bs.length, hav, fr, wh, er, keys, ten, keep⟩ : MetaP) bs).2 ss sa ∧ ExtP own w w' := by
  have HOBJ := Lib.hid fun W => obj_any o W (by omega)
  have HZ := Lib.hid hz; have HK := Lib.hid hk; have HU := Lib.hid hu; have HFK := Lib.hid hfk; have HFU := Lib.hid hfu; have HI := Lib.hid hI
  obtain ⟨A, c, rfl, hc0, _, _⟩ := hu
  obtain ⟨KA, KC, rfl, _, _, _⟩ := hk
  rw [List.length_map] at HU HFU hc0 ⊢
  obtain ⟨y1, hy1⟩ : ∃ y, y = objB o := ⟨_, rfl⟩
  rw [← hy1] at HOBJ
  obtain ⟨y2, hy2⟩ : ∃ y, y = metaB (⟨tt, tw, mod, bs.length, bs.length, fr, wh, er, keys, ten, keep⟩ : MetaP) := ⟨_, rfl⟩
  have HMR : Hid (∀ W, Ext w W → Calls Try.prog 36 #[.agg ([.string ⟨tt.toArray⟩, .bool tw, .int .i64 mod, .int .i64 bs.length, .int .i64 bs.length, .int .i64 fr, .int .i64 wh, .int .i64 er, .slice KA keys.length KC, .string ⟨ten.toArray⟩, .bool keep]).toArray] W fun e w' => e = .returned (.bool y2) ∧ Ext W w') := Lib.hid fun W x => by rw [hy2]; exact meta_right _ _ W ⟨HZ.out.tt, HZ.out.keys, HZ.out.key, HZ.out.ten⟩ (HK.out.ext x)
  obtain ⟨r, hr⟩ : ∃ r, r = setA vs o (⟨tt, tw, mod, bs.length, hav, fr, wh, er, keys, ten, keep⟩ : MetaP) bs := ⟨_, rfl⟩
  rw [← hr]
  have HR : Hid (r = if (y1 && true && y2) = false then (1, vs) else if refused vs o (⟨tt, tw, mod, bs.length, hav, fr, wh, er, keys, ten, keep⟩ : MetaP) = true then (12, vs) else (0, offVs vs o ++ [⟨o, (⟨tt, tw, mod, bs.length, bs.length, fr, wh, er, keys, ten, keep⟩ : MetaP), bs, false⟩])) := Lib.hid (by rw [hr, hy1, hy2]; unfold setA setOk newV; simp)
  have hyy : y1 = true ∧ y2 = true := by rw [hy1, hy2]; unfold setOk at hb; simpa using hb
  obtain ⟨rfl, rfl⟩ := hyy
  have HNT : Hid ((!(tt == [] && !tw)) = true) := Lib.hid (by have h := hnt; unfold noTag at h; simp only at h; rw [h]; rfl)
  have hadE : ∀ o' t', hadF H K o' t' = hadA vs o' t' := fun o' t' => HI.out.maps.tie o' t'
  have HHD := Lib.hid hhd
  have HREF : refused vs o (⟨tt, tw, mod, bs.length, hav, fr, wh, er, keys, ten, keep⟩ : MetaP) = true := by unfold refused; rw [hnt]; simp only; rw [← hadE, hhd]; simp
  have HR2 : Hid (r = (12, vs)) := Lib.hid (by rw [HR.out, HREF]; simp)
  clear hz hc0 hI hy1 hy2 hfk hfu hr HR hb hnt HREF hhd hadE
  have q82 := q82; have hmm := @run_makeMap Try.prog
  go_enter Try.func13, Try.ntmps13
  go_wp2_with (refine wpList_boxA 38 rfl _ rfl ([.string ⟨tt.toArray⟩, .bool tw, .int .i64 mod, .int .i64 bs.length, .int .i64 hav, .int .i64 fr, .int .i64 wh, .int .i64 er, .slice KA keys.length KC, .string ⟨ten.toArray⟩, .bool keep]).toArray rfl ?_; intro W0 x0 n0 s0; refine stop_of ?_)
  unfold Stop
  have X0 := Lib.hid x0; have N0 := Lib.hid n0
  have k3 := blk_cell n0 3
  simp at k3
  clear x0 n0 s0
  go_wp2_with (go_at_call 35; refine (HOBJ.out _).mono ?_; rintro e w1 ⟨rfl, rfl⟩; refine stop_of ?_)
  unfold Stop
  go_wp2_with (refine wpList_put 2 rfl _ _ rfl _ 4 38 _ ([.string ⟨tt.toArray⟩, .bool tw, .int .i64 mod, .int .i64 bs.length, .int .i64 bs.length, .int .i64 fr, .int .i64 wh, .int .i64 er, .slice KA keys.length KC, .string ⟨ten.toArray⟩, .bool keep]).toArray [.int .i64 bs.length] (.int .i64 bs.length) N0.out rfl rfl rfl (by simp) rfl size2 (by kernel_rfl) ?_; intro W1 x1 n1 s1; refine stop_of ?_)
  unfold Stop
  have X1 := Lib.hid (X0.out.thenB x1 (by simp)); have N1 := Lib.hid n1
  clear x1 n1 s1 X0 N0 k3
  go_wp2_with (first | (refine wpList_get 38 _ rfl _ rfl _ 0 38 _ ([.string ⟨tt.toArray⟩, .bool tw, .int .i64 mod, .int .i64 bs.length, .int .i64 bs.length, .int .i64 fr, .int .i64 wh, .int .i64 er, .slice KA keys.length KC, .string ⟨ten.toArray⟩, .bool keep]) N1.out rfl (by kernel_rfl) Try.underlying38 rfl size38 ?_) | (go_at_call 36; refine (HMR.out _ X1.out).mono ?_; rintro e w2 ⟨rfl, x2⟩; refine stop_of ?_))
  unfold Stop
  have X2 := Lib.hid (X1.out.trans x2); have N2 := Lib.hid (x2.heap N1.out)
  clear x2 X1 N1
  have hq := fun W => q27 W tt tw
  rw [HNT.out] at hq
  go_wp2_with (refine wpList_get 27 _ rfl _ rfl _ 0 38 _ [.string ⟨tt.toArray⟩, .bool tw] N2.out rfl (by kernel_rfl) Try.underlying27 rfl size27 ?_; refine stop_of ?_)
  unfold Stop
  go_wp2_with fail
  have M2 := Lib.hid (HI.out.mid.ext X2.out)
  have G1 : ∀ x : Grow [] w2, x.v.cell? ⟨b, 1, none⟩ = some (.map mh) := fun x => x.ext.cell (blk_cell M2.out.blk 1) (by simp)
  have G2 : ∀ x : Grow [] w2, x.v.cell? ⟨w.heap.size, 0, none⟩ = some (.string ⟨tt.toArray⟩) := fun x => x.ext.cell (blk_cell N2.out 0) (by simp)
  have GL : ∀ x : Grow [] w2, (Instr.lookup 78 (.map mh) (.string ⟨o.toArray⟩) false).run Try.prog x.v = .ok (.map (H o)) x.v := fun x => M2.out.had.look_grow x (by omega)
  have GL2 : ∀ x : Grow [] w2, (Instr.lookup 79 (.map (H o)) (.string ⟨tt.toArray⟩) true).run Try.prog x.v = .ok (.tuple #[.bool true, .bool true]) x.v := fun x => by
    have h := (M2.out.ext (x.ext.ext)).had.look2 (o := o) (t := tt) (by have := HZ.out.tt; simp only at this; omega)
    rw [HHD.out] at h
    exact h
  (refine wp_region_grow (by kernel_rfl) (by kernel_rfl) ?_; (repeat (go_big_quiet_step (fail))); refine wpQuiet_nil ?_)
  clear G1 G2 GL GL2
  intro w3 hx3
  have X3 := Lib.hid (X2.out.trans hx3); have N3 := Lib.hid (hx3.heap N2.out)
  have M3 := Lib.hid (M2.out.ext hx3)
  clear hx3 X2 N2 M2
  go_wp2
  go_ret
  exact fin_same HI.out X3.out HR2.out
set_option maxRecDepth 100000 in
set_option maxHeartbeats 8000000 in
theorem set_B_ref2 (hI : OIx w b B N own vs ss sa gs mo mh H K) (hN : N ≤ 800000) {o bs : Bs} {tt : Bs} {tw : Bool} {mod hav fr wh er : Int} {keys : List Bs} {ten : Bs} {keep : Bool} {kv u : Value} (ho : o.length ≤ 1000) (hz : MetaZ (⟨tt, tw, mod, bs.length, hav, fr, wh, er, keys, ten, keep⟩ : MetaP)) (hk : TextsAt w kv keys) (hu : BytesAt w u bs) (hbs : bs.length ≤ 1000) (hfk : FarV own kv) (hfu : FarV own u) (hb : setOk o (⟨tt, tw, mod, bs.length, hav, fr, wh, er, keys, ten, keep⟩ : MetaP) bs = true) (hnt : noTag (⟨tt, tw, mod, bs.length, hav, fr, wh, er, keys, ten, keep⟩ : MetaP) = false) (hhd : hadF H K o tt = some false) (htw : tw = false) : Calls Try.prog 13 #[.pointer (some ⟨b, 0, none⟩), .string ⟨o.toArray⟩, .agg ([.string ⟨tt.toArray⟩, .bool tw, .int .i64 mod, .int .i64 bs.length, .int .i64 hav, .int .i64 fr, .int .i64 wh, .int .i64 er, kv, .string ⟨ten.toArray⟩, .bool keep]).toArray, u] w fun e w' => e = .returned (.int .i64 (setA vs o (⟨tt, tw, mod, bs.length, hav, fr, wh, er, keys, ten, keep⟩ : MetaP) bs).1) ∧ OI w' b B (N + 2) (grownOwn own w w') (setA vs o (⟨tt, tw, mod, bs.length, hav, fr, wh, er, keys, ten, keep⟩ : MetaP) bs).2 ss sa ∧ ExtP own w w' := by
  subst htw
  have HOBJ := Lib.hid fun W => obj_any o W (by omega)
  have HZ := Lib.hid hz; have HK := Lib.hid hk; have HU := Lib.hid hu; have HFK := Lib.hid hfk; have HFU := Lib.hid hfu; have HI := Lib.hid hI
  obtain ⟨A, c, rfl, hc0, _, _⟩ := hu
  obtain ⟨KA, KC, rfl, _, _, _⟩ := hk
  rw [List.length_map] at HU HFU hc0 ⊢
  obtain ⟨y1, hy1⟩ : ∃ y, y = objB o := ⟨_, rfl⟩
  rw [← hy1] at HOBJ
  obtain ⟨y2, hy2⟩ : ∃ y, y = metaB (⟨tt, false, mod, bs.length, bs.length, fr, wh, er, keys, ten, keep⟩ : MetaP) := ⟨_, rfl⟩
  have HMR : Hid (∀ W, Ext w W → Calls Try.prog 36 #[.agg ([.string ⟨tt.toArray⟩, .bool false, .int .i64 mod, .int .i64 bs.length, .int .i64 bs.length, .int .i64 fr, .int .i64 wh, .int .i64 er, .slice KA keys.length KC, .string ⟨ten.toArray⟩, .bool keep]).toArray] W fun e w' => e = .returned (.bool y2) ∧ Ext W w') := Lib.hid fun W x => by rw [hy2]; exact meta_right _ _ W ⟨HZ.out.tt, HZ.out.keys, HZ.out.key, HZ.out.ten⟩ (HK.out.ext x)
  obtain ⟨r, hr⟩ : ∃ r, r = setA vs o (⟨tt, false, mod, bs.length, hav, fr, wh, er, keys, ten, keep⟩ : MetaP) bs := ⟨_, rfl⟩
  rw [← hr]
  have HR : Hid (r = if (y1 && true && y2) = false then (1, vs) else if refused vs o (⟨tt, false, mod, bs.length, hav, fr, wh, er, keys, ten, keep⟩ : MetaP) = true then (12, vs) else (0, offVs vs o ++ [⟨o, (⟨tt, false, mod, bs.length, bs.length, fr, wh, er, keys, ten, keep⟩ : MetaP), bs, false⟩])) := Lib.hid (by rw [hr, hy1, hy2]; unfold setA setOk newV; simp)
  have hyy : y1 = true ∧ y2 = true := by rw [hy1, hy2]; unfold setOk at hb; simpa using hb
  obtain ⟨rfl, rfl⟩ := hyy
  have HNT : Hid ((!(tt == [] && !false)) = true) := Lib.hid (by have h := hnt; unfold noTag at h; simp only at h; rw [h]; rfl)
  have hadE : ∀ o' t', hadF H K o' t' = hadA vs o' t' := fun o' t' => HI.out.maps.tie o' t'
  have HHD := Lib.hid hhd
  have HREF : refused vs o (⟨tt, false, mod, bs.length, hav, fr, wh, er, keys, ten, keep⟩ : MetaP) = true := by unfold refused; rw [hnt]; simp only; rw [← hadE, hhd]; simp
  have HR2 : Hid (r = (12, vs)) := Lib.hid (by rw [HR.out, HREF]; simp)
  clear hz hc0 hI hy1 hy2 hfk hfu hr HR hb hnt HREF hhd hadE
  have q82 := q82; have hmm := @run_makeMap Try.prog
  go_enter Try.func13, Try.ntmps13
  go_wp2_with (refine wpList_boxA 38 rfl _ rfl ([.string ⟨tt.toArray⟩, .bool false, .int .i64 mod, .int .i64 bs.length, .int .i64 hav, .int .i64 fr, .int .i64 wh, .int .i64 er, .slice KA keys.length KC, .string ⟨ten.toArray⟩, .bool keep]).toArray rfl ?_; intro W0 x0 n0 s0; refine stop_of ?_)
  unfold Stop
  have X0 := Lib.hid x0; have N0 := Lib.hid n0
  have k3 := blk_cell n0 3
  simp at k3
  clear x0 n0 s0
  go_wp2_with (go_at_call 35; refine (HOBJ.out _).mono ?_; rintro e w1 ⟨rfl, rfl⟩; refine stop_of ?_)
  unfold Stop
  go_wp2_with (refine wpList_put 2 rfl _ _ rfl _ 4 38 _ ([.string ⟨tt.toArray⟩, .bool false, .int .i64 mod, .int .i64 bs.length, .int .i64 bs.length, .int .i64 fr, .int .i64 wh, .int .i64 er, .slice KA keys.length KC, .string ⟨ten.toArray⟩, .bool keep]).toArray [.int .i64 bs.length] (.int .i64 bs.length) N0.out rfl rfl rfl (by simp) rfl size2 (by kernel_rfl) ?_; intro W1 x1 n1 s1; refine stop_of ?_)
  unfold Stop
  have X1 := Lib.hid (X0.out.thenB x1 (by simp)); have N1 := Lib.hid n1
  clear x1 n1 s1 X0 N0 k3
  go_wp2_with (first | (refine wpList_get 38 _ rfl _ rfl _ 0 38 _ ([.string ⟨tt.toArray⟩, .bool false, .int .i64 mod, .int .i64 bs.length, .int .i64 bs.length, .int .i64 fr, .int .i64 wh, .int .i64 er, .slice KA keys.length KC, .string ⟨ten.toArray⟩, .bool keep]) N1.out rfl (by kernel_rfl) Try.underlying38 rfl size38 ?_) | (go_at_call 36; refine (HMR.out _ X1.out).mono ?_; rintro e w2 ⟨rfl, x2⟩; refine stop_of ?_))
  unfold Stop
  have X2 := Lib.hid (X1.out.trans x2); have N2 := Lib.hid (x2.heap N1.out)
  clear x2 X1 N1
  have hq := fun W => q27 W tt false
  rw [HNT.out] at hq
  go_wp2_with (refine wpList_get 27 _ rfl _ rfl _ 0 38 _ [.string ⟨tt.toArray⟩, .bool false] N2.out rfl (by kernel_rfl) Try.underlying27 rfl size27 ?_; refine stop_of ?_)
  unfold Stop
  go_wp2_with fail
  have M2 := Lib.hid (HI.out.mid.ext X2.out)
  have G1 : ∀ x : Grow [] w2, x.v.cell? ⟨b, 1, none⟩ = some (.map mh) := fun x => x.ext.cell (blk_cell M2.out.blk 1) (by simp)
  have G2 : ∀ x : Grow [] w2, x.v.cell? ⟨w.heap.size, 0, none⟩ = some (.string ⟨tt.toArray⟩) := fun x => x.ext.cell (blk_cell N2.out 0) (by simp)
  have GL : ∀ x : Grow [] w2, (Instr.lookup 78 (.map mh) (.string ⟨o.toArray⟩) false).run Try.prog x.v = .ok (.map (H o)) x.v := fun x => M2.out.had.look_grow x (by omega)
  have GL2 : ∀ x : Grow [] w2, (Instr.lookup 79 (.map (H o)) (.string ⟨tt.toArray⟩) true).run Try.prog x.v = .ok (.tuple #[.bool false, .bool true]) x.v := fun x => by
    have h := (M2.out.ext (x.ext.ext)).had.look2 (o := o) (t := tt) (by have := HZ.out.tt; simp only at this; omega)
    rw [HHD.out] at h
    exact h
  (refine wp_region_grow (by kernel_rfl) (by kernel_rfl) ?_; (repeat (go_big_quiet_step (fail))); refine wpQuiet_nil ?_)
  clear G1 G2 GL GL2
  intro w3 hx3
  have X3 := Lib.hid (X2.out.trans hx3); have N3 := Lib.hid (hx3.heap N2.out)
  have M3 := Lib.hid (M2.out.ext hx3)
  clear hx3 X2 N2 M2
  have k1 := blk_cell N3.out 1
  simp at k1
  go_wp2
  go_ret
  exact fin_same HI.out X3.out HR2.out
end
end Go.Proofs.Ytpangoddbfiagaa
