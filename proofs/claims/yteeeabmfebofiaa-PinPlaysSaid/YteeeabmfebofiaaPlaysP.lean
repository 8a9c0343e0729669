/- PinPlays: for all acts the call returns true, and its argument reads as before. -/
import Derived.Test.YteeeabmfebofiaaKeys
namespace Go.Proofs.Yteeeabmfebofiaa
open Go.ChangeShapes Go.WideShapes Go.ChangeAt Go.RowKit Go.Maps
set_option linter.unusedVariables false

/-! ### the reference's Free and Shut, each in one form -/
theorem rfree_any (w : World) (B : Nat) (vk vf vs : Value) (L : List Hold) (S : List Int) (i : Nat) (x : Hold) (h : RefAt w B vk vf vs L S) (hx : L[i]? = some x) (hL : L.length ≤ 100000) (hB : B ≤ w.heap.size) :
    Calls Try.prog 17 #[.agg #[vk, vf, vs], .int .i64 i] w fun e w' => ∃ vk' vf' vs', e = .returned (.tuple #[.agg #[vk', vf', vs'], .bool (!x.freed)]) ∧ RefAt w' B vk' vf' vs' (endAt L i) S ∧ Ext w w' := by
  cases hf : x.freed with
  | true => exact (rfree_again w B vk vf vs L S i x h hx hf).mono fun e w' ⟨he, hx'⟩ => ⟨vk, vf, vs, he, by rw [end_freed hx hf]; exact h.ext hx', hx'⟩
  | false => exact (rfree_first w B vk vf vs L S i x h hx hf hL hB).mono fun e w' ⟨vf', he, hr, hx'⟩ => ⟨vk, vf', vs, he, hr, hx'⟩
theorem rshut_any (w : World) (B : Nat) (vk vf vs : Value) (L : List Hold) (S : List Int) (k : Int) (h : RefAt w B vk vf vs L S) (hl : S.length ≤ 100000) (hL : L.length ≤ 100000) (hB : B ≤ w.heap.size) :
    Calls Try.prog 18 #[.agg #[vk, vf, vs], .int .i64 k] w fun e w' => ∃ vk' vf' vs', e = .returned (.tuple #[.agg #[vk', vf', vs'], .bool (decide (live L k = 0))]) ∧ RefAt w' B vk' vf' vs' L (shutOf L S k) ∧ Ext w w' := by
  by_cases hk : live L k = 0
  · by_cases hS : k ∈ S
    · refine (rshut_again w B vk vf vs L S k h hk hS hl hL).mono fun e w' ⟨he, hx'⟩ => ⟨vk, vf, vs, by rw [hk]; exact he, ?_, hx'⟩
      have : shutOf L S k = S := by unfold shutOf; rw [if_neg (fun e => e.2 hS)]
      rw [this]; exact h.ext hx'
    · refine (rshut_new w B vk vf vs L S k h hk hS hl hL hB).mono fun e w' ⟨vs', he, hr, hx'⟩ => ⟨vk, vf, vs', by rw [hk]; exact he, ?_, hx'⟩
      have : shutOf L S k = S ++ [k] := by unfold shutOf; rw [if_pos ⟨hk, hS⟩]
      rw [this]; exact hr
  · refine (rshut_held w B vk vf vs L S k h hk hL).mono fun e w' ⟨he, hx'⟩ => ⟨vk, vf, vs, by rw [decide_eq_false hk]; exact he, ?_, hx'⟩
    have : shutOf L S k = S := by unfold shutOf; rw [if_neg (fun e => hk e.1)]
    rw [this]; exact h.ext hx'
theorem shutOf_len (L : List Hold) (S : List Int) (k : Int) : (shutOf L S k).length ≤ S.length + 1 := by
  unfold shutOf; split <;> simp
theorem RefAt.forms {w : World} {B : Nat} {vk vf vs : Value} {L : List Hold} {S : List Int} (h : RefAt w B vk vf vs L S) : ∃ A1 n1 c1 A2 n2 c2 A3 n3 c3, vk = .slice A1 n1 c1 ∧ vf = .slice A2 n2 c2 ∧ vs = .slice A3 n3 c3 := by
  obtain ⟨A1, c1, e1⟩ := h.keys.slice
  obtain ⟨A2, c2, e2⟩ := h.freed.slice
  obtain ⟨A3, c3, e3⟩ := h.shut.slice
  exact ⟨_, _, _, _, _, _, _, _, _, e1, e2, e3⟩
theorem end_blk (L : List Hold) (i : Nat) : (endAt L i).map Hold.blk = L.map Hold.blk := by
  apply List.ext_getElem?
  intro j
  rw [List.getElem?_map, List.getElem?_map, end_get]
  split
  · cases L[j]? <;> rfl
  · rfl

/-- Where an act has been played: Pins, the list of holds, the reference's state in the variable x. -/
structure PlRel (w : World) (B p xb : Nat) (N j : Nat) (L : List Hold) (S : List Int) (v : Value) (vk vf vs : Value) (wr : World) : Prop where
  pi : PI wr B p N L S
  row : HRow wr B v (L.map Hold.blk)
  xat : wr.heap[xb]? = some (.cells #[vk, vf, vs] 40 (0, 0))
  ref : RefAt wr B vk vf vs L S
  low : B ≤ xb
  lenL : L.length ≤ j
  lenS : S.length ≤ j
  bel : Below B w wr
section
variable {w wr : World} {B p xb N j : Nat} {L : List Hold} {S : List Int} {v vk vf vs : Value}
theorem PlRel.ext {w' : World} (h : PlRel w B p xb N j L S v vk vf vs wr) (hx : Ext wr w') : PlRel w B p xb N j L S v vk vf vs w' :=
  ⟨h.pi.keeps (.of_ext hx), h.row.ext hx, hx.heap h.xat, h.ref.ext hx, h.low, h.lenL, h.lenS, h.bel.trans (Below.mono hx h.pi.low)⟩
theorem PlRel.up {M k : Nat} (h : PlRel w B p xb N j L S v vk vf vs wr) (hN : N ≤ M) (hj : j ≤ k) : PlRel w B p xb M k L S v vk vf vs wr :=
  ⟨h.pi.more hN, h.row, h.xat, h.ref, h.low, Nat.le_trans h.lenL hj, Nat.le_trans h.lenS hj, h.bel⟩
end
theorem PI.blk {w : World} {B b N : Nat} {L : List Hold} {S : List Int} (h : PI w B b N L S) : ∃ cs, w.heap[b]? = some (.cells cs 69 (0, 0)) := by
  obtain ⟨mo, F, h1, _⟩ := h
  exact ⟨_, h1.blk⟩
theorem PlRel.ne {w wr : World} {B p xb N j : Nat} {L : List Hold} {S : List Int} {v vk vf vs : Value} (h : PlRel w B p xb N j L S v vk vf vs wr) : xb ≠ p := by
  rintro rfl
  obtain ⟨cs, hc⟩ := h.pi.blk
  have := h.xat
  rw [hc] at this
  injection this with this
  injection this with _ this
  exact absurd this (by decide)
theorem keeps_set {w : World} {p : Addr} {cs : Array Value} {t : TypeId} {z : Nat × Nat} (hp : w.heap[p.block]? = some (.cells cs t z)) (h1 : t ≠ 69) (h2 : t ≠ 87) (h3 : t ≠ 78) (u : Value) : Keeps w (w.setCell p u) := by
  intro i o hi hc
  rw [Below.heap_setCell w p u i (by
    rintro rfl
    rw [hp] at hi
    injection hi with hi
    rcases hc _ _ _ hi.symm with e | e | e
    · exact h1 e
    · exact h2 e
    · exact h3 e)]
  exact hi
theorem Keeps.trans {a b c : World} (h : Keeps a b) (k : Keeps b c) : Keeps a c := fun i o hi hc => k i o (h i o hi hc) hc
theorem keeps_set3 {w : World} {b : Nat} {x y z : Value} (h : w.heap[b]? = some (.cells #[x, y, z] 40 (0, 0))) (p q r : Value) : Keeps w (((w.setCell ⟨b, 0, none⟩ p).setCell ⟨b, 1, none⟩ q).setCell ⟨b, 2, none⟩ r) := by
  have h1 : (w.setCell ⟨b, 0, none⟩ p).heap[b]? = some (.cells #[p, y, z] 40 (0, 0)) := by rw [blk_set h]; rfl
  have h2 : ((w.setCell ⟨b, 0, none⟩ p).setCell ⟨b, 1, none⟩ q).heap[b]? = some (.cells #[p, q, z] 40 (0, 0)) := by rw [blk_set h1]; rfl
  exact ((keeps_set (p := ⟨b, 0, none⟩) h (by decide) (by decide) (by decide) p).trans (keeps_set (p := ⟨b, 1, none⟩) h1 (by decide) (by decide) (by decide) q)).trans (keeps_set (p := ⟨b, 2, none⟩) h2 (by decide) (by decide) (by decide) r)

theorem put_far {w2 : World} {i xb : Nat} {cs : Array Value} {t : TypeId} {z : Nat × Nat} {x y q : Value} (hi : w2.heap[i]? = some (.cells cs t z)) (hx : w2.heap[xb]? = some (.cells #[x, y, q] 40 (0, 0))) (ht : t ≠ 40) (a b c : Value) (o : Obj) : ((((w2.setCell ⟨xb, 0, none⟩ a).setCell ⟨xb, 1, none⟩ b).setCell ⟨xb, 2, none⟩ c).alloc o).heap[i]? = some (.cells cs t z) := by
  have hne : i ≠ xb := fun e => by rw [e, hx] at hi; injection hi with hi; injection hi with _ hi; exact ht hi.symm
  rw [Below.heap_alloc _ _ _ (by simpa using blk_lt hi)]
  exact blk_far (blk_far (blk_far hi hne _) hne _) hne _
theorem grown_far {w w' : World} {B : Nat} {u : Value} {hs : List Nat} (ho : HRow w B u hs) (hg : w.grownBy w' u.ownBlock) {i : Nat} {cs : Array Value} {t : TypeId} {z : Nat × Nat} (hi : w.heap[i]? = some (.cells cs t z)) (ht : t ≠ 26) : w'.heap[i]? = some (.cells cs t z) := by
  refine (hg.block i (blk_lt hi) ?_).trans hi
  rcases ho.2 with ⟨rfl, _⟩ | ⟨g, cap, cur, rfl, hb, hgg, rest⟩
  · simp [Value.ownBlock]
  · simp [Value.ownBlock]
    rintro rfl
    rw [hgg] at hi
    injection hi with hi
    injection hi with _ hi
    exact ht hi.symm
theorem owns_grown {w w' : World} {B B' : Nat} {u : Value} {hs : List Nat} (ho : HRow w B u hs) (hg : w.grownBy w' u.ownBlock) {e : TypeId} {v : Value} {n : Nat} {xs : List Value} (h : w.ownsRow B' e 1 v n xs) (he : e ≠ 26) : w'.ownsRow B' e 1 v n xs := by
  refine ⟨h.1, ?_⟩
  rcases h.2 with hn | ⟨g, cap, cur, rfl, hb, hgg, rest⟩
  · exact .inl hn
  · exact .inr ⟨g, cap, cur, rfl, hb, grown_far ho hg hgg he, rest⟩
/-- 'next, ok := ref.F(x, ..); x = next': the reference's new state is put into x. -/
theorem put_x {w w2 : World} {B p xb N : Nat} {L' L2 : List Hold} {S S2 : List Int} {hs : List Nat} {v vk vf vs vk' vf' vs' : Value} (hpi : PI w2 B p N L' S) (hrow : HRow w2 B v hs) (hx : w2.heap[xb]? = some (.cells #[vk, vf, vs] 40 (0, 0))) (hr : RefAt w2 B vk' vf' vs' L2 S2) (hlow : B ≤ xb) (hb : Below B w w2) :
    let wE := (((w2.setCell ⟨xb, 0, none⟩ vk').setCell ⟨xb, 1, none⟩ vf').setCell ⟨xb, 2, none⟩ vs').alloc (.cells #[vk', vf', vs'] 40)
    PI wE B p N L' S ∧ HRow wE B v hs ∧ wE.heap[xb]? = some (.cells #[vk', vf', vs'] 40 (0, 0)) ∧ RefAt wE B vk' vf' vs' L2 S2 ∧ Below B w wE := by
  obtain ⟨p1, p2, p3⟩ := set3 hx vk' vf' vs'
  have x1 : Ext (((w2.setCell ⟨xb, 0, none⟩ vk').setCell ⟨xb, 1, none⟩ vf').setCell ⟨xb, 2, none⟩ vs') ((((w2.setCell ⟨xb, 0, none⟩ vk').setCell ⟨xb, 1, none⟩ vf').setCell ⟨xb, 2, none⟩ vs').alloc (.cells #[vk', vf', vs'] 40)) := Ext.alloc (Ext.refl _) _
  have hb2 := hb.trans (p3 B hlow)
  exact ⟨(hpi.keeps (keeps_set3 hx _ _ _)).keeps (.of_ext x1), (show HRow _ _ _ _ from p2 26 _ _ _ _ (by decide) hrow).ext x1, x1.heap p1, RefAt.ext ⟨p2 2 _ _ _ _ (by decide) hr.keys, p2 4 _ _ _ _ (by decide) hr.freed, p2 2 _ _ _ _ (by decide) hr.shut⟩ x1, hb2.trans (Below.mono x1 (Nat.le_trans hpi.low (by simp)))⟩

set_option maxRecDepth 100000 in
set_option maxHeartbeats 16000000 in
theorem plays_walk (xs : List ActV) (A : Option Addr) (c : Nat) (w : World) (hA : ActsAt w A xs) (hlen : xs.length ≤ maxLen) :
    Calls Try.prog 5 #[.slice A xs.length c] w fun e w' => e = .returned (.bool true) ∧ Below w.heap.size w w' := by
  unfold maxLen at hlen
  by_cases h80 : 80 < xs.length
  · have h80' : decide ((80 : Int) < (xs.length : Int)) = true := by simp; omega
    go_enter Try.func5, Try.ntmps5
    go_wp2_with (go_at_call 9; refine (wakes_any _).mono ?_; rintro e w1 ⟨rfl, x1⟩)
    go_ret
    exact ⟨rfl, x1⟩
  · have h80' : decide ((80 : Int) < (xs.length : Int)) = false := by simp; omega
    have HA := Lib.hid hA
    clear hA
    go_enter Try.func5, Try.ntmps5
    go_wp2_with fail
    refine (wakes_any _).mono ?_
    rintro e w1 ⟨rfl, x1⟩
    have X1 := Lib.hid x1; clear x1
    go_wp2_with fail
    refine (pi_new _).mono ?_
    rintro e w2 ⟨rfl, p2, x2⟩
    obtain ⟨B, hB⟩ : ∃ B, B = w1.heap.size := ⟨_, rfl⟩
    rw [← hB] at p2 ⊢
    obtain ⟨xb, hxb⟩ : ∃ xb, xb = w2.heap.size := ⟨_, rfl⟩
    have P2 : Hid (PlRel w1 B B xb 0 0 [] [] (.slice none 0 0) (.slice none 0 0) (.slice none 0 0) (.slice none 0 0) (w2.alloc (.cells #[.slice none 0 0, .slice none 0 0, .slice none 0 0] 40))) := Lib.hid ⟨p2.keeps (.of_ext (Ext.alloc (Ext.refl _) _)), HRow.nil _ _, by rw [hxb]; exact heap_alloc_new _ _, ⟨IRow.nil _ _, BRow.nil _ _, IRow.nil _ _⟩, by rw [hxb]; exact p2.low, by simp, by simp, by
      have h1 : Below B w1 w2 := by rw [hB]; exact x2
      exact h1.alloc p2.low _⟩
    have HB := Lib.hid hB
    clear p2 x2 hB
    go_wp2_with fail
    rw [← hxb]
    have HXB := Lib.hid hxb
    clear hxb
    go_loopw [5, 27] (fun v i wr => ∃ (j : Nat) (L : List Hold) (S : List Int) (vk vf vs : Value), j ≤ xs.length ∧ i = .int .i64 j ∧ PlRel w1 B B xb (2 * j) j L S v vk vf vs wr) (fun _ i _ => xs.length - (intOf i).toNat)
    case atStart => exact ⟨0, [], [], _, _, _, by omega, rfl, P2.out⟩
    case round =>
      clear P2
      obtain ⟨j, L, S, vk, vf, vs, hj, rfl, hr⟩ := hrel
      obtain ⟨A1, n1, c1, A2, n2, c2, A3, n3, c3, rfl, rfl, rfl⟩ := hr.ref.forms
      have R0 := Lib.hid hr
      clear hr
      by_cases hlt : j < xs.length
      · have hbw : Below w.heap.size w wr := by
          have h1 := R0.out.bel
          rw [HB.out] at h1
          exact X1.out.trans h1
        obtain ⟨ba, off, rfl, k0, k1, k2, b0, b1, b2⟩ := (HA.out.below hbw rfl) j hlt
        have hba : ba < wr.heap.size := World.block_lt_of_cell? _ _ k0
        clear hbw
        generalize xs[j].kind = kd at *
        generalize xs[j].key = ky at *
        generalize xs[j].hold = hd at *
        obtain ⟨wa, hwa⟩ : ∃ wa, wa = wr.alloc (.cells #[.int .u8 kd, .int .i64 ky, .int .u8 hd] 35) := ⟨_, rfl⟩
        have hxa : Ext wr wa := by rw [hwa]; exact Ext.alloc (Ext.refl _) _
        have hact : wa.heap[wr.heap.size]? = some (.cells #[.int .u8 kd, .int .i64 ky, .int .u8 hd] 35 (0, 0)) := by rw [hwa]; exact heap_alloc_new _ _
        have hkd : wa.cell? ⟨wr.heap.size, 0, none⟩ = some (.int .u8 kd) := blk_cell hact 0
        have hky : wa.cell? ⟨wr.heap.size, 1, none⟩ = some (.int .i64 ky) := blk_cell hact 1
        have hhd : wa.cell? ⟨wr.heap.size, 2, none⟩ = some (.int .u8 hd) := blk_cell hact 2
        have R := Lib.hid (R0.out.ext hxa)
        have HWA := Lib.hid hwa; have ACT := Lib.hid hact
        have hnx := R.out.ne
        have hna : wr.heap.size ≠ B := by
          obtain ⟨cs, hc⟩ := R0.out.pi.blk
          have := blk_lt hc
          omega
        clear hwa hxa R0 hact
        have hpb : wa.heap[xb]? = some _ := R.out.xat
        have x0 : wa.cell? ⟨xb, 0, none⟩ = some (.slice A1 n1 c1) := blk_cell hpb 0
        have x1 : wa.cell? ⟨xb, 1, none⟩ = some (.slice A2 n2 c2) := blk_cell hpb 1
        have x2 : wa.cell? ⟨xb, 2, none⟩ = some (.slice A3 n3 c3) := blk_cell hpb 2
        clear hpb
        cases hk0 : ((kd : Int) % 3 == 0)
        · cases hk1 : ((kd : Int) % 3 == 1)
          · go_wp2_with (rw [← HWA.out])
            refine (rshut_any wa B _ _ _ L S ky R.out.ref (by have := R.out.lenS; omega) (by have := R.out.lenL; omega) R.out.pi.low).mono ?_
            rintro e w3 ⟨vk', vf', vs', rfl, r3, x3⟩
            obtain ⟨A4, n4, c4, A5, n5, c5, A6, n6, c6, rfl, rfl, rfl⟩ := r3.forms
            have R3 := R.out.ext x3
            have act3 := x3.heap ACT.out
            have hky3 : w3.cell? ⟨wr.heap.size, 1, none⟩ = some (.int .i64 ky) := blk_cell act3 1
            have g0 : w3.cell? ⟨xb, 0, none⟩ = some (.slice A1 n1 c1) := blk_cell R3.xat 0
            have g1 : w3.cell? ⟨xb, 1, none⟩ = some (.slice A2 n2 c2) := blk_cell R3.xat 1
            have g2 : w3.cell? ⟨xb, 2, none⟩ = some (.slice A3 n3 c3) := blk_cell R3.xat 2
            have z0 := blk_free R3.xat 0; have z1 := blk_free R3.xat 1; have z2 := blk_free R3.xat 2
            have lx3 : xb < w3.heap.size := blk_lt R3.xat
            have la3 : wr.heap.size < w3.heap.size := blk_lt act3
            obtain ⟨wE, hwE⟩ : ∃ wE, wE = (((w3.setCell ⟨xb, 0, none⟩ (.slice A4 n4 c4)).setCell ⟨xb, 1, none⟩ (.slice A5 n5 c5)).setCell ⟨xb, 2, none⟩ (.slice A6 n6 c6)).alloc (.cells #[.slice A4 n4 c4, .slice A5 n5 c5, .slice A6 n6 c6] 40) := ⟨_, rfl⟩
            obtain ⟨e1, e2, e3, e4, e5⟩ := put_x (w := w1) R3.pi R3.row R3.xat r3 R3.low R3.bel
            rw [← hwE] at e1 e2 e3 e4 e5
            have actE : wE.heap[wr.heap.size]? = some (.cells #[.int .u8 kd, .int .i64 ky, .int .u8 hd] 35 (0, 0)) := by rw [hwE]; exact put_far act3 R3.xat (by decide) _ _ _ _
            have hkyE : wE.cell? ⟨wr.heap.size, 1, none⟩ = some (.int .i64 ky) := blk_cell actE 1
            have hsh := pi_shut wE B B (2 * j) L S ky e1 b1 (by omega)
            obtain ⟨bv, hbv⟩ : ∃ bv, bv = decide (live L ky = 0) := ⟨_, rfl⟩
            rw [← hbv] at hsh ⊢
            have HSH := Lib.hid hsh; have E2 := Lib.hid e2; have E3 := Lib.hid e3; have E4 := Lib.hid e4; have E5 := Lib.hid e5; have WE := Lib.hid hwE; have ACTE := Lib.hid actE; have LE := Lib.hid e1.low
            have ll := R.out.lenL; have ls := R.out.lenS; have hsl := shutOf_len L S ky
            have XLOW := Lib.hid R.out.low
            clear r3 x3 R3 act3 e1 e2 e3 e4 e5 hwE actE hsh hbv
            go_wp2_with (first | (rw [← WE.out]) | (go_at_call 14; refine HSH.out.mono ?_; rintro e w5 ⟨rfl, p5, y5⟩; have R5 : Hid (PlRel w1 B B xb (2 * j + 1) (j + 1) L (shutOf L S ky) _ (.slice A4 n4 c4) (.slice A5 n5 c5) (.slice A6 n6 c6) w5) := Lib.hid ⟨p5, E2.out.fz y5, y5.heap E3.out (by decide) (by decide) (by decide), E4.out.fz y5, XLOW.out, by omega, by omega, E5.out.trans (y5.below LE.out)⟩; have ACT5 := Lib.hid (y5.heap ACTE.out (by decide) (by decide) (by decide)); clear p5 y5 HSH E2 E3 E4 E5 ACTE LE))
            go_wp2_with fail
            refine wp_region_segs [B] [.inl [0, 1, 2, 4, 5, 6], .inr (.inl 3), .inr (.inl 7), .inl [8, 9, 10, 12], .inr (.inl 11), .inr (.inl 13), .inr (.inl 14), .inl [15, 16]] (by kernel_rfl) (by kernel_rfl) (fun c a d v w h => by cases d <;> exact h) ?_
            have R6 := Lib.hid (R5.out.ext (Ext.drew (Ext.refl w5)))
            have ha6 : w5.drew.heap[wr.heap.size]? = some (.cells #[.int .u8 kd, .int .i64 ky, .int .u8 hd] 35 (0, 0)) := ACT5.out
            have G0 : ∀ x : Grow [B] w5.drew, x.v.cell? ⟨xb, 0, none⟩ = some (.slice A4 n4 c4) := fun x => x.ext.cell (blk_cell R6.out.xat 0) (by simpa using hnx)
            have G1 : ∀ x : Grow [B] w5.drew, x.v.cell? ⟨xb, 1, none⟩ = some (.slice A5 n5 c5) := fun x => x.ext.cell (blk_cell R6.out.xat 1) (by simpa using hnx)
            have G2 : ∀ x : Grow [B] w5.drew, x.v.cell? ⟨xb, 2, none⟩ = some (.slice A6 n6 c6) := fun x => x.ext.cell (blk_cell R6.out.xat 2) (by simpa using hnx)
            have G3 : ∀ x : Grow [B] w5.drew, x.v.cell? ⟨wr.heap.size, 1, none⟩ = some (.int .i64 ky) := fun x => x.ext.cell (blk_cell ha6 1) (by simpa using hna)
            clear ha6
            (rw [wpSegs_inl]; simp only [pickOps, List.map_cons, List.map_nil, List.getD_cons_succ, List.getD_cons_zero]; (repeat (go_big_quiet_step (fail))); refine wpQuiet_nil ?_)
            clear G0 G1 G2 G3
            obtain ⟨lv, hlv⟩ : ∃ lv, lv = live L ky := ⟨_, rfl⟩
            have hheld := pi_held _ _ _ _ _ _ ky R6.out.pi b1
            rw [← hlv] at hheld
            have HH := Lib.hid hheld
            have hrh := rheld_any w5.drew B _ _ _ L (shutOf L S ky) ky R6.out.ref (by have := R6.out.lenL; omega)
            rw [← hlv] at hrh
            have HRH := Lib.hid hrh
            clear hrh hlv hheld
            (rw [wpSegs_grow]; simp only [pickOps, List.map_cons, List.map_nil, List.getD_cons_succ, List.getD_cons_zero]; go_wp2_with ((go_at_call 13; refine HH.out.mono ?_; rintro e w' ⟨rfl, rfl⟩)))
            refine ⟨ExtB.refl _ _, ?_⟩
            clear HH
            (rw [wpSegs_grow]; simp only [pickOps, List.map_cons, List.map_nil, List.getD_cons_succ, List.getD_cons_zero]; go_wp2_with ((go_at_call 19; refine HRH.out.mono ?_; rintro e w7 ⟨rfl, x7⟩)))
            refine ⟨.of x7 _, ?_⟩
            have R7 := Lib.hid (R6.out.ext x7)
            have G0 : ∀ x : Grow [B] w7, x.v.cell? ⟨xb, 0, none⟩ = some (.slice A4 n4 c4) := fun x => x.ext.cell (blk_cell R7.out.xat 0) (by simpa using hnx)
            have G1 : ∀ x : Grow [B] w7, x.v.cell? ⟨xb, 1, none⟩ = some (.slice A5 n5 c5) := fun x => x.ext.cell (blk_cell R7.out.xat 1) (by simpa using hnx)
            have G2 : ∀ x : Grow [B] w7, x.v.cell? ⟨xb, 2, none⟩ = some (.slice A6 n6 c6) := fun x => x.ext.cell (blk_cell R7.out.xat 2) (by simpa using hnx)
            clear x7 HRH
            have hneq : ((lv : Int) != (lv : Int)) = false := by simp
            (rw [wpSegs_inl]; simp only [pickOps, List.map_cons, List.map_nil, List.getD_cons_succ, List.getD_cons_zero]; (repeat (go_big_quiet_step (fail))); refine wpQuiet_nil ?_)
            clear G0 G1 G2
            have hall := pi_all_x w7 B B _ L (shutOf L S ky) (by omega) R7.out.pi
            have HALL := Lib.hid hall
            clear hall
            (rw [wpSegs_grow]; simp only [pickOps, List.map_cons, List.map_nil, List.getD_cons_succ, List.getD_cons_zero]; go_wp2_with ((go_at_call 21; refine HALL.out.mono ?_; rintro e w8 ⟨⟨v8, zs, rfl, y1, y2, y3, y4, y5, y6⟩, y7⟩)))
            refine ⟨y7, ?_⟩
            have hzs : zs = outF L := by
              obtain ⟨o1, o2⟩ := outF_spec _ L rfl
              exact rising_unique _ _ y2 o1 (fun k => by rw [y3, o2])
            subst hzs
            have R8 : Hid (PlRel w1 B B xb (2 * j + 1) (j + 1) L (shutOf L S ky) u5 (.slice A4 n4 c4) (.slice A5 n5 c5) (.slice A6 n6 c6) w8) := Lib.hid ⟨y5, R7.out.row.fz y6, y6.heap R7.out.xat (by decide) (by decide) (by decide), R7.out.ref.fz y6, R7.out.low, R7.out.lenL, R7.out.lenS, R7.out.bel.trans (y6.below R7.out.pi.low)⟩
            have Y1 := Lib.hid y1
            clear y1 y2 y3 y4 y5 y6 y7 HALL R6 R7
            have hra := rall_any w8 B _ _ _ L (shutOf L S ky) R8.out.ref (by have := R8.out.lenL; omega) R8.out.pi.low
            have HRA := Lib.hid hra
            clear hra
            (rw [wpSegs_grow]; simp only [pickOps, List.map_cons, List.map_nil, List.getD_cons_succ, List.getD_cons_zero]; go_wp2_with ((go_at_call 22; refine HRA.out.mono ?_; rintro e w9 ⟨v9, rfl, q1, q2⟩)))
            refine ⟨.of q2 _, ?_⟩
            have hke := keys_same w9 _ _ v8 v9 _ (Y1.out.ext q2) q1 (by have := outF_len L; have := R8.out.lenL; omega)
            have HKE := Lib.hid hke; have R9 := Lib.hid (R8.out.ext q2)
            clear hke q1 q2 HRA R8 Y1
            (rw [wpSegs_grow]; simp only [pickOps, List.map_cons, List.map_nil, List.getD_cons_succ, List.getD_cons_zero]; go_wp2_with ((go_at_call 20; refine HKE.out.mono ?_; rintro e w10 ⟨rfl, q3⟩)))
            refine ⟨.of q3 _, ?_⟩
            have R10 := Lib.hid (R9.out.ext q3)
            clear q3 HKE R9
            (rw [wpSegs_inl]; simp only [pickOps, List.map_cons, List.map_nil, List.getD_cons_succ, List.getD_cons_zero]; (repeat (go_big_quiet_step (fail))); refine wpQuiet_nil ?_)
            rw [wpSegs_nil]
            go_wp2
            go_roundw
            case rel => exact ⟨j + 1, _, _, _, _, _, by omega, by go_num, R10.out.up (by omega) (by omega)⟩
            case measure => simp [intOf]; omega
          · cases hL : L with
            | nil =>
              subst hL
              obtain ⟨A', c', rfl⟩ := R.out.row.slice
              go_wp2_with (rw [← HWA.out])
              go_roundw
              case rel => exact ⟨j + 1, _, _, _, _, _, by omega, by go_num, R.out.up (by omega) (by omega)⟩
              case measure => simp [intOf]; omega
            | cons y Lr =>
              have hn0 : 0 < L.length := by rw [hL]; simp
              obtain ⟨i, hi⟩ : ∃ i, i = hd % L.length := ⟨_, rfl⟩
              have hil : i < L.length := by rw [hi]; exact Nat.mod_lt _ hn0
              obtain ⟨x, hx⟩ : ∃ x, x = L[i] := ⟨_, rfl⟩
              have hxs : L[i]? = some x := by rw [hx]; simp [hil]
              obtain ⟨gs, cs, hvv, hc⟩ := R.out.row.get (i := i) (by simpa using hil)
              rw [List.length_map] at hvv
              rw [List.getElem_map, ← hx] at hc
              have ei : (hd : Int) % (L.length : Int) = (i : Int) := by rw [hi]; rfl
              obtain ⟨n, hn⟩ : ∃ n, n = L.length := ⟨_, rfl⟩
              rw [← hn] at hvv ei
              subst hvv
              have hn1 : 0 < n := by omega
              have hn1' : (n == 0) = false := by simp; omega
              have hn2 : (n : Int) ≠ 0 := by omega
              have hn3 : decide ((n : Int) = 0) = false := by simp; omega
              have hil' : i < n := by omega
              have cc2 : IntKind.i64.wrap (hd : Int) = hd := IntWalk.i64_in _ (by omega)
              have hrf := rfree_any wa B _ _ _ L S i x R.out.ref hxs (by have := R.out.lenL; omega) R.out.pi.low
              have HRF := Lib.hid hrf; have HXS := Lib.hid hxs; have HN := Lib.hid hn; have HC := Lib.hid hc
              clear hrf hxs hn hi hL hx hn0 hil hc
              go_wp2_with (first | (rw [← HWA.out]) | fail)
              refine HRF.out.mono ?_
              rintro e w3 ⟨vk', vf', vs', rfl, r3, x3⟩
              obtain ⟨A4, n4, c4, A5, n5, c5, A6, n6, c6, rfl, rfl, rfl⟩ := r3.forms
              have R3 := R.out.ext x3
              have act3 := x3.heap ACT.out
              have g0 : w3.cell? ⟨xb, 0, none⟩ = some (.slice A1 n1 c1) := blk_cell R3.xat 0
              have g1 : w3.cell? ⟨xb, 1, none⟩ = some (.slice A2 n2 c2) := blk_cell R3.xat 1
              have g2 : w3.cell? ⟨xb, 2, none⟩ = some (.slice A3 n3 c3) := blk_cell R3.xat 2
              have z0 := blk_free R3.xat 0; have z1 := blk_free R3.xat 1; have z2 := blk_free R3.xat 2
              have lx3 : xb < w3.heap.size := blk_lt R3.xat
              have la3 : wr.heap.size < w3.heap.size := blk_lt act3
              obtain ⟨wE, hwE⟩ : ∃ wE, wE = (((w3.setCell ⟨xb, 0, none⟩ (.slice A4 n4 c4)).setCell ⟨xb, 1, none⟩ (.slice A5 n5 c5)).setCell ⟨xb, 2, none⟩ (.slice A6 n6 c6)).alloc (.cells #[.slice A4 n4 c4, .slice A5 n5 c5, .slice A6 n6 c6] 40) := ⟨_, rfl⟩
              have hrow2 : HRow w3 B (.slice (some ⟨gs, 0, none⟩) n cs) ((endAt L i).map Hold.blk) := by rw [end_blk]; exact R3.row
              obtain ⟨e1, e2, e3, e4, e5⟩ := put_x (w := w1) R3.pi hrow2 R3.xat r3 R3.low R3.bel
              rw [← hwE] at e1 e2 e3 e4 e5
              have actE : wE.heap[wr.heap.size]? = some (.cells #[.int .u8 kd, .int .i64 ky, .int .u8 hd] 35 (0, 0)) := by rw [hwE]; exact put_far act3 R3.xat (by decide) _ _ _ _
              have hcE : wE.cell? ⟨gs, i, none⟩ = some (.pointer (some ⟨x.blk, 0, none⟩)) := by
                have hrw : HRow wE B (.slice (some ⟨gs, 0, none⟩) n cs) (L.map Hold.blk) := by rw [← end_blk L i]; exact e2
                obtain ⟨gs', cs', hv', hc'⟩ := hrw.get (i := i) (by rw [List.length_map, ← HN.out]; exact hil')
                injection hv' with q1 q2 q3
                injection q1 with q1
                injection q1 with q1
                subst q1
                rw [List.getElem_map] at hc'
                have hxe : L[i]'(by rw [← HN.out]; exact hil') = x := (List.getElem?_eq_some_iff.1 HXS.out).2
                rw [hxe] at hc'
                exact hc'
              have hfr := pi_free wE B B (2 * j) L S i x e1 (by omega) HXS.out
              obtain ⟨bv, hbv⟩ : ∃ bv, bv = !x.freed := ⟨_, rfl⟩
              rw [← hbv] at hfr ⊢
              have HFR := Lib.hid hfr; have E2 := Lib.hid e2; have E3 := Lib.hid e3; have E4 := Lib.hid e4; have E5 := Lib.hid e5; have WE := Lib.hid hwE; have ACTE := Lib.hid actE; have LE := Lib.hid e1.low
              have ll := R.out.lenL; have ls := R.out.lenS; have hel := end_length L i
              have XLOW := Lib.hid R.out.low; have HEL := Lib.hid hel
              clear r3 x3 R3 act3 e1 e2 e3 e4 e5 hwE actE hfr hbv hrow2 hel
              go_wp2_with (first | (rw [← WE.out]) | (go_at_call 12; refine HFR.out.mono ?_; rintro e w5 ⟨rfl, p5, y5⟩; have R5 : Hid (PlRel w1 B B xb (2 * j) (j + 1) (endAt L i) S (.slice (some ⟨gs, 0, none⟩) n cs) (.slice A4 n4 c4) (.slice A5 n5 c5) (.slice A6 n6 c6) w5) := Lib.hid ⟨p5, E2.out.fz y5, y5.heap E3.out (by decide) (by decide) (by decide), E4.out.fz y5, XLOW.out, by rw [HEL.out]; omega, by omega, E5.out.trans (y5.below LE.out)⟩; have ACT5 := Lib.hid (y5.heap ACTE.out (by decide) (by decide) (by decide)); clear p5 y5 HFR E2 E3 E4 E5 ACTE LE))
              go_wp2_with fail
              refine wp_region_segs [B] [.inl [0, 1, 2, 4, 5, 6], .inr (.inl 3), .inr (.inl 7), .inl [8, 9, 10, 12], .inr (.inl 11), .inr (.inl 13), .inr (.inl 14), .inl [15, 16]] (by kernel_rfl) (by kernel_rfl) (fun c a d v w h => by cases d <;> exact h) ?_
              have R6 := Lib.hid (R5.out.ext (Ext.drew (Ext.refl w5)))
              have ha6 : w5.drew.heap[wr.heap.size]? = some (.cells #[.int .u8 kd, .int .i64 ky, .int .u8 hd] 35 (0, 0)) := ACT5.out
              have G0 : ∀ x : Grow [B] w5.drew, x.v.cell? ⟨xb, 0, none⟩ = some (.slice A4 n4 c4) := fun x => x.ext.cell (blk_cell R6.out.xat 0) (by simpa using hnx)
              have G1 : ∀ x : Grow [B] w5.drew, x.v.cell? ⟨xb, 1, none⟩ = some (.slice A5 n5 c5) := fun x => x.ext.cell (blk_cell R6.out.xat 1) (by simpa using hnx)
              have G2 : ∀ x : Grow [B] w5.drew, x.v.cell? ⟨xb, 2, none⟩ = some (.slice A6 n6 c6) := fun x => x.ext.cell (blk_cell R6.out.xat 2) (by simpa using hnx)
              have G3 : ∀ x : Grow [B] w5.drew, x.v.cell? ⟨wr.heap.size, 1, none⟩ = some (.int .i64 ky) := fun x => x.ext.cell (blk_cell ha6 1) (by simpa using hna)
              clear ha6
              (rw [wpSegs_inl]; simp only [pickOps, List.map_cons, List.map_nil, List.getD_cons_succ, List.getD_cons_zero]; (repeat (go_big_quiet_step (fail))); refine wpQuiet_nil ?_)
              clear G0 G1 G2 G3
              obtain ⟨lv, hlv⟩ : ∃ lv, lv = live (endAt L i) ky := ⟨_, rfl⟩
              have hheld := pi_held _ _ _ _ _ _ ky R6.out.pi b1
              rw [← hlv] at hheld
              have HH := Lib.hid hheld
              have hrh := rheld_any w5.drew B _ _ _ (endAt L i) S ky R6.out.ref (by have := R6.out.lenL; omega)
              rw [← hlv] at hrh
              have HRH := Lib.hid hrh
              clear hrh hlv hheld
              (rw [wpSegs_grow]; simp only [pickOps, List.map_cons, List.map_nil, List.getD_cons_succ, List.getD_cons_zero]; go_wp2_with ((go_at_call 13; refine HH.out.mono ?_; rintro e w' ⟨rfl, rfl⟩)))
              refine ⟨ExtB.refl _ _, ?_⟩
              clear HH
              (rw [wpSegs_grow]; simp only [pickOps, List.map_cons, List.map_nil, List.getD_cons_succ, List.getD_cons_zero]; go_wp2_with ((go_at_call 19; refine HRH.out.mono ?_; rintro e w7 ⟨rfl, x7⟩)))
              refine ⟨.of x7 _, ?_⟩
              have R7 := Lib.hid (R6.out.ext x7)
              have G0 : ∀ x : Grow [B] w7, x.v.cell? ⟨xb, 0, none⟩ = some (.slice A4 n4 c4) := fun x => x.ext.cell (blk_cell R7.out.xat 0) (by simpa using hnx)
              have G1 : ∀ x : Grow [B] w7, x.v.cell? ⟨xb, 1, none⟩ = some (.slice A5 n5 c5) := fun x => x.ext.cell (blk_cell R7.out.xat 1) (by simpa using hnx)
              have G2 : ∀ x : Grow [B] w7, x.v.cell? ⟨xb, 2, none⟩ = some (.slice A6 n6 c6) := fun x => x.ext.cell (blk_cell R7.out.xat 2) (by simpa using hnx)
              clear x7 HRH
              have hneq : ((lv : Int) != (lv : Int)) = false := by simp
              (rw [wpSegs_inl]; simp only [pickOps, List.map_cons, List.map_nil, List.getD_cons_succ, List.getD_cons_zero]; (repeat (go_big_quiet_step (fail))); refine wpQuiet_nil ?_)
              clear G0 G1 G2
              have hall := pi_all_x w7 B B _ (endAt L i) S (by omega) R7.out.pi
              have HALL := Lib.hid hall
              clear hall
              (rw [wpSegs_grow]; simp only [pickOps, List.map_cons, List.map_nil, List.getD_cons_succ, List.getD_cons_zero]; go_wp2_with ((go_at_call 21; refine HALL.out.mono ?_; rintro e w8 ⟨⟨v8, zs, rfl, y1, y2, y3, y4, y5, y6⟩, y7⟩)))
              refine ⟨y7, ?_⟩
              have hzs : zs = outF (endAt L i) := by
                obtain ⟨o1, o2⟩ := outF_spec _ (endAt L i) rfl
                exact rising_unique _ _ y2 o1 (fun k => by rw [y3, o2])
              subst hzs
              have R8 : Hid (PlRel w1 B B xb (2 * j) (j + 1) (endAt L i) S (.slice (some ⟨gs, 0, none⟩) n cs) (.slice A4 n4 c4) (.slice A5 n5 c5) (.slice A6 n6 c6) w8) := Lib.hid ⟨y5, R7.out.row.fz y6, y6.heap R7.out.xat (by decide) (by decide) (by decide), R7.out.ref.fz y6, R7.out.low, R7.out.lenL, R7.out.lenS, R7.out.bel.trans (y6.below R7.out.pi.low)⟩
              have Y1 := Lib.hid y1
              clear y1 y2 y3 y4 y5 y6 y7 HALL R6 R7
              have hra := rall_any w8 B _ _ _ (endAt L i) S R8.out.ref (by have := R8.out.lenL; omega) R8.out.pi.low
              have HRA := Lib.hid hra
              clear hra
              (rw [wpSegs_grow]; simp only [pickOps, List.map_cons, List.map_nil, List.getD_cons_succ, List.getD_cons_zero]; go_wp2_with ((go_at_call 22; refine HRA.out.mono ?_; rintro e w9 ⟨v9, rfl, q1, q2⟩)))
              refine ⟨.of q2 _, ?_⟩
              have hke := keys_same w9 _ _ v8 v9 _ (Y1.out.ext q2) q1 (by have := outF_len (endAt L i); have := R8.out.lenL; omega)
              have HKE := Lib.hid hke; have R9 := Lib.hid (R8.out.ext q2)
              clear hke q1 q2 HRA R8 Y1
              (rw [wpSegs_grow]; simp only [pickOps, List.map_cons, List.map_nil, List.getD_cons_succ, List.getD_cons_zero]; go_wp2_with ((go_at_call 20; refine HKE.out.mono ?_; rintro e w10 ⟨rfl, q3⟩)))
              refine ⟨.of q3 _, ?_⟩
              have R10 := Lib.hid (R9.out.ext q3)
              clear q3 HKE R9
              (rw [wpSegs_inl]; simp only [pickOps, List.map_cons, List.map_nil, List.getD_cons_succ, List.getD_cons_zero]; (repeat (go_big_quiet_step (fail))); refine wpQuiet_nil ?_)
              rw [wpSegs_nil]
              go_wp2
              go_roundw
              case rel => exact ⟨j + 1, _, _, _, _, _, by omega, by go_num, R10.out.up (by omega) (by omega)⟩
              case measure => simp [intOf]; omega
        · by_cases hS : ky ∈ S
          · go_wp2_with (rw [← HWA.out])
            refine (pi_take_shut _ _ _ _ _ _ _ R.out.pi b1 hS).mono ?_
            rintro e w3 ⟨rfl, p3, y3⟩
            have act3 := y3.heap ACT.out (by decide) (by decide) (by decide)
            have xat3 := y3.heap R.out.xat (by decide) (by decide) (by decide)
            have hky3 : w3.cell? ⟨wr.heap.size, 1, none⟩ = some (.int .i64 ky) := blk_cell act3 1
            have g0 : w3.cell? ⟨xb, 0, none⟩ = some (.slice A1 n1 c1) := blk_cell xat3 0
            have g1 : w3.cell? ⟨xb, 1, none⟩ = some (.slice A2 n2 c2) := blk_cell xat3 1
            have g2 : w3.cell? ⟨xb, 2, none⟩ = some (.slice A3 n3 c3) := blk_cell xat3 2
            have hrt := rtake_shut w3 B _ _ _ L S ky (R.out.ref.fz y3) hS (by have := R.out.lenS; omega)
            have HRT := Lib.hid hrt; have P3 := Lib.hid p3; have Y3 := Lib.hid y3; have XAT3 := Lib.hid xat3; have ACT3 := Lib.hid act3
            clear hrt p3 y3 xat3 act3 hS
            go_wp2_with fail
            refine HRT.out.mono ?_
            rintro e w4 ⟨rfl, x4⟩
            have xat4 := x4.heap XAT3.out
            have act4 := x4.heap ACT3.out
            have i0 : w4.cell? ⟨xb, 0, none⟩ = some (.slice A1 n1 c1) := blk_cell xat4 0
            have i1 : w4.cell? ⟨xb, 1, none⟩ = some (.slice A2 n2 c2) := blk_cell xat4 1
            have i2 : w4.cell? ⟨xb, 2, none⟩ = some (.slice A3 n3 c3) := blk_cell xat4 2
            have z0 := blk_free xat4 0; have z1 := blk_free xat4 1; have z2 := blk_free xat4 2
            have lx4 : xb < w4.heap.size := blk_lt xat4
            obtain ⟨w5, hw5⟩ : ∃ w5, w5 = (((w4.setCell ⟨xb, 0, none⟩ (.slice A1 n1 c1)).setCell ⟨xb, 1, none⟩ (.slice A2 n2 c2)).setCell ⟨xb, 2, none⟩ (.slice A3 n3 c3)).alloc (.cells #[.slice A1 n1 c1, .slice A2 n2 c2, .slice A3 n3 c3] 40) := ⟨_, rfl⟩
            obtain ⟨e1, e2, e3, e4, e5⟩ := put_x (w := w1) (P3.out.keeps (.of_ext x4)) ((R.out.row.fz Y3.out).ext x4) xat4 ((R.out.ref.fz Y3.out).ext x4) R.out.low ((R.out.bel.trans (Y3.out.below R.out.pi.low)).trans (Below.mono x4 P3.out.low))
            rw [← hw5] at e1 e2 e3 e4 e5
            have ACT5 : Hid (w5.heap[wr.heap.size]? = some (.cells #[.int .u8 kd, .int .i64 ky, .int .u8 hd] 35 (0, 0))) := Lib.hid (by rw [hw5]; exact put_far act4 xat4 (by decide) _ _ _ _)
            have ll := R.out.lenL; have ls := R.out.lenS
            have R5 : Hid (PlRel w1 B B xb (2 * j) (j + 1) L S u5 (.slice A1 n1 c1) (.slice A2 n2 c2) (.slice A3 n3 c3) w5) := Lib.hid ⟨e1, e2, e3, e4, R.out.low, by omega, by omega, e5⟩
            have W5 := Lib.hid hw5
            clear e1 e2 e3 e4 e5 x4 xat4 act4 hw5
            obtain ⟨A4, n4, c4, A5, n5, c5, A6, n6, c6, r1, r2, r3, r4, r5, r6, r7, r8, r9⟩ : ∃ A4 n4 c4 A5 n5 c5 A6 n6 c6, A4 = A1 ∧ n4 = n1 ∧ c4 = c1 ∧ A5 = A2 ∧ n5 = n2 ∧ c5 = c2 ∧ A6 = A3 ∧ n6 = n3 ∧ c6 = c3 := ⟨A1, n1, c1, A2, n2, c2, A3, n3, c3, rfl, rfl, rfl, rfl, rfl, rfl, rfl, rfl, rfl⟩
            subst r1 r2 r3 r4 r5 r6 r7 r8 r9
            go_wp2_with (rw [← W5.out])
            go_wp2_with fail
            refine wp_region_segs [B] [.inl [0, 1, 2, 4, 5, 6], .inr (.inl 3), .inr (.inl 7), .inl [8, 9, 10, 12], .inr (.inl 11), .inr (.inl 13), .inr (.inl 14), .inl [15, 16]] (by kernel_rfl) (by kernel_rfl) (fun c a d v w h => by cases d <;> exact h) ?_
            have R6 := Lib.hid (R5.out.ext (Ext.drew (Ext.refl w5)))
            have ha6 : w5.drew.heap[wr.heap.size]? = some (.cells #[.int .u8 kd, .int .i64 ky, .int .u8 hd] 35 (0, 0)) := ACT5.out
            have G0 : ∀ x : Grow [B] w5.drew, x.v.cell? ⟨xb, 0, none⟩ = some (.slice A4 n4 c4) := fun x => x.ext.cell (blk_cell R6.out.xat 0) (by simpa using hnx)
            have G1 : ∀ x : Grow [B] w5.drew, x.v.cell? ⟨xb, 1, none⟩ = some (.slice A5 n5 c5) := fun x => x.ext.cell (blk_cell R6.out.xat 1) (by simpa using hnx)
            have G2 : ∀ x : Grow [B] w5.drew, x.v.cell? ⟨xb, 2, none⟩ = some (.slice A6 n6 c6) := fun x => x.ext.cell (blk_cell R6.out.xat 2) (by simpa using hnx)
            have G3 : ∀ x : Grow [B] w5.drew, x.v.cell? ⟨wr.heap.size, 1, none⟩ = some (.int .i64 ky) := fun x => x.ext.cell (blk_cell ha6 1) (by simpa using hna)
            clear ha6
            (rw [wpSegs_inl]; simp only [pickOps, List.map_cons, List.map_nil, List.getD_cons_succ, List.getD_cons_zero]; (repeat (go_big_quiet_step (fail))); refine wpQuiet_nil ?_)
            clear G0 G1 G2 G3
            obtain ⟨lv, hlv⟩ : ∃ lv, lv = live L ky := ⟨_, rfl⟩
            have hheld := pi_held _ _ _ _ _ _ ky R6.out.pi b1
            rw [← hlv] at hheld
            have HH := Lib.hid hheld
            have hrh := rheld_any w5.drew B _ _ _ L S ky R6.out.ref (by have := R6.out.lenL; omega)
            rw [← hlv] at hrh
            have HRH := Lib.hid hrh
            clear hrh hlv hheld
            (rw [wpSegs_grow]; simp only [pickOps, List.map_cons, List.map_nil, List.getD_cons_succ, List.getD_cons_zero]; go_wp2_with ((go_at_call 13; refine HH.out.mono ?_; rintro e w' ⟨rfl, rfl⟩)))
            refine ⟨ExtB.refl _ _, ?_⟩
            clear HH
            (rw [wpSegs_grow]; simp only [pickOps, List.map_cons, List.map_nil, List.getD_cons_succ, List.getD_cons_zero]; go_wp2_with ((go_at_call 19; refine HRH.out.mono ?_; rintro e w7 ⟨rfl, x7⟩)))
            refine ⟨.of x7 _, ?_⟩
            have R7 := Lib.hid (R6.out.ext x7)
            have G0 : ∀ x : Grow [B] w7, x.v.cell? ⟨xb, 0, none⟩ = some (.slice A4 n4 c4) := fun x => x.ext.cell (blk_cell R7.out.xat 0) (by simpa using hnx)
            have G1 : ∀ x : Grow [B] w7, x.v.cell? ⟨xb, 1, none⟩ = some (.slice A5 n5 c5) := fun x => x.ext.cell (blk_cell R7.out.xat 1) (by simpa using hnx)
            have G2 : ∀ x : Grow [B] w7, x.v.cell? ⟨xb, 2, none⟩ = some (.slice A6 n6 c6) := fun x => x.ext.cell (blk_cell R7.out.xat 2) (by simpa using hnx)
            clear x7 HRH
            have hneq : ((lv : Int) != (lv : Int)) = false := by simp
            (rw [wpSegs_inl]; simp only [pickOps, List.map_cons, List.map_nil, List.getD_cons_succ, List.getD_cons_zero]; (repeat (go_big_quiet_step (fail))); refine wpQuiet_nil ?_)
            clear G0 G1 G2
            have hall := pi_all_x w7 B B _ L S (by omega) R7.out.pi
            have HALL := Lib.hid hall
            clear hall
            (rw [wpSegs_grow]; simp only [pickOps, List.map_cons, List.map_nil, List.getD_cons_succ, List.getD_cons_zero]; go_wp2_with ((go_at_call 21; refine HALL.out.mono ?_; rintro e w8 ⟨⟨v8, zs, rfl, y1, y2, y3, y4, y5, y6⟩, y7⟩)))
            refine ⟨y7, ?_⟩
            have hzs : zs = outF L := by
              obtain ⟨o1, o2⟩ := outF_spec _ L rfl
              exact rising_unique _ _ y2 o1 (fun k => by rw [y3, o2])
            subst hzs
            have R8 : Hid (PlRel w1 B B xb (2 * j) (j + 1) L S u5 (.slice A4 n4 c4) (.slice A5 n5 c5) (.slice A6 n6 c6) w8) := Lib.hid ⟨y5, R7.out.row.fz y6, y6.heap R7.out.xat (by decide) (by decide) (by decide), R7.out.ref.fz y6, R7.out.low, R7.out.lenL, R7.out.lenS, R7.out.bel.trans (y6.below R7.out.pi.low)⟩
            have Y1 := Lib.hid y1
            clear y1 y2 y3 y4 y5 y6 y7 HALL R6 R7
            have hra := rall_any w8 B _ _ _ L S R8.out.ref (by have := R8.out.lenL; omega) R8.out.pi.low
            have HRA := Lib.hid hra
            clear hra
            (rw [wpSegs_grow]; simp only [pickOps, List.map_cons, List.map_nil, List.getD_cons_succ, List.getD_cons_zero]; go_wp2_with ((go_at_call 22; refine HRA.out.mono ?_; rintro e w9 ⟨v9, rfl, q1, q2⟩)))
            refine ⟨.of q2 _, ?_⟩
            have hke := keys_same w9 _ _ v8 v9 _ (Y1.out.ext q2) q1 (by have := outF_len L; have := R8.out.lenL; omega)
            have HKE := Lib.hid hke; have R9 := Lib.hid (R8.out.ext q2)
            clear hke q1 q2 HRA R8 Y1
            (rw [wpSegs_grow]; simp only [pickOps, List.map_cons, List.map_nil, List.getD_cons_succ, List.getD_cons_zero]; go_wp2_with ((go_at_call 20; refine HKE.out.mono ?_; rintro e w10 ⟨rfl, q3⟩)))
            refine ⟨.of q3 _, ?_⟩
            have R10 := Lib.hid (R9.out.ext q3)
            clear q3 HKE R9
            (rw [wpSegs_inl]; simp only [pickOps, List.map_cons, List.map_nil, List.getD_cons_succ, List.getD_cons_zero]; (repeat (go_big_quiet_step (fail))); refine wpQuiet_nil ?_)
            rw [wpSegs_nil]
            go_wp2
            go_roundw
            case rel => exact ⟨j + 1, _, _, _, _, _, by omega, by go_num, R10.out.up (by omega) (by omega)⟩
            case measure => simp [intOf]; omega
          · go_wp2_with (rw [← HWA.out])
            refine (pi_take _ _ _ _ _ _ _ R.out.pi b1 (by omega) hS).mono ?_
            rintro e w3 ⟨h, g, rfl, p3, y3⟩
            have act3 := y3.heap ACT.out (by decide) (by decide) (by decide)
            have xat3 := y3.heap R.out.xat (by decide) (by decide) (by decide)
            have hky3 : w3.cell? ⟨wr.heap.size, 1, none⟩ = some (.int .i64 ky) := blk_cell act3 1
            have g0 : w3.cell? ⟨xb, 0, none⟩ = some (.slice A1 n1 c1) := blk_cell xat3 0
            have g1 : w3.cell? ⟨xb, 1, none⟩ = some (.slice A2 n2 c2) := blk_cell xat3 1
            have g2 : w3.cell? ⟨xb, 2, none⟩ = some (.slice A3 n3 c3) := blk_cell xat3 2
            have hrt := rtake_ok w3 B _ _ _ L S ky (R.out.ref.fz y3) hS (by have := R.out.lenS; omega) (by have := R.out.lenL; omega) p3.low
            have HRT := Lib.hid hrt; have P3 := Lib.hid p3; have Y3 := Lib.hid y3; have XAT3 := Lib.hid xat3; have ACT3 := Lib.hid act3
            clear hrt p3 y3 xat3 act3 hS
            go_wp2_with fail
            refine HRT.out.mono ?_
            rintro e w4 ⟨vk', vf', rfl, ⟨q1, q2, q3⟩, x4⟩
            have r4 : RefAt w4 B vk' vf' (.slice A3 n3 c3) (L ++ [⟨h, ky, g, false⟩]) S := ⟨by simpa using q1, by simpa using q2, q3⟩
            obtain ⟨A4, n4, c4, A5, n5, c5, A6, n6, c6, rfl, rfl, q6⟩ := r4.forms
            injection q6 with s1 s2 s3
            subst s1 s2 s3
            have xat4 := x4.heap XAT3.out
            have act4 := x4.heap ACT3.out
            have i0 : w4.cell? ⟨xb, 0, none⟩ = some (.slice A1 n1 c1) := blk_cell xat4 0
            have i1 : w4.cell? ⟨xb, 1, none⟩ = some (.slice A2 n2 c2) := blk_cell xat4 1
            have i2 : w4.cell? ⟨xb, 2, none⟩ = some (.slice A3 n3 c3) := blk_cell xat4 2
            have z0 := blk_free xat4 0; have z1 := blk_free xat4 1; have z2 := blk_free xat4 2
            have lx4 : xb < w4.heap.size := blk_lt xat4
            obtain ⟨wE, hwE⟩ : ∃ wE, wE = (((w4.setCell ⟨xb, 0, none⟩ (.slice A4 n4 c4)).setCell ⟨xb, 1, none⟩ (.slice A5 n5 c5)).setCell ⟨xb, 2, none⟩ (.slice A3 n3 c3)).alloc (.cells #[.slice A4 n4 c4, .slice A5 n5 c5, .slice A3 n3 c3] 40) := ⟨_, rfl⟩
            obtain ⟨e1, e2, e3, e4, e5⟩ := put_x (w := w1) (P3.out.keeps (.of_ext x4)) ((R.out.row.fz Y3.out).ext x4) xat4 r4 R.out.low ((R.out.bel.trans (Y3.out.below R.out.pi.low)).trans (Below.mono x4 P3.out.low))
            rw [← hwE] at e1 e2 e3 e4 e5
            have actE : wE.heap[wr.heap.size]? = some (.cells #[.int .u8 kd, .int .i64 ky, .int .u8 hd] 35 (0, 0)) := by rw [hwE]; exact put_far act4 xat4 (by decide) _ _ _ _
            have ll := R.out.lenL; have ls := R.out.lenS
            have E1 := Lib.hid e1; have E2 := Lib.hid e2; have E3 := Lib.hid e3; have E4 := Lib.hid e4; have E5 := Lib.hid e5; have WE := Lib.hid hwE; have ACTE := Lib.hid actE
            have hkey := pi_key wE.drew B B _ (L ++ [⟨h, ky, g, false⟩]) S ⟨h, ky, g, false⟩ (e1.keeps (.of_ext (Ext.drew (Ext.refl _)))) (by simp)
            have HKEY := Lib.hid hkey
            have G0 : ∀ x : Grow [] wE.drew, x.v.cell? ⟨wr.heap.size, 1, none⟩ = some (.int .i64 ky) := fun x => x.ext.cell (a := wE.drew) (blk_cell actE 1) (by simp)
            clear e1 e2 e3 e4 e5 x4 xat4 act4 hwE actE hkey q1 q2 q3 r4
            go_wp2_with (rw [← WE.out])
            refine wp_region_segs [] [.inl [0, 2, 3], .inr (.inl 1), .inl [4]] (by kernel_rfl) (by kernel_rfl) (fun c a d v w h => by cases d <;> exact h) ?_
            (rw [wpSegs_inl]; simp only [pickOps, List.map_cons, List.map_nil, List.getD_cons_succ, List.getD_cons_zero]; (repeat (go_big_quiet_step (fail))); refine wpQuiet_nil ?_)
            clear G0
            (rw [wpSegs_grow]; simp only [pickOps, List.map_cons, List.map_nil, List.getD_cons_succ, List.getD_cons_zero]; go_wp2_with ((go_at_call 16; refine HKEY.out.mono ?_; rintro e w' ⟨rfl, rfl⟩)))
            refine ⟨ExtB.refl _ _, ?_⟩
            (rw [wpSegs_inl]; simp only [pickOps, List.map_cons, List.map_nil, List.getD_cons_succ, List.getD_cons_zero]; (repeat (go_big_quiet_step (fail))); refine wpQuiet_nil ?_)
            rw [wpSegs_nil]
            have xd : Ext wE wE.drew := Ext.drew (Ext.refl _)
            have F1 := Lib.hid (E1.out.keeps (.of_ext xd)); have F2 := Lib.hid (E2.out.ext xd)
            clear xd
            go_wp2_with (at_builtin; refine wpList_append_hold rfl _ _ rfl B B (2 * j + 1) _ _ _ _ h F2.out F1.out rfl _ rfl ?c0 ?c1 ?_)
            case c0 => simp
            case c1 => simp; omega
            intro v' w5 r5 p5 b5 g5
            have xd : Ext wE wE.drew := Ext.drew (Ext.refl _)
            have R5 : Hid (PlRel w1 B B xb (2 * j + 1) (j + 1) (L ++ [⟨h, ky, g, false⟩]) S v' (.slice A4 n4 c4) (.slice A5 n5 c5) (.slice A3 n3 c3) w5) := Lib.hid ⟨p5, by simpa using r5, grown_far F2.out g5 (xd.heap E3.out) (by decide), ⟨owns_grown F2.out g5 (E4.out.ext xd).keys (by decide), owns_grown F2.out g5 (E4.out.ext xd).freed (by decide), owns_grown F2.out g5 (E4.out.ext xd).shut (by decide)⟩, R.out.low, by simp; omega, by omega, (E5.out.trans (Below.mono xd E1.out.low)).trans b5⟩
            have ACT5 : Hid (w5.heap[wr.heap.size]? = some (.cells #[.int .u8 kd, .int .i64 ky, .int .u8 hd] 35 (0, 0))) := Lib.hid (grown_far F2.out g5 (xd.heap ACTE.out) (by decide))
            clear r5 p5 b5 g5 xd F1 F2 E1 E2 E3 E4 E5 ACTE HKEY
            obtain ⟨A6, n6, c6, s1, s2, s3⟩ : ∃ A6 n6 c6, A6 = A3 ∧ n6 = n3 ∧ c6 = c3 := ⟨A3, n3, c3, rfl, rfl, rfl⟩
            subst s1 s2 s3
            go_wp2_with fail
            refine wp_region_segs [B] [.inl [0, 1, 2, 4, 5, 6], .inr (.inl 3), .inr (.inl 7), .inl [8, 9, 10, 12], .inr (.inl 11), .inr (.inl 13), .inr (.inl 14), .inl [15, 16]] (by kernel_rfl) (by kernel_rfl) (fun c a d v w h => by cases d <;> exact h) ?_
            have R6 := Lib.hid (R5.out.ext (Ext.drew (Ext.refl w5)))
            have ha6 : w5.drew.heap[wr.heap.size]? = some (.cells #[.int .u8 kd, .int .i64 ky, .int .u8 hd] 35 (0, 0)) := ACT5.out
            have G0 : ∀ x : Grow [B] w5.drew, x.v.cell? ⟨xb, 0, none⟩ = some (.slice A4 n4 c4) := fun x => x.ext.cell (blk_cell R6.out.xat 0) (by simpa using hnx)
            have G1 : ∀ x : Grow [B] w5.drew, x.v.cell? ⟨xb, 1, none⟩ = some (.slice A5 n5 c5) := fun x => x.ext.cell (blk_cell R6.out.xat 1) (by simpa using hnx)
            have G2 : ∀ x : Grow [B] w5.drew, x.v.cell? ⟨xb, 2, none⟩ = some (.slice A6 n6 c6) := fun x => x.ext.cell (blk_cell R6.out.xat 2) (by simpa using hnx)
            have G3 : ∀ x : Grow [B] w5.drew, x.v.cell? ⟨wr.heap.size, 1, none⟩ = some (.int .i64 ky) := fun x => x.ext.cell (blk_cell ha6 1) (by simpa using hna)
            clear ha6
            (rw [wpSegs_inl]; simp only [pickOps, List.map_cons, List.map_nil, List.getD_cons_succ, List.getD_cons_zero]; (repeat (go_big_quiet_step (fail))); refine wpQuiet_nil ?_)
            clear G0 G1 G2 G3
            obtain ⟨lv, hlv⟩ : ∃ lv, lv = live (L ++ [⟨h, ky, g, false⟩]) ky := ⟨_, rfl⟩
            have hheld := pi_held _ _ _ _ _ _ ky R6.out.pi b1
            rw [← hlv] at hheld
            have HH := Lib.hid hheld
            have hrh := rheld_any w5.drew B _ _ _ (L ++ [⟨h, ky, g, false⟩]) S ky R6.out.ref (by have := R6.out.lenL; omega)
            rw [← hlv] at hrh
            have HRH := Lib.hid hrh
            clear hrh hlv hheld
            (rw [wpSegs_grow]; simp only [pickOps, List.map_cons, List.map_nil, List.getD_cons_succ, List.getD_cons_zero]; go_wp2_with ((go_at_call 13; refine HH.out.mono ?_; rintro e w' ⟨rfl, rfl⟩)))
            refine ⟨ExtB.refl _ _, ?_⟩
            clear HH
            (rw [wpSegs_grow]; simp only [pickOps, List.map_cons, List.map_nil, List.getD_cons_succ, List.getD_cons_zero]; go_wp2_with ((go_at_call 19; refine HRH.out.mono ?_; rintro e w7 ⟨rfl, x7⟩)))
            refine ⟨.of x7 _, ?_⟩
            have R7 := Lib.hid (R6.out.ext x7)
            have G0 : ∀ x : Grow [B] w7, x.v.cell? ⟨xb, 0, none⟩ = some (.slice A4 n4 c4) := fun x => x.ext.cell (blk_cell R7.out.xat 0) (by simpa using hnx)
            have G1 : ∀ x : Grow [B] w7, x.v.cell? ⟨xb, 1, none⟩ = some (.slice A5 n5 c5) := fun x => x.ext.cell (blk_cell R7.out.xat 1) (by simpa using hnx)
            have G2 : ∀ x : Grow [B] w7, x.v.cell? ⟨xb, 2, none⟩ = some (.slice A6 n6 c6) := fun x => x.ext.cell (blk_cell R7.out.xat 2) (by simpa using hnx)
            clear x7 HRH
            have hneq : ((lv : Int) != (lv : Int)) = false := by simp
            (rw [wpSegs_inl]; simp only [pickOps, List.map_cons, List.map_nil, List.getD_cons_succ, List.getD_cons_zero]; (repeat (go_big_quiet_step (fail))); refine wpQuiet_nil ?_)
            clear G0 G1 G2
            have hall := pi_all_x w7 B B _ (L ++ [⟨h, ky, g, false⟩]) S (by omega) R7.out.pi
            have HALL := Lib.hid hall
            clear hall
            (rw [wpSegs_grow]; simp only [pickOps, List.map_cons, List.map_nil, List.getD_cons_succ, List.getD_cons_zero]; go_wp2_with ((go_at_call 21; refine HALL.out.mono ?_; rintro e w8 ⟨⟨v8, zs, rfl, y1, y2, y3, y4, y5, y6⟩, y7⟩)))
            refine ⟨y7, ?_⟩
            have hzs : zs = outF (L ++ [⟨h, ky, g, false⟩]) := by
              obtain ⟨o1, o2⟩ := outF_spec _ (L ++ [⟨h, ky, g, false⟩]) rfl
              exact rising_unique _ _ y2 o1 (fun k => by rw [y3, o2])
            subst hzs
            have R8 : Hid (PlRel w1 B B xb (2 * j + 1) (j + 1) (L ++ [⟨h, ky, g, false⟩]) S v' (.slice A4 n4 c4) (.slice A5 n5 c5) (.slice A6 n6 c6) w8) := Lib.hid ⟨y5, R7.out.row.fz y6, y6.heap R7.out.xat (by decide) (by decide) (by decide), R7.out.ref.fz y6, R7.out.low, R7.out.lenL, R7.out.lenS, R7.out.bel.trans (y6.below R7.out.pi.low)⟩
            have Y1 := Lib.hid y1
            clear y1 y2 y3 y4 y5 y6 y7 HALL R6 R7
            have hra := rall_any w8 B _ _ _ (L ++ [⟨h, ky, g, false⟩]) S R8.out.ref (by have := R8.out.lenL; omega) R8.out.pi.low
            have HRA := Lib.hid hra
            clear hra
            (rw [wpSegs_grow]; simp only [pickOps, List.map_cons, List.map_nil, List.getD_cons_succ, List.getD_cons_zero]; go_wp2_with ((go_at_call 22; refine HRA.out.mono ?_; rintro e w9 ⟨v9, rfl, q1, q2⟩)))
            refine ⟨.of q2 _, ?_⟩
            have hke := keys_same w9 _ _ v8 v9 _ (Y1.out.ext q2) q1 (by have := outF_len (L ++ [⟨h, ky, g, false⟩]); have := R8.out.lenL; omega)
            have HKE := Lib.hid hke; have R9 := Lib.hid (R8.out.ext q2)
            clear hke q1 q2 HRA R8 Y1
            (rw [wpSegs_grow]; simp only [pickOps, List.map_cons, List.map_nil, List.getD_cons_succ, List.getD_cons_zero]; go_wp2_with ((go_at_call 20; refine HKE.out.mono ?_; rintro e w10 ⟨rfl, q3⟩)))
            refine ⟨.of q3 _, ?_⟩
            have R10 := Lib.hid (R9.out.ext q3)
            clear q3 HKE R9
            (rw [wpSegs_inl]; simp only [pickOps, List.map_cons, List.map_nil, List.getD_cons_succ, List.getD_cons_zero]; (repeat (go_big_quiet_step (fail))); refine wpQuiet_nil ?_)
            rw [wpSegs_nil]
            go_wp2
            go_roundw
            case rel => exact ⟨j + 1, _, _, _, _, _, by omega, by go_num, R10.out.up (by omega) (by omega)⟩
            case measure => simp [intOf]; omega
      · go_wp2
        go_ret
        refine ⟨rfl, ?_⟩
        have h1 := R0.out.bel
        rw [HB.out] at h1
        exact X1.out.trans h1

set_option maxRecDepth 100000 in
theorem pinPlays_lifted (os : Os) (started : os.Started) (H : Type) (enc : TypeId × Value → H) :
    ReturnsInHanded {} Try.checked os 5 .any (Rows.pinPlaysSpec.pre6 enc Try.prog Try.f5 Rows.pinPlaysRow.domain false) (Rows.pinPlaysSpec.post enc Try.prog Try.f5 false true false false) := by
  refine returnsInHanded_of_change (C := Try.checked) own started (by kernel_rfl) Try.func5
    (ChangeSpec.witness6 (enc := enc) (C := Try.checked) false ⟨#[], #[.slice none 0 0], []⟩ 8 (by kernel_rfl) (by kernel_rfl) (by kernel_rfl) (by kernel_rfl)) ?_
  intro W base args ds gs before hval0 hW hcnd _
  have hval : ∀ (j : Nat) t v, Try.f5.params[j]? = some t → args[j]? = some v → Value.okWide Try.prog W .any base t v := hval0
  have hW' := hW
  obtain ⟨p, q, hA0, hV, rfl, hfz, hnd⟩ := hW
  have hA : DataW.TrodAll enc Try.prog W 0 (fun _ => true) true Try.f5.params.toList args.toList ds p := hA0
  rw [Try.params5] at hA hval
  obtain ⟨v0, vs0, d0, ds0, p0, q0, hargs, rfl, rfl, h0, r0⟩ := trodAll_cons hA
  obtain ⟨rfl, rfl, rfl⟩ := trodAll_nil r0
  obtain rfl : args = #[v0] := by cases args; simp_all
  obtain ⟨rfl, rfl⟩ := trodVars_none hV
  have lt0 : ∀ x ∈ p0, x.block < W.heap.size := by obtain ⟨m, hm⟩ := h0; exact DataW.trod_lt m _ _ _ hm
  have t0 := fun W' (bel : Below W.heap.size W W') => Below.trod laidOut (by kernel_rfl) (of_decide_eq_true (by kernel_rfl)) h0 bel lt0
  obtain ⟨A0, xs0, c0, rfl, ha0, hl0⟩ := acts_open (hval 0 33 v0 rfl rfl) h0
  clear hA0 hval0
  refine (plays_walk xs0 A0 c0 W ha0 hl0 ).mono fun e W' ⟨he, bel⟩ => ?_
  subst he
  exact ⟨_, rfl, _, _, _, [], _, [], hW', trodAll_mk1 (shut_bool Try.underlying4 _), (trodAll_cons_mk (t0 W' bel) trodAll_mk0), rfl, bel.frame _, fun h => by cases h⟩

/-- The statement. -/
theorem PinPlays_proved : Rows.PinPlaysSaid :=
  OpenClaim.holds_of_wide 5 Try.f5 rfl rfl rfl rfl rfl rfl rfl ⟨rfl, rfl, rfl, rfl, rfl⟩ rfl rfl rfl rfl rfl (by kernel_rfl) Try.func5 (by kernel_rfl)
    (of_decide_eq_true (by kernel_rfl)) (by unfold Func.isWrapper; first | (rw [if_pos (by decide +kernel)]; kernel_rfl) | (rw [if_neg (by decide +kernel)]; exact ⟨rfl, rfl⟩))
    (fun os started H enc _ => pinPlays_lifted os started H enc)
#print axioms PinPlays_proved
end Go.Proofs.Yteeeabmfebofiaa
