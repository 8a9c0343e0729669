/- The reference's functions, walked: Held, Take, Free, Shut. -/
import Derived.Test.YteeeabmfebofiaaRef
namespace Go.Proofs.Yteeeabmfebofiaa
open Go.RowKit
set_option linter.unusedVariables false

structure RefAt (w : World) (B : Nat) (vk vf vs : Value) (L : List Hold) (S : List Int) : Prop where
  keys : IRow w B vk (L.map Hold.key)
  freed : BRow w B vf (L.map Hold.freed)
  shut : IRow w B vs S
theorem RefAt.ext {w w' : World} {B : Nat} {vk vf vs : Value} {L : List Hold} {S : List Int} (h : RefAt w B vk vf vs L S) (hx : Ext w w') : RefAt w' B vk vf vs L S := ⟨h.keys.ext hx, h.freed.ext hx, h.shut.ext hx⟩
theorem RefAt.fz {w w' : World} {B B' : Nat} {vk vf vs : Value} {L : List Hold} {S : List Int} (h : RefAt w B vk vf vs L S) (hx : Fz B' w w') : RefAt w' B vk vf vs L S := ⟨h.keys.fz hx, h.freed.fz hx, h.shut.fz hx⟩
theorem live_take (L : List Hold) (k : Int) (j : Nat) (hj : j < L.length) : live (L.take (j + 1)) k = live (L.take j) k + if L[j].key = k ∧ L[j].freed = false then 1 else 0 := by
  rw [List.take_succ_eq_append_getElem hj, live_snoc]

set_option maxRecDepth 100000 in
set_option maxHeartbeats 2000000 in
theorem rheld_any (w : World) (B : Nat) (vk vf vs : Value) (L : List Hold) (S : List Int) (k : Int) (h : RefAt w B vk vf vs L S) (hl : L.length ≤ 1000000) :
    Calls Try.prog 19 #[.agg #[vk, vf, vs], .int .i64 k] w fun e w' => e = .returned (.int .i64 (live L k)) ∧ Ext w w' := by
  obtain ⟨A1, c1, hv1⟩ := h.keys.slice
  obtain ⟨A2, c2, hv2⟩ := h.freed.slice
  rw [List.length_map] at hv1 hv2
  obtain ⟨n, hn⟩ : ∃ n, n = L.length := ⟨_, rfl⟩
  rw [← hn] at hv1 hv2 hl
  subst hv1
  subst hv2
  obtain ⟨W, hW⟩ : ∃ W, W = w.alloc (.cells #[.slice A1 n c1, .slice A2 n c2, vs] 40) := ⟨_, rfl⟩
  have x : Ext w W := by rw [hW]; exact Ext.alloc (Ext.refl _) _
  have hb : W.heap[w.heap.size]? = some (.cells #[.slice A1 n c1, .slice A2 n c2, vs] 40 (0, 0)) := by rw [hW]; exact heap_alloc_new _ _
  have f0 : W.cell? ⟨w.heap.size, 0, none⟩ = some (.slice A1 n c1) := blk_cell hb 0
  have f1 : W.cell? ⟨w.heap.size, 1, none⟩ = some (.slice A2 n c2) := blk_cell hb 1
  have H := Lib.hid (h.ext x); have HN := Lib.hid hn; have X := Lib.hid x; have HW := Lib.hid hW
  clear h hn x hW hb
  go_enter Try.func19, Try.ntmps19
  go_wp2
  rw [← HW.out]
  go_loop [5, 6] (fun t i => ∃ j : Nat, j ≤ n ∧ i = .int .i64 j ∧ t = .int .i64 (live (L.take j) k)) (fun _ i => n - (intOf i).toNat)
  case atStart => exact ⟨0, by omega, rfl, rfl⟩
  case round =>
    obtain ⟨j, hj, rfl, rfl⟩ := hrel
    have hb1 := live_le (L.take j) k
    rw [List.length_take] at hb1
    by_cases hlt : j < n
    · have hjz : j < L.length := by rw [← HN.out]; exact hlt
      obtain ⟨g, c', hvv, hc⟩ := H.out.keys.get (i := j) (by simpa using hjz)
      obtain ⟨g', c'', hvv', hc'⟩ := H.out.freed.get (i := j) (by simpa using hjz)
      injection hvv with a1 a2 a3
      injection hvv' with a4 a5 a6
      subst a1
      subst a4
      rw [List.getElem_map] at hc hc'
      have hlt1 := live_take L k j hjz
      obtain ⟨z, hz⟩ : ∃ z, z = L[j] := ⟨_, rfl⟩
      rw [← hz] at hc hc' hlt1
      have HL := Lib.hid hlt1
      clear a2 a3 a5 a6 hz hlt1 hjz
      obtain ⟨lv, hlv⟩ : ∃ lv, lv = live (L.take j) k := ⟨_, rfl⟩
      rw [← hlv] at hb1 HL ⊢
      have HLV := Lib.hid hlv
      clear hlv
      cases hzk : (z.key == k)
      · have h0 : ¬ (z.key = k ∧ z.freed = false) := fun e => by simp at hzk; exact hzk e.1
        have HE : Hid (live (L.take (j + 1)) k = lv) := Lib.hid (by rw [HL.out, if_neg h0]; rfl)
        clear HL h0
        go_wp2
        go_round
        case rel => exact ⟨j + 1, by omega, by go_num, by rw [HE.out]⟩
        case measure => simp [intOf]; omega
      · cases hzf : z.freed
        · have h0 : z.key = k ∧ z.freed = false := ⟨by simpa using hzk, hzf⟩
          have HE : Hid (live (L.take (j + 1)) k = lv + 1) := Lib.hid (by rw [HL.out, if_pos h0])
          rw [hzf] at hc'
          have HZF := Lib.hid hzf
          clear HL h0 hzf
          go_wp2
          go_round
          case rel => exact ⟨j + 1, by omega, by go_num, by rw [HE.out]; go_num⟩
          case measure => simp [intOf]; omega
        · have h0 : ¬ (z.key = k ∧ z.freed = false) := fun e => by rw [hzf] at e; cases e.2
          have HE : Hid (live (L.take (j + 1)) k = lv) := Lib.hid (by rw [HL.out, if_neg h0]; rfl)
          rw [hzf] at hc'
          have HZF := Lib.hid hzf
          clear HL h0 hzf
          go_wp2
          go_round
          case rel => exact ⟨j + 1, by omega, by go_num, by rw [HE.out]⟩
          case measure => simp [intOf]; omega
    · have hjn : L.take j = L := List.take_of_length_le (by rw [← HN.out]; omega)
      rw [hjn]
      clear hjn hb1
      go_wp2
      go_ret
      exact ⟨rfl, X.out⟩

theorem IRow.to {w : World} {B : Nat} {v : Value} {zs : List Int} (h : IRow w B v zs) : w.ownsRow B 2 1 v (ints zs).length (ints zs) := by rw [ints_len]; exact h
theorem BRow.to {w : World} {B : Nat} {v : Value} {zs : List Bool} (h : BRow w B v zs) : w.ownsRow B 4 1 v (bools zs).length (bools zs) := by rw [bools_len]; exact h
theorem IRow.of {w : World} {B : Nat} {v : Value} {zs : List Int} (h : w.ownsRow B 2 1 v ([] ++ ints zs).length ([] ++ ints zs)) : IRow w B v zs := by rw [List.nil_append, ints_len] at h; exact h
theorem BRow.of {w : World} {B : Nat} {v : Value} {zs : List Bool} (h : w.ownsRow B 4 1 v ([] ++ bools zs).length ([] ++ bools zs)) : BRow w B v zs := by rw [List.nil_append, bools_len] at h; exact h
theorem owns_set {w : World} {B : Nat} {e : TypeId} {v : Value} {n : Nat} {xs : List Value} (h : w.ownsRow B e 1 v n xs) {p : Addr} {cs : Array Value} {t : TypeId} {z : Nat × Nat} (u : Value) (hp : w.heap[p.block]? = some (.cells cs t z)) (ht : e ≠ t) : (w.setCell p u).ownsRow B e 1 v n xs := by
  refine ⟨h.1, ?_⟩
  rcases h.2 with hn | ⟨g, cap, cur, rfl, hb, hgg, rest⟩
  · exact .inl hn
  · refine .inr ⟨g, cap, cur, rfl, hb, blk_far hgg (fun e => ?_) u, rest⟩
    rw [e, hp] at hgg
    injection hgg with hgg
    injection hgg with _ hgg
    exact ht hgg.symm
theorem BRow.set_other {w : World} {B : Nat} {v : Value} {xs : List Bool} (h : BRow w B v xs) {p : Addr} {cs : Array Value} {t : TypeId} {z : Nat × Nat} (u : Value) (hp : w.heap[p.block]? = some (.cells cs t z)) (ht : 4 ≠ t) : BRow (w.setCell p u) B v xs := owns_set h u hp ht
theorem IRow.set_other {w : World} {B : Nat} {v : Value} {xs : List Int} (h : IRow w B v xs) {p : Addr} {cs : Array Value} {t : TypeId} {z : Nat × Nat} (u : Value) (hp : w.heap[p.block]? = some (.cells cs t z)) (ht : 2 ≠ t) : IRow (w.setCell p u) B v xs := owns_set h u hp ht
theorem own0 (W : World) (base : Nat) (e : TypeId) (hb : base ≤ W.heap.size) : (W.alloc (.cells #[] e)).ownsRow base e 1 (.slice (some ⟨W.heap.size, 0, none⟩) 0 0) 0 [] := World.ownsRow_made W #[] 0 hb (by unfold maxLen; omega) rfl
theorem wpList_append_bool {W : World} {ops : Array Oper} {rest : List Oper} {o : Oper} {a : Act} {Q : Exit → Act → World → Prop}
    (hgd : o.guard = none) (s x : Operand) (ho : o.op = .call { callee := .builtin .append, args := #[s, x], argTypes := #[38, 38] })
    (B : Nat) (v : Value) (zs : List Bool) (z : Bool) (hown : BRow W B v zs) (hs' : a.eval s = v) (gN : Nat) (hx : a.eval x = .slice (some ⟨gN, 0, none⟩) 1 1) (hgN : W.heap.size = gN)
    (hl : zs.length ≤ 1000000) (hB : B ≤ W.heap.size)
    (hK : ∀ v' w', BRow w' B v' (zs ++ [z]) → W.grownBy w' v.ownBlock → wpList Try.prog ops Q rest (a.put o.dst v') w') :
    wpList Try.prog ops Q (o :: rest) a (W.alloc (.cells #[.bool z] 4)) := by
  obtain ⟨i0, hi, hz0, hz1, hz2⟩ := info_parts info4
  refine wpList_append_one hgd s x 38 ho B 4 i0 _ 1 1 Try.underlying38 hi hz0 hz1 hz2 rfl (by decide) v _ _ hs' hown #[.bool z] gN hx hgN rfl (by simp [Value.oneCell']) (by unfold maxLen; omega) (by omega) hB ?_
  intro v' w' h1 h2 h3
  refine hK v' w' ?_ h2
  unfold BRow bools
  rw [List.map_append, List.length_append]
  exact h1
theorem set3 {w : World} {b : Nat} {x y z : Value} (h : w.heap[b]? = some (.cells #[x, y, z] 40 (0, 0))) (p q r : Value) :
    (((w.setCell ⟨b, 0, none⟩ p).setCell ⟨b, 1, none⟩ q).setCell ⟨b, 2, none⟩ r).heap[b]? = some (.cells #[p, q, r] 40 (0, 0)) ∧
    (∀ e B v n xs, e ≠ 40 → w.ownsRow B e 1 v n xs → (((w.setCell ⟨b, 0, none⟩ p).setCell ⟨b, 1, none⟩ q).setCell ⟨b, 2, none⟩ r).ownsRow B e 1 v n xs) ∧
    ∀ B, B ≤ b → Below B w (((w.setCell ⟨b, 0, none⟩ p).setCell ⟨b, 1, none⟩ q).setCell ⟨b, 2, none⟩ r) := by
  have h1 : (w.setCell ⟨b, 0, none⟩ p).heap[b]? = some (.cells #[p, y, z] 40 (0, 0)) := by rw [blk_set h]; rfl
  have h2 : ((w.setCell ⟨b, 0, none⟩ p).setCell ⟨b, 1, none⟩ q).heap[b]? = some (.cells #[p, q, z] 40 (0, 0)) := by rw [blk_set h1]; rfl
  refine ⟨by rw [blk_set h2]; rfl, fun e B v n xs he ho => owns_set (owns_set (owns_set ho p (p := ⟨b, 0, none⟩) h he) q (p := ⟨b, 1, none⟩) h1 he) r (p := ⟨b, 2, none⟩) h2 he, fun B hB => (((Below.refl B w).setCell (p := ⟨b, 0, none⟩) hB p).setCell (p := ⟨b, 1, none⟩) hB q).setCell (p := ⟨b, 2, none⟩) hB r⟩
theorem below_of {B : Nat} {W w1 w2 : World} (h : Ext W w1) (hB : B = W.heap.size) (k : Below B w1 w2) : Ext W w2 := by subst hB; exact Below.trans h k
theorem below_new {B : Nat} {W w2 : World} {o : Obj} (hB : B = W.heap.size) (k : Below B (W.alloc o) w2) : Ext W w2 := by subst hB; exact Below.trans (Ext.alloc (Ext.refl W) o) k
theorem ints_one (zs : List Int) : ∀ q ∈ ints zs, q.oneCell' = true := by
  intro q hq; obtain ⟨z, _, rfl⟩ := List.mem_map.1 hq; rfl
theorem bools_one (zs : List Bool) : ∀ q ∈ bools zs, q.oneCell' = true := by
  intro q hq; obtain ⟨z, _, rfl⟩ := List.mem_map.1 hq; rfl
def RTook (w : World) (B : Nat) (vs : Value) (L : List Hold) (S : List Int) (k : Int) (e : Ending) (w' : World) : Prop :=
  ∃ vk' vf', e = .returned (.tuple #[.agg #[vk', vf', vs], .int .i64 0]) ∧ (IRow w' B vk' (L.map Hold.key ++ [k]) ∧ BRow w' B vf' (L.map Hold.freed ++ [false]) ∧ IRow w' B vs S) ∧ Ext w w'

set_option maxRecDepth 100000 in
set_option maxHeartbeats 4000000 in
theorem rtake_shut (w : World) (B : Nat) (vk vf vs : Value) (L : List Hold) (S : List Int) (k : Int) (h : RefAt w B vk vf vs L S) (hS : k ∈ S) (hl : S.length ≤ 1000000) :
    Calls Try.prog 15 #[.agg #[vk, vf, vs], .int .i64 k] w fun e w' => e = .returned (.tuple #[.agg #[vk, vf, vs], .int .i64 15]) ∧ Ext w w' := by
  obtain ⟨A1, c1, rfl⟩ := h.keys.slice
  obtain ⟨A2, c2, rfl⟩ := h.freed.slice
  obtain ⟨A3, c3, rfl⟩ := h.shut.slice
  obtain ⟨n1, hn1⟩ : ∃ n, n = (L.map Hold.key).length := ⟨_, rfl⟩
  obtain ⟨n2, hn2⟩ : ∃ n, n = (L.map Hold.freed).length := ⟨_, rfl⟩
  obtain ⟨n3, hn3⟩ : ∃ n, n = S.length := ⟨_, rfl⟩
  rw [← hn1, ← hn2, ← hn3] at h ⊢
  obtain ⟨W, hW⟩ : ∃ W, W = (w.alloc (.cells #[.slice A1 n1 c1, .slice A2 n2 c2, .slice A3 n3 c3] 40)).alloc (.cells #[.slice none 0 0, .slice none 0 0, .slice none 0 0] 40) := ⟨_, rfl⟩
  have x : Ext w W := by rw [hW]; exact Ext.alloc (Ext.alloc (Ext.refl _) _) _
  obtain ⟨y1, y2⟩ := heap_new2 w (.cells #[.slice A1 n1 c1, .slice A2 n2 c2, .slice A3 n3 c3] 40) (.cells #[.slice none 0 0, .slice none 0 0, .slice none 0 0] 40)
  rw [← hW] at y1 y2
  have a0 : W.cell? ⟨w.heap.size, 0, none⟩ = some (.slice A1 n1 c1) := blk_cell y1 0
  have a1 : W.cell? ⟨w.heap.size, 1, none⟩ = some (.slice A2 n2 c2) := blk_cell y1 1
  have a2 : W.cell? ⟨w.heap.size, 2, none⟩ = some (.slice A3 n3 c3) := blk_cell y1 2
  have hin : Calls Try.prog 33 #[.slice A3 n3 c3, .int .i64 k] W fun e w' => e = .returned (.bool true) ∧ W = w' := by
    have := in_any W B _ S k (h.ext x).shut hl
    rw [decide_eq_true hS] at this
    exact this
  have HIN := Lib.hid hin; have HW := Lib.hid hW; have X := Lib.hid x
  clear h hS hl hn1 hn2 hn3 hin x y1 y2
  rw [hW] at a0 a1 a2
  clear hW
  go_enter Try.func15, Try.ntmps15
  go_wp2_with (go_at_call 33; rw [← HW.out]; refine HIN.out.mono ?_; rintro e w' ⟨rfl, rfl⟩; rw [HW.out])
  exact bodyPost_ret (v := .tuple #[.agg #[.slice A1 n1 c1, .slice A2 n2 c2, .slice A3 n3 c3], .int .i64 15]) (by simp [results, Try.results15, go_sem]) rfl ⟨rfl, Ext.alloc (Ext.alloc (Ext.refl _) _) _⟩

set_option maxRecDepth 100000 in
set_option maxHeartbeats 4000000 in
theorem rtake_ok (w : World) (B : Nat) (vk vf vs : Value) (L : List Hold) (S : List Int) (k : Int) (h : RefAt w B vk vf vs L S) (hS : k ∉ S) (hl : S.length ≤ 100000) (hL : L.length ≤ 100000) (hB : B ≤ w.heap.size) :
    Calls Try.prog 15 #[.agg #[vk, vf, vs], .int .i64 k] w (RTook w B vs L S k) := by
  obtain ⟨W, hW⟩ : ∃ W, W = (w.alloc (.cells #[vk, vf, vs] 40)).alloc (.cells #[.slice none 0 0, .slice none 0 0, .slice none 0 0] 40) := ⟨_, rfl⟩
  have x : Ext w W := by rw [hW]; exact Ext.alloc (Ext.alloc (Ext.refl _) _) _
  obtain ⟨y1, y2⟩ := heap_new2 w (.cells #[vk, vf, vs] 40) (.cells #[.slice none 0 0, .slice none 0 0, .slice none 0 0] 40)
  rw [← hW] at y1 y2
  have hsz : W.heap.size = w.heap.size + 1 + 1 := by rw [hW]; simp
  have a0 : W.cell? ⟨w.heap.size, 0, none⟩ = some vk := blk_cell y1 0
  have a1 : W.cell? ⟨w.heap.size, 1, none⟩ = some vf := blk_cell y1 1
  have a2 : W.cell? ⟨w.heap.size, 2, none⟩ = some vs := blk_cell y1 2
  have hx := h.ext x
  have hin : Calls Try.prog 33 #[vs, .int .i64 k] W fun e w' => e = .returned (.bool false) ∧ W = w' := by
    have := in_any W B _ S k hx.shut (by omega)
    rw [decide_eq_false hS] at this
    exact this
  obtain ⟨A1, c1, hk1⟩ := h.keys.slice
  obtain ⟨A2, c2, hk2⟩ := h.freed.slice
  obtain ⟨A3, c3, hk3⟩ := h.shut.slice
  obtain ⟨n1, hn1⟩ : ∃ n, n = (L.map Hold.key).length := ⟨_, rfl⟩
  obtain ⟨n2, hn2⟩ : ∃ n, n = (L.map Hold.freed).length := ⟨_, rfl⟩
  obtain ⟨n3, hn3⟩ : ∃ n, n = S.length := ⟨_, rfl⟩
  rw [← hn1] at hk1
  rw [← hn2] at hk2
  rw [← hn3] at hk3
  subst hk1 hk2 hk3
  have HIN := Lib.hid hin; have HW := Lib.hid hW; have X := Lib.hid x; have HX := Lib.hid hx; have Y1 := Lib.hid y1; have Y2 := Lib.hid y2; have SZ := Lib.hid hsz
  have HN1 := Lib.hid hn1; have HN2 := Lib.hid hn2; have HN3 := Lib.hid hn3
  have hlt1 : w.heap.size + 1 < W.heap.size := by omega
  have hlt0 : w.heap.size < W.heap.size := by omega
  clear h hS hl hin x hx y1 y2 hW hsz hn1 hn2 hn3
  go_enter Try.func15, Try.ntmps15
  go_wp2_with (first | (go_at_call 33; rw [← HW.out]; refine HIN.out.mono ?_; rintro e w' ⟨rfl, rfl⟩) | (at_builtin; refine wpList_append_row 37 2 (.int .i64 0) 8 Try.underlying37 info2 rfl (by decide) rfl _ _ rfl W.heap.size B (.slice (some ⟨W.heap.size, 0, none⟩) 0 0) (.slice A1 n1 c1) [] (ints (L.map Hold.key)) (World.ownsRow_made W #[] 0 (Nat.le_refl _) (by unfold maxLen; omega) rfl) ?c1 (ints_one _) rfl rfl ?c2 (by simp) ?_))
  case c1 => exact (HX.out.ext (Ext.alloc (Ext.refl W) _)).keys.to
  case c2 => simp [ints]; omega
  intro v1 w1 r1 g1
  have e1 : Ext W w1 := below_new rfl (own_below (own0 W W.heap.size 2 (Nat.le_refl _)) g1 (by simp))
  have i1 : IRow w1 W.heap.size v1 (L.map Hold.key) := IRow.of r1
  have E1 := Lib.hid e1; have I1 := Lib.hid i1
  have s1 := e1.size
  clear r1 g1 e1 i1
  go_wp2_with (at_builtin; refine wpList_append_int rfl _ _ rfl W.heap.size v1 (L.map Hold.key) k I1.out rfl _ rfl ?c3 ?c4 s1 ?_)
  case c3 => simp
  case c4 => simp; omega
  intro v2 w2 i2 g2
  obtain ⟨A4, c4, hv2⟩ := i2.slice
  obtain ⟨n4, hn4⟩ : ∃ n, n = (L.map Hold.key ++ [k]).length := ⟨_, rfl⟩
  rw [← hn4] at hv2
  subst hv2
  have HN4 := Lib.hid hn4
  clear hn4
  have e2 : Ext W w2 := below_of E1.out rfl (own_below I1.out g2 s1)
  have z1 := e2.heap Y1.out; have z2 := e2.heap Y2.out
  have b0 : w2.cell? ⟨w.heap.size, 0, none⟩ = some (.slice A1 n1 c1) := blk_cell z1 0
  have b1 : w2.cell? ⟨w.heap.size, 1, none⟩ = some (.slice A2 n2 c2) := blk_cell z1 1
  have f0 := blk_free z1 0
  obtain ⟨w3, hw3⟩ : ∃ w3, w3 = w2.setCell ⟨w.heap.size, 0, none⟩ (.slice A4 n4 c4) := ⟨_, rfl⟩
  have y31 : w3.heap[w.heap.size]? = some (.cells #[(.slice A4 n4 c4), .slice A2 n2 c2, .slice A3 n3 c3] 40 (0, 0)) := by rw [hw3, blk_set z1]; rfl
  have y32 : w3.heap[w.heap.size + 1]? = some (.cells #[.slice none 0 0, .slice none 0 0, .slice none 0 0] 40 (0, 0)) := by rw [hw3]; exact blk_far z2 (by simp) _
  have d1 : w3.cell? ⟨w.heap.size, 1, none⟩ = some (.slice A2 n2 c2) := blk_cell y31 1
  have s3 : W.heap.size ≤ w3.heap.size := by rw [hw3]; simpa using e2.size
  have l3 : w.heap.size < w3.heap.size := by omega
  have E2 := Lib.hid e2; have I2 := Lib.hid i2; have W3 := Lib.hid hw3; have Y31 := Lib.hid y31; have Y32 := Lib.hid y32
  clear i2 g2 e2 z1 z2 E1 I1 s1 hw3 y31 y32
  have hfr3 : BRow w3 B (.slice A2 n2 c2) (L.map Hold.freed) := by rw [W3.out]; exact ((HX.out.ext E2.out).freed).set_other _ (E2.out.heap Y1.out) (by decide)
  have HFR3 := Lib.hid hfr3
  clear hfr3
  go_wp2_with (first | (rw [← W3.out]) | (at_builtin; refine wpList_append_row 38 4 (.bool false) 1 Try.underlying38 info4 rfl (by decide) rfl _ _ rfl w3.heap.size B (.slice (some ⟨w3.heap.size, 0, none⟩) 0 0) (.slice A2 n2 c2) [] (bools (L.map Hold.freed)) (World.ownsRow_made w3 #[] 0 (Nat.le_refl _) (by unfold maxLen; omega) rfl) ?c5 (bools_one _) rfl rfl ?c6 ?c7 ?_))
  case c5 => exact (HFR3.out.ext (Ext.alloc (Ext.refl w3) _)).to
  case c6 => simp [bools]; omega
  case c7 => simp
  intro v5 w5 r5 g5
  have hrf : BRow w5 w3.heap.size v5 (L.map Hold.freed) := BRow.of r5
  have e35 : Ext w3 w5 := below_new rfl (own_below (own0 w3 w3.heap.size 4 (Nat.le_refl _)) g5 (by simp))
  have s5 := e35.size
  have RF := Lib.hid hrf; have E35 := Lib.hid e35
  clear r5 g5 hrf e35 HFR3
  go_wp2_with (at_builtin; refine wpList_append_bool rfl _ _ rfl w3.heap.size v5 (L.map Hold.freed) false RF.out rfl _ rfl ?c8 ?c9 s5 ?_)
  case c8 => simp
  case c9 => simp; omega
  intro v6 w6 i6 g6
  obtain ⟨A6, c6, hv6⟩ := i6.slice
  obtain ⟨n6, hn6⟩ : ∃ n, n = (L.map Hold.freed ++ [false]).length := ⟨_, rfl⟩
  rw [← hn6] at hv6
  subst hv6
  have HN6 := Lib.hid hn6
  clear hn6
  have e36 : Ext w3 w6 := below_of E35.out rfl (own_below RF.out g6 s5)
  have z1 := e36.heap Y31.out
  have z2 := e36.heap Y32.out
  have k0 : w6.cell? ⟨w.heap.size, 0, none⟩ = some (.slice A4 n4 c4) := blk_cell z1 0
  have k1 : w6.cell? ⟨w.heap.size, 1, none⟩ = some (.slice A2 n2 c2) := blk_cell z1 1
  have k2 : w6.cell? ⟨w.heap.size, 2, none⟩ = some (.slice A3 n3 c3) := blk_cell z1 2
  have q1 := blk_free z1 1
  obtain ⟨w7, hw7⟩ : ∃ w7, w7 = w6.setCell ⟨w.heap.size, 1, none⟩ (.slice A6 n6 c6) := ⟨_, rfl⟩
  have y71 : w7.heap[w.heap.size]? = some (.cells #[.slice A4 n4 c4, .slice A6 n6 c6, .slice A3 n3 c3] 40 (0, 0)) := by rw [hw7, blk_set z1]; rfl
  have y72 : w7.heap[w.heap.size + 1]? = some (.cells #[.slice none 0 0, .slice none 0 0, .slice none 0 0] 40 (0, 0)) := by rw [hw7]; exact blk_far z2 (by simp) _
  have m0 : w7.cell? ⟨w.heap.size, 0, none⟩ = some (.slice A4 n4 c4) := blk_cell y71 0
  have m1 : w7.cell? ⟨w.heap.size, 1, none⟩ = some (.slice A6 n6 c6) := blk_cell y71 1
  have m2 : w7.cell? ⟨w.heap.size, 2, none⟩ = some (.slice A3 n3 c3) := blk_cell y71 2
  have o0 : w7.cell? ⟨w.heap.size + 1, 0, none⟩ = some (.slice none 0 0) := blk_cell y72 0
  have o1 : w7.cell? ⟨w.heap.size + 1, 1, none⟩ = some (.slice none 0 0) := blk_cell y72 1
  have o2 : w7.cell? ⟨w.heap.size + 1, 2, none⟩ = some (.slice none 0 0) := blk_cell y72 2
  have t0 := blk_free y72 0; have t1 := blk_free y72 1; have t2 := blk_free y72 2
  have I6 := Lib.hid i6; have E36 := Lib.hid e36; have W7 := Lib.hid hw7; have Y71 := Lib.hid y71; have Y72 := Lib.hid y72; have Z1 := Lib.hid z1
  clear i6 g6 e36 z1 z2 hw7 y71 y72
  go_wp2_with (rw [← W7.out])
  obtain ⟨WE, hWE⟩ : ∃ WE, WE = ((w7.setCell ⟨w.heap.size + 1, 0, none⟩ (.slice A4 n4 c4)).setCell ⟨w.heap.size + 1, 1, none⟩ (.slice A6 n6 c6)).setCell ⟨w.heap.size + 1, 2, none⟩ (.slice A3 n3 c3) := ⟨_, rfl⟩
  rw [← hWE]
  obtain ⟨p1, p2, p3⟩ := set3 Y72.out (.slice A4 n4 c4) (.slice A6 n6 c6) (.slice A3 n3 c3)
  rw [← hWE] at p1 p2 p3
  have u0 : WE.cell? ⟨w.heap.size + 1, 0, none⟩ = some (.slice A4 n4 c4) := blk_cell p1 0
  have u1 : WE.cell? ⟨w.heap.size + 1, 1, none⟩ = some (.slice A6 n6 c6) := blk_cell p1 1
  have u2 : WE.cell? ⟨w.heap.size + 1, 2, none⟩ = some (.slice A3 n3 c3) := blk_cell p1 2
  have row4 : IRow w3 W.heap.size (.slice A4 n4 c4) (L.map Hold.key ++ [k]) := by rw [W3.out]; exact I2.out.set_other _ (E2.out.heap Y1.out) (by decide)
  have row4b : IRow w7 W.heap.size (.slice A4 n4 c4) (L.map Hold.key ++ [k]) := by rw [W7.out]; exact (row4.ext E36.out).set_other _ Z1.out (by decide)
  have row6b : BRow w7 w3.heap.size (.slice A6 n6 c6) (L.map Hold.freed ++ [false]) := by rw [W7.out]; exact I6.out.set_other _ Z1.out (by decide)
  have row3 : IRow w3 B (.slice A3 n3 c3) S := by rw [W3.out]; exact (HX.out.ext E2.out).shut.set_other _ (E2.out.heap Y1.out) (by decide)
  have row3b : IRow w7 B (.slice A3 n3 c3) S := by rw [W7.out]; exact (row3.ext E36.out).set_other _ Z1.out (by decide)
  have b3 : Below w.heap.size w w3 := by rw [W3.out]; exact (Below.trans X.out (Below.mono E2.out (by omega))).setCell (by simp) _
  have b7 : Below w.heap.size w w7 := by rw [W7.out]; exact (b3.trans (Below.mono E36.out (by omega))).setCell (by simp) _
  have hBW : B ≤ W.heap.size := by omega
  refine bodyPost_ret (v := .tuple #[.agg #[.slice A4 n4 c4, .slice A6 n6 c6, .slice A3 n3 c3], .int .i64 0]) (by simp [results, Try.results15, go_sem, u0, u1, u2]) rfl ⟨_, _, rfl, ⟨ownsRow_base (p2 2 _ _ _ _ (by decide) row4b) hBW, ownsRow_base (p2 4 _ _ _ _ (by decide) row6b) (by omega), p2 2 _ _ _ _ (by decide) row3b⟩, b7.trans (p3 _ (by omega))⟩
end Go.Proofs.Yteeeabmfebofiaa
