/- The reference's Tenants, walked: the tenants that have bytes, by name. -/
import Derived.Test.YtjcpmfioppopcaaRef
import Derived.Sort.Walk0
namespace Go.Proofs.Ytjcpmfioppopcaa
open Go.RowKit

def scells (l : List Bs) : List Value := l.map fun t => .string ⟨t.toArray⟩
theorem Try.info9 : (Try.prog.info? 9).map (fun i => (i.zero, i.size, i.bytes)) = some (some (.string ⟨#[]⟩), 1, 16) := by kernel_rfl

/-- A slice value reads as texts, in memory from block 'base' on. -/
def Strs (w : World) (base : Nat) (v : Value) (l : List Bs) : Prop := w.ownsRow base 9 1 v l.length (scells l)
theorem Strs.nil (w : World) (base : Nat) : Strs w base (.slice none 0 0) [] := World.ownsRow_nil _ _ _ _
theorem Strs.below {w w' : World} {base : Nat} {v : Value} {l : List Bs} (h : Strs w base v l) (hb : Below w.heap.size w w') : Strs w' base v l := ownsRow_below h hb
theorem Strs.drewN {w : World} {base : Nat} {v : Value} {l : List Bs} (h : Strs w base v l) (n : Nat) : Strs (w.drewN n) base v l := h
theorem Strs.base {w : World} {base base' : Nat} {v : Value} {l : List Bs} (h : Strs w base v l) (hb : base' ≤ base) : Strs w base' v l := ownsRow_base h hb
theorem Strs.slice {w : World} {base : Nat} {v : Value} {l : List Bs} (h : Strs w base v l) : ∃ A c, v = .slice A l.length c := own_slice h
theorem Strs.grows {w w1 : World} {base : Nat} {v : Value} {l : List Bs} (h : Strs w base v l) (hg : w.grownBy w1 v.ownBlock) (hB : base ≤ w.heap.size) : Below base w w1 := own_below h hg hB
theorem Strs.at_ {w : World} {base : Nat} {A : Option Addr} {n c : Nat} {l : List Bs} (h : Strs w base (.slice A n c) l) {k : Nat} (hk : k < l.length) : ∃ g, A = some ⟨g, 0, none⟩ ∧ g < w.heap.size ∧ w.cell? ⟨g, k, none⟩ = some (.string ⟨l[k].toArray⟩) := by
  have h' := h
  rcases h.2 with ⟨hv, h0⟩ | ⟨g, cap, cur, hv, _, hg, _⟩
  · omega
  · injection hv with h1 h2 h3
    subst h1 h2 h3
    refine ⟨g, rfl, (Array.getElem?_eq_some_iff.1 hg).1, ?_⟩
    rw [World.ownsRow.cellAt h' k (by omega)]
    simp [scells, hk]

/-- The inner loop's relation: the list that is put together, in the world wi. -/
def TenIn (t : Bs) (out : List Bs) (wo : World) (k : Nat) (v p : Value) (wi : World) : Prop :=
  p = .bool (insP t (out.take k)) ∧ Strs wi wo.heap.size v (if insP t (out.take k) = true then ins t (out.take k) else out.take k) ∧ Below wo.heap.size wo wi

theorem less_gt {t x : Bs} (h : t < x) : Op.bytesLess x t = false ∧ (x == t) = false := by
  rw [bytesLess_eq]
  refine ⟨decide_eq_false fun h' => List.lt_irrefl _ (List.lt_trans h h'), beq_eq_false_iff_ne.2 fun e => ?_⟩
  subst e
  exact List.lt_irrefl _ h
theorem less_lt {t x : Bs} (h : ¬ t < x) (hne : ¬ x = t) : Op.bytesLess x t = true := by
  rw [bytesLess_eq]
  exact decide_eq_true (lt_total h (fun e => hne e.symm))

theorem scells_snoc (l : List Bs) (t : Bs) : scells (l ++ [t]) = scells l ++ [.string ⟨t.toArray⟩] := by simp [scells]

theorem wpList_append_str {W : World} {ops : Array Oper} {rest : List Oper} {o : Oper} {a : Act} {Q : Exit → Act → World → Prop}
    (hgd : o.guard = none) (s x : Operand) (ho : o.op = .call { callee := .builtin .append, args := #[s, x], argTypes := #[40, 40] })
    (base : Nat) (v : Value) (l : List Bs) (t : Bs) (hs : a.eval s = v) (hown : Strs W base v l) (gN : Nat) (hx : a.eval x = .slice (some ⟨gN, 0, none⟩) 1 1) (hgN : W.heap.size = gN)
    (hl : l.length ≤ 100000) (hbase : base ≤ W.heap.size)
    (h : ∀ v' w', Strs w' base v' (l ++ [t]) → Below base W w' → W.heap.size + 1 ≤ w'.heap.size → wpList Try.prog ops Q rest (a.put o.dst v') w') :
    wpList Try.prog ops Q (o :: rest) a (W.alloc (.cells #[.string ⟨t.toArray⟩] 9)) := by
  obtain ⟨i0, hi, hz0, hz1, hz2⟩ := info_parts Try.info9
  refine wpList_append_one hgd s x 40 ho base 9 i0 _ 1 16 Try.underlying40 hi hz0 hz1 hz2 rfl (by decide) v _ _ hs hown #[.string ⟨t.toArray⟩] gN hx hgN rfl (by simp [Value.oneCell']) (by unfold maxLen; omega) (by omega) hbase ?_
  intro v' w' h1 h2 h3
  refine h v' w' ?_ (hown.grows h2 hbase) h3
  unfold Strs
  rw [scells_snoc, List.length_append]
  exact h1

set_option maxRecDepth 100000 in
set_option maxHeartbeats 4000000 in
theorem rten_some (L : List Ln) (g cap : Nat) (all share : Int) (w : World) (hg : g < w.heap.size) (hc : ∀ k (hk : k < L.length), w.cell? ⟨g, k * 2, none⟩ = some (.string ⟨L[k].1.toArray⟩) ∧ w.cell? ⟨g, k * 2 + 1, none⟩ = some (.int .i64 L[k].2)) (hlen : L.length ≤ 1000) :
    Calls Try.prog 35 #[.agg #[.int .i64 all, .int .i64 share, .slice (some ⟨g, 0, none⟩) L.length cap]] w fun e w' => ∃ v, e = .returned v ∧ Strs w' 0 v (rTen L) ∧ Below w.heap.size w w' := by
  have HC := Lib.hid hc; clear hc
  obtain ⟨i0, hi, hz0, hz1, hz2⟩ := info_parts Try.info9
  go_enter Try.func35, Try.ntmps35
  go_wp2
  go_loopw [3, 4, 5, 6, 7] (fun v i _ _ _ wr => ∃ k : Nat, k ≤ L.length ∧ i = .int .i64 k ∧ Strs wr (w.heap.size + 1) v (rTen (L.take k)) ∧ Below w.heap.size w wr ∧ wr.heap[w.heap.size]? = some (.cells #[.int .i64 all, .int .i64 share, .slice (some ⟨g, 0, none⟩) L.length cap] 32 (0, 0))) (fun _ i _ _ _ _ => L.length - (intOf i).toNat)
  case atStart => exact ⟨0, by omega, rfl, Strs.nil _ _, (Below.refl _ _).alloc (Nat.le_refl _) _, heap_alloc_new w _⟩
  case round =>
    obtain ⟨i, hi1, rfl, hown, hbel, hB0⟩ := hrel
    have hsz := blk_lt hB0
    have c0 : wr.cell? ⟨w.heap.size, 2, none⟩ = some (.slice (some ⟨g, 0, none⟩) L.length cap) := by rw [blk_cell hB0]; rfl
    by_cases hlt : i < L.length
    · obtain ⟨h0, h1⟩ := HC.out i hlt
      have d0 : wr.cell? ⟨g, i * 2, none⟩ = some (.string ⟨L[i].1.toArray⟩) := by rw [hbel.cell (p := ⟨g, i * 2, none⟩) hg, h0]
      have d1 : wr.cell? ⟨g, i * 2 + 1, none⟩ = some (.int .i64 L[i].2) := by rw [hbel.cell (p := ⟨g, i * 2 + 1, none⟩) hg, h1]
      have hgr : g < wr.heap.size := by omega
      have HB0 := Lib.hid hB0
      clear h0 h1 hB0
      have hsn : rTen (L.take (i + 1)) = if L[i].2 = 0 then rTen (L.take i) else ins L[i].1 (rTen (L.take i)) := by rw [List.take_succ_eq_append_getElem hlt, rTen_snoc]
      have HSN := Lib.hid hsn; clear hsn
      obtain ⟨out, hout⟩ : ∃ out, out = rTen (L.take i) := ⟨_, rfl⟩
      have hol : out.length ≤ 1000 := by rw [hout]; have := len_rTen (L.take i); simp at this; omega
      rw [← hout] at hown
      have HOUT := Lib.hid hout; clear hout
      obtain ⟨A3, c3, rfl⟩ := hown.slice
      cases hz : (L[i].2 == 0)
      · obtain ⟨t, ht⟩ : ∃ t, t = L[i].1 := ⟨_, rfl⟩
        rw [← ht] at d0
        have HT := Lib.hid ht; clear ht
        go_wp2
        obtain ⟨wo, rfl⟩ : ∃ wo : World, wo = wr := ⟨_, rfl⟩
        go_loopw [5, 6, 7] (fun v p kk wi => ∃ k : Nat, k ≤ out.length ∧ kk = .int .i64 k ∧ TenIn t out wo k v p wi) (fun _ _ kk _ => out.length - (intOf kk).toNat)
        case atStart => exact ⟨0, by omega, rfl, rfl, by simpa [insP] using Strs.nil wo wo.heap.size, Below.refl _ _⟩
        case round =>
          obtain ⟨k, hk1, rfl, rfl, hl, hbi⟩ := hrel
          have C0 : ∀ wx, Below wo.heap.size wo wx → wx.cell? ⟨w.heap.size, 2, none⟩ = some (.slice (some ⟨g, 0, none⟩) L.length cap) := fun wx hb => by rw [hb.cell (p := ⟨w.heap.size, 2, none⟩) hsz, c0]
          have D0 : ∀ wx, Below wo.heap.size wo wx → wx.cell? ⟨g, i * 2, none⟩ = some (.string ⟨t.toArray⟩) := fun wx hb => by rw [hb.cell (p := ⟨g, i * 2, none⟩) hgr, d0]
          have HC0 := Lib.hid C0; have HD0 := Lib.hid D0; clear C0 D0
          have c0i := HC0.out wr hbi
          have d0i := HD0.out wr hbi
          have hgi : g < wr.heap.size := Nat.lt_of_lt_of_le hgr hbi.size
          by_cases hkl : k < out.length
          · obtain ⟨g3, rfl, hg3, o3⟩ := hown.at_ hkl
            have O0 : ∀ wx, Below wo.heap.size wo wx → wx.cell? ⟨g3, k, none⟩ = some (.string ⟨out[k].toArray⟩) := fun wx hb => by rw [hb.cell (p := ⟨g3, k, none⟩) hg3, o3]
            have HO0 := Lib.hid O0; clear O0
            have o0 := HO0.out wr hbi
            clear c0 d0 o3
            have hsn : insP t (out.take (k + 1)) = (insP t (out.take k) || decide (t < out[k])) := by rw [List.take_succ_eq_append_getElem hkl, insP_snoc]
            have HSNP := Lib.hid hsn; clear hsn
            have htk : out.take (k + 1) = out.take k ++ [out[k]] := List.take_succ_eq_append_getElem hkl
            have HTK := Lib.hid htk; clear htk
            cases hp : insP t (out.take k)
            · rw [hp] at hl
              have hl2 : Strs wr wo.heap.size u5 (out.take k) := hl
              clear hl
              have hll : (out.take k).length ≤ 1001 := by simp; omega
              by_cases hlt1 : t < out[k]
              · obtain ⟨q1, q2⟩ := less_gt hlt1
                have hfin : (if insP t (out.take (k + 1)) = true then ins t (out.take (k + 1)) else out.take (k + 1)) = (out.take k ++ [t]) ++ [out[k]] := by
                  rw [HSNP.out, hp, decide_eq_true hlt1, HTK.out, Bool.false_or, if_pos rfl, ins_first hp hlt1]
                have hfp : insP t (out.take (k + 1)) = true := by rw [HSNP.out, hp, decide_eq_true hlt1]; rfl
                have HF := Lib.hid hfin; have HFP := Lib.hid hfp; clear hfin hfp
                go_wp2
                go_quiet (fail)
                have hq := hl2.drewN nq
                have hbq : Below wo.heap.size wo (wr.drewN nq) := ⟨hbi.os, hbi.tape, hbi.output, hbi.size, hbi.block⟩
                go_wp2_with (at_builtin; refine wpList_append_str rfl _ _ rfl wo.heap.size u5 (out.take k) t rfl hq _ rfl ?c0 ?c1 ?c2 ?_)
                case c0 => simp
                case c1 => omega
                case c2 => exact hbi.size
                intro v1 w1 hs1 hb1 hz1
                have hbw1 : Below wo.heap.size wo w1 := hbq.trans hb1
                have o1 := HO0.out w1 hbw1
                have hg3i : g3 < w1.heap.size := Nat.lt_of_lt_of_le hg3 hbw1.size
                have HS1 := Lib.hid hs1
                clear hq hs1 hl2
                go_wp2_with (at_builtin; refine wpList_append_str rfl _ _ rfl wo.heap.size v1 (out.take k ++ [t]) out[k] rfl HS1.out _ rfl ?d0 ?d1 ?d2 ?_)
                case d0 => simp
                case d1 => simp; omega
                case d2 => exact hbw1.size
                intro v2 w2 hs2 hb2 hz2
                have hbw2 : Below wo.heap.size wo w2 := hbw1.trans hb2
                have HS2 := Lib.hid hs2
                clear hs2
                go_wp2
                go_roundw
                case rel => exact ⟨k + 1, by omega, by go_num, by rw [HFP.out], by rw [HF.out]; simpa using HS2.out, hbw2⟩
                case measure => simp [intOf]; omega
              · have hfin : (if insP t (out.take (k + 1)) = true then ins t (out.take (k + 1)) else out.take (k + 1)) = out.take k ++ [out[k]] := by
                  rw [HSNP.out, hp, decide_eq_false hlt1, HTK.out]; simp
                have hfp : insP t (out.take (k + 1)) = false := by rw [HSNP.out, hp, decide_eq_false hlt1]; rfl
                have HF := Lib.hid hfin; have HFP := Lib.hid hfp; clear hfin hfp
                have hq3 : (!(Op.bytesLess out[k] t || out[k] == t)) = false := by
                  by_cases he : out[k] = t
                  · simp [he]
                  · simp [less_lt hlt1 he]
                have hq4 : ((!Op.bytesLess out[k] t) && (!out[k] == t)) = false := by
                  by_cases he : out[k] = t
                  · simp [he]
                  · simp [less_lt hlt1 he]
                go_wp2
                go_quiet (fail)
                have hq := hl2.drewN nq
                have hbq : Below wo.heap.size wo (wr.drewN nq) := ⟨hbi.os, hbi.tape, hbi.output, hbi.size, hbi.block⟩
                go_wp2_with (at_builtin; refine wpList_append_str rfl _ _ rfl wo.heap.size u5 (out.take k) out[k] rfl hq _ rfl ?c0 ?c1 ?c2 ?_)
                case c0 => simp
                case c1 => omega
                case c2 => exact hbi.size
                intro v2 w2 hs2 hb2 hz2
                have hbw2 : Below wo.heap.size wo w2 := hbq.trans hb2
                have HS2 := Lib.hid hs2
                clear hs2
                go_wp2
                go_roundw
                case rel => exact ⟨k + 1, by omega, by go_num, by rw [HFP.out], by rw [HF.out]; simpa using HS2.out, hbw2⟩
                case measure => simp [intOf]; omega
            · rw [hp] at hl
              have hl2 : Strs wr wo.heap.size u5 (ins t (out.take k)) := hl
              clear hl
              have hll : (ins t (out.take k)).length ≤ 1001 := by rw [len_ins]; simp; omega
              have hfin : (if insP t (out.take (k + 1)) = true then ins t (out.take (k + 1)) else out.take (k + 1)) = ins t (out.take k) ++ [out[k]] := by
                rw [HSNP.out, hp, HTK.out, Bool.true_or, if_pos rfl, ins_later hp]
              have hfp : insP t (out.take (k + 1)) = true := by rw [HSNP.out, hp]; rfl
              have HF := Lib.hid hfin; have HFP := Lib.hid hfp; clear hfin hfp
              go_wp2
              go_quiet (fail)
              have hq := hl2.drewN nq
              have hbq : Below wo.heap.size wo (wr.drewN nq) := ⟨hbi.os, hbi.tape, hbi.output, hbi.size, hbi.block⟩
              go_wp2_with (at_builtin; refine wpList_append_str rfl _ _ rfl wo.heap.size u5 (ins t (out.take k)) out[k] rfl hq _ rfl ?c0 ?c1 ?c2 ?_)
              case c0 => simp
              case c1 => omega
              case c2 => exact hbi.size
              intro v2 w2 hs2 hb2 hz2
              have hbw2 : Below wo.heap.size wo w2 := hbq.trans hb2
              have HS2 := Lib.hid hs2
              clear hs2
              go_wp2
              go_roundw
              case rel => exact ⟨k + 1, by omega, by go_num, by rw [HFP.out], by rw [HF.out]; simpa using HS2.out, hbw2⟩
              case measure => simp [intOf]; omega
          · obtain rfl : k = out.length := by omega
            rw [List.take_of_length_le (Nat.le_refl _)] at hl ⊢
            cases hp : insP t out
            · rw [hp] at hl
              have hl2 : Strs wr wo.heap.size u5 out := hl
              clear hl
              have hfin : rTen (L.take (i + 1)) = out ++ [t] := by rw [HSN.out, if_neg (by simpa using hz), ← HT.out, ← HOUT.out, ins_none hp]
              have HF := Lib.hid hfin; clear hfin
              go_wp2_with (at_builtin; refine wpList_append_str rfl _ _ rfl wo.heap.size u5 out t rfl hl2 _ rfl ?c0 ?c1 ?c2 ?_)
              case c0 => simp
              case c1 => omega
              case c2 => exact hbi.size
              intro v2 w2 hs2 hb2 hz2
              have hbw2 : Below wo.heap.size wo w2 := hbi.trans hb2
              have HS2 := Lib.hid hs2
              clear hs2
              go_wp2
              go_roundw
              case rel => exact ⟨i + 1, by omega, by go_num, by rw [HF.out]; exact HS2.out.base (by omega), hbel.trans (hbw2.mono (by omega)), (hbw2.block _ hsz).trans HB0.out⟩
              case measure => simp [intOf]; omega
            · rw [hp] at hl
              have hl2 : Strs wr wo.heap.size u5 (ins t out) := hl
              clear hl
              have hfin : rTen (L.take (i + 1)) = ins t out := by rw [HSN.out, if_neg (by simpa using hz), ← HT.out, ← HOUT.out]
              have HF := Lib.hid hfin; clear hfin
              go_wp2
              go_roundw
              case rel => exact ⟨i + 1, by omega, by go_num, by rw [HF.out]; exact hl2.base (by omega), hbel.trans (hbi.mono (by omega)), (hbi.block _ hsz).trans HB0.out⟩
              case measure => simp [intOf]; omega
      · go_wp2
        go_roundw
        case rel => exact ⟨i + 1, by omega, by go_num, by rw [HSN.out, if_pos (by simpa using hz), ← HOUT.out]; exact hown, hbel, HB0.out⟩
        case measure => simp [intOf]; omega
    · clear hB0
      obtain rfl : i = L.length := by omega
      rw [List.take_of_length_le (Nat.le_refl _)] at hown
      have HO := Lib.hid hown
      clear hown
      go_wp2
      go_ret
      exact ⟨_, rfl, HO.out.base (Nat.zero_le _), hbel⟩

set_option maxHeartbeats 1000000 in
theorem rten_nil (all share : Int) (w : World) :
    Calls Try.prog 35 #[.agg #[.int .i64 all, .int .i64 share, .slice none 0 0]] w fun e w' => ∃ v, e = .returned v ∧ Strs w' 0 v [] ∧ Below w.heap.size w w' := by
  go_enter Try.func35, Try.ntmps35
  go_wp2
  refine wp_loop_rounds 1 ?_
  rw [rounds_succ]
  go_wp2
  go_ret
  exact ⟨_, rfl, Strs.nil _ _, (Below.refl _ _).alloc (Nat.le_refl _) _⟩

theorem rten_any (L : List Ln) (s : Value) (all share : Int) (w : World) (hL : LinesAt w s L) (hlen : L.length ≤ 1000) :
    Calls Try.prog 35 #[.agg #[.int .i64 all, .int .i64 share, s]] w fun e w' => ∃ v, e = .returned v ∧ Strs w' 0 v (rTen L) ∧ Below w.heap.size w w' := by
  rcases hL.form with ⟨rfl, rfl⟩ | ⟨g, cap, rfl, hg, hc⟩
  · exact rten_nil all share w
  · exact rten_some L g cap all share w hg hc hlen

end Go.Proofs.Ytjcpmfioppopcaa
