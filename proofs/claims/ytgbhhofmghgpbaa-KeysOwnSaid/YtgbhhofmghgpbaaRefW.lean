/- The reference's With, walked. -/
import Derived.Test.YtgbhhofmghgpbaaRefO
namespace Go.Proofs.Ytgbhhofmghgpbaa
open Go.RowKit Go.Sort Go.Shelf Go.Maps Go.ChangeMaps
set_option linter.unusedVariables false

theorem info2 : (Try.prog.info? 2).map (fun i => (i.zero, i.size, i.bytes)) = some (some (.int .i64 0), 1, 8) := by kernel_rfl
theorem wpList_append_int {W : World} {ops : Array Oper} {rest : List Oper} {o : Oper} {a : Act} {Q : Exit → Act → World → Prop}
    (hgd : o.guard = none) (s x : Operand) (ho : o.op = .call { callee := .builtin .append, args := #[s, x], argTypes := #[33, 33] })
    (B : Nat) (v : Value) (zs : List Int) (z : Int) (hown : IRow W B v zs) (hs' : a.eval s = v) (gN : Nat) (hx : a.eval x = .slice (some ⟨gN, 0, none⟩) 1 1) (hgN : W.heap.size = gN)
    (hl : zs.length ≤ 1000000) (hB : B ≤ W.heap.size)
    (hK : ∀ v' w', IRow w' B v' (zs ++ [z]) → W.grownBy w' v.ownBlock → wpList Try.prog ops Q rest (a.put o.dst v') w') :
    wpList Try.prog ops Q (o :: rest) a (W.alloc (.cells #[.int .i64 z] 2)) := by
  obtain ⟨i0, hi, hz0, hz1, hz2⟩ := info_parts info2
  refine wpList_append_one hgd s x 33 ho B 2 i0 _ 1 8 Try.underlying33 hi hz0 hz1 hz2 rfl (by decide) v _ _ hs' hown #[.int .i64 z] gN hx hgN rfl (by simp [Value.oneCell']) (by unfold maxLen; omega) (by omega) hB ?_
  intro v' w' h1 h2 h3
  refine hK v' w' ?_ h2
  unfold IRow
  rw [List.map_append, List.length_append]
  exact h1
/-- A pair that may be the next: its key is asked for, its number is greater than the last one told (lo, none: 0). -/
def Cand (ks : List Bs) (lo : Int) (p : Pr) : Prop := p.2 ∈ ks ∧ lo < p.1
/-- The least of them, or 0. -/
def Best (ks : List Bs) (lo : Int) (L : List Pr) (b : Int) : Prop := (b = 0 ∧ ∀ p ∈ L, ¬ Cand ks lo p) ∨ (1 ≤ b ∧ (∃ p ∈ L, Cand ks lo p ∧ p.1 = b) ∧ ∀ p ∈ L, Cand ks lo p → b ≤ p.1)
theorem Best.snoc_no {ks : List Bs} {lo b : Int} {L : List Pr} {p : Pr} (h : Best ks lo L b) (hn : ¬ Cand ks lo p) : Best ks lo (L ++ [p]) b := by
  rcases h with ⟨h1, h2⟩ | ⟨h1, ⟨q, h2, h3⟩, h4⟩
  · exact .inl ⟨h1, fun q hq => by
      rcases List.mem_append.1 hq with hq | hq
      · exact h2 q hq
      · rw [List.mem_singleton] at hq; subst hq; exact hn⟩
  · exact .inr ⟨h1, ⟨q, List.mem_append_left _ h2, h3⟩, fun q hq hc => by
      rcases List.mem_append.1 hq with hq | hq
      · exact h4 q hq hc
      · rw [List.mem_singleton] at hq; subst hq; exact absurd hc hn⟩
theorem Best.snoc_new {ks : List Bs} {lo b : Int} {L : List Pr} {p : Pr} (h : Best ks lo L b) (hc : Cand ks lo p) (h1 : 1 ≤ p.1) (hb : b = 0 ∨ p.1 < b) : Best ks lo (L ++ [p]) p.1 := by
  refine .inr ⟨h1, ⟨p, by simp, hc, rfl⟩, fun q hq hq2 => ?_⟩
  rcases List.mem_append.1 hq with hq | hq
  · rcases h with ⟨_, h2⟩ | ⟨h3, _, h4⟩
    · exact absurd hq2 (h2 q hq)
    · have := h4 q hq hq2; omega
  · rw [List.mem_singleton] at hq; subst hq; omega
theorem Best.snoc_old {ks : List Bs} {lo b : Int} {L : List Pr} {p : Pr} (h : Best ks lo L b) (hb : b ≠ 0) (hp : ¬ p.1 < b) : Best ks lo (L ++ [p]) b := by
  rcases h with ⟨h1, _⟩ | ⟨h1, ⟨q, h2, h3⟩, h4⟩
  · exact absurd h1 hb
  · exact .inr ⟨h1, ⟨q, List.mem_append_left _ h2, h3⟩, fun q hq hc => by
      rcases List.mem_append.1 hq with hq | hq
      · exact h4 q hq hc
      · rw [List.mem_singleton] at hq; subst hq; omega⟩
def lastI (zs : List Int) : Int := zs.getLast?.getD 0
structure ToldI (L : List Pr) (ks : List Bs) (zs : List Int) : Prop where
  up : zs.Pairwise (· < ·)
  mem : ∀ id ∈ zs, 1 ≤ id ∧ ∃ k ∈ ks, (id, k) ∈ L
  all : ∀ id k, k ∈ ks → (id, k) ∈ L → id ≤ lastI zs → id ∈ zs
theorem lastI_snoc (zs : List Int) (z : Int) : lastI (zs ++ [z]) = z := by simp [lastI]
theorem ToldI.len {L : List Pr} {ks : List Bs} {zs : List Int} (h : ToldI L ks zs) : zs.length ≤ L.length := by
  refine Nat.le_trans (nodup_len (h.up.imp fun h e => by omega) (m := L.map Prod.fst) fun x hx => ?_) (by simp)
  obtain ⟨_, k, _, hm⟩ := h.mem x hx
  exact List.mem_map.2 ⟨_, hm, rfl⟩
theorem ToldI.last {L : List Pr} {ks : List Bs} {zs : List Int} (h : ToldI L ks zs) : ∀ id ∈ zs, id ≤ lastI zs := fun id hid => by
  obtain ⟨ys, y, rfl⟩ : ∃ ys y, zs = ys ++ [y] := ⟨zs.dropLast, zs.getLast (List.ne_nil_of_mem hid), (List.dropLast_concat_getLast _).symm⟩
  rw [lastI_snoc]
  rcases List.mem_append.1 hid with h1 | h1
  · have := (List.pairwise_append.1 h.up).2.2 id h1 y (by simp); omega
  · rw [List.mem_singleton] at h1; omega
theorem ToldI.snoc {L : List Pr} {ks : List Bs} {zs : List Int} (h : ToldI L ks zs) {b : Int} (hb : Best ks (lastI zs) L b) (h0 : b ≠ 0) : ToldI L ks (zs ++ [b]) := by
  rcases hb with ⟨h1, _⟩ | ⟨h1, ⟨p, h2, ⟨h3, h4⟩, h5⟩, h6⟩
  · exact absurd h1 h0
  · refine ⟨?_, fun id hid => ?_, fun id k hk hm hle => ?_⟩
    · rw [List.pairwise_append]
      refine ⟨h.up, by simp, fun a ha c hc => ?_⟩
      rw [List.mem_singleton] at hc; have := h.last a ha; omega
    · rcases List.mem_append.1 hid with hid | hid
      · exact h.mem id hid
      · rw [List.mem_singleton] at hid; subst hid
        exact ⟨h1, p.2, h3, by rw [← h5]; exact h2⟩
    · rw [lastI_snoc] at hle
      by_cases hl : id ≤ lastI zs
      · exact List.mem_append_left _ (h.all id k hk hm hl)
      · have := h6 (id, k) hm ⟨hk, by omega⟩
        exact List.mem_append_right _ (by rw [List.mem_singleton]; simp at this; omega)
theorem ToldI.done {L : List Pr} {ks : List Bs} {zs : List Int} (h : ToldI L ks zs) (hb : Best ks (lastI zs) L 0) (id : Int) : id ∈ zs ↔ ∃ k ∈ ks, (id, k) ∈ L := by
  rcases hb with ⟨_, h2⟩ | ⟨h1, _⟩
  · refine ⟨fun hid => (h.mem id hid).2, fun ⟨k, hk, hm⟩ => h.all id k hk hm (Int.not_lt.1 fun hlt => h2 _ hm ⟨hk, hlt⟩)⟩
  · omega
theorem lastI_at {zs : List Int} {q : Nat} (h : zs.length = q + 1) : zs[q]? = some (lastI zs) := by
  obtain ⟨ys, y, rfl⟩ : ∃ ys y, zs = ys ++ [y] := ⟨zs.dropLast, zs.getLast (by intro e; subst e; simp at h), (List.dropLast_concat_getLast _).symm⟩
  rw [lastI_snoc]
  have : ys.length = q := by simpa using h
  subst this; simp
def lenV : Value → Nat
  | .slice _ n _ => n
  | _ => 0
theorem irow_last {w : World} {C : Nat} {A : Option Addr} {q c : Nat} {zs : List Int} (h : IRow w C (.slice A (q + 1) c) zs) (hq : q + 1 = zs.length) : ∃ gz, A = some ⟨gz, 0, none⟩ ∧ w.cell? ⟨gz, q, none⟩ = some (.int .i64 (lastI zs)) := by
  have h' := h
  rcases h.2 with ⟨e, h0⟩ | ⟨g, cap, cur, e, hb, hg, _⟩
  · omega
  · injection e with e1 e2 e3
    refine ⟨g, e1, ?_⟩
    subst e1 e3
    have h'' : w.ownsRow C 2 1 (.slice (some ⟨g, 0, none⟩) (q + 1) c) (q + 1) (zs.map (Value.int .i64)) := by rw [hq] at h' ⊢; exact h'
    rw [World.ownsRow.cellAt h'' q (by omega), List.getElem?_map, lastI_at hq.symm]; rfl
structure WoRel (w : World) (L : List Pr) (ks : List Bs) (zs : List Int) (out : Value) (wr : World) : Prop where
  row : IRow wr w.heap.size out zs
  told : ToldI L ks zs
  ext : Ext w wr
set_option maxRecDepth 100000 in
set_option maxHeartbeats 4000000 in
theorem rwith_any (w : World) (B x : Nat) (L : List Pr) (sv : Value) (ks : List Bs) (h : RAt w B x L) (hl : L.length ≤ 1000) (hL : ∀ p ∈ L, (1 : Int) ≤ p.1) (hT : Texts w.heap.size w sv ks) (hk : ks.length ≤ 1000) :
    Calls Try.prog 17 #[.pointer (some ⟨x, 0, none⟩), sv] w fun e w' => ∃ v zs, e = .returned v ∧ IRow w' w.heap.size v zs ∧ (zs.Pairwise (· < ·)) ∧ (∀ id, id ∈ zs ↔ ∃ k ∈ ks, (id, k) ∈ L) ∧ Ext w w' := by
  obtain ⟨hBx, v, hblk, hrow⟩ := h
  obtain ⟨A, c, rfl, hc⟩ := hrow.form
  obtain ⟨m, hm⟩ : ∃ m, m = L.length := ⟨_, rfl⟩
  rw [← hm] at hl hblk
  have hc0 : w.cell? ⟨x, 0, none⟩ = some (.slice A m c) := blk_cell hblk 0
  have HC := Lib.hid hc; have HM := Lib.hid hm; have HC0 := Lib.hid hc0; have HT := Lib.hid hT; have HL := Lib.hid hL
  clear hc hm hblk hrow hc0 hT hL
  go_enter Try.func17, Try.ntmps17
  go_wp2
  go_loopw [5, 6, 8, 14] (fun out _ _ _ wr => ∃ zs, WoRel w L ks zs out wr) (fun out _ _ _ _ => m - lenV out)
  case atStart => exact ⟨[], World.ownsRow_nil _ _ _ _, ⟨List.Pairwise.nil, by simp, fun id k hk hm hle => by have := HL.out _ hm; simp [lastI] at hle this; omega⟩, Ext.refl _⟩
  case round =>
    obtain ⟨zs, hr⟩ := hrel
    have R := Lib.hid hr
    clear hr
    obtain ⟨Az, cz, hv5⟩ := own_slice R.out.row
    obtain ⟨nz, hnz⟩ : ∃ n, n = zs.length := ⟨_, rfl⟩
    have hlz := R.out.told.len
    rw [← hnz] at hv5 hlz
    rw [← HM.out] at hlz
    have HNZ := Lib.hid hnz
    clear hnz
    subst hv5
    obtain ⟨w1, hw1⟩ : ∃ w1, w1 = wr := ⟨_, rfl⟩
    have HW1 := Lib.hid hw1
    clear hw1
    have hcx : wr.cell? ⟨x, 0, none⟩ = some (.slice A m c) := Ext.cell R.out.ext HC0.out
    go_wp2
    go_loopw [14, 6, 8] (fun i best _ wx => ∃ j : Nat, ∃ b : Int, j ≤ m ∧ i = .int .i64 j ∧ best = .int .i64 b ∧ Best ks (lastI zs) (L.take j) b ∧ Ext wr wx) (fun i _ _ _ => m - (intOf i).toNat)
    case atStart => exact ⟨0, 0, by omega, rfl, rfl, .inl ⟨rfl, by simp⟩, Ext.refl _⟩
    case round =>
      obtain ⟨j, b, hj, rfl, rfl, hb, hx⟩ := hrel
      have HB := Lib.hid hb; have HX := Lib.hid hx
      clear hb hx
      by_cases hlt : j < m
      · have hjs : j < L.length := by rw [← HM.out]; exact hlt
        obtain ⟨g, rfl, hg, c1, c2⟩ := HC.out j hjs
        have hi1 := HL.out L[j] (by simp)
        replace c1 := Ext.cell (R.out.ext.trans HX.out) c1
        replace c2 := Ext.cell (R.out.ext.trans HX.out) c2
        have htk : L.take (j + 1) = L.take j ++ [L[j]] := List.take_succ_eq_append_getElem hjs
        obtain ⟨p, hp⟩ : ∃ p, p = L[j] := ⟨_, rfl⟩
        rw [← hp] at c1 c2 htk hi1
        obtain ⟨i2, k⟩ := p
        dsimp only at c1 c2 hi1
        have X1 := Lib.hid (alloc_ext wr (.cells #[.int .i64 i2, .string ⟨k.toArray⟩] 66))
        have HIN : Hid (∀ n, Calls Try.prog 23 #[sv, .string ⟨k.toArray⟩] ((wr.alloc (.cells #[.int .i64 i2, .string ⟨k.toArray⟩] 66)).drewN n) fun e w' => e = .returned (.bool (decide (k ∈ ks))) ∧ w' = (wr.alloc (.cells #[.int .i64 i2, .string ⟨k.toArray⟩] 66)).drewN n) :=
          Lib.hid fun n => (rin_any _ _ sv ks k (texts_up (((R.out.ext.trans HX.out).trans X1.out).drewN n) HT.out) (by omega)).mono fun e w' ⟨h1, h2⟩ => ⟨h1, h2.symm⟩
        have HTK := Lib.hid htk
        clear hp hjs htk
        by_cases hin : k ∈ ks
        · rw [decide_eq_true hin] at HIN
          have HI := Lib.hid hin
          clear hin
          cases nz with
          | zero =>
            have hz : lastI zs = 0 := by
              have : zs = [] := List.length_eq_zero_iff.1 HNZ.out.symm
              subst this; rfl
            have HZ := Lib.hid hz
            clear hz
            by_cases hb0 : b = 0
            · have B2 : Hid (Best ks (lastI zs) (L.take (j + 1)) i2) := Lib.hid (by rw [HTK.out]; exact HB.out.snoc_new ⟨HI.out, by rw [HZ.out]; show (0 : Int) < i2; omega⟩ hi1 (.inl hb0))
              subst hb0
              go_wp2
              go_quiet ((go_at_call 23; exact Calls.quiet_of_same (HIN.out _)))
              go_wp2
              go_roundw
              case rel => exact ⟨j + 1, i2, by omega, by go_num, rfl, B2.out, (HX.out.trans X1.out).drewN _⟩
              case measure => simp [intOf]; omega
            · have e0 : (b == 0) = false := by simpa using hb0
              by_cases hlb : i2 < b
              · have B2 : Hid (Best ks (lastI zs) (L.take (j + 1)) i2) := Lib.hid (by rw [HTK.out]; exact HB.out.snoc_new ⟨HI.out, by rw [HZ.out]; show (0 : Int) < i2; omega⟩ hi1 (.inr hlb))
                go_wp2
                go_quiet ((go_at_call 23; exact Calls.quiet_of_same (HIN.out _)))
                go_wp2
                go_roundw
                case rel => exact ⟨j + 1, i2, by omega, by go_num, rfl, B2.out, (HX.out.trans X1.out).drewN _⟩
                case measure => simp [intOf]; omega
              · have B2 : Hid (Best ks (lastI zs) (L.take (j + 1)) b) := Lib.hid (by rw [HTK.out]; exact HB.out.snoc_old hb0 hlb)
                have e2 : decide (i2 < b) = false := decide_eq_false hlb
                go_wp2
                go_quiet ((go_at_call 23; exact Calls.quiet_of_same (HIN.out _)))
                go_wp2
                go_roundw
                case rel => exact ⟨j + 1, b, by omega, by go_num, rfl, B2.out, (HX.out.trans X1.out).drewN _⟩
                case measure => simp [intOf]; omega
          | succ q =>
            obtain ⟨gz, rfl, hzc⟩ := irow_last R.out.row HNZ.out
            have hzc2 := Ext.cell (HX.out.trans X1.out) hzc
            have e9 : (((q : Int) + 1) == 0) = false := by simp; omega
            have ew : IntKind.i64.wrap (q : Int) = q := IntWalk.i64_in _ (by omega)
            clear hzc
            by_cases hla : lastI zs < i2
            · have HLA := Lib.hid hla
              by_cases hb0 : b = 0
              · have B2 : Hid (Best ks (lastI zs) (L.take (j + 1)) i2) := Lib.hid (by rw [HTK.out]; exact HB.out.snoc_new ⟨HI.out, HLA.out⟩ hi1 (.inl hb0))
                subst hb0
                go_wp2
                go_quiet ((go_at_call 23; exact Calls.quiet_of_same (HIN.out _)))
                go_wp2
                go_roundw
                case rel => exact ⟨j + 1, i2, by omega, by go_num, rfl, B2.out, (HX.out.trans X1.out).drewN _⟩
                case measure => simp [intOf]; omega
              · have e0 : (b == 0) = false := by simpa using hb0
                by_cases hlb : i2 < b
                · have B2 : Hid (Best ks (lastI zs) (L.take (j + 1)) i2) := Lib.hid (by rw [HTK.out]; exact HB.out.snoc_new ⟨HI.out, HLA.out⟩ hi1 (.inr hlb))
                  go_wp2
                  go_quiet ((go_at_call 23; exact Calls.quiet_of_same (HIN.out _)))
                  go_wp2
                  go_roundw
                  case rel => exact ⟨j + 1, i2, by omega, by go_num, rfl, B2.out, (HX.out.trans X1.out).drewN _⟩
                  case measure => simp [intOf]; omega
                · have B2 : Hid (Best ks (lastI zs) (L.take (j + 1)) b) := Lib.hid (by rw [HTK.out]; exact HB.out.snoc_old hb0 hlb)
                  have e2 : decide (i2 < b) = false := decide_eq_false hlb
                  go_wp2
                  go_quiet ((go_at_call 23; exact Calls.quiet_of_same (HIN.out _)))
                  go_wp2
                  go_roundw
                  case rel => exact ⟨j + 1, b, by omega, by go_num, rfl, B2.out, (HX.out.trans X1.out).drewN _⟩
                  case measure => simp [intOf]; omega
            · have B2 : Hid (Best ks (lastI zs) (L.take (j + 1)) b) := Lib.hid (by rw [HTK.out]; exact HB.out.snoc_no fun h => hla h.2)
              have e2 : decide (lastI zs < i2) = false := decide_eq_false hla
              go_wp2
              go_quiet ((go_at_call 23; exact Calls.quiet_of_same (HIN.out _)))
              go_wp2
              go_roundw
              case rel => exact ⟨j + 1, b, by omega, by go_num, rfl, B2.out, (HX.out.trans X1.out).drewN _⟩
              case measure => simp [intOf]; omega
        · rw [decide_eq_false hin] at HIN
          have B2 : Hid (Best ks (lastI zs) (L.take (j + 1)) b) := Lib.hid (by rw [HTK.out]; exact HB.out.snoc_no fun h => hin h.1)
          clear hin
          go_wp2
          go_quiet ((go_at_call 23; exact Calls.quiet_of_same (HIN.out _)))
          go_wp2
          go_roundw
          case rel => exact ⟨j + 1, b, by omega, by go_num, rfl, B2.out, (HX.out.trans X1.out).drewN _⟩
          case measure => simp [intOf]; omega
      · have hjn : L.take j = L := List.take_of_length_le (by have := HM.out; omega)
        rw [hjn] at HB
        clear hjn
        by_cases hb0 : b = 0
        · subst hb0
          have R2 := Lib.hid (R.out.row); have T2 := Lib.hid (R.out.told.done HB.out)
          go_wp2
          go_ret
          exact ⟨_, zs, rfl, ownsRow_below R.out.row HX.out, R.out.told.up, T2.out, R.out.ext.trans HX.out⟩
        · have e0 : (b == 0) = false := by simpa using hb0
          have T2 := Lib.hid (R.out.told.snoc HB.out hb0)
          have Rr := Lib.hid (ownsRow_below R.out.row HX.out)
          have hl2 := T2.out.len
          rw [List.length_append, ← HM.out] at hl2
          clear hb0 HB
          go_wp2_with (at_builtin; refine wpList_append_int rfl _ _ rfl w.heap.size _ zs b Rr.out rfl _ rfl ?c0 ?c1 ?c2 ?_)
          case c0 => simp
          case c1 => have := HNZ.out; omega
          case c2 => exact (R.out.ext.trans HX.out).size
          intro v2 w2 q2 g2
          have R3 : Hid (WoRel w L ks (zs ++ [b]) v2 w2) := Lib.hid ⟨q2, T2.out, RowKit.Below.trans (R.out.ext.trans HX.out) (own_below Rr.out g2 (R.out.ext.trans HX.out).size)⟩
          clear q2 g2 Rr T2
          obtain ⟨A2, c2, hv2⟩ := own_slice R3.out.row
          have hl3 : (zs ++ [b]).length = nz + 1 := by simp [HNZ.out]
          rw [hl3] at hv2
          have hnl : nz < m := by have := HNZ.out; simp at hl2; omega
          clear hl2 hl3
          subst hv2
          go_wp2
          go_roundw
          case rel => exact ⟨_, R3.out⟩
          case measure => simp [lenV]; omega
end Go.Proofs.Ytgbhhofmghgpbaa
