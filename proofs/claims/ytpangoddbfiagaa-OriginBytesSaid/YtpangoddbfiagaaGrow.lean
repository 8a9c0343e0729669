/- Grow and Gone, walked over the state. -/
import Derived.Test.YtpangoddbfiagaaMeth2
namespace Go.Proofs.Ytpangoddbfiagaa
open Go.RowKit Go.Maps Go.ChangeMaps
set_option linter.unusedVariables false
set_option linter.unusedSimpArgs false

theorem run_append_where {w : World} (base : Nat) (ty : TypeId) (i : TypeInfo) (z : Value) (hi : Try.prog.info? 5 = some i) (hz : i.zero = some z) (hsize : i.size = 1) (hby : i.bytes = 1) (hzs : z.cells.size = 1)
    (v : Value) (n : Nat) (xs : List Value) (hown : w.ownsRow base 5 1 v n xs)
    (a : Addr) (m c : Nat) (news : List Value) (hl : news.length = m * 1) (hnews : ∀ j u, news[j]? = some u → w.cell? (a.add j) = some u) (h1 : ∀ u ∈ news, u.oneCell' = true)
    (h63 : n + m ≤ 1000000) {v' : Value} {w' : World} (hr : (Builtin.append_ #[22, 22] ty #[v, .slice (some a) m c]).run Try.prog w = .ok v' w') : ∀ x, v'.ownBlock = some x → v.ownBlock = some x ∨ w.heap.size ≤ x := by
  rcases hown.2 with ⟨rfl, rfl⟩ | ⟨g, cap, cur, rfl, hbg, hg, hnc, hcm, hcs, htake⟩
  · have hx : xs = [] := List.eq_nil_of_length_eq_zero (by simpa using hown.1)
    subst hx
    obtain ⟨v2, w2, hr2, h2, _, _⟩ := run_append_own (P := Try.prog) w w.heap.size 22 ty 5 i z 1 1 Try.underlying22 hi hz hsize hby hzs (by decide) (.slice none 0 0) 0 [] (World.ownsRow_nil _ _ _ _) a m c news hl hnews h1 (by unfold maxLen; omega) (by omega) (Nat.le_refl _)
    rw [hr] at hr2
    cases hr2
    exact fun x hx => .inr (h2.lt x hx).1
  · by_cases hroom : n + m ≤ cap
    · have hr2 := run_append_room (P := Try.prog) w 22 ty 5 i Try.underlying22 hi g n cap cur hg a m c news (by rw [hsize]; exact hl) hnews h1 hroom (by rw [hsize, hl, hcs]; omega)
      rw [hr] at hr2
      cases hr2
      exact fun x hx => .inl hx
    · have holds : ∀ j u, xs[j]? = some u → w.cell? ((⟨g, 0, none⟩ : Addr).add j) = some u := hown.cells (g := g) rfl
      have hr2 := run_append_grow (P := Try.prog) w 22 ty 5 i z Try.underlying22 hi hz ⟨g, 0, none⟩ n cap xs (by rw [hsize]; exact hown.1) holds a m c news (by rw [hsize]; exact hl) hnews (by omega) (by omega) (growslice_fits (by omega) (by rw [hby]; omega))
      rw [hr] at hr2
      cases hr2
      exact fun x hx => .inr (by cases hx; exact Nat.le_refl _)
set_option maxRecDepth 100000 in
/-- 'append(v, u...)' of bytes; where the row lies then. -/
theorem wpList_growB {W : World} {ops : Array Oper} {rest : List Oper} {o : Oper} {a : Act} {Q : Exit → Act → World → Prop}
    (hgd : o.guard = none) (s x : Operand) (ho : o.op = .call { callee := .builtin .append, args := #[s, x], argTypes := #[22, 22] }) (base : Nat) (v u : Value) (ys bs : Bs) (hown : BRow W base v ys) (hsrc : BytesAt W u bs) (hs : a.eval s = v) (hx : a.eval x = u) (hlen : ys.length + bs.length ≤ 1000000) (hbase : base ≤ W.heap.size)
    (h : ∀ v' w', BRow w' base v' (ys ++ bs) → W.grownBy w' v.ownBlock → (∀ x, v'.ownBlock = some x → v.ownBlock = some x ∨ W.heap.size ≤ x) → wpList Try.prog ops Q rest (a.put o.dst v') w') : wpList Try.prog ops Q (o :: rest) a W := by
  obtain ⟨i0, hi, hz0, hz1, hz2⟩ := info_parts info5
  obtain ⟨A, c, rfl, hc0, hc1, hc⟩ := hsrc
  cases A with
  | none =>
    have hx0 : bs = [] := by
      cases bs with
      | nil => rfl
      | cons x xs => obtain ⟨b, off, e, _⟩ := hc 0 (by simp); cases e
    subst hx0
    have hc0 := hc1 rfl
    subst hc0
    refine wpList_append_own_none hgd s x 22 ho base 5 i0 1 Try.underlying22 hi v _ _ hs hown hx ?_
    exact h v W (by simpa using hown) ⟨rfl, rfl, rfl, Nat.le_refl _, fun _ _ _ => rfl⟩ (fun x hx => .inl hx)
  | some A =>
    have hl : (bs.map byteV).length = bs.length * 1 := by simp
    have hone : ∀ q ∈ bs.map byteV, q.oneCell' = true := by intro q hq; obtain ⟨z, _, rfl⟩ := List.mem_map.1 hq; rfl
    have hnews : ∀ j u, (bs.map byteV)[j]? = some u → W.cell? (A.add j) = some u := by
      intro j q hq
      have hj : j < (bs.map byteV).length := (List.getElem?_eq_some_iff.1 hq).1
      obtain ⟨b, off, e, hcell⟩ := hc j hj
      injection e with e
      subst e
      rw [List.getElem?_eq_getElem hj] at hq
      rw [← hq, add_plain]; exact hcell
    simp only [List.length_map] at hx
    obtain ⟨v', w', hr, h2, h3, _⟩ := run_append_own (P := Try.prog) W base 22 o.type 5 i0 _ 1 1 Try.underlying22 hi hz0 hz1 hz2 rfl (by decide) v ys.length (ys.map byteV) hown A bs.length c (bs.map byteV) hl hnews hone (by unfold maxLen; omega) (by omega) hbase
    have h4 := run_append_where base o.type i0 _ hi hz0 hz1 hz2 rfl v ys.length (ys.map byteV) hown A bs.length c (bs.map byteV) hl hnews hone (by omega) hr
    refine wpList_plain hgd fun K hK => ?_
    unfold Oper.wp execOp
    simp only [ho, resolve, invoke, builtin, Sem.run_bind, Sem.run_pure, Result.andThen_ok, List.map_toArray, List.map_cons, List.map_nil, hs, hx, hr]
    refine hK _ _ (h v' w' ?_ h3 h4)
    unfold BRow
    rw [List.length_append, List.map_append]
    exact h2
theorem grownBy_extB {w w' : World} {r : Option Nat} (h : w.grownBy w' r) : ExtB r.toList w w' := ⟨h.os, h.tape, h.output, h.size, fun k hk hx => h.block k hk (fun e => hx (by rw [← e]; simp))⟩
section
variable {w : World} {b B N : Nat} {own : Nat → Prop} {vs : List Vn} {ss : List Sn} {sa : List Nat}
set_option maxRecDepth 100000 in
set_option maxHeartbeats 1000000 in
theorem grow_any (hI : OI w b B N own vs ss sa) {o bs : Bs} {u : Value} (ho : o.length ≤ 1000000) (hu : BytesAt w u bs) (hbs : bs.length ≤ 1000) (hcap : ∀ i v, nowI vs o = some i → vs[i]? = some v → v.bytes.length + bs.length ≤ 100000) :
    Calls Try.prog 17 #[.pointer (some ⟨b, 0, none⟩), .string ⟨o.toArray⟩, u] w fun e w' => e = .returned (.int .i64 (growA vs o bs).1) ∧ OI w' b B N (grownOwn own w w') (growA vs o bs).2 ss sa ∧ ExtP own w w' := by
  obtain ⟨gs, mo, mh, H, K, h⟩ := hI
  have own_w : ∀ i, grownOwn own w w i → own i := fun i hi => by
    rcases hi with hi | hi
    · exact hi
    · omega
  cases hn : nowI vs o with
  | none =>
    have em : growA vs o bs = (6, vs) := by simp [growA, hn]
    rw [em]
    have hg := Lib.hid (growing_none h ho hn)
    have HI := Lib.hid (show OI w b B N (grownOwn own w w) vs ss sa from ⟨gs, mo, mh, H, K, h.keep (fun _ _ => rfl) (Nat.le_refl _) (fun i hi => .inl hi) (fun i hi => h.lt i (own_w i hi)) (fun i hi => h.low i (own_w i hi))⟩)
    clear h hn em hcap own_w
    go_enter Try.func17, Try.ntmps17
    go_wp2_with (go_at_call 44; refine hg.out.mono ?_; rintro e w1 ⟨rfl, rfl⟩)
    go_ret
    exact ⟨rfl, HI.out, .of (Ext.refl _)⟩
  | some i =>
    obtain ⟨v, hv, _, _⟩ := nowI_some hn
    obtain ⟨g, hg, hok⟩ := h.vers.get hv
    obtain ⟨A, c, hbv⟩ := hok.bvs
    cases hlen : (v.m.len == -1) with
    | false =>
      have em : growA vs o bs = (11, vs) := by simp [growA, hn, hv, hlen]
      rw [em]
      have hg := Lib.hid (growing_not h ho hn hv hg hlen)
      have HI := Lib.hid (show OI w b B N (grownOwn own w w) vs ss sa from ⟨gs, mo, mh, H, K, h.keep (fun _ _ => rfl) (Nat.le_refl _) (fun i hi => .inl hi) (fun i hi => h.lt i (own_w i hi)) (fun i hi => h.low i (own_w i hi))⟩)
      clear h hn em hok hlen hbv hcap own_w
      go_enter Try.func17, Try.ntmps17
      go_wp2_with (go_at_call 44; refine hg.out.mono ?_; rintro e w1 ⟨rfl, rfl⟩)
      go_ret
      exact ⟨rfl, HI.out, .of (Ext.refl _)⟩
    | true =>
      have em : growA vs o bs = (0, vs.set i (growV v bs)) := by simp [growA, hn, hv, hlen]
      rw [em]
      have hgr := Lib.hid (growing_ok h ho hn hv hg hlen)
      have HI := Lib.hid h; have HV := Lib.hid hv; have HG := Lib.hid hg; have OK := Lib.hid hok; have HBV := Lib.hid hbv
      have k11 := blk_cell hok.blk 11
      simp [verC, hbv] at k11
      have hlb := hcap i v hn hv
      have HU := Lib.hid hu
      obtain ⟨A2, c2, rfl, _, _, _⟩ := hu
      rw [List.length_map] at HU ⊢
      obtain ⟨q, hq⟩ : ∃ q, q = g.b := ⟨_, rfl⟩
      rw [← hq] at hgr k11
      have HQ := Lib.hid hq
      clear h hn em hok hlen hbv hv hg hq hcap own_w
      go_enter Try.func17, Try.ntmps17
      go_wp2_with (first | (go_at_call 44; refine hgr.out.mono ?_; rintro e w1 ⟨rfl, rfl⟩) | (at_builtin; refine wpList_growB rfl _ _ rfl B (.slice A v.bytes.length c) (.slice A2 bs.length c2) v.bytes bs (by rw [← HBV.out]; exact OK.out.row) HU.out rfl rfl (by omega) HI.out.lowB ?_; intro v2 W2 r2 g2 p2; refine stop_of ?_))
      unfold Stop
      obtain ⟨A3, c3, hv2⟩ := own_slice r2
      subst hv2
      have ok := OK.out
      have XB := grownBy_extB g2
      have hqX : ∀ x, (Value.slice A v.bytes.length c).ownBlock = some x → x ≠ q := fun x e e2 => by
        rw [← HBV.out] at e
        have := ok.kbv e; rw [e2, HQ.out, ok.kb] at this; cases this
      have hblk : W2.heap[q]? = some (.cells (verC { v.m with hav := g.h } g.kv (.slice A v.bytes.length c) v.went) 90 (0, 0)) := by
        have := XB.heap (r := q) (o := .cells (verC { v.m with hav := g.h } g.kv g.bv v.went) 90 (0, 0)) (by rw [HQ.out]; exact ok.blk) (by simp; exact fun e => hqX q e rfl)
        rw [HBV.out] at this; exact this
      have HBLK := Lib.hid hblk; have XB2 := Lib.hid XB; have R2 := Lib.hid r2; have P2 := Lib.hid p2
      clear hblk XB r2 p2 hqX g2 ok k11
      go_wp2_with (refine wpList_put 22 rfl _ _ rfl _ 11 90 _ (verC { v.m with hav := g.h } g.kv (.slice A3 (v.bytes ++ bs).length c3) v.went) [.slice A3 (v.bytes ++ bs).length c3] (.slice A3 (v.bytes ++ bs).length c3) HBLK.out rfl rfl rfl (by simp [verC]) rfl size22 (by simp [putA, verC]) ?_; intro W3 x3 n3 s3; refine stop_of ?_)
      unfold Stop
      have X3 := Lib.hid x3; have N3 := Lib.hid n3
      clear x3 n3
      go_wp2
      go_ret
      have ok := OK.out
      have hqlt : q < w.heap.size := by rw [HQ.out]; exact blk_lt ok.blk
      have hsz : w.heap.size ≤ W2.heap.size := XB2.out.size
      have XX : ExtB (q :: (Value.slice A v.bytes.length c).ownBlock.toList) w W3 := (XB2.out.mono (by intro k hk; exact List.mem_cons_of_mem _ hk)).trans (X3.out.mono (by intro k hk; simp at hk; simp [hk]))
      have hXX : ∀ x ∈ q :: (Value.slice A v.bytes.length c).ownBlock.toList, x = g.b ∨ g.bv.ownBlock = some x := fun x hx => by
        rcases List.mem_cons.1 hx with h1 | h1
        · exact .inl (h1.trans HQ.out)
        · exact .inr (by rw [HBV.out]; simpa using h1)
      have hp2 : ∀ x, (Value.slice A3 (v.bytes ++ bs).length c3).ownBlock = some x → g.bv.ownBlock = some x ∨ w.heap.size ≤ x := fun x e => by rw [HBV.out]; exact P2.out x e
      have r3 : BRow W3 B (.slice A3 (v.bytes ++ bs).length c3) (v.bytes ++ bs) := own_extB R2.out X3.out (by
        intro x hx e
        have hx' : x = q := by simpa using hx
        subst hx'
        rcases hp2 _ e with h1 | h1
        · have := ok.kbv h1; rw [HQ.out, ok.kb] at this; cases this
        · omega)
      have hkeys : SRow W3 B g.kv v.m.keys := own_extB ok.keys XX (by
        intro x hx e
        rcases hXX x hx with h1 | h1
        · subst h1; have := ok.kk e; rw [ok.kb] at this; cases this
        · have := ok.kk e; rw [ok.kbv h1] at this; cases this)
      have hz : MetaZ v.m := ok.z
      rw [HQ.out] at N3
      refine ⟨rfl, ⟨gs.set i ⟨g.b, g.kv, .slice A3 (v.bytes ++ bs).length c3, g.h⟩, mo, mh, H, K, HI.out.setV (v' := growV v bs) HV.out HG.out rfl ⟨N3.out, hkeys, r3, .inl ok.ob, fun x e => .inl (ok.ok x e), fun x e => ?_, hz, by simp [growV]; omega⟩ XX hXX hp2 (fun _ hi => .inl hi) (fun j hj => ?_) (fun j hj => ?_) rfl rfl rfl rfl⟩, .ofB XX (fun k hk => .inl ?_)⟩
      · rcases hp2 x e with h1 | h1
        · exact .inl (ok.obv x h1)
        · exact .inr ⟨h1, (r3.lt x e).2⟩
      · rcases hj with hj | hj
        · exact Nat.lt_of_lt_of_le (HI.out.lt j hj) XX.size
        · exact hj.2
      · rcases hj with hj | hj
        · exact HI.out.low j hj
        · exact Nat.le_trans HI.out.lowB hj.1
      · rcases hXX k hk with h1 | h1
        · rw [h1]; exact ok.ob
        · exact ok.obv k h1
end
end Go.Proofs.Ytpangoddbfiagaa
