/- stats.Tenants, walked: its numbers are, together, all that was told. -/
import Derived.Test.YtlddpdlebdjniaaTen
namespace Go.Proofs.Ytlddpdlebdjniaa
open Go.RowKit Go.Maps Go.ChangeMaps Go.Sort Go.Shelf
set_option linter.unusedVariables false

def TenR (w : World) (xs : List EvF) (e : Ending) (w' : World) : Prop := ∃ (v1 v2 : Value) (ts : List Bs) (M : Bs → Int), e = .returned (.tuple #[v1, v2]) ∧ ts.Nodup ∧ (∀ t, t ∈ ts ↔ M t ≠ 0) ∧ Adds M (toldS (evs xs)) ∧ IRow w' w.heap.size v2 (ts.map M) ∧ ts.length ≤ 1000 ∧ Ext w w'
structure TeSt (w : World) (xs : List EvF) (k : Nat) (wr : World) (T : Int → Int → Option Bs) (M : Bs → Int) : Prop where
  byt : ByAt wr w.heap.size k M
  obj : ObjAt wr (w.heap.size + 1) k T
  add : Adds M (toldS (evs (xs.take k)))
  tl : ∀ a b t, T a b = some t → t.length ≤ 12000
  ml : ∀ t, M t ≠ 0 → t.length ≤ 12000
  ext : Ext w wr
theorem TeSt.ext' {w wr w' : World} {xs : List EvF} {k : Nat} {T : Int → Int → Option Bs} {M : Bs → Int} (h : TeSt w xs k wr T M) (hx : Ext wr w') : TeSt w xs k w' T M := ⟨h.byt.ext hx, h.obj.ext hx, h.add, h.tl, h.ml, h.ext.trans hx⟩
theorem TeSt.getD {w wr : World} {xs : List EvF} {k : Nat} {T : Int → Int → Option Bs} {M : Bs → Int} (h : TeSt w xs k wr T M) (a b : Int) : ((T a b).getD []).length ≤ 12000 := by
  cases hT : T a b with
  | none => simp
  | some t => simpa using h.tl a b t hT
/-- Nothing told. -/
theorem TeSt.skip {w wr : World} {xs : List EvF} {k : Nat} {T : Int → Int → Option Bs} {M : Bs → Int} (h : TeSt w xs k wr T M) (hs : toldS (evs (xs.take (k + 1))) = toldS (evs (xs.take k))) : TeSt w xs (k + 1) wr T M := ⟨h.byt.more (by omega), h.obj.more (by omega), by rw [hs]; exact h.add, h.tl, h.ml, h.ext⟩
theorem grown_ext {w W w' : World} {g : Nat} (h : Ext w W) (hg : W.grownBy w' (some g)) (hb : w.heap.size ≤ g) : Ext w w' :=
  ⟨hg.os.trans h.os, hg.tape.trans h.tape, hg.output.trans h.output, Nat.le_trans h.size hg.size, fun i hi => (hg.block i (Nat.lt_of_lt_of_le hi h.size) (by simp; omega)).trans (h.block i hi)⟩
set_option maxRecDepth 100000 in
set_option maxHeartbeats 4000000 in
theorem ten_any (w : World) (A : Option Addr) (xs : List EvF) (c : Nat) (hO : EvFAt w A xs) (hS : SmallF xs) : Calls Try.prog 14 #[.slice A xs.length c] w (TenR w xs) := by
  have hl := hS.len
  have hbd : ∀ k, 0 ≤ toldS (evs (xs.take k)) ∧ toldS (evs (xs.take k)) ≤ 4000 := fun k => ⟨toldS_nonneg _, by
    have h1 := toldS_le hS
    have h2 : toldS (evs xs) = toldS (evs (xs.take k)) + toldS (evs (xs.drop k)) := by
      conv => lhs; rw [← List.take_append_drop k xs]
      simp only [toldS, evs, List.map_append, List.sum_append]
    have h3 := toldS_nonneg (evs (xs.drop k)); omega⟩
  obtain ⟨m, hm⟩ : ∃ m, m = xs.length := ⟨_, rfl⟩
  rw [← hm] at hl ⊢
  have HM := Lib.hid hm; have HO := Lib.hid hO; have HS := Lib.hid hS; have HBD := Lib.hid hbd
  have hmm := @run_makeMap Try.prog
  clear hm hO hS hbd
  go_enter Try.func14, Try.ntmps14
  go_wp2
  clear hmm
  have S0 : Hid (TeSt w xs 0 ((w.alloc (.map #[] 0)).alloc (.map #[] 0)) (fun _ _ => none) (fun _ => 0)) := Lib.hid (by
    refine ⟨⟨.map [], ?_, fun t => ⟨rfl, rfl⟩⟩, ⟨.map [], ?_, fun n w _ _ => ⟨rfl, rfl⟩⟩, by simpa [evs, toldS] using Adds.zero, fun a b t h => by simp at h, fun t h => by simp at h, (alloc_ext _ _).trans (alloc_ext _ _)⟩
    · obtain ⟨es, cl, h1, h2⟩ := World.ownsMap_made (H := Unit) w Try.prog 9 (plainElem Try.prog 2)
      exact ⟨es, cl, (alloc_ext _ _).heap h1, h2⟩
    · have := World.ownsMap_made (H := Unit) (w.alloc (.map #[] 0)) Try.prog 71 (plainElem Try.prog 9)
      rw [World.size_alloc] at this
      exact this)
  go_loopw [15, 7, 8, 9] (fun i _ _ _ wr => ∃ k : Nat, k ≤ m ∧ i = .int .i64 k ∧ ∃ T M, TeSt w xs k wr T M) (fun i _ _ _ _ => m - (intOf i).toNat)
  case atStart => exact ⟨0, by omega, rfl, _, _, S0.out⟩
  case round =>
    clear S0
    obtain ⟨k, hk, rfl, T, M, hr⟩ := hrel
    have R := Lib.hid hr
    clear hr
    by_cases hlt : k < m
    · have hks : k < xs.length := by rw [← HM.out]; exact hlt
      obtain ⟨b, off, cs, rfl, hb, hE, hF, hcs⟩ := (HO.out.ext R.out.ext) k hks
      have htk : xs.take (k + 1) = xs.take k ++ [xs[k]] := List.take_succ_eq_append_getElem hks
      have hfk := HS.out.fld xs[k] (by simp)
      obtain ⟨e, he⟩ : ∃ e, e = xs[k] := ⟨_, rfl⟩
      rw [← he] at hE hF htk hfk
      have hts : toldS (evs (xs.take (k + 1))) = toldS (evs (xs.take k)) + toldN e.ev := by
        rw [htk]; simp only [evs, List.map_append, List.map_cons, List.map_nil]; exact toldS_snoc _ _
      obtain ⟨W4, hW4⟩ : ∃ W4, W4 = (wr.alloc (.cells cs 46)).alloc (.cells #[.int .i64 e.ev.node, .int .i64 e.ev.who] 71) := ⟨_, rfl⟩
      have xW : Ext wr W4 := by rw [hW4]; exact (alloc_ext _ _).trans (alloc_ext _ _)
      have R4 := R.out.ext' xW
      have EB : W4.heap[wr.heap.size]? = some (.cells cs 46 (0, 0)) := by rw [hW4]; exact heap_alloc2_old wr _ _
      have PB4 : W4.heap[wr.heap.size + 1]? = some (.cells #[.int .i64 e.ev.node, .int .i64 e.ev.who] 71 (0, 0)) := by rw [hW4]; exact heap_alloc2_new wr _ _
      obtain ⟨⟨kd, nd, wh, wl, nb, ob⟩, fs⟩ := e
      dsimp only at hW4 hE hF hfk hts PB4
      have h0 : cs[0]? = some (.int .i64 kd) := hE.kind
      have h2 : cs[2]? = some (.int .i64 nd) := hE.node
      have h3 : cs[3]? = some (.int .i64 wh) := hE.who
      have hkey : keyOf Try.prog 71 (.agg #[.int .i64 nd, .int .i64 wh]) = some (pkey nd wh) := key71 hE.wn hE.ww
      have HE := Lib.hid hE; have HF := Lib.hid (hF.ext xW); have HCS := Lib.hid hcs; have HW4 := Lib.hid hW4; have H4 := Lib.hid R4; have HEB := Lib.hid EB; have HPB4 := Lib.hid PB4; have HTS := Lib.hid hts; have XW := Lib.hid xW; have HFK := Lib.hid hfk
      have HLT : Hid (w.heap.size + 1 < wr.heap.size) := Lib.hid (by obtain ⟨D, ⟨es, cl, h1, _⟩, _⟩ := R.out.obj; exact blk_lt h1)
      clear hE hF hcs hW4 R4 EB PB4 hts xW he htk hks hfk R
      go_wp2_with (first | (refine wpList_load_at rfl 46 _ rfl ⟨b, off + k * 57, none⟩ rfl cs _ (fun j u hj => by rw [add_plain]; exact HCS.out j u hj) Try.underlying46 rfl (by rw [size46, HE.out.size]) ?_) | (refine wpList_alloc46 rfl rfl ?_) | (refine wpList_store46 rfl _ _ rfl cs rfl rfl HE.out.size HE.out.one ?_; refine stop_of ?_))
      unfold Stop
      by_cases hk8 : kd = 8
      · subst hk8
        have et : toldN ⟨8, nd, wh, wl, nb, ob⟩ = 0 := by simp [toldN]
        rw [et] at HTS
        obtain ⟨Af, cf, h28, hfl⟩ := HF.out.at'
        obtain ⟨nf, hnf⟩ : ∃ nf, nf = fs.length := ⟨_, rfl⟩
        have hget := fun W' (x : Ext W4 W') => get19 W' Af fs cf 12000 [88, 45, 84, 101, 110, 97, 110, 116] (hfl.ext x) HFK.out.1 (fun f hf => by have := bytesF_mem hf; have := HFK.out.2; omega) (by omega) (by decide)
        rw [← hnf] at h28 hget
        have HGET : Hid (∀ W', Ext W4 W' → Calls Try.prog 19 #[.slice Af nf cf, .string ⟨#[88, 45, 84, 101, 110, 97, 110, 116]⟩] W' (GetR W' 12000)) := Lib.hid hget
        clear hget hfl hnf
        go_wp2_with fail
        rw [← HW4.out]
        have hne : w.heap.size + 1 < wr.heap.size := HLT.out
        refine wp_region_segs [w.heap.size + 1] [.inl [0, 1, 2, 3, 4], .inr (.inl 5), .inl [6, 7, 8], .inr (.inl 9)] (by kernel_rfl) (by kernel_rfl) (fun c a d v w h => by cases d <;> exact h) ?_
        have G0 : ∀ x : Grow [w.heap.size + 1] W4.drew, x.v.cell? ⟨wr.heap.size + 1, 0, none⟩ = some (.int .i64 nd) := fun x => x.ext.cell (a := W4.drew) (blk_cell HPB4.out 0) (by simp; omega)
        have G1 : ∀ x : Grow [w.heap.size + 1] W4.drew, x.v.cell? ⟨wr.heap.size + 1, 1, none⟩ = some (.int .i64 wh) := fun x => x.ext.cell (a := W4.drew) (blk_cell HPB4.out 1) (by simp; omega)
        have G2 : ∀ x : Grow [w.heap.size + 1] W4.drew, x.v.cell? ⟨wr.heap.size, 28, none⟩ = some (.slice Af nf cf) := fun x => x.ext.cell (a := W4.drew) ((blk_cell HEB.out 28).trans h28) (by simp; omega)
        (rw [wpSegs_inl]; simp only [pickOps, List.map_cons, List.map_nil, List.getD_cons_succ, List.getD_cons_zero]; (repeat (go_big_quiet_step (fail))); refine wpQuiet_nil ?_)
        clear G0 G1 G2
        (rw [wpSegs_grow]; simp only [pickOps, List.map_cons, List.map_nil, List.getD_cons_succ, List.getD_cons_zero]; go_wp2_with ((go_at_call 19; refine (HGET.out _ (Ext.drew (Ext.refl _))).mono ?_; rintro x u1 ⟨tx, r, rfl, htx, xu1⟩)))
        refine ⟨.of xu1 _, ?_⟩
        (rw [wpSegs_inl]; simp only [pickOps, List.map_cons, List.map_nil, List.getD_cons_succ, List.getD_cons_zero]; (repeat (go_big_quiet_step (fail))); refine wpQuiet_nil ?_)
        have XU := Lib.hid ((Ext.drew (Ext.refl W4)).trans xu1)
        clear xu1 HGET
        obtain ⟨D, hown, hD⟩ := (H4.out.obj.ext XU.out)
        have hsz : (⟨tx.toArray⟩ : ByteArray).size ≤ maxLen := by simp [ByteArray.size, maxLen]; omega
        have HOWN := Lib.hid hown; have HD := Lib.hid hD
        clear hown hD
        (rw [wpSegs_grow]; simp only [pickOps, List.map_cons, List.map_nil, List.getD_cons_succ, List.getD_cons_zero]; go_wp2_with ((at_mapUpdate; refine wpList_mapUpdate_in _ rfl _ _ _ 69 rfl 71 9 law71 Try.underlying69 _ (w.heap.size + 1) k D rfl HOWN.out ?c0 _ _ _ rfl rfl hkey _ [] (plainElem_string Try.underlying9 hsz) ?_; rotate_left; intro w5 hown5 hturn5)))
        case c0 => first | omega | (simp only [maxLen]; done) | (simp only [maxLen]; omega)
        have g5 := hturn5.grown
        refine ⟨⟨g5.os, g5.tape, g5.output, g5.size, fun i hi hx => g5.block i hi (by simpa using hx)⟩, ?_⟩
        rw [wpSegs_nil]
        have HE5 : Hid (w5.heap[wr.heap.size]? = some (.cells cs 46 (0, 0))) := Lib.hid ((g5.block _ (blk_lt (XU.out.heap HEB.out)) (by simp; omega)).trans (XU.out.heap HEB.out))
        have R5 : Hid (TeSt w xs (k + 1) w5 (fun a b => if a = nd ∧ b = wh then some tx else T a b) M) := Lib.hid ⟨((H4.out.byt.ext XU.out).grown g5 (by omega)).more (by omega), ⟨_, hown5, HD.out.put HOWN.out.isMap HE.out.wn HE.out.ww tx⟩, by rw [HTS.out]; simpa using H4.out.add, fun a b t h => by
          by_cases hc : a = nd ∧ b = wh
          · rw [if_pos hc] at h; injection h with h; subst h; exact htx
          · rw [if_neg hc] at h; exact H4.out.tl a b t h, H4.out.ml, grown_ext (H4.out.ext.trans XU.out) g5 (by omega)⟩
        have htl := told_any w5 cs ⟨8, nd, wh, wl, nb, ob⟩ HE.out
        rw [et] at htl
        have HTL := Lib.hid htl
        clear htl et g5 hown5 hturn5 HOWN HD hsz hne
        go_wp2_with (first | (refine wpList_load_want rfl _ rfl wr.heap.size rfl cs HE5.out HE.out.size ?_) | (go_at_call 20; refine HTL.out.mono ?_; rintro x w6 ⟨rfl, rfl⟩))
        go_roundw
        case rel => exact ⟨k + 1, by omega, by go_num, _, _, R5.out.ext' (alloc_ext _ _)⟩
        case measure => first | (simp [intOf]; done) | (simp [intOf]; omega)
      · have ek8 : (kd == 8) = false := by simpa using hk8
        have htl := told_any W4 cs ⟨kd, nd, wh, wl, nb, ob⟩ HE.out
        obtain ⟨W5, hW5⟩ : ∃ W5, W5 = W4.alloc (.cells cs 46) := ⟨_, rfl⟩
        have x5 : Ext W4 W5 := by rw [hW5]; exact alloc_ext _ _
        have R5 := Lib.hid (H4.out.ext' x5)
        by_cases htp : 0 < toldN ⟨kd, nd, wh, wl, nb, ob⟩
        · obtain ⟨tn, htn⟩ : ∃ tn, tn = toldN ⟨kd, nd, wh, wl, nb, ob⟩ := ⟨_, rfl⟩
          rw [← htn] at htl htp HTS
          have hb1 := HBD.out (k + 1)
          rw [HTS.out] at hb1
          have hb0 := HBD.out k
          have htn4 : tn ≤ 4000 := by omega
          obtain ⟨tt, htt⟩ : ∃ tt, tt = (T nd wh).getD [] := ⟨_, rfl⟩
          have htl12 : tt.length ≤ 12000 := by rw [htt]; exact H4.out.getD nd wh
          have hM0 := R5.out.add.nonneg tt
          have hM1 : M tt ≤ 4000 := by have := R5.out.add.le tt; omega
          have hlk := R5.out.obj.look0 HE.out.wn HE.out.ww
          rw [← htt] at hlk
          have hlb := R5.out.byt.look (t := tt) (by omega)
          have hkey9 := key9 (t := tt) (by omega)
          have c0 : W5.cell? ⟨wr.heap.size + 1, 0, none⟩ = some (.int .i64 nd) := Ext.cell x5 (blk_cell HPB4.out 0)
          have c1 : W5.cell? ⟨wr.heap.size + 1, 1, none⟩ = some (.int .i64 wh) := Ext.cell x5 (blk_cell HPB4.out 1)
          have HTL := Lib.hid htl; have HW5 := Lib.hid hW5
          have HTT := Lib.hid htt; have HB1 := Lib.hid hb1
          have htpi : (0 : Int) < tn := by omega
          clear htl hW5 x5 htn htp htt hb0 hb1 hk8
          rw [HW4.out] at HTL HEB
          obtain ⟨D, hown, hD⟩ := R5.out.byt
          have HOWN := Lib.hid hown; have HD := Lib.hid hD
          clear hown hD
          go_wp2_with (first | (refine wpList_load_want rfl _ rfl wr.heap.size rfl cs HEB.out HE.out.size ?_) | (go_at_call 20; refine HTL.out.mono ?_; rintro x w6 ⟨rfl, rfl⟩; refine stop_of ?_))
          unfold Stop
          rw [← HW4.out, ← HW5.out]
          generalize hMt : M tt = mt at hlb hM0 hM1
          have HMT := Lib.hid hMt
          clear hMt
          go_wp2_with (at_mapUpdate; refine wpList_mapUpdate_in _ rfl _ _ _ 68 rfl 9 2 law9 Try.underlying68 _ w.heap.size k D rfl HOWN.out ?c0 _ _ _ rfl rfl hkey9 _ [] (plainElem_int Try.underlying2 ?c1) ?_; rotate_left; rotate_left; intro w7 hown7 hturn7; refine stop_of ?_)
          case c0 => first | omega | (simp only [maxLen]; done) | (simp only [maxLen]; omega)
          case c1 => exact WalkArith.wf_i64 (by omega)
          unfold Stop
          have g7 := hturn7.grown
          have R7 : Hid (TeSt w xs (k + 1) w7 T (fun u => if u = tt then M tt + tn else M u)) := Lib.hid ⟨⟨_, hown7, by rw [HMT.out]; exact HD.out.put HOWN.out.isMap tt (by omega)⟩, (R5.out.obj.grown g7 (by omega)).more (by omega), by rw [HTS.out]; exact R5.out.add.step tt (by omega), R5.out.tl, fun t h => by
            by_cases hc : t = tt
            · rw [hc]; exact htl12
            · rw [if_neg hc] at h; exact R5.out.ml t h, grown_ext R5.out.ext g7 (Nat.le_refl _)⟩
          clear hown7 hturn7 g7 HOWN HD
          go_wp2
          go_roundw
          case rel => exact ⟨k + 1, by omega, by go_num, _, _, R7.out⟩
          case measure => first | (simp [intOf]; done) | (simp [intOf]; omega)
        · have et : toldN ⟨kd, nd, wh, wl, nb, ob⟩ = 0 := by omega
          rw [et] at htl HTS
          have R6 := Lib.hid (R5.out.skip (by rw [HTS.out]; simp))
          have HTL := Lib.hid htl
          rw [HW4.out] at HTL HEB
          rw [hW5, HW4.out] at R6
          clear htl hW5 x5 htp et hk8 R5
          go_wp2_with (first | (refine wpList_load_want rfl _ rfl wr.heap.size rfl cs HEB.out HE.out.size ?_) | (go_at_call 20; refine HTL.out.mono ?_; rintro x w6 ⟨rfl, rfl⟩))
          go_roundw
          case rel => exact ⟨k + 1, by omega, by go_num, _, _, R6.out⟩
          case measure => first | (simp [intOf]; done) | (simp [intOf]; omega)
    · have hkn : xs.take k = xs := List.take_of_length_le (by have := HM.out; omega)
      have hadd := R.out.add
      rw [hkn] at hadd
      have hso := sorted21_any wr w.heap.size k M R.out.byt (by omega)
      have HSO := Lib.hid hso; have HADD := Lib.hid hadd; have HB := Lib.hid R.out.byt; have HK := Lib.hid R.out.ml; have RX := Lib.hid R.out.ext
      clear hso hadd hkn R
      go_wp2_with (first | (go_at_call 22; refine (mkeys22 _ _).mono ?_; rintro e w3 ⟨rfl, rfl⟩) | (go_at_call 21; refine HSO.out.mono ?_; rintro e w4 ⟨v4, ts, rfl, q1, q2, q3, q4, q5⟩; refine stop_of ?_))
      unfold Stop
      have hnum := numbers_any w4 v4 ts w.heap.size k M q4 (by omega) (fun t ht => by have := HK.out t ((q2 t).1 ht); omega) (HB.out.ext q5)
      have HNUM := Lib.hid hnum; have Q1 := Lib.hid q1; have Q2 := Lib.hid q2; have Q5 := Lib.hid (RX.out.trans q5)
      clear hnum q1 q2 q4 q5 HSO
      go_wp2_with (go_at_call 23; refine HNUM.out.mono ?_; rintro e w5 ⟨v5, rfl, r1, r2⟩)
      refine bodyPost_ret (results_tmp2 rfl _ _ _) rfl ?_
      exact ⟨_, _, ts, M, rfl, Q1.out, Q2.out, HADD.out, ownsRow_base r1 Q5.out.size, by omega, Q5.out.trans r2⟩
end Go.Proofs.Ytlddpdlebdjniaa
