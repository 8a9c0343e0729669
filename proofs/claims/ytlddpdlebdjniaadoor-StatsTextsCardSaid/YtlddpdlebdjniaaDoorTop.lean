/- stats.Top, walked. -/
import Derived.Test.YtlddpdlebdjniaaDoorNums
namespace Go.Proofs.YtlddpdlebdjniaaDoor
set_option linter.unusedSimpArgs false
open Go.RowKit Go.Maps Go.ChangeMaps Go.Sort Go.Shelf
set_option linter.unusedVariables false

/-- What Top tells: the objects, the most first, so many at most; their bytes. -/
def TopR (w : World) (xs : List Ev) (n : Int) (e : Ending) (w' : World) : Prop := ∃ (v1 v2 : Value) (ts : List Bs), e = .returned (.tuple #[v1, v2]) ∧ (ts.Nodup ∧ (∀ t, t ∈ ts ↔ (topF xs).M t ≠ 0) ∧ (ts.Pairwise fun a b => ¬ ltT (topF xs).M b a)) ∧
  Texts w'.heap.size w' v1 (ts.take (min (max n 0) ts.length).toNat) ∧ IRow w' w.heap.size v2 ((ts.take (min (max n 0) ts.length).toNat).map (topF xs).M) ∧ Ext w w'
theorem texts_take {n0 : Nat} {w : World} {A : Option Addr} {n c : Nat} {ss : List Bs} (h : Texts n0 w (.slice A n c) ss) {k : Nat} (hk : k ≤ ss.length) : Texts n0 w (.slice A k c) (ss.take k) := by
  obtain ⟨A', c', e, hc⟩ := h
  injection e with e1 e2 e3
  subst e1 e3
  refine ⟨A, c, by rw [List.length_take, Nat.min_eq_left hk], fun j hj => ?_⟩
  have hj' : j < ss.length := by rw [List.length_take] at hj; omega
  obtain ⟨b, off, e1, e2, e3⟩ := hc j hj'
  exact ⟨b, off, e1, e2, by rw [List.getElem_take]; exact e3⟩
set_option maxRecDepth 100000 in
set_option maxHeartbeats 4000000 in
theorem top_any (w : World) (A : Option Addr) (xs : List Ev) (c : Nat) (n : Int) (hO : EventsAt w A xs) (hl : xs.length ≤ 1000) (hw : heftE xs ≤ 1000000) (ho : ∀ e ∈ xs, e.obj.length ≤ 1000000) :
    Calls Tryd.prog 8 #[.slice A xs.length c, .int .i64 n] w (TopR w xs n) := by
  obtain ⟨m, hm⟩ : ∃ m, m = xs.length := ⟨_, rfl⟩
  rw [← hm] at hl ⊢
  have HM := Lib.hid hm; have HO := Lib.hid hO; have HW := Lib.hid hw; have HOL := Lib.hid ho
  have hmm := @run_makeMap Tryd.prog
  clear hm hO hw ho
  go_enter Tryd.func8, Tryd.ntmps8
  go_wp2
  clear hmm
  have S0 : Hid (TpRel w xs 0 (((w.alloc (.map #[] 0)).alloc (.cells #[.map (some w.heap.size)] 70)).alloc (.map #[] 0))) := Lib.hid (by
    have hx2 : Ext (w.alloc (.map #[] 0)) (((w.alloc (.map #[] 0)).alloc (.cells #[.map (some w.heap.size)] 70)).alloc (.map #[] 0)) := (alloc_ext _ _).trans (alloc_ext _ _)
    refine ⟨?_, ⟨.map [], ?_, fun t => ⟨rfl, rfl⟩⟩, ⟨.map [], ?_, fun n w _ _ => ⟨rfl, rfl⟩⟩, (alloc_ext _ _).trans hx2⟩
    · have := heap_new2 (w.alloc (.map #[] 0)) (.cells #[.map (some w.heap.size)] 70) (.map #[] 0)
      rw [World.size_alloc] at this
      exact this.1
    · obtain ⟨es, cl, h1, h2⟩ := World.ownsMap_made (H := Unit) w Tryd.prog 9 (plainElem Tryd.prog 2)
      exact ⟨es, cl, hx2.heap h1, h2⟩
    · have := World.ownsMap_made (H := Unit) ((w.alloc (.map #[] 0)).alloc (.cells #[.map (some w.heap.size)] 70)) Tryd.prog 73 (plainElem Tryd.prog 9)
      rw [World.size_alloc, World.size_alloc] at this
      exact this)
  go_loopw [18, 9, 10, 11, 12] (fun i _ _ _ _ wr => ∃ k : Nat, k ≤ m ∧ i = .int .i64 k ∧ TpRel w xs k wr) (fun i _ _ _ _ _ => m - (intOf i).toNat)
  case atStart => exact ⟨0, by omega, rfl, S0.out⟩
  case round =>
    clear S0
    obtain ⟨k, hk, rfl, hr⟩ := hrel
    have R := Lib.hid hr
    clear hr
    by_cases hlt : k < m
    · have hks : k < xs.length := by rw [← HM.out]; exact hlt
      obtain ⟨b, off, cs, rfl, hb, hE, hcs⟩ := (HO.out.ext R.out.ext) k hks
      have htk : xs.take (k + 1) = xs.take k ++ [xs[k]] := List.take_succ_eq_append_getElem hks
      have hol := HOL.out xs[k] (by simp)
      have hok : TopOk (topF (xs.take k)) 1000000 := by
        have h1 := topF_ok (xs.take k) ⟨fun _ _ => none, fun _ => 0⟩ 0 ⟨fun a b ob h => by simp at h, fun t => by simp, fun t h => by simp at h⟩ (fun e he => HOL.out e (List.mem_of_mem_take he))
        have h2 := heftE_take xs k; have h3 := HW.out
        exact ⟨h1.lens, fun t => by have := h1.nums t; unfold topF; omega, h1.keys⟩
      obtain ⟨e, he⟩ : ∃ e, e = xs[k] := ⟨_, rfl⟩
      rw [← he] at hE htk hol
      have hstep : topF (xs.take (k + 1)) = topStep (topF (xs.take k)) e := by rw [htk, topF_snoc]
      obtain ⟨st, hst⟩ : ∃ st, st = topF (xs.take k) := ⟨_, rfl⟩
      rw [← hst] at hstep hok
      obtain ⟨W4, hW4⟩ : ∃ W4, W4 = (wr.alloc (.cells cs 53)).alloc (.cells #[.int .i64 e.node, .int .i64 e.who] 73) := ⟨_, rfl⟩
      have xW : Ext wr W4 := by rw [hW4]; exact (alloc_ext _ _).trans (alloc_ext _ _)
      have R4 := R.out.ext' xW
      have EB : W4.heap[wr.heap.size]? = some (.cells cs 53 (0, 0)) := by rw [hW4]; exact heap_alloc2_old wr _ _
      have hb4 := R4.byt; have ho4 := R4.obj
      rw [← hst] at hb4 ho4
      obtain ⟨kd, nd, wh, wl, nb, ob⟩ := e
      dsimp only at hW4 hol
      have h0 : cs[0]? = some (.int .i64 kd) := hE.kind
      have h2 : cs[2]? = some (.int .i64 nd) := hE.node
      have h3 : cs[3]? = some (.int .i64 wh) := hE.who
      have h6 : cs[6]? = some (.string ⟨ob.toArray⟩) := hE.obj
      have hkey : keyOf Tryd.prog 73 (.agg #[.int .i64 nd, .int .i64 wh]) = some (pkey nd wh) := key71 hE.wn hE.ww
      have HE := Lib.hid hE; have HCS := Lib.hid hcs; have HW4 := Lib.hid hW4; have H4 := Lib.hid R4; have HEB := Lib.hid EB; have HB4 := Lib.hid hb4; have HO4 := Lib.hid ho4; have HST := Lib.hid hstep; have HOK := Lib.hid hok; have XW := Lib.hid xW
      clear hE hcs hW4 R4 EB hb4 ho4 hstep hok xW he hst htk hks
      have HLT : Hid (w.heap.size + 2 < wr.heap.size) := Lib.hid (by obtain ⟨D, ⟨es, cl, h1, _⟩, _⟩ := R.out.obj; exact blk_lt h1)
      go_wp2_with (first | (refine wpList_load_at rfl 53 _ rfl ⟨b, off + k * 57, none⟩ rfl cs _ (fun j u hj => by rw [add_plain]; exact HCS.out j u hj) Tryd.underlying53 rfl (by rw [size46, HE.out.size]) ?_) | (refine wpList_alloc46 rfl rfl ?_) | (refine wpList_store46 rfl _ _ rfl cs rfl rfl HE.out.size HE.out.one ?_; refine stop_of ?_))
      unfold Stop
      by_cases hk6 : kd = 6
      · subst hk6
        obtain ⟨D, hown, hD⟩ := HO4.out
        have hsz : (⟨ob.toArray⟩ : ByteArray).size ≤ maxLen := by simp [ByteArray.size, maxLen]; omega
        have HOWN := Lib.hid hown; have HD := Lib.hid hD
        clear hown hD
        go_wp2_with ((at_mapUpdate; rw [← HW4.out]; refine wpList_mapUpdate_in _ rfl _ _ _ 71 rfl 73 9 law71 Tryd.underlying71 _ (w.heap.size + 2) k D rfl HOWN.out ?c0 _ _ _ rfl rfl hkey _ [] (plainElem_string Tryd.underlying9 hsz) ?_; rotate_left; intro w5 hown5 hturn5; refine stop_of ?_))
        case c0 => first | omega | (simp only [maxLen]; done) | (simp only [maxLen]; omega)
        unfold Stop
        have g5 := hturn5.grown
        have HPB : Hid (w5.heap[wr.heap.size + 1]? = some (.cells #[.int .i64 nd, .int .i64 wh] 73 (0, 0))) := Lib.hid ((g5.block _ (by rw [HW4.out]; simp) (by simp; have := HLT.out; omega)).trans (by rw [HW4.out]; exact heap_alloc2_new wr _ _))
        have HE5 : Hid (w5.heap[wr.heap.size]? = some (.cells cs 53 (0, 0))) := Lib.hid ((g5.block _ (blk_lt HEB.out) (by simp; have := HLT.out; omega)).trans HEB.out)
        have ho5 : ObjAt w5 (w.heap.size + 2) (k + 1) (fun a b => if a = nd ∧ b = wh then some ob else st.O a b) := ⟨_, hown5, HD.out.put HOWN.out.isMap HE.out.wn HE.out.ww ob⟩
        have hlk := ho5.look HE.out.wn HE.out.ww
        simp at hlk
        have hst6 : topF (xs.take (k + 1)) = ⟨fun a b => if a = nd ∧ b = wh then some ob else st.O a b, st.M⟩ := by
          rw [HST.out]
          unfold topStep
          have e1 : topO st ⟨6, nd, wh, wl, nb, ob⟩ = fun a b => if a = nd ∧ b = wh then some ob else st.O a b := by funext a b; simp [topO]
          rw [e1]
          simp [topM, toldN]
        have R5 := Lib.hid (H4.out.of (st := st) g5 (by omega) (by omega) hst6 ((HB4.out.grown g5 (by omega)).more (by omega)) ho5)
        have hc0 : w5.cell? ⟨wr.heap.size + 1, 0, none⟩ = some (.int .i64 nd) := blk_cell HPB.out 0
        have hc1 : w5.cell? ⟨wr.heap.size + 1, 1, none⟩ = some (.int .i64 wh) := blk_cell HPB.out 1
        have htl := told_any w5 cs ⟨6, nd, wh, wl, nb, ob⟩ HE.out
        have et : toldN ⟨6, nd, wh, wl, nb, ob⟩ = 0 := by simp [toldN]
        rw [et] at htl
        have HTL := Lib.hid htl
        clear htl et hst6 ho5 g5 hown5 hturn5 HOWN HD
        go_wp2_with (first | (refine wpList_load_want rfl _ rfl wr.heap.size rfl cs HE5.out HE.out.size ?_) | (go_at_call 15; refine HTL.out.mono ?_; rintro x w6 ⟨rfl, rfl⟩))
        go_roundw
        case rel => exact ⟨k + 1, by omega, by go_num, R5.out.ext' (alloc_ext _ _)⟩
        case measure => first | (simp [intOf]; done) | (simp [intOf]; omega)
      · have ek6 : (kd == 6) = false := by simpa using hk6
        have hO1 : topO st ⟨kd, nd, wh, wl, nb, ob⟩ = st.O := by unfold topO; rw [if_neg hk6]
        have hlk := HO4.out.look HE.out.wn HE.out.ww
        have htl := told_any W4 cs ⟨kd, nd, wh, wl, nb, ob⟩ HE.out
        have HTL := Lib.hid htl
        clear htl hk6
        cases hob : st.O nd wh with
        | none =>
          rw [hob] at hlk
          simp at hlk
          have R5 := Lib.hid (H4.out.of (st := st) (grown_same _ (some w.heap.size)) (Nat.le_refl _) (by omega) HST.out (by
            have : (topStep st ⟨kd, nd, wh, wl, nb, ob⟩).M = st.M := by simp [topStep, hO1, hob, topM]
            rw [this]; exact HB4.out.more (by omega)) (by
            have : (topStep st ⟨kd, nd, wh, wl, nb, ob⟩).O = st.O := hO1
            rw [this]; exact HO4.out.more (by omega)))
          rw [HW4.out] at hlk R5
          clear HTL hob hO1
          go_wp2
          go_roundw
          case rel => exact ⟨k + 1, by omega, by go_num, R5.out⟩
          case measure => first | (simp [intOf]; done) | (simp [intOf]; omega)
        | some o2 =>
          rw [hob] at hlk
          simp at hlk
          have ho2 := HOK.out.lens nd wh o2 hob
          by_cases htp : 0 < toldN ⟨kd, nd, wh, wl, nb, ob⟩
          · obtain ⟨tn, htn⟩ : ∃ tn, tn = toldN ⟨kd, nd, wh, wl, nb, ob⟩ := ⟨_, rfl⟩
            have hMo := HOK.out.nums o2
            have htnb : tn ≤ 140737488351232 := by
              have h1 : toldN ⟨kd, nd, wh, wl, nb, ob⟩ ≤ nb := by unfold toldN; split <;> simp
              have h2 := HE.out.nbl
              dsimp only at h2; omega
            have hst6 : topF (xs.take (k + 1)) = ⟨st.O, fun u => if u = o2 then st.M o2 + tn else st.M u⟩ := by
              rw [HST.out]
              unfold topStep
              simp only [hO1, hob, topM]
              rw [if_pos htp, ← htn]
            rw [← htn] at HTL htp
            obtain ⟨W5, hW5⟩ : ∃ W5, W5 = W4.alloc (.cells cs 53) := ⟨_, rfl⟩
            have H5 := Lib.hid (H4.out.ext' (by rw [hW5]; exact alloc_ext W4 (.cells cs 53) : Ext W4 W5))
            have EB5 : Hid (W5.drew.heap[wr.heap.size]? = some (.cells cs 53 (0, 0))) := Lib.hid (by rw [hW5]; exact (alloc_ext W4 (.cells cs 53)).heap HEB.out)
            have B5 : Hid (ByAt W5.drew w.heap.size k st.M) := Lib.hid (by rw [hW5]; exact HB4.out.ext ((alloc_ext W4 (.cells cs 53)).drew))
            have O5 : Hid (ObjAt W5.drew (w.heap.size + 2) k st.O) := Lib.hid (by rw [hW5]; exact HO4.out.ext ((alloc_ext W4 (.cells cs 53)).drew))
            have htl5 := told_any W5.drew cs ⟨kd, nd, wh, wl, nb, ob⟩ HE.out
            rw [← htn] at htl5
            have HTL5 := Lib.hid htl5; have HST6 := Lib.hid hst6; have HW5 := Lib.hid hW5
            have htpi : (0 : Int) < tn := by omega
            clear htl5 hst6 hW5 hob hO1 htn htp
            rw [HW4.out] at hlk HTL HEB
            go_wp2_with (first | (refine wpList_load_want rfl _ rfl wr.heap.size rfl cs HEB.out HE.out.size ?_) | (go_at_call 15; refine HTL.out.mono ?_; rintro x w6 ⟨rfl, rfl⟩))
            rw [← HW4.out, ← HW5.out]
            refine wp_region_segs [] [.inl [0, 1, 2, 3], .inr (.inl 4), .inl [5], .inr (.inr 6)] (by kernel_rfl) (by kernel_rfl) (fun c a d v w h => by cases d <;> exact h) ?_
            have G0 : ∀ x : Grow [] W5.drew, x.v.cell? ⟨w.heap.size + 1, 0, none⟩ = some (.map (some w.heap.size)) := fun x => x.ext.cell (a := W5.drew) (blk_cell H5.out.var 0) (by simp)
            have GL : ∀ x : Grow [] W5.drew, (Instr.lookup 70 (.map (some w.heap.size)) (.string ⟨o2.toArray⟩) false).run Tryd.prog x.v = .ok (.int .i64 (st.M o2)) x.v := fun x => ByAt.look (B5.out.ext x.ext.ext) ho2
            (rw [wpSegs_inl]; simp only [pickOps, List.map_cons, List.map_nil, List.getD_cons_succ, List.getD_cons_zero]; (repeat (first | (refine wpQuiet_load46 rfl _ rfl wr.heap.size rfl cs (fun W hW => by obtain ⟨y, rfl⟩ := hW; exact y.ext.heap EB5.out (by simp)) HE.out.size ?_) | go_big_quiet_step (fail))); refine wpQuiet_nil ?_)
            clear G0 GL
            (rw [wpSegs_grow]; simp only [pickOps, List.map_cons, List.map_nil, List.getD_cons_succ, List.getD_cons_zero]; go_wp2_with ((go_at_call 15; refine HTL5.out.mono ?_; rintro x w6 ⟨rfl, rfl⟩)))
            refine ⟨.of (alloc_ext _ _) _, ?_⟩
            have ew : IntKind.i64.wrap (st.M o2 + tn) = st.M o2 + tn := IntWalk.i64_in _ (by omega)
            (rw [wpSegs_inl]; simp only [pickOps, List.map_cons, List.map_nil, List.getD_cons_succ, List.getD_cons_zero]; (repeat (go_big_quiet_step (fail))); refine wpQuiet_nil ?_)
            have B6 := B5.out.ext (alloc_ext W5.drew (.cells cs 53))
            obtain ⟨D, hown, hD⟩ := B6
            have hkey9 := key9 ho2
            have HOWN := Lib.hid hown; have HD := Lib.hid hD
            clear hown hD
            (rw [wpSegs_last]; simp only [pickOps, List.map_cons, List.map_nil, List.getD_cons_succ, List.getD_cons_zero]; go_wp2_with ((at_mapUpdate; refine wpList_mapUpdate_in _ rfl _ _ _ 70 rfl 9 2 law9 Tryd.underlying70 _ w.heap.size k D rfl HOWN.out ?c0 _ _ _ rfl rfl hkey9 _ [] (plainElem_int Tryd.underlying2 ?c1) ?_; rotate_left; rotate_left; intro w7 hown7 hturn7)))
            case c0 => first | omega | (simp only [maxLen]; done) | (simp only [maxLen]; omega)
            case c1 => exact WalkArith.wf_i64 (by omega)
            rw [wpSegs_nil]
            have x6 : Ext W5 (W5.drew.alloc (.cells cs 53)) := (Ext.drew (Ext.refl W5)).trans (alloc_ext _ _)
            have R7 := Lib.hid ((H5.out.ext' x6).of (st := st) hturn7.grown (Nat.le_refl _) (by omega) HST6.out ⟨_, hown7, HD.out.put HOWN.out.isMap o2 (by omega)⟩ (((O5.out.ext (alloc_ext W5.drew (.cells cs 53))).grown hturn7.grown (by omega)).more (by omega)))
            clear x6 hown7 hturn7 HOWN HD
            go_wp2
            go_roundw
            case rel => exact ⟨k + 1, by omega, by go_num, R7.out⟩
            case measure => first | (simp [intOf]; done) | (simp [intOf]; omega)
          · have R5 := Lib.hid (H4.out.of (st := st) (grown_same _ (some w.heap.size)) (Nat.le_refl _) (by omega) HST.out (by
              have : (topStep st ⟨kd, nd, wh, wl, nb, ob⟩).M = st.M := by simp only [topStep, hO1, hob, topM]; rw [if_neg htp]
              rw [this]; exact HB4.out.more (by omega)) (by
              have : (topStep st ⟨kd, nd, wh, wl, nb, ob⟩).O = st.O := hO1
              rw [this]; exact HO4.out.more (by omega)))
            have et : toldN ⟨kd, nd, wh, wl, nb, ob⟩ = 0 := by omega
            rw [et] at HTL
            rw [HW4.out] at hlk R5 HTL HEB
            clear hob hO1 htp et
            go_wp2_with (first | (refine wpList_load_want rfl _ rfl wr.heap.size rfl cs HEB.out HE.out.size ?_) | (go_at_call 15; refine HTL.out.mono ?_; rintro x w6 ⟨rfl, rfl⟩))
            go_roundw
            case rel => exact ⟨k + 1, by omega, by go_num, R5.out.ext' (alloc_ext _ _)⟩
            case measure => first | (simp [intOf]; done) | (simp [intOf]; omega)
    · have hkn : xs.take k = xs := List.take_of_length_le (by have := HM.out; omega)
      have hok := topF_ok xs ⟨fun _ _ => none, fun _ => 0⟩ 0 ⟨fun a b ob h => by simp at h, fun t => by simp, fun t h => by simp at h⟩ HOL.out
      have hb := R.out.byt
      rw [hkn] at hb
      obtain ⟨M, hMM⟩ : ∃ M, M = (topF xs).M := ⟨_, rfl⟩
      rw [← hMM] at hb
      have hkeys : ∀ t, M t ≠ 0 → t.length ≤ 1000000 := by rw [hMM]; exact hok.keys
      have hsf := sortedf_any wr (w.heap.size + 1) w.heap.size k M R.out.var hb (by omega) hkeys
      have HSF := Lib.hid hsf; have HB := Lib.hid hb; have HK := Lib.hid hkeys; have HMM := Lib.hid hMM; have RX := Lib.hid R.out.ext
      have hvc : wr.cell? ⟨w.heap.size + 1, 0, none⟩ = some (.map (some w.heap.size)) := blk_cell R.out.var 0
      have HVAR := Lib.hid R.out.var
      clear hsf hb hkeys hMM hok hkn R
      go_wp2_with (first | (go_at_call 17; refine (mkeys22 _ _).mono ?_; rintro e w3 ⟨rfl, rfl⟩) | (go_at_call 16; refine HSF.out.mono ?_; rintro e w4 ⟨v4, ts, rfl, q1, q2, q3⟩; refine stop_of ?_))
      unfold Stop
      obtain ⟨A4, c4, hv4⟩ := own_slice q2
      have hcap : ts.length ≤ c4 := by
        rcases q2.2 with ⟨e, h0⟩ | ⟨g, cap, cur, e, _, _, h1, _⟩
        · omega
        · rw [hv4] at e; injection e with _ _ e; omega
      obtain ⟨n4, hn4⟩ : ∃ n, n = ts.length := ⟨_, rfl⟩
      rw [← hn4] at hv4 hcap
      obtain ⟨mn, hmn⟩ : ∃ mn : Nat, mn = (min (max n 0) n4).toNat := ⟨_, rfl⟩
      have hmi : min (max n 0) (n4 : Int) = mn := by omega
      have hm2 : mn ≤ n4 := by omega
      have q2t := q2.texts
      subst hv4
      have htk := texts_take q2t (k := mn) (by omega)
      have hnum := numbers_any w4 (.slice A4 mn c4) (ts.take mn) w.heap.size k M htk (by rw [List.length_take]; have := q1.2.2.2; omega) (fun t ht => HK.out t ((q1.2.1 t).1 (List.mem_of_mem_take ht))) (HB.out.ext q3)
      have HNUM := Lib.hid hnum; have HTK := Lib.hid htk; have Q1 := Lib.hid q1; have Q3 := Lib.hid (RX.out.trans q3); have HN4 := Lib.hid hn4; have HMN := Lib.hid hmn
      have hvc4 : w4.cell? ⟨w.heap.size + 1, 0, none⟩ = some (.map (some w.heap.size)) := Ext.cell q3 hvc
      have hn4m : n4 ≤ 1000 := by have := q1.2.2.2; omega
      clear hnum htk q1 q2 q3 q2t hn4 hmn HSF hvc HVAR
      go_wp2_with (go_at_call 22; refine HNUM.out.mono ?_; rintro e w5 ⟨v5, rfl, r1, r2⟩)
      refine bodyPost_ret (results_tmp2 rfl _ _ _) rfl ?_
      refine ⟨_, _, ts, rfl, ?_, ?_, ?_, Q3.out.trans r2⟩
      · rw [← HMM.out]; exact ⟨Q1.out.1, Q1.out.2.1, Q1.out.2.2.1⟩
      · rw [← HN4.out, ← HMN.out]; exact texts_up r2 HTK.out
      · rw [← HN4.out, ← HMN.out, ← HMM.out]; exact ownsRow_base r1 Q3.out.size
end Go.Proofs.YtlddpdlebdjniaaDoor
