/- Proved: StatsNodes, for every input: the sums of all nodes from 0 up to any one, added up, are that of all events, if all are of these nodes. -/
import Derived.Test.YtlddpdlebdjniaaNodesA
namespace Go.Proofs.Ytlddpdlebdjniaa
open Go.ChangeShapes Go.WideShapes Go.ChangeAt Go.RowKit Go.Deep Go.Joins
open Go.Maps Go.ChangeMaps
set_option linter.unusedVariables false

structure NdRel (w : World) (g : Nat) (s : Nat → Int) (wr : World) : Prop where
  blk : wr.heap[g]? = some (.cells (sumA s) 50 (0, 0))
  new : w.heap.size ≤ g
  ext : Ext w wr
theorem size50 : (Try.prog.info? 50).map (·.size) = some 12 := by kernel_rfl
theorem sumA_one (s : Nat → Int) : (sumA s).all (·.oneCell') = true := by rw [Array.all_eq_true]; intro i hi; have : i < 12 := hi; match i, this with | 0, _ => rfl | 1, _ => rfl | 2, _ => rfl | 3, _ => rfl | 4, _ => rfl | 5, _ => rfl | 6, _ => rfl | 7, _ => rfl | 8, _ => rfl | 9, _ => rfl | 10, _ => rfl | 11, _ => rfl
theorem wpList_store50 {ops : Array Oper} {rest : List Oper} {o : Oper} {a : Act} {w : World} {Q : Exit → Act → World → Prop} (hgd : o.guard = none) (x y : Operand) (ho : o.op = .store 50 x y)
    (g : Nat) (s u : Nat → Int) (hg : w.heap[g]? = some (.cells (sumA s) 50 (0, 0))) (hx : a.eval x = .pointer (some ⟨g, 0, none⟩)) (hy : a.eval y = .agg (sumA u))
    (h : wpList Try.prog ops Q rest (a.put o.dst undef) (w.setRow g (sumA u))) : wpList Try.prog ops Q (o :: rest) a w :=
  wpList_store_row hgd 50 x y ho g (sumA u) hx hy 50 (sumA s) hg (by rw [size50]; rfl) rfl (sumA_one u) h
theorem NdRel.stored {w wr w' : World} {g : Nat} {s u : Nat → Int} (h : NdRel w g s wr) (hx : Ext wr w') : NdRel w g u (w'.setRow g (sumA u)) :=
  ⟨heap_setRow (hx.heap h.blk), h.new, by
    have h2 := h.ext.trans hx
    exact ⟨h2.os, h2.tape, h2.output, by simpa [World.setRow] using h2.size, fun i hi => by
      rw [← h2.block i hi]
      simp only [World.setRow, Array.getElem?_modify]
      have := h.new
      rw [if_neg (by omega)]⟩⟩
set_option maxRecDepth 100000 in
set_option maxHeartbeats 8000000 in
theorem nodes_walk (xs : List EvF) (A : Option Addr) (c : Nat) (z : Int) (w : World) (hO : EvFAt w A xs) (hl : xs.length ≤ 140737488351232) (hnil : A = none → c = 0) (hz : (Lit.int .u8 z).wf = true) :
    Calls Try.prog 5 #[.slice A xs.length c, .int .u8 z] w fun e w' => e = .returned (.bool true) ∧ Ext w w' := by
  have hz2 : 0 ≤ z ∧ z ≤ 255 := by
    simp [Lit.wf] at hz
    have e1 : IntKind.u8.min = 0 := rfl
    have e2 : IntKind.u8.max = 255 := rfl
    omega
  obtain ⟨hz0, hz1⟩ := hz2
  have hsm := fun W (x : Ext w W) => small_any W A xs c (hO.ext x) hl
  obtain ⟨m, hm⟩ : ∃ m, m = xs.length := ⟨_, rfl⟩
  rw [← hm] at hsm hl ⊢
  have HO := Lib.hid hO; have HM := Lib.hid hm; have HSM := Lib.hid hsm
  clear hO hm hsm hz hnil
  go_enter Try.func5, Try.ntmps5
  go_wp2_with (go_at_call 7; refine (wakes_any _).mono ?_; rintro e w1 ⟨rfl, x1⟩; refine stop_of ?_)
  unfold Stop
  have X1 := Lib.hid x1
  clear x1
  go_wp2_with (go_at_call 8; refine (HSM.out _ X1.out).mono ?_; rintro e w2 ⟨r, rfl, hr, x2⟩; refine stop_of ?_)
  unfold Stop
  have X2 := Lib.hid (X1.out.trans x2)
  clear x2 X1 HSM
  cases r with
  | false =>
    clear hr
    go_wp2
    go_ret
    exact ⟨rfl, X2.out⟩
  | true =>
    have HS := Lib.hid (hr rfl)
    clear hr
    go_wp2
    obtain ⟨n, hn⟩ : ∃ n : Nat, 1 + z % 6 = (n : Int) := ⟨(1 + z % 6).toNat, by omega⟩
    have hn6 : n ≤ 6 := by omega
    rw [hn]
    have HNZ := Lib.hid hn
    clear hn
    go_loopw [21, 7] (fun i _ wr => ∃ j : Nat, j ≤ m ∧ i = .int .i64 j ∧ Hid (∀ x ∈ xs.take j, 0 ≤ x.ev.node ∧ x.ev.node < (n : Int)) ∧ Ext w wr) (fun i _ _ => m - (intOf i).toNat)
    case atStart => exact ⟨0, by omega, rfl, Lib.hid (by simp), X2.out⟩
    case round =>
      clear X2
      obtain ⟨j, hj, rfl, HQ, hx⟩ := hrel
      by_cases hlt : j < m
      · have hjs : j < xs.length := by rw [← HM.out]; exact hlt
        obtain ⟨b, off, cs, rfl, hb, hE, hF, hcs⟩ := (HO.out.ext hx) j hjs
        have htk : xs.take (j + 1) = xs.take j ++ [xs[j]] := List.take_succ_eq_append_getElem hjs
        obtain ⟨e, he⟩ : ∃ e, e = xs[j] := ⟨_, rfl⟩
        rw [← he] at hE htk
        obtain ⟨⟨kd, nd, wh, wl, nb, ob⟩, fs⟩ := e
        dsimp only at hE
        have h2 : cs[2]? = some (.int .i64 nd) := hE.node
        have hwn : (Lit.int .i64 nd).wf = true := hE.wn
        have HE := Lib.hid hE; have HCS := Lib.hid hcs; have HTK := Lib.hid htk; have HX := Lib.hid hx
        clear hE hcs htk he hjs hx hF
        obtain ⟨W3, hW3⟩ : ∃ W3, W3 = wr.alloc (.cells cs 46) := ⟨_, rfl⟩
        have X3 : Hid (Ext w W3) := Lib.hid (by rw [hW3]; exact HX.out.trans (alloc_ext _ _))
        have EB : W3.heap[wr.heap.size]? = some (.cells cs 46 (0, 0)) := by rw [hW3]; exact heap_alloc_new wr _
        have h2c : W3.cell? ⟨wr.heap.size, 2, none⟩ = some (.int .i64 nd) := (blk_cell EB 2).trans h2
        have HW3 := Lib.hid hW3
        clear hW3 EB h2
        go_wp2_with (first | (refine wpList_load_at rfl 46 _ rfl ⟨b, off + j * 57, none⟩ rfl cs _ (fun j u hj => by rw [add_plain]; exact HCS.out j u hj) Try.underlying46 rfl (by rw [size46, HE.out.size]) ?_) | (refine wpList_alloc46 rfl rfl ?_) | (refine wpList_store46 rfl _ _ rfl cs rfl rfl HE.out.size HE.out.one ?_; refine stop_of ?_))
        unfold Stop
        rw [← HW3.out]
        by_cases hn0 : nd < 0
        · go_wp2
          go_ret
          exact ⟨rfl, X3.out⟩
        · by_cases hn1 : nd ≥ (n : Int)
          · go_wp2
            go_ret
            exact ⟨rfl, X3.out⟩
          · have HQ2 : Hid (∀ x ∈ xs.take (j + 1), 0 ≤ x.ev.node ∧ x.ev.node < (n : Int)) := Lib.hid (by
              rw [HTK.out]
              intro x hx
              rcases List.mem_append.mp hx with h | h
              · exact HQ.out x h
              · simp at h; subst h; exact ⟨by simp; omega, by simp; omega⟩)
            go_wp2
            go_roundw
            case rel => exact ⟨j + 1, by omega, by go_num, HQ2, X3.out⟩
            case measure => first | (simp [intOf]; done) | (simp [intOf]; omega)
      · have hjn : xs.take j = xs := List.take_of_length_le (by have := HM.out; omega)
        rw [hjn] at HQ
        have HALL : Hid (pre n (pairs (evs xs)) = ofS (evs xs) (-1)) := Lib.hid (ofS_all _ n (fun x hx => by
          obtain ⟨y, hy, rfl⟩ := List.mem_map.1 hx
          exact HQ.out y hy))
        have HX := Lib.hid hx
        clear hx HQ hjn
        obtain ⟨g, hg⟩ : ∃ g, g = wr.heap.size := ⟨_, rfl⟩
        have hgs : w.heap.size ≤ g := by rw [hg]; exact HX.out.size
        obtain ⟨W4, hW4⟩ : ∃ W4, W4 = wr.alloc (.cells (sumA fun _ => 0) 50) := ⟨_, rfl⟩
        have R0 : Hid (NdRel w g (pre 0 (pairs (evs xs))) W4) := Lib.hid (by
          have e0 : pre 0 (pairs (evs xs)) = fun _ => 0 := by funext j; exact pre_zero j _
          rw [e0, hW4, hg]
          exact ⟨heap_alloc_new wr _, HX.out.size, HX.out.trans (alloc_ext _ _)⟩)
        have ez : wr.alloc (.cells #[.int .i64 0, .int .i64 0, .int .i64 0, .int .i64 0, .int .i64 0, .int .i64 0, .int .i64 0, .int .i64 0, .int .i64 0, .int .i64 0, .int .i64 0, .int .i64 0] 50) = W4 := by rw [hW4]; rfl
        have EZ := Lib.hid ez; have HG := Lib.hid hg
        clear ez hg hW4 hgs
        go_wp2
        rw [EZ.out, ← HG.out]
        clear EZ HG
        go_loopw [36, 9] (fun i _ wr => ∃ k : Nat, k ≤ n ∧ i = .int .i64 k ∧ NdRel w g (pre k (pairs (evs xs))) wr) (fun i _ _ => n - (intOf i).toNat)
        case atStart => exact ⟨0, by omega, rfl, R0.out⟩
        case round =>
          clear R0 HX
          obtain ⟨k, hk, rfl, hr⟩ := hrel
          have kwf : (Lit.int .i64 (k : Int)).wf = true := by simp [Lit.wf]; have e1 : IntKind.i64.min = -9223372036854775808 := rfl; have e2 : IntKind.i64.max = 9223372036854775807 := rfl; omega
          by_cases hlt2 : k < n
          · have hof := fun W (x : Ext wr W) => of_small (c := c) (node := (k : Int)) ((HO.out.ext hr.ext).ext x) HS.out kwf
            have hadd := fun W => add_pre xs HS.out k W
            obtain ⟨s, hs⟩ : ∃ s, s = pre k (pairs (evs xs)) := ⟨_, rfl⟩
            obtain ⟨t, ht⟩ : ∃ t, t = ofS (evs xs) k := ⟨_, rfl⟩
            obtain ⟨u, hu⟩ : ∃ u, u = pre (k + 1) (pairs (evs xs)) := ⟨_, rfl⟩
            rw [← hs] at hadd hr
            rw [← ht] at hadd
            rw [← hu] at hadd
            simp only [← ht, ← HM.out] at hof
            have HADD : Hid (∀ W, Calls Try.prog 11 #[.agg #[.int .i64 (s 0), .int .i64 (s 1), .int .i64 (s 2), .int .i64 (s 3), .int .i64 (s 4), .int .i64 (s 5), .int .i64 (s 6), .int .i64 (s 7), .int .i64 (s 8), .int .i64 (s 9), .int .i64 (s 10), .int .i64 (s 11)], .agg #[.int .i64 (t 0), .int .i64 (t 1), .int .i64 (t 2), .int .i64 (t 3), .int .i64 (t 4), .int .i64 (t 5), .int .i64 (t 6), .int .i64 (t 7), .int .i64 (t 8), .int .i64 (t 9), .int .i64 (t 10), .int .i64 (t 11)]] W fun e w' => e = .returned (.agg #[.int .i64 (u 0), .int .i64 (u 1), .int .i64 (u 2), .int .i64 (u 3), .int .i64 (u 4), .int .i64 (u 5), .int .i64 (u 6), .int .i64 (u 7), .int .i64 (u 8), .int .i64 (u 9), .int .i64 (u 10), .int .i64 (u 11)]) ∧ Ext W w') := Lib.hid hadd
            have HOF : Hid (∀ W, Ext wr W → Calls Try.prog 9 #[.slice A m c, .int .i64 k] W fun e w' => e = .returned (.agg #[.int .i64 (t 0), .int .i64 (t 1), .int .i64 (t 2), .int .i64 (t 3), .int .i64 (t 4), .int .i64 (t 5), .int .i64 (t 6), .int .i64 (t 7), .int .i64 (t 8), .int .i64 (t 9), .int .i64 (t 10), .int .i64 (t 11)]) ∧ Ext W w') := Lib.hid hof
            have HR := Lib.hid hr; have HU := Lib.hid hu
            clear hadd hof hr hs ht hu kwf
            go_wp2_with fail
            refine wp_region_segs [] [.inl [0, 1, 2], .inr (.inl 3), .inr (.inl 4), .inr (.inr 5)] (by kernel_rfl) (by kernel_rfl) (fun c a d v w h => by cases d <;> exact h) ?_
            have GA0 : ∀ x : Grow [] wr.drew, x.v.cell? ⟨g, 0, none⟩ = some (.int .i64 (s 0)) := fun x => x.ext.cell (a := wr.drew) (blk_cell HR.out.blk 0) (by simp)
            have GA1 : ∀ x : Grow [] wr.drew, x.v.cell? ⟨g, 1, none⟩ = some (.int .i64 (s 1)) := fun x => x.ext.cell (a := wr.drew) (blk_cell HR.out.blk 1) (by simp)
            have GA2 : ∀ x : Grow [] wr.drew, x.v.cell? ⟨g, 2, none⟩ = some (.int .i64 (s 2)) := fun x => x.ext.cell (a := wr.drew) (blk_cell HR.out.blk 2) (by simp)
            have GA3 : ∀ x : Grow [] wr.drew, x.v.cell? ⟨g, 3, none⟩ = some (.int .i64 (s 3)) := fun x => x.ext.cell (a := wr.drew) (blk_cell HR.out.blk 3) (by simp)
            have GA4 : ∀ x : Grow [] wr.drew, x.v.cell? ⟨g, 4, none⟩ = some (.int .i64 (s 4)) := fun x => x.ext.cell (a := wr.drew) (blk_cell HR.out.blk 4) (by simp)
            have GA5 : ∀ x : Grow [] wr.drew, x.v.cell? ⟨g, 5, none⟩ = some (.int .i64 (s 5)) := fun x => x.ext.cell (a := wr.drew) (blk_cell HR.out.blk 5) (by simp)
            have GA6 : ∀ x : Grow [] wr.drew, x.v.cell? ⟨g, 6, none⟩ = some (.int .i64 (s 6)) := fun x => x.ext.cell (a := wr.drew) (blk_cell HR.out.blk 6) (by simp)
            have GA7 : ∀ x : Grow [] wr.drew, x.v.cell? ⟨g, 7, none⟩ = some (.int .i64 (s 7)) := fun x => x.ext.cell (a := wr.drew) (blk_cell HR.out.blk 7) (by simp)
            have GA8 : ∀ x : Grow [] wr.drew, x.v.cell? ⟨g, 8, none⟩ = some (.int .i64 (s 8)) := fun x => x.ext.cell (a := wr.drew) (blk_cell HR.out.blk 8) (by simp)
            have GA9 : ∀ x : Grow [] wr.drew, x.v.cell? ⟨g, 9, none⟩ = some (.int .i64 (s 9)) := fun x => x.ext.cell (a := wr.drew) (blk_cell HR.out.blk 9) (by simp)
            have GA10 : ∀ x : Grow [] wr.drew, x.v.cell? ⟨g, 10, none⟩ = some (.int .i64 (s 10)) := fun x => x.ext.cell (a := wr.drew) (blk_cell HR.out.blk 10) (by simp)
            have GA11 : ∀ x : Grow [] wr.drew, x.v.cell? ⟨g, 11, none⟩ = some (.int .i64 (s 11)) := fun x => x.ext.cell (a := wr.drew) (blk_cell HR.out.blk 11) (by simp)
            (rw [wpSegs_inl]; simp only [pickOps, List.map_cons, List.map_nil, List.getD_cons_succ, List.getD_cons_zero]; (repeat (go_big_quiet_step (fail))); refine wpQuiet_nil ?_)
            clear GA0 GA1 GA2 GA3 GA4 GA5 GA6 GA7 GA8 GA9 GA10 GA11
            (rw [wpSegs_grow]; simp only [pickOps, List.map_cons, List.map_nil, List.getD_cons_succ, List.getD_cons_zero]; go_wp2_with ((go_at_call 9; refine (HOF.out _ (Ext.drew (Ext.refl _))).mono ?_; rintro e u1 ⟨rfl, xu1⟩)))
            refine ⟨.of xu1 _, ?_⟩
            (rw [wpSegs_grow]; simp only [pickOps, List.map_cons, List.map_nil, List.getD_cons_succ, List.getD_cons_zero]; go_wp2_with ((go_at_call 11; refine (HADD.out _).mono ?_; rintro e u2 ⟨rfl, xu2⟩)))
            refine ⟨.of xu2 _, ?_⟩
            have X2 := Lib.hid ((Ext.drew (Ext.refl wr)).trans (xu1.trans xu2))
            clear xu1 xu2 HOF HADD
            (rw [wpSegs_last]; simp only [pickOps, List.map_cons, List.map_nil, List.getD_cons_succ, List.getD_cons_zero]; go_wp2_with ((refine wpList_store50 rfl _ _ rfl g s u (X2.out.heap HR.out.blk) rfl rfl ?_; refine stop_of ?_)))
            unfold Stop
            have R2 := Lib.hid (HR.out.stored (u := u) X2.out)
            clear HR X2
            go_wp2_with fail
            rw [wpSegs_nil]
            generalize u2.setRow g (sumA u) = W9 at R2 ⊢
            rw [HU.out] at R2
            clear HU
            go_wp2
            go_roundw
            case rel => exact ⟨k + 1, by omega, by go_num, R2.out⟩
            case measure => first | (simp [intOf]; done) | (simp [intOf]; omega)
          · obtain rfl : k = n := by omega
            rw [HALL.out] at hr
            have hof := fun W (x : Ext wr W) => of_small (c := c) (node := -1) ((HO.out.ext hr.ext).ext x) HS.out (by decide)
            obtain ⟨s, hs⟩ : ∃ s, s = ofS (evs xs) (-1) := ⟨_, rfl⟩
            simp only [← hs, ← HM.out] at hof hr
            have HOF : Hid (∀ W, Ext wr W → Calls Try.prog 9 #[.slice A m c, .int .i64 (-1)] W fun e w' => e = .returned (.agg #[.int .i64 (s 0), .int .i64 (s 1), .int .i64 (s 2), .int .i64 (s 3), .int .i64 (s 4), .int .i64 (s 5), .int .i64 (s 6), .int .i64 (s 7), .int .i64 (s 8), .int .i64 (s 9), .int .i64 (s 10), .int .i64 (s 11)]) ∧ Ext W w') := Lib.hid hof
            have HR := Lib.hid hr
            clear hof hr hs kwf HALL
            go_wp2_with fail
            refine wp_region_segs [] [.inl [0, 1], .inr (.inl 2), .inl [3, 4]] (by kernel_rfl) (by kernel_rfl) (fun c a d v w h => by cases d <;> exact h) ?_
            have GA0 : ∀ x : Grow [] wr.drew, x.v.cell? ⟨g, 0, none⟩ = some (.int .i64 (s 0)) := fun x => x.ext.cell (a := wr.drew) (blk_cell HR.out.blk 0) (by simp)
            have GA1 : ∀ x : Grow [] wr.drew, x.v.cell? ⟨g, 1, none⟩ = some (.int .i64 (s 1)) := fun x => x.ext.cell (a := wr.drew) (blk_cell HR.out.blk 1) (by simp)
            have GA2 : ∀ x : Grow [] wr.drew, x.v.cell? ⟨g, 2, none⟩ = some (.int .i64 (s 2)) := fun x => x.ext.cell (a := wr.drew) (blk_cell HR.out.blk 2) (by simp)
            have GA3 : ∀ x : Grow [] wr.drew, x.v.cell? ⟨g, 3, none⟩ = some (.int .i64 (s 3)) := fun x => x.ext.cell (a := wr.drew) (blk_cell HR.out.blk 3) (by simp)
            have GA4 : ∀ x : Grow [] wr.drew, x.v.cell? ⟨g, 4, none⟩ = some (.int .i64 (s 4)) := fun x => x.ext.cell (a := wr.drew) (blk_cell HR.out.blk 4) (by simp)
            have GA5 : ∀ x : Grow [] wr.drew, x.v.cell? ⟨g, 5, none⟩ = some (.int .i64 (s 5)) := fun x => x.ext.cell (a := wr.drew) (blk_cell HR.out.blk 5) (by simp)
            have GA6 : ∀ x : Grow [] wr.drew, x.v.cell? ⟨g, 6, none⟩ = some (.int .i64 (s 6)) := fun x => x.ext.cell (a := wr.drew) (blk_cell HR.out.blk 6) (by simp)
            have GA7 : ∀ x : Grow [] wr.drew, x.v.cell? ⟨g, 7, none⟩ = some (.int .i64 (s 7)) := fun x => x.ext.cell (a := wr.drew) (blk_cell HR.out.blk 7) (by simp)
            have GA8 : ∀ x : Grow [] wr.drew, x.v.cell? ⟨g, 8, none⟩ = some (.int .i64 (s 8)) := fun x => x.ext.cell (a := wr.drew) (blk_cell HR.out.blk 8) (by simp)
            have GA9 : ∀ x : Grow [] wr.drew, x.v.cell? ⟨g, 9, none⟩ = some (.int .i64 (s 9)) := fun x => x.ext.cell (a := wr.drew) (blk_cell HR.out.blk 9) (by simp)
            have GA10 : ∀ x : Grow [] wr.drew, x.v.cell? ⟨g, 10, none⟩ = some (.int .i64 (s 10)) := fun x => x.ext.cell (a := wr.drew) (blk_cell HR.out.blk 10) (by simp)
            have GA11 : ∀ x : Grow [] wr.drew, x.v.cell? ⟨g, 11, none⟩ = some (.int .i64 (s 11)) := fun x => x.ext.cell (a := wr.drew) (blk_cell HR.out.blk 11) (by simp)
            (rw [wpSegs_inl]; simp only [pickOps, List.map_cons, List.map_nil, List.getD_cons_succ, List.getD_cons_zero]; (repeat (go_big_quiet_step (fail))); refine wpQuiet_nil ?_)
            clear GA0 GA1 GA2 GA3 GA4 GA5 GA6 GA7 GA8 GA9 GA10 GA11
            (rw [wpSegs_grow]; simp only [pickOps, List.map_cons, List.map_nil, List.getD_cons_succ, List.getD_cons_zero]; go_wp2_with ((go_at_call 9; refine (HOF.out _ (Ext.drew (Ext.refl _))).mono ?_; rintro e u1 ⟨rfl, xu1⟩)))
            refine ⟨.of xu1 _, ?_⟩
            have X2 := Lib.hid (HR.out.ext.trans ((Ext.drew (Ext.refl wr)).trans xu1))
            clear xu1 HOF HR
            (rw [wpSegs_inl]; simp only [pickOps, List.map_cons, List.map_nil, List.getD_cons_succ, List.getD_cons_zero]; (repeat (go_big_quiet_step (fail))); refine wpQuiet_nil ?_)
            rw [wpSegs_nil]
            go_wp2
            go_ret
            exact ⟨rfl, X2.out⟩
set_option maxRecDepth 100000 in
theorem statsNodes_lifted (os : Os) (started : os.Started) (H : Type) (enc : TypeId × Value → H) :
    ReturnsInHanded {} Try.checked os 5 .any (Rows.statsNodesSpec.pre6 enc Try.prog Try.f5 Rows.statsNodesRow.domain false) (Rows.statsNodesSpec.post enc Try.prog Try.f5 false true false false) := by
  refine returnsInHanded_of_change_sized (C := Try.checked) own started (by kernel_rfl) Try.func5
    (ChangeSpec.witness6 (enc := enc) (C := Try.checked) false ⟨#[], #[.slice none 0 0, .int .u8 0], []⟩ 8 (by kernel_rfl) (by kernel_rfl) (by kernel_rfl) (by kernel_rfl)) ?_
  intro W base args ds gs before hval0 hW hcnd hsz _
  have hval : ∀ (j : Nat) t v, Try.f5.params[j]? = some t → args[j]? = some v → Value.okWide Try.prog W .any base t v := hval0
  have hW' := hW
  obtain ⟨p, q, hA0, hV, rfl, hfz, hnd⟩ := hW
  have hA : DataW.TrodAll enc Try.prog W 0 (fun _ => true) true Try.f5.params.toList args.toList ds p := hA0
  rw [Try.params5] at hA hval
  obtain ⟨v0, vs0, d0, ds0, p0, q0, hargs, rfl, rfl, h0, r0⟩ := trodAll_cons hA
  obtain ⟨v1, vs1, d1, ds1, p1, q1, rfl, rfl, rfl, h1, r1⟩ := trodAll_cons r0
  obtain ⟨rfl, rfl, rfl⟩ := trodAll_nil r1
  obtain rfl : args = #[v0, v1] := by cases args; simp_all
  obtain ⟨rfl, rfl⟩ := trodVars_none hV
  have lt0 : ∀ x ∈ p0, x.block < W.heap.size := by obtain ⟨m, hm⟩ := h0; exact DataW.trod_lt m _ _ _ hm
  have t0 := fun W' (bel : Below W.heap.size W W') => Below.trod laidOut (by kernel_rfl) (of_decide_eq_true (by kernel_rfl)) h0 bel lt0
  have lt1 : ∀ x ∈ p1, x.block < W.heap.size := by obtain ⟨m, hm⟩ := h1; exact DataW.trod_lt m _ _ _ hm
  have t1 := fun W' (bel : Below W.heap.size W W') => Below.trod laidOut (by kernel_rfl) (of_decide_eq_true (by kernel_rfl)) h1 bel lt1
  have wk0 : WOk Try.prog 22 d0 := wok_arg hsz (j := 0) rfl rfl
  obtain ⟨A0, xs0, c0, rfl, ha0, hl0, hn0⟩ := events_open wk0 (hval 0 22 v0 rfl rfl) h0
  have wk1 : WOk Try.prog 5 d1 := wok_arg hsz (j := 1) rfl rfl
  obtain ⟨i1, rfl, _, _, wf1⟩ := open_int Try.underlying5 (hval 1 5 v1 rfl rfl) h1
  clear hA0 hval0 hsz
  refine (nodes_walk xs0 A0 c0 i1 W ha0 hl0 hn0 wf1 ).mono fun e W' ⟨he, bel⟩ => ?_
  subst he
  exact ⟨_, rfl, _, _, _, [], _, [], hW', trodAll_mk1 (shut_bool Try.underlying4 _), (trodAll_cons_mk (t0 W' bel) (trodAll_cons_mk (t1 W' bel) trodAll_mk0)), rfl, bel.frame _, fun h => by cases h⟩

/-- The statement. -/
theorem StatsNodes_proved : Rows.StatsNodesSaid :=
  OpenClaim.holds_of_wide 5 Try.f5 rfl rfl rfl rfl rfl rfl rfl ⟨rfl, rfl, rfl, rfl, rfl⟩ rfl rfl rfl rfl rfl (by kernel_rfl) Try.func5 (by kernel_rfl)
    (of_decide_eq_true (by kernel_rfl)) (by unfold Func.isWrapper; first | (rw [if_pos (by decide +kernel)]; kernel_rfl) | (rw [if_neg (by decide +kernel)]; exact ⟨rfl, rfl⟩))
    (fun os started H enc _ => statsNodes_lifted os started H enc)
#print axioms StatsNodes_proved
end Go.Proofs.Ytlddpdlebdjniaa
