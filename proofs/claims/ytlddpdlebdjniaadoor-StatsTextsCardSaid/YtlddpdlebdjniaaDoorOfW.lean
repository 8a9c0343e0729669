/- stats.Of, walked. -/
import Derived.Test.YtlddpdlebdjniaaDoorWaste
namespace Go.Proofs.YtlddpdlebdjniaaDoor
set_option linter.unusedSimpArgs false
open Go.RowKit Go.Maps Go.ChangeMaps
set_option linter.unusedVariables false

/-- One event more, of a node (-1: of all). -/
def stepS (node : Int) (s : Nat → Int) (x : Ev × Bool) : Nat → Int :=
  if node = -1 ∨ x.1.node = node then (if x.2 = true then bump (cntS s x.1) 6 x.1.nb else cntS s x.1) else s
def sumF (node : Int) (l : List (Ev × Bool)) : Nat → Int := l.foldl (stepS node) (fun _ => 0)
def pairs (xs : List Ev) : List (Ev × Bool) := xs.zip (wasteL xs)
def ofS (xs : List Ev) (node : Int) : Nat → Int := if node < -1 then fun _ => 0 else sumF node (pairs xs)
def heft (l : List (Ev × Bool)) : Nat := (l.map fun x => 1 + x.1.nb).sum
theorem heft_append (a b : List (Ev × Bool)) : heft (a ++ b) = heft a + heft b := by simp [heft]
theorem pairs_len (xs : List Ev) : (pairs xs).length = xs.length := by simp [pairs, wasteL_len]
theorem cntS_le (s : Nat → Int) (e : Ev) (j : Nat) : s j ≤ cntS s e j ∧ cntS s e j ≤ s j + 1 + e.nb ∧ (j = 6 → cntS s e j = s j) := by
  have key : ∀ i n, cnt e = some (i, n) → i ≠ 6 ∧ n ≤ 1 + e.nb := by
    intro i n h
    unfold cnt at h
    repeat (first | (split at h; · (simp only [Option.some.injEq, Prod.mk.injEq] at h; obtain ⟨rfl, rfl⟩ := h; omega)) | (cases h))
  unfold cntS
  cases h : cnt e with
  | none => simp; omega
  | some p =>
    obtain ⟨i, n⟩ := p
    obtain ⟨h1, h2⟩ := key i n h
    simp only [bump]
    by_cases hj : j = i
    · subst hj; simp; omega
    · simp [hj]; omega
theorem stepS_le (node : Int) (s : Nat → Int) (x : Ev × Bool) (j : Nat) : s j ≤ stepS node s x j ∧ stepS node s x j ≤ s j + 1 + x.1.nb := by
  obtain ⟨h1, h2, h3⟩ := cntS_le s x.1 j
  unfold stepS
  split
  · split
    · unfold bump
      by_cases hj : j = 6
      · subst hj; simp; have := h3 rfl; omega
      · simp [hj]; omega
    · omega
  · omega
theorem sumF_snoc (node : Int) (l : List (Ev × Bool)) (x : Ev × Bool) : sumF node (l ++ [x]) = stepS node (sumF node l) x := by simp [sumF]
theorem foldl_le (node : Int) : ∀ (l : List (Ev × Bool)) (s : Nat → Int) (j : Nat), s j ≤ (l.foldl (stepS node) s) j ∧ (l.foldl (stepS node) s) j ≤ s j + heft l
  | [], s, j => by simp [heft]
  | x :: l, s, j => by
    have h1 := stepS_le node s x j
    have h2 := foldl_le node l (stepS node s x) j
    have h3 : heft (x :: l) = 1 + x.1.nb + heft l := by simp [heft]
    rw [List.foldl_cons, h3]
    omega
theorem sumF_le (node : Int) (l : List (Ev × Bool)) (j : Nat) : 0 ≤ sumF node l j ∧ sumF node l j ≤ heft l := by
  have := foldl_le node l (fun _ => 0) j
  unfold sumF; omega
theorem heft_take (l : List (Ev × Bool)) (k : Nat) : heft (l.take k) ≤ heft l := by
  conv => rhs; rw [← List.take_append_drop k l]
  rw [heft_append]; omega
theorem heap_setRow {w : World} {g : Nat} {old cells : Array Value} {t : TypeId} (h : w.heap[g]? = some (.cells old t (0, 0))) : (w.setRow g cells).heap[g]? = some (.cells cells t (0, 0)) := by
  simp [World.setRow, Array.getElem?_modify, h]
theorem ext_setRow {w wr : World} {cells : Array Value} (h : Ext w wr) : Ext w (wr.setRow w.heap.size cells) :=
  ⟨h.os, h.tape, h.output, by simpa [World.setRow] using h.size, fun i hi => by
    rw [← h.block i hi]
    simp only [World.setRow, Array.getElem?_modify]
    rw [if_neg (by omega)]⟩
structure OfRel (w : World) (xs : List Ev) (node : Int) (k : Nat) (wr : World) : Prop where
  res : wr.heap[w.heap.size]? = some (.cells (sumA fun _ => 0) 26 (0, 0))
  sum : SumAt wr (w.heap.size + 1) (sumF node ((pairs xs).take k))
  out : wr.heap[w.heap.size + 2]? = some (.cells (boolA (wasteL xs)) 4 (0, 0))
  ext : Ext w wr
theorem OfRel.ext' {w wr w' : World} {xs : List Ev} {node : Int} {k : Nat} (h : OfRel w xs node k wr) (hx : Ext wr w') : OfRel w xs node k w' := ⟨hx.heap h.res, ⟨hx.heap h.sum.blk⟩, hx.heap h.out, h.ext.trans hx⟩
theorem OfRel.counted {w W3 w4 : World} {xs : List Ev} {node : Int} {k : Nat} {s' : Nat → Int} (h : OfRel w xs node k W3) (hg : W3.grownBy w4 (some (w.heap.size + 1))) (hs : SumAt w4 (w.heap.size + 1) s') (hst : sumF node ((pairs xs).take (k + 1)) = s') : OfRel w xs node (k + 1) w4 :=
  ⟨(hg.block _ (blk_lt h.res) (by simp)).trans h.res, by rw [hst]; exact hs, (hg.block _ (blk_lt h.out) (by simp)).trans h.out,
    ⟨hg.os.trans h.ext.os, hg.tape.trans h.ext.tape, hg.output.trans h.ext.output, Nat.le_trans h.ext.size hg.size, fun i hi => (hg.block i (Nat.lt_of_lt_of_le hi h.ext.size) (by simp; omega)).trans (h.ext.block i hi)⟩⟩
set_option maxRecDepth 100000 in
set_option maxHeartbeats 4000000 in
theorem of_all (w : World) (A : Option Addr) (xs : List Ev) (c : Nat) (hO : EventsAt w A xs) (hl : xs.length ≤ 1000) (hw : heft (pairs xs) ≤ 1000000)  :
    Calls Tryd.prog 9 #[.slice A xs.length c, .int .i64 (-1)] w fun e w' => e = .returned (.agg (sumA (ofS xs (-1)))) ∧ Ext w w' := by
  obtain ⟨m, hm⟩ : ∃ m, m = xs.length := ⟨_, rfl⟩
  obtain ⟨W1, hW1⟩ : ∃ W1, W1 = (w.alloc (.cells (sumA fun _ => 0) 26)).alloc (.cells (sumA fun _ => 0) 26) := ⟨_, rfl⟩
  have x1 : Ext w W1 := by rw [hW1]; exact (alloc_ext _ _).trans (alloc_ext _ _)
  have hwa := wasted_any W1 A xs c (hO.ext x1) (by omega)
  rw [← hm] at hl hwa ⊢
  have hs1 : W1.heap.size = w.heap.size + 2 := by rw [hW1]; simp
  have HB : Hid (W1.heap[w.heap.size]? = some (.cells (sumA fun _ => 0) 26 (0, 0)) ∧ W1.heap[w.heap.size + 1]? = some (.cells (sumA fun _ => 0) 26 (0, 0))) := Lib.hid (by rw [hW1]; exact heap_new2 w _ _)
  rw [hs1] at hwa
  have HWA := Lib.hid hwa; have HM := Lib.hid hm; have HO := Lib.hid hO; have HW := Lib.hid hw; have HW1 := Lib.hid hW1; have X1 := Lib.hid x1
  have ez : sumA (fun _ => 0) = #[.int .i64 0, .int .i64 0, .int .i64 0, .int .i64 0, .int .i64 0, .int .i64 0, .int .i64 0, .int .i64 0, .int .i64 0, .int .i64 0, .int .i64 0, .int .i64 0] := rfl
  have EZ := Lib.hid ez
  clear hwa hm hO hw hW1 hs1 x1 ez
  · have eo : Hid (ofS xs (-1) = sumF (-1) (pairs xs)) := Lib.hid (by unfold ofS; rw [if_neg (by decide)])
    go_enter Tryd.func9, Tryd.ntmps9
    go_wp2_with ((go_at_call 23; rw [← EZ.out, ← HW1.out]; refine HWA.out.mono ?_; rintro e w2 ⟨rfl, o2, x2⟩))
    have S0 : Hid (OfRel w xs (-1) 0 w2) := Lib.hid ⟨x2.heap HB.out.1, ⟨by simpa [sumF] using x2.heap HB.out.2⟩, o2, X1.out.trans x2⟩
    clear o2 x2 HWA HB HW1 EZ X1
    go_loopw [16, 7, 8] (fun i _ _ wr => ∃ k : Nat, k ≤ m ∧ i = .int .i64 k ∧ OfRel w xs (-1) k wr) (fun i _ _ _ => m - (intOf i).toNat)
    case atStart => exact ⟨0, by omega, rfl, S0.out⟩
    case round =>
      clear S0
      obtain ⟨k, hk, rfl, hr⟩ := hrel
      have R := Lib.hid hr
      clear hr
      by_cases hlt : k < m
      · have hks : k < xs.length := by rw [← HM.out]; exact hlt
        obtain ⟨b, off, cs, rfl, hb, hE, hcs⟩ := (HO.out.ext R.out.ext) k hks
        have hkp : k < (pairs xs).length := by rw [pairs_len]; exact hks
        have htk : (pairs xs).take (k + 1) = (pairs xs).take k ++ [(pairs xs)[k]] := List.take_succ_eq_append_getElem hkp
        have hkw : k < (wasteL xs).length := by rw [wasteL_len]; exact hks
        have hpk : (pairs xs)[k] = (xs[k], (wasteL xs)[k]) := by simp [pairs]
        rw [hpk] at htk
        obtain ⟨fl, hfl⟩ : ∃ fl, fl = (wasteL xs)[k] := ⟨_, rfl⟩
        have hfc : (boolA (wasteL xs))[k]? = some (.bool fl) := by unfold boolA; simp [hkw, hfl]
        obtain ⟨e, he⟩ : ∃ e, e = xs[k] := ⟨_, rfl⟩
        rw [← he] at hE htk
        rw [← hfl] at htk
        obtain ⟨kd, nd, wh, wl, nb, ob⟩ := e
        obtain ⟨ev, hev⟩ : ∃ ev : Ev, ev = ⟨kd, nd, wh, wl, nb, ob⟩ := ⟨_, rfl⟩
        rw [← hev] at hE htk
        have hevn : ev.node = nd := by rw [hev]
        have hevb : ev.nb = nb := by rw [hev]
        clear he hev
        have hstep : sumF (-1) ((pairs xs).take (k + 1)) = stepS (-1) (sumF (-1) ((pairs xs).take k)) (ev, fl) := by rw [htk, sumF_snoc]
        have hbd : ∀ j, 0 ≤ sumF (-1) ((pairs xs).take k) j ∧ sumF (-1) ((pairs xs).take k) j ≤ 1000000 := fun j => by
          have h1 := sumF_le (-1) ((pairs xs).take k) j; have h2 := heft_take (pairs xs) k; have := HW.out; omega
        have hnbk : ev.nb ≤ 1000000 := by
          have h2 := heft_take (pairs xs) (k + 1)
          rw [htk, heft_append] at h2
          have := HW.out
          have h3 : heft [(ev, fl)] = 1 + ev.nb := by simp [heft]
          rw [h3] at h2; omega
        obtain ⟨W3, hW3⟩ : ∃ W3, W3 = wr.alloc (.cells cs 53) := ⟨_, rfl⟩
        have R3 : OfRel w xs (-1) k W3 := by rw [hW3]; exact R.out.ext' (alloc_ext _ _)
        have EB : W3.heap[wr.heap.size]? = some (.cells cs 53 (0, 0)) := by rw [hW3]; exact heap_alloc_new wr _
        have hct := count_any W3 cs ev hE (w.heap.size + 1) _ R3.sum (fun j => by have := hbd j; omega)
        have h2 : cs[2]? = some (.int .i64 nd) := by rw [← hevn]; exact hE.node
        obtain ⟨Ab, cb, h53⟩ := hE.bytes
        rw [hevb] at h53 hnbk
        have HE := Lib.hid hE; have HCS := Lib.hid hcs; have HCT := Lib.hid hct; have HST := Lib.hid hstep; have HBD := Lib.hid hbd; have H3 := Lib.hid R3; have HEB := Lib.hid EB; have HW3 := Lib.hid hW3; have HFC := Lib.hid hfc
        clear hE hcs hct hstep hbd R3 EB hW3 hfc hkp htk hkw hpk hfl hks
        go_wp2_with (first | (refine wpList_load_at rfl 53 _ rfl ⟨b, off + k * 57, none⟩ rfl cs _ (fun j u hj => by rw [add_plain]; exact HCS.out j u hj) Tryd.underlying53 rfl (by rw [size46, HE.out.size]) ?_) | (refine wpList_alloc46 rfl rfl ?_) | (refine wpList_store46 rfl _ _ rfl cs rfl rfl HE.out.size HE.out.one ?_; refine stop_of ?_))
        unfold Stop
        rw [← HW3.out]
        have h2c : W3.cell? ⟨wr.heap.size, 2, none⟩ = some (.int .i64 nd) := (blk_cell HEB.out 2).trans h2
        have HSTC : Hid (sumF (-1) ((pairs xs).take (k + 1)) = if fl = true then bump (cntS (sumF (-1) ((pairs xs).take k)) ev) 6 nb else cntS (sumF (-1) ((pairs xs).take k)) ev) := Lib.hid (by rw [HST.out, stepS, if_pos (.inl rfl), hevb])
        clear HST
        go_wp2_with (first | (refine wpList_load_at rfl 53 _ rfl ⟨wr.heap.size, 0, none⟩ rfl cs _ (fun j u hj => by rw [add_plain, Nat.zero_add]; exact (blk_cell HEB.out j).trans hj) Tryd.underlying53 rfl (by rw [size46, HE.out.size]) ?_) | (go_at_call 24; refine HCT.out.mono ?_; rintro x w4 ⟨rfl, s4, g4⟩; refine stop_of ?_))
        unfold Stop
        have hE4 : w4.heap[wr.heap.size]? = some (.cells cs 53 (0, 0)) := (g4.block _ (blk_lt HEB.out) (by have := blk_lt R.out.sum.blk; simp; omega)).trans HEB.out
        have ho4 : w4.heap[w.heap.size + 2]? = some (.cells (boolA (wasteL xs)) 4 (0, 0)) := (g4.block _ (blk_lt H3.out.out) (by simp)).trans H3.out.out
        have hcf : w4.cell? ⟨w.heap.size + 2, k, none⟩ = some (.bool fl) := (blk_cell ho4 k).trans HFC.out
        have S4 := Lib.hid s4; have G4 := Lib.hid g4; have HE4 := Lib.hid hE4; have HO4 := Lib.hid ho4
        clear s4 g4 hE4 ho4 HCT
        cases fl with
        | false =>
          have R5 := Lib.hid (H3.out.counted G4.out S4.out (by have := HSTC.out; simpa using this))
          clear S4 G4
          go_wp2
          go_roundw
          case rel => exact ⟨k + 1, by omega, by go_num, R5.out⟩
          case measure => first | (simp [intOf]; done) | (simp [intOf]; omega)
        | true =>
          have hc6 : w4.cell? ⟨w.heap.size + 1, 6, none⟩ = some (.int .i64 (cntS (sumF (-1) ((pairs xs).take k)) ev 6)) := blk_cell S4.out.blk 6
          have hf6 := blk_free S4.out.blk 6
          have hb53 : w4.cell? ⟨wr.heap.size, 53, none⟩ = some (.slice Ab nb cb) := (blk_cell HE4.out 53).trans h53
          have hr6 : 0 ≤ cntS (sumF (-1) ((pairs xs).take k)) ev 6 ∧ cntS (sumF (-1) ((pairs xs).take k)) ev 6 ≤ 3000000 := by
            have h1 := cntS_le (sumF (-1) ((pairs xs).take k)) ev 6; have h2 := HBD.out 6; omega
          have R5 : Hid (OfRel w xs (-1) (k + 1) (w4.setCell ⟨w.heap.size + 1, 6, none⟩ (.int .i64 (cntS (sumF (-1) ((pairs xs).take k)) ev 6 + nb)))) := Lib.hid (H3.out.counted (grown_setCell G4.out (.inl rfl) _) (s' := bump (cntS (sumF (-1) ((pairs xs).take k)) ev) 6 nb) ⟨by rw [blk_set S4.out.blk, sumA_bump _ 6 (by decide)]⟩ (by have := HSTC.out; simpa using this))
          generalize cntS (sumF (-1) ((pairs xs).take k)) ev 6 = z6 at hc6 hr6 R5
          obtain ⟨hr6a, hr6b⟩ := hr6
          clear S4 G4
          go_wp2
          go_roundw
          case rel => exact ⟨k + 1, by omega, by go_num, R5.out⟩
          case measure => first | (simp [intOf]; done) | (simp [intOf]; omega)
      · have hkn : (pairs xs).take k = pairs xs := List.take_of_length_le (by rw [pairs_len]; have := HM.out; omega)
        have R2 : Hid (SumAt wr (w.heap.size + 1) (ofS xs (-1))) := Lib.hid (by rw [eo.out, ← hkn]; exact R.out.sum)
        obtain ⟨arr, harr⟩ : ∃ arr, arr = sumA (ofS xs (-1)) := ⟨_, rfl⟩
        have R3 : Hid (wr.heap[w.heap.size + 1]? = some (.cells arr 26 (0, 0)) ∧ wr.heap[w.heap.size]? = some (.cells (sumA fun _ => 0) 26 (0, 0))) := Lib.hid ⟨by rw [harr]; exact R2.out.blk, R.out.res⟩
        have hsz : arr.size = 12 := by rw [harr]; rfl
        have h1c : arr.all (·.oneCell') = true := by rw [harr]; simp [sumA, Value.oneCell']
        have HARR := Lib.hid harr
        have RX := Lib.hid R.out.ext
        clear hkn harr R R2
        go_wp2_with (first | (refine wpList_load_row rfl 26 _ rfl (w.heap.size + 1) rfl 26 arr (0, 0) _ R3.out.1 Tryd.underlying26 rfl (by rw [hsz]; kernel_rfl) ?_) | (refine wpList_store_row rfl 26 _ _ rfl w.heap.size arr rfl rfl 26 _ R3.out.2 (by rw [hsz]; kernel_rfl) (by rw [hsz]; rfl) h1c ?_; refine stop_of ?_))
        unfold Stop
        go_wp2
        refine bodyPost_ret (results_cell_row rfl _ _ w.heap.size 26 arr (0, 0) _ rfl (heap_setRow R3.out.2) Tryd.underlying26 rfl (by rw [hsz]; kernel_rfl)) rfl ⟨by rw [HARR.out], ext_setRow RX.out⟩
set_option maxRecDepth 100000 in
set_option maxHeartbeats 4000000 in
theorem of_one (w : World) (A : Option Addr) (xs : List Ev) (c : Nat) (node : Int) (hO : EventsAt w A xs) (hl : xs.length ≤ 1000) (hw : heft (pairs xs) ≤ 1000000) (hn : (Lit.int .i64 node).wf = true) (hall : node ≠ -1) :
    Calls Tryd.prog 9 #[.slice A xs.length c, .int .i64 node] w fun e w' => e = .returned (.agg (sumA (ofS xs node))) ∧ Ext w w' := by
  obtain ⟨m, hm⟩ : ∃ m, m = xs.length := ⟨_, rfl⟩
  obtain ⟨W1, hW1⟩ : ∃ W1, W1 = (w.alloc (.cells (sumA fun _ => 0) 26)).alloc (.cells (sumA fun _ => 0) 26) := ⟨_, rfl⟩
  have x1 : Ext w W1 := by rw [hW1]; exact (alloc_ext _ _).trans (alloc_ext _ _)
  have hwa := wasted_any W1 A xs c (hO.ext x1) (by omega)
  rw [← hm] at hl hwa ⊢
  have hs1 : W1.heap.size = w.heap.size + 2 := by rw [hW1]; simp
  have HB : Hid (W1.heap[w.heap.size]? = some (.cells (sumA fun _ => 0) 26 (0, 0)) ∧ W1.heap[w.heap.size + 1]? = some (.cells (sumA fun _ => 0) 26 (0, 0))) := Lib.hid (by rw [hW1]; exact heap_new2 w _ _)
  rw [hs1] at hwa
  have HWA := Lib.hid hwa; have HM := Lib.hid hm; have HO := Lib.hid hO; have HW := Lib.hid hw; have HW1 := Lib.hid hW1; have X1 := Lib.hid x1
  have ez : sumA (fun _ => 0) = #[.int .i64 0, .int .i64 0, .int .i64 0, .int .i64 0, .int .i64 0, .int .i64 0, .int .i64 0, .int .i64 0, .int .i64 0, .int .i64 0, .int .i64 0, .int .i64 0] := rfl
  have EZ := Lib.hid ez
  have eall : (node == -1) = false := by simpa using hall
  have HALL := Lib.hid hall
  clear hall
  clear hwa hm hO hw hW1 hs1 x1 ez
  by_cases hlow : node < -1
  · have eo : ofS xs node = fun _ => 0 := by unfold ofS; rw [if_pos hlow]
    rw [eo]
    go_enter Tryd.func9, Tryd.ntmps9
    go_wp2
    rw [← EZ.out, ← HW1.out]
    exact bodyPost_ret (results_cell_row rfl _ _ w.heap.size 26 _ (0, 0) _ rfl HB.out.1 Tryd.underlying26 rfl (by kernel_rfl)) rfl ⟨rfl, X1.out⟩
  · have elow : decide (node < -1) = false := decide_eq_false hlow
    have eo : Hid (ofS xs node = sumF node (pairs xs)) := Lib.hid (by unfold ofS; rw [if_neg hlow])
    go_enter Tryd.func9, Tryd.ntmps9
    go_wp2_with ((go_at_call 23; rw [← EZ.out, ← HW1.out]; refine HWA.out.mono ?_; rintro e w2 ⟨rfl, o2, x2⟩))
    have S0 : Hid (OfRel w xs node 0 w2) := Lib.hid ⟨x2.heap HB.out.1, ⟨by simpa [sumF] using x2.heap HB.out.2⟩, o2, X1.out.trans x2⟩
    clear o2 x2 HWA HB HW1 EZ X1 hlow
    go_loopw [16, 7, 8] (fun i _ _ wr => ∃ k : Nat, k ≤ m ∧ i = .int .i64 k ∧ OfRel w xs node k wr) (fun i _ _ _ => m - (intOf i).toNat)
    case atStart => exact ⟨0, by omega, rfl, S0.out⟩
    case round =>
      clear S0
      obtain ⟨k, hk, rfl, hr⟩ := hrel
      have R := Lib.hid hr
      clear hr
      by_cases hlt : k < m
      · have hks : k < xs.length := by rw [← HM.out]; exact hlt
        obtain ⟨b, off, cs, rfl, hb, hE, hcs⟩ := (HO.out.ext R.out.ext) k hks
        have hkp : k < (pairs xs).length := by rw [pairs_len]; exact hks
        have htk : (pairs xs).take (k + 1) = (pairs xs).take k ++ [(pairs xs)[k]] := List.take_succ_eq_append_getElem hkp
        have hkw : k < (wasteL xs).length := by rw [wasteL_len]; exact hks
        have hpk : (pairs xs)[k] = (xs[k], (wasteL xs)[k]) := by simp [pairs]
        rw [hpk] at htk
        obtain ⟨fl, hfl⟩ : ∃ fl, fl = (wasteL xs)[k] := ⟨_, rfl⟩
        have hfc : (boolA (wasteL xs))[k]? = some (.bool fl) := by unfold boolA; simp [hkw, hfl]
        obtain ⟨e, he⟩ : ∃ e, e = xs[k] := ⟨_, rfl⟩
        rw [← he] at hE htk
        rw [← hfl] at htk
        obtain ⟨kd, nd, wh, wl, nb, ob⟩ := e
        obtain ⟨ev, hev⟩ : ∃ ev : Ev, ev = ⟨kd, nd, wh, wl, nb, ob⟩ := ⟨_, rfl⟩
        rw [← hev] at hE htk
        have hevn : ev.node = nd := by rw [hev]
        have hevb : ev.nb = nb := by rw [hev]
        clear he hev
        have hstep : sumF node ((pairs xs).take (k + 1)) = stepS node (sumF node ((pairs xs).take k)) (ev, fl) := by rw [htk, sumF_snoc]
        have hbd : ∀ j, 0 ≤ sumF node ((pairs xs).take k) j ∧ sumF node ((pairs xs).take k) j ≤ 1000000 := fun j => by
          have h1 := sumF_le node ((pairs xs).take k) j; have h2 := heft_take (pairs xs) k; have := HW.out; omega
        have hnbk : ev.nb ≤ 1000000 := by
          have h2 := heft_take (pairs xs) (k + 1)
          rw [htk, heft_append] at h2
          have := HW.out
          have h3 : heft [(ev, fl)] = 1 + ev.nb := by simp [heft]
          rw [h3] at h2; omega
        obtain ⟨W3, hW3⟩ : ∃ W3, W3 = wr.alloc (.cells cs 53) := ⟨_, rfl⟩
        have R3 : OfRel w xs node k W3 := by rw [hW3]; exact R.out.ext' (alloc_ext _ _)
        have EB : W3.heap[wr.heap.size]? = some (.cells cs 53 (0, 0)) := by rw [hW3]; exact heap_alloc_new wr _
        have hct := count_any W3 cs ev hE (w.heap.size + 1) _ R3.sum (fun j => by have := hbd j; omega)
        have h2 : cs[2]? = some (.int .i64 nd) := by rw [← hevn]; exact hE.node
        obtain ⟨Ab, cb, h53⟩ := hE.bytes
        rw [hevb] at h53 hnbk
        have HE := Lib.hid hE; have HCS := Lib.hid hcs; have HCT := Lib.hid hct; have HST := Lib.hid hstep; have HBD := Lib.hid hbd; have H3 := Lib.hid R3; have HEB := Lib.hid EB; have HW3 := Lib.hid hW3; have HFC := Lib.hid hfc
        clear hE hcs hct hstep hbd R3 EB hW3 hfc hkp htk hkw hpk hfl hks
        go_wp2_with (first | (refine wpList_load_at rfl 53 _ rfl ⟨b, off + k * 57, none⟩ rfl cs _ (fun j u hj => by rw [add_plain]; exact HCS.out j u hj) Tryd.underlying53 rfl (by rw [size46, HE.out.size]) ?_) | (refine wpList_alloc46 rfl rfl ?_) | (refine wpList_store46 rfl _ _ rfl cs rfl rfl HE.out.size HE.out.one ?_; refine stop_of ?_))
        unfold Stop
        rw [← HW3.out]
        have h2c : W3.cell? ⟨wr.heap.size, 2, none⟩ = some (.int .i64 nd) := (blk_cell HEB.out 2).trans h2
        by_cases hnd : node = nd
        · have HSTC : Hid (sumF node ((pairs xs).take (k + 1)) = if fl = true then bump (cntS (sumF node ((pairs xs).take k)) ev) 6 nb else cntS (sumF node ((pairs xs).take k)) ev) := Lib.hid (by rw [HST.out, stepS, if_pos (.inr (by rw [hevn]; exact hnd.symm)), hevb])
          clear HST
          subst hnd
          go_wp2_with (first | (refine wpList_load_at rfl 53 _ rfl ⟨wr.heap.size, 0, none⟩ rfl cs _ (fun j u hj => by rw [add_plain, Nat.zero_add]; exact (blk_cell HEB.out j).trans hj) Tryd.underlying53 rfl (by rw [size46, HE.out.size]) ?_) | (go_at_call 24; refine HCT.out.mono ?_; rintro x w4 ⟨rfl, s4, g4⟩; refine stop_of ?_))
          unfold Stop
          have hE4 : w4.heap[wr.heap.size]? = some (.cells cs 53 (0, 0)) := (g4.block _ (blk_lt HEB.out) (by have := blk_lt R.out.sum.blk; simp; omega)).trans HEB.out
          have ho4 : w4.heap[w.heap.size + 2]? = some (.cells (boolA (wasteL xs)) 4 (0, 0)) := (g4.block _ (blk_lt H3.out.out) (by simp)).trans H3.out.out
          have hcf : w4.cell? ⟨w.heap.size + 2, k, none⟩ = some (.bool fl) := (blk_cell ho4 k).trans HFC.out
          have S4 := Lib.hid s4; have G4 := Lib.hid g4; have HE4 := Lib.hid hE4; have HO4 := Lib.hid ho4
          clear s4 g4 hE4 ho4 HCT
          cases fl with
          | false =>
            have R5 := Lib.hid (H3.out.counted G4.out S4.out (by have := HSTC.out; simpa using this))
            clear S4 G4
            go_wp2
            go_roundw
            case rel => exact ⟨k + 1, by omega, by go_num, R5.out⟩
            case measure => first | (simp [intOf]; done) | (simp [intOf]; omega)
          | true =>
            have hc6 : w4.cell? ⟨w.heap.size + 1, 6, none⟩ = some (.int .i64 (cntS (sumF node ((pairs xs).take k)) ev 6)) := blk_cell S4.out.blk 6
            have hf6 := blk_free S4.out.blk 6
            have hb53 : w4.cell? ⟨wr.heap.size, 53, none⟩ = some (.slice Ab nb cb) := (blk_cell HE4.out 53).trans h53
            have hr6 : 0 ≤ cntS (sumF node ((pairs xs).take k)) ev 6 ∧ cntS (sumF node ((pairs xs).take k)) ev 6 ≤ 3000000 := by
              have h1 := cntS_le (sumF node ((pairs xs).take k)) ev 6; have h2 := HBD.out 6; omega
            have R5 : Hid (OfRel w xs node (k + 1) (w4.setCell ⟨w.heap.size + 1, 6, none⟩ (.int .i64 (cntS (sumF node ((pairs xs).take k)) ev 6 + nb)))) := Lib.hid (H3.out.counted (grown_setCell G4.out (.inl rfl) _) (s' := bump (cntS (sumF node ((pairs xs).take k)) ev) 6 nb) ⟨by rw [blk_set S4.out.blk, sumA_bump _ 6 (by decide)]⟩ (by have := HSTC.out; simpa using this))
            generalize cntS (sumF node ((pairs xs).take k)) ev 6 = z6 at hc6 hr6 R5
            obtain ⟨hr6a, hr6b⟩ := hr6
            clear S4 G4
            go_wp2
            go_roundw
            case rel => exact ⟨k + 1, by omega, by go_num, R5.out⟩
            case measure => first | (simp [intOf]; done) | (simp [intOf]; omega)
        · have end1 : (nd != node) = true := by simpa using fun h : nd = node => hnd h.symm
          have end2 : (node != -1) = true := by simpa using HALL.out
          have R5 : Hid (OfRel w xs node (k + 1) W3) := Lib.hid (H3.out.counted (grown_same _ _) H3.out.sum (by rw [HST.out, stepS, if_neg (by simp; exact ⟨HALL.out, by rw [hevn]; exact fun h => hnd h.symm⟩)]))
          clear hnd HST HCT
          go_wp2
          go_roundw
          case rel => exact ⟨k + 1, by omega, by go_num, R5.out⟩
          case measure => first | (simp [intOf]; done) | (simp [intOf]; omega)
      · have hkn : (pairs xs).take k = pairs xs := List.take_of_length_le (by rw [pairs_len]; have := HM.out; omega)
        have R2 : Hid (SumAt wr (w.heap.size + 1) (ofS xs node)) := Lib.hid (by rw [eo.out, ← hkn]; exact R.out.sum)
        obtain ⟨arr, harr⟩ : ∃ arr, arr = sumA (ofS xs node) := ⟨_, rfl⟩
        have R3 : Hid (wr.heap[w.heap.size + 1]? = some (.cells arr 26 (0, 0)) ∧ wr.heap[w.heap.size]? = some (.cells (sumA fun _ => 0) 26 (0, 0))) := Lib.hid ⟨by rw [harr]; exact R2.out.blk, R.out.res⟩
        have hsz : arr.size = 12 := by rw [harr]; rfl
        have h1c : arr.all (·.oneCell') = true := by rw [harr]; simp [sumA, Value.oneCell']
        have HARR := Lib.hid harr
        have RX := Lib.hid R.out.ext
        clear hkn harr R R2
        go_wp2_with (first | (refine wpList_load_row rfl 26 _ rfl (w.heap.size + 1) rfl 26 arr (0, 0) _ R3.out.1 Tryd.underlying26 rfl (by rw [hsz]; kernel_rfl) ?_) | (refine wpList_store_row rfl 26 _ _ rfl w.heap.size arr rfl rfl 26 _ R3.out.2 (by rw [hsz]; kernel_rfl) (by rw [hsz]; rfl) h1c ?_; refine stop_of ?_))
        unfold Stop
        go_wp2
        refine bodyPost_ret (results_cell_row rfl _ _ w.heap.size 26 arr (0, 0) _ rfl (heap_setRow R3.out.2) Tryd.underlying26 rfl (by rw [hsz]; kernel_rfl)) rfl ⟨by rw [HARR.out], ext_setRow RX.out⟩
theorem of_walk (w : World) (A : Option Addr) (xs : List Ev) (c : Nat) (node : Int) (hO : EventsAt w A xs) (hl : xs.length ≤ 1000) (hw : heft (pairs xs) ≤ 1000000) (hn : (Lit.int .i64 node).wf = true) :
    Calls Tryd.prog 9 #[.slice A xs.length c, .int .i64 node] w fun e w' => e = .returned (.agg (sumA (ofS xs node))) ∧ Ext w w' := by
  by_cases h : node = -1
  · subst h; exact of_all w A xs c hO hl hw
  · exact of_one w A xs c node hO hl hw hn h
end Go.Proofs.YtlddpdlebdjniaaDoor
