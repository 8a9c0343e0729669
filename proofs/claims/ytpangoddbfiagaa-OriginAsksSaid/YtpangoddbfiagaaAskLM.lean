/- Proved: OriginAsks, for every input: whatever was done, any fetch is answered as the document says, and changes nothing of the objects (printed by gen_asks.py). -/
import Derived.Test.YtpangoddbfiagaaG28
namespace Go.Proofs.Ytpangoddbfiagaa
open Go.ChangeShapes Go.WideShapes Go.ChangeAt Go.RowKit Go.Deep Go.Joins
open Go.Maps Go.ChangeMaps
set_option linter.unusedVariables false
set_option linter.unusedSimpArgs false

theorem Below.heap_at {B : Nat} {a b : World} (h : Below B a b) {g : Nat} (hg : g < B) {o : Obj} (e : a.heap[g]? = some o) : b.heap[g]? = some o := (h.block g hg).trans e
theorem src_act {W : World} {cs : Nat} {a : ActP} (h : W.heap[cs]? = some (.cells (actC a).toArray 40)) (hr : RAct W a (actC a)) : RowsG W 23 (RAct W) (.slice (some ⟨cs, 0, none⟩) 1 1) [a] :=
  ⟨some ⟨cs, 0, none⟩, 1, rfl, Nat.le_refl _, fun e => (by cases e), fun k hk => ⟨cs, 0, actC a, rfl, by
    have h0 : k = 0 := by simp at hk; exact hk
    subst h0; exact hr, blk_lt h, fun j u hu => by
    have h0 : k = 0 := by simp at hk; exact hk
    subst h0
    rw [show 0 + 0 * 23 + j = j by omega, blk_cell h]
    simpa using hu⟩⟩
theorem cut5 {A P : Value → Value → Value → Value → Bool → World → Prop} {G : Prop} (h2 : (∀ v1 v2 v3 v4 r W, A v1 v2 v3 v4 r W → P v1 v2 v3 v4 r W) → G) (h1 : ∀ v1 v2 v3 v4 r W, A v1 v2 v3 v4 r W → P v1 v2 v3 v4 r W) : G := h2 h1
def fAct (k : Int) (f : Ft) : ActP := ⟨k, [], zeroM, .slice none 0 0, [], .slice none 0 0, f, 0, 0⟩
theorem fAct_r (k : Int) (f : Ft) (W : World) : RAct W (fAct k f) (actC (fAct k f)) := ⟨rfl, texts_nil _, low_nil _, ⟨none, 0, rfl, Nat.le_refl _, fun _ => rfl, fun j hj => by simp [fAct] at hj⟩, low_nil _, by simp [fAct]⟩
set_option maxRecDepth 100000 in
set_option maxHeartbeats 8000000 in
theorem asks_walk (lv : Value) (xs : List ActP) (f : Ft) (w : World) (hL : RowsG w 23 (RAct w) lv xs) (hwt : xs.length * 264 ≤ 140737488351232) :
    Calls Try.prog 6 #[lv, .agg (ftC f)] w fun e w' => e = .returned (.bool true) ∧ Below w.heap.size w w' := by
  obtain ⟨LA, LC, rfl⟩ := RowsG.slice hL
  obtain ⟨n, hn⟩ : ∃ n, n = xs.length := ⟨_, rfl⟩
  have HL := Lib.hid hL
  rw [← hn] at HL ⊢
  have HN := Lib.hid hn; have HWT := Lib.hid hwt
  clear hL hn hwt
  obtain ⟨fo, ff, fto, mt, mw, nt, nw⟩ := f
  have RAF := Lib.hid (fun W => (fAct_r 0 ⟨fo, ff, fto, mt, mw, nt, nw⟩ W : RAct W (fAct 0 ⟨fo, ff, fto, mt, mw, nt, nw⟩) (actC (fAct 0 ⟨fo, ff, fto, mt, mw, nt, nw⟩))))
  simp only [ftC]
  go_enter Try.func6, Try.ntmps6
  go_wp2_with (refine wpList_boxA 29 rfl _ rfl #[.string ⟨fo.toArray⟩, .int .i64 ff, .int .i64 fto, .string ⟨mt.toArray⟩, .bool mw, .string ⟨nt.toArray⟩, .bool nw] rfl ?_; intro W0 x0 n0 s0; refine stop_of ?_)
  unfold Stop
  obtain ⟨fb, hfb⟩ : ∃ p, p = w.heap.size := ⟨_, rfl⟩
  rw [← hfb] at n0 ⊢
  have X0 := Lib.hid x0; have N0 := Lib.hid n0
  clear x0 n0 s0 hfb
  go_wp2_with (go_at_call 22; refine (begin_any _).mono ?_; rintro e w1 ⟨pb, b, x, rfl, h1⟩; refine stop_of ?_)
  unfold Stop
  have H1 := Lib.hid h1
  clear h1
  go_wp2_with fail
  obtain ⟨BB, hBB⟩ : ∃ p, p = w1.drew.heap.size := ⟨_, rfl⟩
  have HB1 := Lib.hid hBB
  clear hBB
  apply cut5 (A := fun _ _ _ _ r W => Hid (Play W0 W pb b x 0 [] [] [] noP) ∧ Hid (r = false → ([] ++ xs ++ [(fAct 0 ⟨fo, ff, fto, mt, mw, nt, nw⟩)]).length ≤ 40 ∧ ∀ a ∈ [] ++ xs ++ [(fAct 0 ⟨fo, ff, fto, mt, mw, nt, nw⟩)], ActZ a))
  · intro TAIL
    refine wp_region_trzR (keepLow BB) [] [] (.one 0 (.pure [1, 2, 3, 4, 5, 6, 8, 10, 11] (.fork 7 (.fork 9 (.one 12 (.one 13 (.one 14 (.pure [15] (.done))))) 12 (.one 9 (.one 13 (.one 14 (.pure [15] (.done)))))) 12 (.one 7 (.one 9 (.one 13 (.one 14 (.pure [15] (.done))))))))) (by kernel_rfl) (by kernel_rfl) (fun c a d v w h => by cases d <;> exact h) ?_
    (simp only [pickOps, List.map_cons, List.map_nil, List.getD_cons_succ, List.getD_cons_zero]; refine wpQuiet_nil ?_)
    (rw [wpTzR_one]; simp only [pickOps, List.map_cons, List.map_nil, List.getD_cons_succ, List.getD_cons_zero]; go_wp2_with (go_at_call 11; refine (awake_any _).mono ?_; rintro e w2 ⟨rfl, x2⟩; refine stop_of ?_))
    unfold Stop
    have H2 := Lib.hid (H1.out.ext ((Ext.drew (Ext.refl w1)).trans x2)); have HBB := Lib.hid (show BB ≤ w2.heap.size from by have h1 := HB1.out; have h2 := x2.size; omega)
    have B2 := Lib.hid (Below.mono x2 (Nat.le_of_eq HB1.out))
    go_wp2_with fail
    refine ⟨B2.out, ?_⟩
    clear x2 B2
    have FBL := Lib.hid (show fb < BB from by have h1 := HB1.out; have h2 := blk_lt N0.out; have h3 := H1.out.base.size; have h4 : w1.drew.heap.size = w1.heap.size := rfl; omega)
    have N2 := Lib.hid (H2.out.base.heap N0.out)
    have HLW := Lib.hid (show RowsG w2 23 (RAct w2) (.slice LA n LC) xs from by exact acts_ext HL.out (X0.out.trans H2.out.base))
    have XI := Lib.hid (Ext.refl w2)
    (rw [wpTzR_pure]; simp only [pickOps, List.map_cons, List.map_nil, List.getD_cons_succ, List.getD_cons_zero]; (repeat (go_big_quiet_step (fail))); (refine wpQuiet_get 29 _ rfl _ rfl fb 0 29 _ [.string ⟨fo.toArray⟩, .int .i64 ff, .int .i64 fto, .string ⟨mt.toArray⟩, .bool mw, .string ⟨nt.toArray⟩, .bool nw] rfl (fun W hW => by obtain ⟨y, rfl⟩ := hW; exact (Below.heap_at y.ext FBL.out N2.out)) (by kernel_rfl) Try.underlying29 rfl size29r ?_; simp only [Act.put, List.setIfInBounds_toArray, List.set_cons_succ, List.set_cons_zero]); (repeat (go_big_quiet_step (fail))); refine wpQuiet_nil ?_)
    rw [wpTzR_fork]
    refine ⟨?_, ?_⟩
    · (simp only [pickOps, List.map_cons, List.map_nil, List.getD_cons_succ, List.getD_cons_zero]; go_wp2_with fail)
      refine ⟨Below.mono (ext_alloc1 w2 (.cells #[] 40)) (Nat.le_trans HBB.out XI.out.size), ?_⟩
      have E1 := Lib.hid (XI.out.trans (ext_alloc1 w2 (.cells #[] 40)))
      have LE := Lib.hid (show (w2.alloc (.cells #[] 40)).ownsRow w2.heap.size 40 23 (.slice (some ⟨w2.heap.size, 0, none⟩) 0 0) 0 (actCells []) from by have h : (w2.alloc (.cells #[] 40)).ownsRow w2.heap.size 40 23 (.slice (some ⟨w2.heap.size, 0, none⟩) 0 0) 0 (actCells []) := World.ownsRow_made w2 #[] 0 XI.out.size (by unfold maxLen; omega) rfl; simpa using h)
      rw [wpTzR_fork]
      refine ⟨?_, ?_⟩
      · (simp only [pickOps, List.map_cons, List.map_nil, List.getD_cons_succ, List.getD_cons_zero]; refine wpList_appA (W0 := w2) rfl _ _ rfl (.slice (some ⟨w2.heap.size, 0, none⟩) 0 0) (.slice LA n LC) [] xs E1.out LE.out (acts_ext HLW.out E1.out) rfl rfl (by have := HWT.out; simp; omega) ?_; intro v4 w4 r4 e4 b4 x4; refine stop_of ?_)
        unfold Stop
        go_wp2_with fail
        refine ⟨Below.mono b4 HBB.out, ?_⟩
        have R4 := Lib.hid r4; have E9 := Lib.hid e4
        clear r4 e4 b4 x4
        (rw [wpTzR_one]; simp only [pickOps, List.map_cons, List.map_nil, List.getD_cons_succ, List.getD_cons_zero]; go_wp2_with fail)
        refine ⟨Below.mono (ext_alloc1 w4 (.cells (actC (fAct 0 ⟨fo, ff, fto, mt, mw, nt, nw⟩)).toArray 40)) (Nat.le_trans HBB.out E9.out.size), ?_⟩
        have CS := Lib.hid (show (w4.alloc (.cells (actC (fAct 0 ⟨fo, ff, fto, mt, mw, nt, nw⟩)).toArray 40)).heap[w4.heap.size]? = some (.cells (actC (fAct 0 ⟨fo, ff, fto, mt, mw, nt, nw⟩)).toArray 40) from heap_alloc_new w4 (.cells (actC (fAct 0 ⟨fo, ff, fto, mt, mw, nt, nw⟩)).toArray 40))
        have R4 := Lib.hid (ownsRow_below R4.out (ext_alloc1 w4 (.cells (actC (fAct 0 ⟨fo, ff, fto, mt, mw, nt, nw⟩)).toArray 40)))
        have E9 := Lib.hid (E9.out.trans (ext_alloc1 w4 (.cells (actC (fAct 0 ⟨fo, ff, fto, mt, mw, nt, nw⟩)).toArray 40)))
        (rw [wpTzR_one]; simp only [pickOps, List.map_cons, List.map_nil, List.getD_cons_succ, List.getD_cons_zero]; refine wpList_appA (W0 := w2) rfl _ _ rfl v4 (.slice (some ⟨w4.heap.size, 0, none⟩) 1 1) ([] ++ xs) [(fAct 0 ⟨fo, ff, fto, mt, mw, nt, nw⟩)] E9.out R4.out (src_act CS.out (RAF.out _)) rfl rfl (by have := HWT.out; simp; omega) ?_; intro v5 w5 r5 e5 b5 x5; refine stop_of ?_)
        unfold Stop
        go_wp2_with fail
        refine ⟨Below.mono b5 HBB.out, ?_⟩
        obtain ⟨ys, hys⟩ : ∃ ys, ys = [] ++ xs ++ [(fAct 0 ⟨fo, ff, fto, mt, mw, nt, nw⟩)] := ⟨_, rfl⟩
        have HYS := Lib.hid hys
        rw [← hys] at r5
        clear hys
        have hall : ∀ a ∈ ys, RAct w5 a (actC a) := fun a ha => by
          rw [HYS.out] at ha
          rcases List.mem_append.1 ha with h1 | h1
          · exact rows_all (acts_ext HLW.out e5) a (by simpa using h1)
          · rw [List.mem_singleton.1 h1]; exact RAF.out _
        have hro := own_acts r5 hall
        obtain ⟨A5, c5, rfl⟩ := RowsG.slice hro
        have HGR := Lib.hid (great_any w5 A5 _ c5 hro)
        have X5 := Lib.hid e5
        clear r5 e5 b5 x5 hall hro R4 E9 CS
        (rw [wpTzR_one]; simp only [pickOps, List.map_cons, List.map_nil, List.getD_cons_succ, List.getD_cons_zero]; go_wp2_with (go_at_call 12; refine HGR.out.mono ?_; rintro e w6 ⟨r, rfl, hr, x6⟩; refine stop_of ?_))
        unfold Stop
        have HR6 := Lib.hid hr; have X6 := Lib.hid (X5.out.trans x6); have B6 := Lib.hid (Below.mono x6 (Nat.le_trans HBB.out X5.out.size))
        clear hr x6 HGR
        go_wp2_with fail
        refine ⟨B6.out, ?_⟩
        (rw [wpTzR_pure]; simp only [pickOps, List.map_cons, List.map_nil, List.getD_cons_succ, List.getD_cons_zero]; (repeat (go_big_quiet_step (fail))); refine wpQuiet_nil ?_)
        rw [wpTzR_done]
        generalize Value.slice (some ⟨w4.heap.size, 0, none⟩) 1 1 = v25
        generalize Value.slice (some ⟨w2.heap.size, 0, none⟩) 0 0 = v20
        generalize Value.slice A5 ys.length c5 = v26
        exact TAIL v20 v4 v25 v26 r w6 ⟨Lib.hid (H2.out.ext X6.out), Lib.hid fun e => by have h := HR6.out e; rw [HYS.out] at h; exact h⟩
      · (simp only [pickOps, List.map_cons, List.map_nil, List.getD_cons_succ, List.getD_cons_zero]; go_wp2_with fail)
        refine ⟨Below.mono (ext_alloc1 (w2.alloc (.cells #[] 40)) (.cells (actC (fAct 0 ⟨fo, ff, fto, mt, mw, nt, nw⟩)).toArray 40)) (Nat.le_trans HBB.out E1.out.size), ?_⟩
        have E2 := Lib.hid (E1.out.trans (ext_alloc1 (w2.alloc (.cells #[] 40)) (.cells (actC (fAct 0 ⟨fo, ff, fto, mt, mw, nt, nw⟩)).toArray 40)))
        have LE := Lib.hid (show ((w2.alloc (.cells #[] 40)).alloc (.cells (actC (fAct 0 ⟨fo, ff, fto, mt, mw, nt, nw⟩)).toArray 40)).ownsRow w2.heap.size 40 23 (.slice (some ⟨w2.heap.size, 0, none⟩) 0 0) 0 (actCells []) from ownsRow_below LE.out (ext_alloc1 (w2.alloc (.cells #[] 40)) (.cells (actC (fAct 0 ⟨fo, ff, fto, mt, mw, nt, nw⟩)).toArray 40)))
        have CS := Lib.hid (show ((w2.alloc (.cells #[] 40)).alloc (.cells (actC (fAct 0 ⟨fo, ff, fto, mt, mw, nt, nw⟩)).toArray 40)).heap[(w2.heap.size + 1)]? = some (.cells (actC (fAct 0 ⟨fo, ff, fto, mt, mw, nt, nw⟩)).toArray 40) from by have := heap_alloc_new (w2.alloc (.cells #[] 40)) (.cells (actC (fAct 0 ⟨fo, ff, fto, mt, mw, nt, nw⟩)).toArray 40); simpa using this)
        (rw [wpTzR_one]; simp only [pickOps, List.map_cons, List.map_nil, List.getD_cons_succ, List.getD_cons_zero]; refine wpList_appA (W0 := w2) rfl _ _ rfl (.slice (some ⟨w2.heap.size, 0, none⟩) 0 0) (.slice LA n LC) [] xs E2.out LE.out (acts_ext HLW.out E2.out) rfl rfl (by have := HWT.out; simp; omega) ?_; intro v4 w4 r4 e4 b4 x4; refine stop_of ?_)
        unfold Stop
        go_wp2_with fail
        refine ⟨Below.mono b4 HBB.out, ?_⟩
        have R4 := Lib.hid r4; have E9 := Lib.hid e4
        have CS := Lib.hid (x4.heap CS.out (by simp [Value.ownBlock]))
        clear r4 e4 b4 x4
        (rw [wpTzR_one]; simp only [pickOps, List.map_cons, List.map_nil, List.getD_cons_succ, List.getD_cons_zero]; refine wpList_appA (W0 := w2) rfl _ _ rfl v4 (.slice (some ⟨(w2.heap.size + 1), 0, none⟩) 1 1) ([] ++ xs) [(fAct 0 ⟨fo, ff, fto, mt, mw, nt, nw⟩)] E9.out R4.out (src_act CS.out (RAF.out _)) rfl rfl (by have := HWT.out; simp; omega) ?_; intro v5 w5 r5 e5 b5 x5; refine stop_of ?_)
        unfold Stop
        go_wp2_with fail
        refine ⟨Below.mono b5 HBB.out, ?_⟩
        obtain ⟨ys, hys⟩ : ∃ ys, ys = [] ++ xs ++ [(fAct 0 ⟨fo, ff, fto, mt, mw, nt, nw⟩)] := ⟨_, rfl⟩
        have HYS := Lib.hid hys
        rw [← hys] at r5
        clear hys
        have hall : ∀ a ∈ ys, RAct w5 a (actC a) := fun a ha => by
          rw [HYS.out] at ha
          rcases List.mem_append.1 ha with h1 | h1
          · exact rows_all (acts_ext HLW.out e5) a (by simpa using h1)
          · rw [List.mem_singleton.1 h1]; exact RAF.out _
        have hro := own_acts r5 hall
        obtain ⟨A5, c5, rfl⟩ := RowsG.slice hro
        have HGR := Lib.hid (great_any w5 A5 _ c5 hro)
        have X5 := Lib.hid e5
        clear r5 e5 b5 x5 hall hro R4 E9 CS
        (rw [wpTzR_one]; simp only [pickOps, List.map_cons, List.map_nil, List.getD_cons_succ, List.getD_cons_zero]; go_wp2_with (go_at_call 12; refine HGR.out.mono ?_; rintro e w6 ⟨r, rfl, hr, x6⟩; refine stop_of ?_))
        unfold Stop
        have HR6 := Lib.hid hr; have X6 := Lib.hid (X5.out.trans x6); have B6 := Lib.hid (Below.mono x6 (Nat.le_trans HBB.out X5.out.size))
        clear hr x6 HGR
        go_wp2_with fail
        refine ⟨B6.out, ?_⟩
        (rw [wpTzR_pure]; simp only [pickOps, List.map_cons, List.map_nil, List.getD_cons_succ, List.getD_cons_zero]; (repeat (go_big_quiet_step (fail))); refine wpQuiet_nil ?_)
        rw [wpTzR_done]
        generalize Value.slice (some ⟨(w2.heap.size + 1), 0, none⟩) 1 1 = v25
        generalize Value.slice (some ⟨w2.heap.size, 0, none⟩) 0 0 = v20
        generalize Value.slice A5 ys.length c5 = v26
        exact TAIL v20 v4 v25 v26 r w6 ⟨Lib.hid (H2.out.ext X6.out), Lib.hid fun e => by have h := HR6.out e; rw [HYS.out] at h; exact h⟩
    · (simp only [pickOps, List.map_cons, List.map_nil, List.getD_cons_succ, List.getD_cons_zero]; go_wp2_with fail)
      refine ⟨Below.mono (ext_alloc1 w2 (.cells (actC (fAct 0 ⟨fo, ff, fto, mt, mw, nt, nw⟩)).toArray 40)) (Nat.le_trans HBB.out XI.out.size), ?_⟩
      have E1 := Lib.hid (XI.out.trans (ext_alloc1 w2 (.cells (actC (fAct 0 ⟨fo, ff, fto, mt, mw, nt, nw⟩)).toArray 40)))
      have CS := Lib.hid (show (w2.alloc (.cells (actC (fAct 0 ⟨fo, ff, fto, mt, mw, nt, nw⟩)).toArray 40)).heap[w2.heap.size]? = some (.cells (actC (fAct 0 ⟨fo, ff, fto, mt, mw, nt, nw⟩)).toArray 40) from by have := heap_alloc_new w2 (.cells (actC (fAct 0 ⟨fo, ff, fto, mt, mw, nt, nw⟩)).toArray 40); simpa using this)
      (rw [wpTzR_one]; simp only [pickOps, List.map_cons, List.map_nil, List.getD_cons_succ, List.getD_cons_zero]; go_wp2_with fail)
      refine ⟨Below.mono (ext_alloc1 (w2.alloc (.cells (actC (fAct 0 ⟨fo, ff, fto, mt, mw, nt, nw⟩)).toArray 40)) (.cells #[] 40)) (Nat.le_trans HBB.out E1.out.size), ?_⟩
      have E2 := Lib.hid (E1.out.trans (ext_alloc1 (w2.alloc (.cells (actC (fAct 0 ⟨fo, ff, fto, mt, mw, nt, nw⟩)).toArray 40)) (.cells #[] 40)))
      have CS := Lib.hid ((ext_alloc1 (w2.alloc (.cells (actC (fAct 0 ⟨fo, ff, fto, mt, mw, nt, nw⟩)).toArray 40)) (.cells #[] 40)).heap CS.out)
      have LE := Lib.hid (show ((w2.alloc (.cells (actC (fAct 0 ⟨fo, ff, fto, mt, mw, nt, nw⟩)).toArray 40)).alloc (.cells #[] 40)).ownsRow w2.heap.size 40 23 (.slice (some ⟨(w2.heap.size + 1), 0, none⟩) 0 0) 0 (actCells []) from by have h : ((w2.alloc (.cells (actC (fAct 0 ⟨fo, ff, fto, mt, mw, nt, nw⟩)).toArray 40)).alloc (.cells #[] 40)).ownsRow w2.heap.size 40 23 (.slice (some ⟨(w2.alloc (.cells (actC (fAct 0 ⟨fo, ff, fto, mt, mw, nt, nw⟩)).toArray 40)).heap.size, 0, none⟩) 0 0) 0 (actCells []) := World.ownsRow_made (w2.alloc (.cells (actC (fAct 0 ⟨fo, ff, fto, mt, mw, nt, nw⟩)).toArray 40)) #[] 0 E1.out.size (by unfold maxLen; omega) rfl; simpa using h)
      (rw [wpTzR_one]; simp only [pickOps, List.map_cons, List.map_nil, List.getD_cons_succ, List.getD_cons_zero]; refine wpList_appA (W0 := w2) rfl _ _ rfl (.slice (some ⟨(w2.heap.size + 1), 0, none⟩) 0 0) (.slice LA n LC) [] xs E2.out LE.out (acts_ext HLW.out E2.out) rfl rfl (by have := HWT.out; simp; omega) ?_; intro v4 w4 r4 e4 b4 x4; refine stop_of ?_)
      unfold Stop
      go_wp2_with fail
      refine ⟨Below.mono b4 HBB.out, ?_⟩
      have R4 := Lib.hid r4; have E9 := Lib.hid e4
      have CS := Lib.hid (x4.heap CS.out (by simp [Value.ownBlock]))
      clear r4 e4 b4 x4
      (rw [wpTzR_one]; simp only [pickOps, List.map_cons, List.map_nil, List.getD_cons_succ, List.getD_cons_zero]; refine wpList_appA (W0 := w2) rfl _ _ rfl v4 (.slice (some ⟨w2.heap.size, 0, none⟩) 1 1) ([] ++ xs) [(fAct 0 ⟨fo, ff, fto, mt, mw, nt, nw⟩)] E9.out R4.out (src_act CS.out (RAF.out _)) rfl rfl (by have := HWT.out; simp; omega) ?_; intro v5 w5 r5 e5 b5 x5; refine stop_of ?_)
      unfold Stop
      go_wp2_with fail
      refine ⟨Below.mono b5 HBB.out, ?_⟩
      obtain ⟨ys, hys⟩ : ∃ ys, ys = [] ++ xs ++ [(fAct 0 ⟨fo, ff, fto, mt, mw, nt, nw⟩)] := ⟨_, rfl⟩
      have HYS := Lib.hid hys
      rw [← hys] at r5
      clear hys
      have hall : ∀ a ∈ ys, RAct w5 a (actC a) := fun a ha => by
        rw [HYS.out] at ha
        rcases List.mem_append.1 ha with h1 | h1
        · exact rows_all (acts_ext HLW.out e5) a (by simpa using h1)
        · rw [List.mem_singleton.1 h1]; exact RAF.out _
      have hro := own_acts r5 hall
      obtain ⟨A5, c5, rfl⟩ := RowsG.slice hro
      have HGR := Lib.hid (great_any w5 A5 _ c5 hro)
      have X5 := Lib.hid e5
      clear r5 e5 b5 x5 hall hro R4 E9 CS
      (rw [wpTzR_one]; simp only [pickOps, List.map_cons, List.map_nil, List.getD_cons_succ, List.getD_cons_zero]; go_wp2_with (go_at_call 12; refine HGR.out.mono ?_; rintro e w6 ⟨r, rfl, hr, x6⟩; refine stop_of ?_))
      unfold Stop
      have HR6 := Lib.hid hr; have X6 := Lib.hid (X5.out.trans x6); have B6 := Lib.hid (Below.mono x6 (Nat.le_trans HBB.out X5.out.size))
      clear hr x6 HGR
      go_wp2_with fail
      refine ⟨B6.out, ?_⟩
      (rw [wpTzR_pure]; simp only [pickOps, List.map_cons, List.map_nil, List.getD_cons_succ, List.getD_cons_zero]; (repeat (go_big_quiet_step (fail))); refine wpQuiet_nil ?_)
      rw [wpTzR_done]
      generalize Value.slice (some ⟨w2.heap.size, 0, none⟩) 1 1 = v25
      generalize Value.slice (some ⟨(w2.heap.size + 1), 0, none⟩) 0 0 = v20
      generalize Value.slice A5 ys.length c5 = v26
      exact TAIL v20 v4 v25 v26 r w6 ⟨Lib.hid (H2.out.ext X6.out), Lib.hid fun e => by have h := HR6.out e; rw [HYS.out] at h; exact h⟩
  intro v1 v2 v3 v4 r W ⟨H3, HR⟩
  cases r with
  | true =>
    clear HR
    go_wp2_with (go_at_call 11; refine (awake_any _).mono ?_; rintro e w4 ⟨rfl, x4⟩; refine stop_of ?_)
    unfold Stop
    have X4 := Lib.hid (X0.out.trans (H3.out.base.trans x4))
    clear x4
    go_wp2
    go_ret
    exact ⟨rfl, X4.out⟩
  | false =>
    have HZ0 := Lib.hid (HR.out rfl)
    have HZ := Lib.hid (show xs.length ≤ 40 ∧ ∀ a ∈ xs, ActZ a from ⟨by have := HZ0.out.1; simp at this; omega, fun a ha => HZ0.out.2 a (by simp [ha])⟩)
    have HZF := Lib.hid (show ActZ (fAct 0 ⟨fo, ff, fto, mt, mw, nt, nw⟩) from HZ0.out.2 _ (by simp))
    have hn40 : n ≤ 40 := by have := HZ.out.1; have := HN.out; omega
    have HL0 := Lib.hid (show RowsG W0 23 (RAct W0) (.slice LA n LC) xs from acts_ext HL.out X0.out)
    clear HR HZ0
    go_wp2_with fail
    go_loopw [32, 7] (fun i _ wr => ∃ (j : Nat) (vs : List Vn) (ss : List Sn), j ≤ n ∧ i = .int .i64 j ∧ Hid (Play W0 wr pb b x j vs ss [] noP)) (fun i _ _ => n - (intOf i).toNat)
    case atStart => exact ⟨0, [], [], by omega, rfl, H3⟩
    case round =>
      clear H3
      obtain ⟨j, vs, ss, hj, rfl, R⟩ := hrel
      by_cases hlt : j < n
      · have hjs : j < xs.length := by rw [← HN.out]; exact hlt
        obtain ⟨a, ha⟩ : ∃ a, xs[j]? = some a := ⟨xs[j], by simp [hjs]⟩
        obtain ⟨eb, eo, rfl, hrg, hra⟩ := acts_at HL0.out R.out.base ha
        have HRG := Lib.hid hrg
        have HA := Lib.hid (hra.at_ (HZ.out.2 a (List.mem_of_getElem? ha)))
        have HJK := Lib.hid (show j ≤ 1000 from by omega)
        have HON := Lib.hid (act_one hra)
        clear hrg hra ha hjs
        go_wp2_with (first | (refine wpList_load_mid rfl 40 _ rfl eb (eo + j * 23) rfl (actC a) _ HRG.out Try.underlying40 rfl size40 ?_) | (refine wpList_new 40 _ zero40 rfl rfl ?_; intro W1 x1 n1 s1; refine stop_of ?_))
        unfold Stop
        obtain ⟨ab, hab⟩ : ∃ p, p = wr.heap.size := ⟨_, rfl⟩
        rw [← hab] at n1 ⊢
        have X1 := Lib.hid x1; have N1 := Lib.hid n1; have HAB := Lib.hid hab
        clear x1 n1 s1 hab
        go_wp2_with (refine wpList_put 40 rfl _ _ rfl ab 0 40 _ (actC a).toArray (actC a) _ N1.out rfl rfl rfl (by simp [actC]) HON.out size40 (by kernel_rfl) ?_; intro W2 x2 n2 s2; refine stop_of ?_)
        unfold Stop
        have N2 := Lib.hid n2
        have R2 := Lib.hid (R.out.ext (X1.out.thenB x2 (by have := HAB.out; simp; omega)))
        clear x2 n2 s2 X1 N1 HAB R
        go_wp2_with (first | (refine wpList_get 40 _ rfl _ rfl ab 0 40 _ (actC a) N2.out rfl (by kernel_rfl) Try.underlying40 rfl size40 ?_) | (go_at_call 23; refine (do_any R2.out HJK.out HA.out).mono ?_; rintro e w3 ⟨rfl, h3, k3⟩; refine stop_of ?_))
        unfold Stop
        have R3 := Lib.hid h3
        clear h3 k3 R2 N2 HRG HA HON
        go_wp2
        go_roundw
        case rel => exact ⟨j + 1, _, _, by omega, by go_num, R3⟩
        case measure => first | (simp [intOf]; done) | (simp [intOf]; omega)
      · have NR := Lib.hid (R.out.base.heap N0.out)
        have HA5 := Lib.hid (show ActAt W0 (fAct 5 ⟨fo, ff, fto, mt, mw, nt, nw⟩) from ⟨⟨HZF.out.bytes, HZF.out.obj, HZF.out.m, HZF.out.ft, HZF.out.fo⟩, (fAct_r 5 ⟨fo, ff, fto, mt, mw, nt, nw⟩ W0).2.1, low_nil _, (fAct_r 5 ⟨fo, ff, fto, mt, mw, nt, nw⟩ W0).2.2.2.1, low_nil _, by simp [fAct]⟩)
        have HJK := Lib.hid (show j ≤ 1000 from by omega)
        go_wp2_with (first | (refine wpList_get 29 _ rfl _ rfl fb 0 29 _ [.string ⟨fo.toArray⟩, .int .i64 ff, .int .i64 fto, .string ⟨mt.toArray⟩, .bool mw, .string ⟨nt.toArray⟩, .bool nw] NR.out rfl (by kernel_rfl) Try.underlying29 rfl size29r ?_) | (go_at_call 23; refine (do_any (a := fAct 5 ⟨fo, ff, fto, mt, mw, nt, nw⟩) R.out HJK.out HA5.out).mono ?_; rintro e w3 ⟨rfl, h3, k3⟩; refine stop_of ?_))
        unfold Stop
        obtain ⟨us, hus⟩ : ∃ us, us = doV vs (fAct 5 ⟨fo, ff, fto, mt, mw, nt, nw⟩) := ⟨_, rfl⟩
        obtain ⟨ts, hts⟩ : ∃ ts, ts = doS vs ss (fAct 5 ⟨fo, ff, fto, mt, mw, nt, nw⟩) := ⟨_, rfl⟩
        rw [← hus, ← hts] at h3
        obtain ⟨N', sa, ra, SA, sc, RA, rc, hX⟩ := h3
        have HX := Lib.hid hX
        have N3 := Lib.hid (hX.st.base.heap N0.out)
        have C0 := Lib.hid (show w3.cell? ⟨pb, 0, none⟩ = some (.pointer (some ⟨b, 0, none⟩)) from blk_cell hX.blk 0)
        have C1 := Lib.hid (show w3.cell? ⟨pb, 1, none⟩ = some (.pointer (some ⟨x, 0, none⟩)) from blk_cell hX.blk 1)
        have hnl : N' ≤ 900000 ∧ us.length ≤ 900000 := by have h1 := hX.hN; have h2 := hX.good.nv; have := HJK.out; omega
        have HNL := Lib.hid hnl
        have CO0 := Lib.hid (show w3.cell? ⟨fb, 0, none⟩ = some (.string ⟨fo.toArray⟩) from blk_cell N3.out 0)
        have HOL0 := Lib.hid (show fo.length ≤ 1000000 from by have h : fo.length ≤ 300 := HZF.out.fo; omega)
        obtain ⟨ao, hao⟩ : ∃ o, o = fo := ⟨_, rfl⟩
        have CO := Lib.hid (show w3.cell? ⟨fb, 0, none⟩ = some (.string ⟨ao.toArray⟩) from by rw [hao]; exact CO0.out)
        have HOL := Lib.hid (show ao.length ≤ 1000000 from by rw [hao]; exact HOL0.out)
        obtain ⟨⟨mm, mo⟩, hm⟩ : ∃ m, m = metaA us ao := ⟨_, rfl⟩
        obtain ⟨mk, hmk⟩ : ∃ n, n = mm.keys.length := ⟨_, rfl⟩
        have HBM := both_meta HX.out.st HOL.out hm hmk
        have HMP := Lib.hid HBM.1; have HMD := Lib.hid HBM.2
        have HMK := Lib.hid (show mm.keys.length ≤ 1000000 from by have h1 := metaA_z HX.out.st ao; rw [← hm] at h1; simp only at h1; omega)
        have X6 := Lib.hid (Ext.refl w3)
        clear HBM hm hmk hao hX k3 hus hts hnl R HJK HA5 NR CO0 HOL0 hlt hj
        go_wp2_with fail
        obtain ⟨BB1, hbb⟩ : ∃ p, p = w3.drew.heap.size := ⟨_, rfl⟩
        have HB1 := Lib.hid hbb
        clear hbb
        have XD1 := Lib.hid (Ext.drew (Ext.refl w3))
        have GA : ∀ y : GrowR (keepLow BB1) w3.drew, y.v.cell? ⟨pb, 0, none⟩ = some (.pointer (some ⟨b, 0, none⟩)) := fun y => (y.low HB1.out).cell (XD1.out.cell (X6.out.cell C0.out))
        have GB : ∀ y : GrowR (keepLow BB1) w3.drew, y.v.cell? ⟨fb, 0, none⟩ = some (.string ⟨ao.toArray⟩) := fun y => (y.low HB1.out).cell (XD1.out.cell (X6.out.cell CO.out))
        have XS1 := Lib.hid (show BB1 ≤ w3.drew.heap.size from Nat.le_of_eq HB1.out)
        refine wp_region_trzR (keepLow BB1) [] [] (.pure [0, 1, 2, 3, 4, 5] (.fork 6 (.pure [7, 8, 9] (.one 10 (.one 11 (.pure [12] (.done))))) 10 (.one 6 (.pure [7, 8, 9] (.one 11 (.pure [12] (.done))))))) (by kernel_rfl) (by kernel_rfl) (fun c a d v w h => by cases d <;> exact h) ?_
        (simp only [pickOps, List.map_cons, List.map_nil, List.getD_cons_succ, List.getD_cons_zero]; refine wpQuiet_nil ?_)
        (rw [wpTzR_pure]; simp only [pickOps, List.map_cons, List.map_nil, List.getD_cons_succ, List.getD_cons_zero]; (repeat (go_big_quiet_step (fail))); refine wpQuiet_nil ?_)
        clear GA GB
        rw [wpTzR_fork]
        refine ⟨?_, ?_⟩
        · (simp only [pickOps, List.map_cons, List.map_nil, List.getD_cons_succ, List.getD_cons_zero]; go_wp2_with (go_at_call 21; refine (HMP.out _ (X6.out.trans XD1.out)).mono ?_; rintro e wa1 ⟨KA1, KC1, rfl, tx, xa⟩; refine stop_of ?_))
          unfold Stop
          go_wp2_with fail
          refine ⟨Below.mono xa XS1.out, ?_⟩
          have XA1 := Lib.hid (XD1.out.trans xa); have SA1 := Lib.hid (Nat.le_trans XS1.out xa.size)
          have T1 := Lib.hid tx
          (rw [wpTzR_pure]; simp only [pickOps, List.map_cons, List.map_nil, List.getD_cons_succ, List.getD_cons_zero]; (repeat (go_big_quiet_step (fail))); refine wpQuiet_nil ?_)
          clear xa tx
          (rw [wpTzR_one]; simp only [pickOps, List.map_cons, List.map_nil, List.getD_cons_succ, List.getD_cons_zero]; go_wp2_with (refine wpList_new 38 _ zero38 rfl rfl ?_; intro wb1 xb nb sb; refine stop_of ?_))
          unfold Stop
          obtain ⟨mb1, hmb⟩ : ∃ p, p = wa1.heap.size := ⟨_, rfl⟩
          have nb := (show wb1.heap[mb1]? = wb1.heap[wa1.heap.size]? from by rw [hmb]).trans nb
          rw [← hmb]
          have MN1 := Lib.hid nb; have MB1 := Lib.hid (show w3.heap.size ≤ mb1 from by have h1 := SA1.out; have h2 : BB1 = w3.heap.size := HB1.out; omega)
          clear hmb
          go_wp2_with fail
          refine ⟨Below.mono xb SA1.out, ?_⟩
          have XB1 := Lib.hid (XA1.out.trans xb); have SB1 := Lib.hid (Nat.le_trans SA1.out xb.size)
          have TB1 := Lib.hid (ownsRow_below T1.out xb)
          (rw [wpTzR_one]; simp only [pickOps, List.map_cons, List.map_nil, List.getD_cons_succ, List.getD_cons_zero]; go_wp2_with (refine wpList_put 38 rfl _ _ rfl mb1 0 38 _ (metaC mm (.slice KA1 mk KC1)).toArray (metaC mm (.slice KA1 mk KC1)) _ MN1.out rfl rfl rfl (by simp [metaC]) rfl size38 (by kernel_rfl) ?_; intro wc1 xc nc sc; refine stop_of ?_))
          unfold Stop
          have M1 := Lib.hid nc
          go_wp2_with fail
          refine ⟨⟨xc.os, xc.tape, xc.output, xc.size, fun k hk => xc.block k (Nat.lt_of_lt_of_le hk SB1.out) (fun hh => by have := MB1.out; have h3 : BB1 = w3.heap.size := HB1.out; have h2 : k = mb1 := (by simpa using hh); omega)⟩, ?_⟩
          have XC1 := Lib.hid (show Ext w3 wc1 from XB1.out.thenB xc (by have := MB1.out; simp; omega))
          have XZ1 := Lib.hid (X6.out.trans XC1.out)
          have TT1 := Lib.hid (SRow.texts (own_extB TB1.out xc (fun y hy e => by have h1 := kind_row TB1.out e; rw [show y = mb1 by simpa using hy, kind_cells MN1.out] at h1; cases h1)))
          clear xb nb sb xc nc sc MN1 XA1 XB1 T1 TB1
          (rw [wpTzR_pure]; simp only [pickOps, List.map_cons, List.map_nil, List.getD_cons_succ, List.getD_cons_zero]; (repeat (go_big_quiet_step (fail))); refine wpQuiet_nil ?_)
          rw [wpTzR_done]
          go_wp2_with fail
          obtain ⟨BB2, hbb⟩ : ∃ p, p = wc1.drew.heap.size := ⟨_, rfl⟩
          have HB2 := Lib.hid hbb
          clear hbb
          have XD2 := Lib.hid (Ext.drew (Ext.refl wc1))
          have GA : ∀ y : GrowR (keepLow BB2) wc1.drew, y.v.cell? ⟨pb, 1, none⟩ = some (.pointer (some ⟨x, 0, none⟩)) := fun y => (y.low HB2.out).cell (XD2.out.cell (XZ1.out.cell C1.out))
          have GB : ∀ y : GrowR (keepLow BB2) wc1.drew, y.v.cell? ⟨fb, 0, none⟩ = some (.string ⟨ao.toArray⟩) := fun y => (y.low HB2.out).cell (XD2.out.cell (XZ1.out.cell CO.out))
          have XS2 := Lib.hid (show BB2 ≤ wc1.drew.heap.size from Nat.le_of_eq HB2.out)
          refine wp_region_trzR (keepLow BB2) [] [] (.pure [0, 1, 2, 3, 4, 5] (.fork 6 (.pure [7, 8, 9] (.one 10 (.one 11 (.pure [12] (.done))))) 10 (.one 6 (.pure [7, 8, 9] (.one 11 (.pure [12] (.done))))))) (by kernel_rfl) (by kernel_rfl) (fun c a d v w h => by cases d <;> exact h) ?_
          (simp only [pickOps, List.map_cons, List.map_nil, List.getD_cons_succ, List.getD_cons_zero]; refine wpQuiet_nil ?_)
          (rw [wpTzR_pure]; simp only [pickOps, List.map_cons, List.map_nil, List.getD_cons_succ, List.getD_cons_zero]; (repeat (go_big_quiet_step (fail))); refine wpQuiet_nil ?_)
          clear GA GB
          rw [wpTzR_fork]
          refine ⟨?_, ?_⟩
          · (simp only [pickOps, List.map_cons, List.map_nil, List.getD_cons_succ, List.getD_cons_zero]; go_wp2_with (go_at_call 27; refine (HMD.out _ (XZ1.out.trans XD2.out)).mono ?_; rintro e wa2 ⟨KA2, KC2, rfl, tx, xa⟩; refine stop_of ?_))
            unfold Stop
            go_wp2_with fail
            refine ⟨Below.mono xa XS2.out, ?_⟩
            have XA2 := Lib.hid (XD2.out.trans xa); have SA2 := Lib.hid (Nat.le_trans XS2.out xa.size)
            have T2 := Lib.hid tx
            (rw [wpTzR_pure]; simp only [pickOps, List.map_cons, List.map_nil, List.getD_cons_succ, List.getD_cons_zero]; (repeat (go_big_quiet_step (fail))); refine wpQuiet_nil ?_)
            clear xa tx
            (rw [wpTzR_one]; simp only [pickOps, List.map_cons, List.map_nil, List.getD_cons_succ, List.getD_cons_zero]; go_wp2_with (refine wpList_new 38 _ zero38 rfl rfl ?_; intro wb2 xb nb sb; refine stop_of ?_))
            unfold Stop
            obtain ⟨mb2, hmb⟩ : ∃ p, p = wa2.heap.size := ⟨_, rfl⟩
            have nb := (show wb2.heap[mb2]? = wb2.heap[wa2.heap.size]? from by rw [hmb]).trans nb
            rw [← hmb]
            have MN2 := Lib.hid nb; have MB2 := Lib.hid (show wc1.heap.size ≤ mb2 from by have h1 := SA2.out; have h2 : BB2 = wc1.heap.size := HB2.out; omega)
            clear hmb
            go_wp2_with fail
            refine ⟨Below.mono xb SA2.out, ?_⟩
            have XB2 := Lib.hid (XA2.out.trans xb); have SB2 := Lib.hid (Nat.le_trans SA2.out xb.size)
            have TB2 := Lib.hid (ownsRow_below T2.out xb)
            (rw [wpTzR_one]; simp only [pickOps, List.map_cons, List.map_nil, List.getD_cons_succ, List.getD_cons_zero]; go_wp2_with (refine wpList_put 38 rfl _ _ rfl mb2 0 38 _ (metaC mm (.slice KA2 mk KC2)).toArray (metaC mm (.slice KA2 mk KC2)) _ MN2.out rfl rfl rfl (by simp [metaC]) rfl size38 (by kernel_rfl) ?_; intro wc2 xc nc sc; refine stop_of ?_))
            unfold Stop
            have M2 := Lib.hid nc
            go_wp2_with fail
            refine ⟨⟨xc.os, xc.tape, xc.output, xc.size, fun k hk => xc.block k (Nat.lt_of_lt_of_le hk SB2.out) (fun hh => by have := MB2.out; have h3 : BB2 = wc1.heap.size := HB2.out; have h2 : k = mb2 := (by simpa using hh); omega)⟩, ?_⟩
            have XC2 := Lib.hid (show Ext wc1 wc2 from XB2.out.thenB xc (by have := MB2.out; simp; omega))
            have XZ2 := Lib.hid (XZ1.out.trans XC2.out)
            have TT2 := Lib.hid (SRow.texts (own_extB TB2.out xc (fun y hy e => by have h1 := kind_row TB2.out e; rw [show y = mb2 by simpa using hy, kind_cells MN2.out] at h1; cases h1)))
            clear xb nb sb xc nc sc MN2 XA2 XB2 T2 TB2
            (rw [wpTzR_pure]; simp only [pickOps, List.map_cons, List.map_nil, List.getD_cons_succ, List.getD_cons_zero]; (repeat (go_big_quiet_step (fail))); refine wpQuiet_nil ?_)
            rw [wpTzR_done]
            have MQ := Lib.hid (XC2.out.heap M1.out)
            have TQ := Lib.hid (TextsAt.ext TT1.out XC2.out)
            go_wp2_with fail
            have HD := Lib.hid (HX.out.st.ext (XZ2.out.trans (Ext.drew (Ext.refl wc2)))); have XF0 := Lib.hid (XZ2.out.trans (Ext.drew (Ext.refl wc2)))
            have T1 := Lib.hid (TextsAt.ext TQ.out (Ext.drew (Ext.refl wc2))); have T2 := Lib.hid (TextsAt.ext TT2.out (Ext.drew (Ext.refl wc2)))
            refine wp_region_segs [] [.inl [0, 1, 2, 3, 4, 5], .inr (.inl 6), .inl [7, 8, 9, 10, 11, 12, 14, 15, 16, 17], .inr (.inl 13), .inr (.inl 18), .inr (.inl 19), .inl [20, 21]] (by kernel_rfl) (by kernel_rfl) (fun c a d v w h => by cases d <;> exact h) ?_
            (rw [wpSegs_inl]; simp only [pickOps, List.map_cons, List.map_nil, List.getD_cons_succ, List.getD_cons_zero]; (repeat (go_big_quiet_step (fail))); (refine wpQuiet_get 38 _ rfl _ rfl mb1 0 38 _ (metaC mm (.slice KA1 mk KC1)) rfl (fun W hW => by obtain ⟨y, rfl⟩ := hW; exact y.ext.heap (a := wc2.drew) MQ.out (by simp)) (by kernel_rfl) Try.underlying38 rfl size38 ?_; simp only [Act.put, List.setIfInBounds_toArray, List.set_cons_succ, List.set_cons_zero]); (repeat (go_big_quiet_step (fail))); (refine wpQuiet_get 38 _ rfl _ rfl mb2 0 38 _ (metaC mm (.slice KA2 mk KC2)) rfl (fun W hW => by obtain ⟨y, rfl⟩ := hW; exact y.ext.heap (a := wc2.drew) M2.out (by simp)) (by kernel_rfl) Try.underlying38 rfl size38 ?_; simp only [Act.put, List.setIfInBounds_toArray, List.set_cons_succ, List.set_cons_zero]); (repeat (go_big_quiet_step (fail))); refine wpQuiet_nil ?_)
            (rw [wpSegs_grow]; simp only [pickOps, List.map_cons, List.map_nil, List.getD_cons_succ, List.getD_cons_zero]; go_wp2_with ((go_at_call 28; refine (rsame_eq mm (.slice KA1 mk KC1) (.slice KA2 mk KC2) _ HMK.out T1.out T2.out).mono ?_; rintro e w8 ⟨rfl, x8⟩; refine stop_of ?_)))
            unfold Stop
            have X8 := Lib.hid (XF0.out.trans x8)
            go_wp2_with fail
            refine ⟨.of x8 _, ?_⟩
            clear x8 HD XF0 T1 T2
            have G0 : ∀ y : Grow [] w8, y.v.cell? ⟨pb, 0, none⟩ = some (.pointer (some ⟨b, 0, none⟩)) := fun y => y.ext.cell (X8.out.cell C0.out) (by simp)
            have G1 : ∀ y : Grow [] w8, y.v.cell? ⟨pb, 1, none⟩ = some (.pointer (some ⟨x, 0, none⟩)) := fun y => y.ext.cell (X8.out.cell C1.out) (by simp)
            (rw [wpSegs_inl]; simp only [pickOps, List.map_cons, List.map_nil, List.getD_cons_succ, List.getD_cons_zero]; (repeat (go_big_quiet_step (fail))); refine wpQuiet_nil ?_)
            clear G0 G1
            (rw [wpSegs_grow]; simp only [pickOps, List.map_cons, List.map_nil, List.getD_cons_succ, List.getD_cons_zero]; go_wp2_with ((go_at_call 25; refine (p_objs_R (HX.out.st.ext X8.out) HNL.out.1).mono ?_; rintro e w9 ⟨v9, rfl, r9, h9, x9⟩; refine stop_of ?_)))
            unfold Stop
            have H9 := Lib.hid h9; have X9 := Lib.hid (X8.out.trans x9); have T9 := Lib.hid (SRow.texts r9)
            go_wp2_with fail
            refine ⟨.of x9 _, ?_⟩
            clear r9 h9 x9
            (rw [wpSegs_grow]; simp only [pickOps, List.map_cons, List.map_nil, List.getD_cons_succ, List.getD_cons_zero]; go_wp2_with ((go_at_call 26; refine (d_objs H9.out HNL.out.2).mono ?_; rintro e w10 ⟨v10, rfl, r10, h10, x10⟩; refine stop_of ?_)))
            unfold Stop
            have X10 := Lib.hid (X9.out.trans x10); have T10 := Lib.hid (SRow.texts r10); have T90 := Lib.hid (TextsAt.ext T9.out x10)
            go_wp2_with fail
            refine ⟨.of x10 _, ?_⟩
            clear r10 h10 x10
            (rw [wpSegs_grow]; simp only [pickOps, List.map_cons, List.map_nil, List.getD_cons_succ, List.getD_cons_zero]; go_wp2_with ((go_at_call 24; refine (rnames_eq (objsR us) v9 v10 _ (by have := objsR_le us; have := HNL.out; omega) T90.out T10.out).mono ?_; rintro e w11 ⟨rfl, x11⟩; refine stop_of ?_)))
            unfold Stop
            have X11 := Lib.hid (X10.out.trans x11)
            go_wp2_with fail
            refine ⟨.of x11 _, ?_⟩
            clear x11
            (rw [wpSegs_inl]; simp only [pickOps, List.map_cons, List.map_nil, List.getD_cons_succ, List.getD_cons_zero]; (repeat (go_big_quiet_step (fail))); refine wpQuiet_nil ?_)
            rw [wpSegs_nil]
            go_wp2
            go_ret
            exact ⟨rfl, X0.out.trans (HX.out.st.base.trans X11.out)⟩
          · (simp only [pickOps, List.map_cons, List.map_nil, List.getD_cons_succ, List.getD_cons_zero]; go_wp2_with (refine wpList_new 38 _ zero38 rfl rfl ?_; intro wb2 xb nb sb; refine stop_of ?_))
            unfold Stop
            obtain ⟨mb2, hmb⟩ : ∃ p, p = wc1.heap.size := ⟨_, rfl⟩
            have nb := (show wb2.heap[mb2]? = wb2.heap[wc1.heap.size]? from by rw [hmb]).trans nb
            rw [← hmb]
            have MN2 := Lib.hid nb; have MB2 := Lib.hid (show wc1.heap.size ≤ mb2 from by have h1 := XS2.out; have h2 : BB2 = wc1.heap.size := HB2.out; omega)
            clear hmb
            go_wp2_with fail
            refine ⟨Below.mono xb XS2.out, ?_⟩
            have XB2 := Lib.hid (XD2.out.trans xb); have SB2 := Lib.hid (Nat.le_trans XS2.out xb.size)
            clear xb sb
            (rw [wpTzR_one]; simp only [pickOps, List.map_cons, List.map_nil, List.getD_cons_succ, List.getD_cons_zero]; go_wp2_with (go_at_call 27; refine (HMD.out _ (XZ1.out.trans XB2.out)).mono ?_; rintro e wa2 ⟨KA2, KC2, rfl, tx, xa⟩; refine stop_of ?_))
            unfold Stop
            go_wp2_with fail
            refine ⟨Below.mono xa SB2.out, ?_⟩
            have XA2 := Lib.hid (XB2.out.trans xa); have SA2 := Lib.hid (Nat.le_trans SB2.out xa.size)
            have T2 := Lib.hid tx
            have MN2 := Lib.hid (xa.heap MN2.out)
            (rw [wpTzR_pure]; simp only [pickOps, List.map_cons, List.map_nil, List.getD_cons_succ, List.getD_cons_zero]; (repeat (go_big_quiet_step (fail))); refine wpQuiet_nil ?_)
            clear xa tx nb
            (rw [wpTzR_one]; simp only [pickOps, List.map_cons, List.map_nil, List.getD_cons_succ, List.getD_cons_zero]; go_wp2_with (refine wpList_put 38 rfl _ _ rfl mb2 0 38 _ (metaC mm (.slice KA2 mk KC2)).toArray (metaC mm (.slice KA2 mk KC2)) _ MN2.out rfl rfl rfl (by simp [metaC]) rfl size38 (by kernel_rfl) ?_; intro wc2 xc nc sc; refine stop_of ?_))
            unfold Stop
            have M2 := Lib.hid nc
            go_wp2_with fail
            refine ⟨⟨xc.os, xc.tape, xc.output, xc.size, fun k hk => xc.block k (Nat.lt_of_lt_of_le hk SA2.out) (fun hh => by have := MB2.out; have h3 : BB2 = wc1.heap.size := HB2.out; have h2 : k = mb2 := (by simpa using hh); omega)⟩, ?_⟩
            have XC2 := Lib.hid (show Ext wc1 wc2 from XA2.out.thenB xc (by have := MB2.out; simp; omega))
            have XZ2 := Lib.hid (XZ1.out.trans XC2.out)
            have TT2 := Lib.hid (SRow.texts (own_extB T2.out xc (fun y hy e => by have h1 := kind_row T2.out e; rw [show y = mb2 by simpa using hy, kind_cells MN2.out] at h1; cases h1)))
            clear xc nc sc MN2 XA2 XB2 T2
            (rw [wpTzR_pure]; simp only [pickOps, List.map_cons, List.map_nil, List.getD_cons_succ, List.getD_cons_zero]; (repeat (go_big_quiet_step (fail))); refine wpQuiet_nil ?_)
            rw [wpTzR_done]
            have MQ := Lib.hid (XC2.out.heap M1.out)
            have TQ := Lib.hid (TextsAt.ext TT1.out XC2.out)
            go_wp2_with fail
            have HD := Lib.hid (HX.out.st.ext (XZ2.out.trans (Ext.drew (Ext.refl wc2)))); have XF0 := Lib.hid (XZ2.out.trans (Ext.drew (Ext.refl wc2)))
            have T1 := Lib.hid (TextsAt.ext TQ.out (Ext.drew (Ext.refl wc2))); have T2 := Lib.hid (TextsAt.ext TT2.out (Ext.drew (Ext.refl wc2)))
            refine wp_region_segs [] [.inl [0, 1, 2, 3, 4, 5], .inr (.inl 6), .inl [7, 8, 9, 10, 11, 12, 14, 15, 16, 17], .inr (.inl 13), .inr (.inl 18), .inr (.inl 19), .inl [20, 21]] (by kernel_rfl) (by kernel_rfl) (fun c a d v w h => by cases d <;> exact h) ?_
            (rw [wpSegs_inl]; simp only [pickOps, List.map_cons, List.map_nil, List.getD_cons_succ, List.getD_cons_zero]; (repeat (go_big_quiet_step (fail))); (refine wpQuiet_get 38 _ rfl _ rfl mb1 0 38 _ (metaC mm (.slice KA1 mk KC1)) rfl (fun W hW => by obtain ⟨y, rfl⟩ := hW; exact y.ext.heap (a := wc2.drew) MQ.out (by simp)) (by kernel_rfl) Try.underlying38 rfl size38 ?_; simp only [Act.put, List.setIfInBounds_toArray, List.set_cons_succ, List.set_cons_zero]); (repeat (go_big_quiet_step (fail))); (refine wpQuiet_get 38 _ rfl _ rfl mb2 0 38 _ (metaC mm (.slice KA2 mk KC2)) rfl (fun W hW => by obtain ⟨y, rfl⟩ := hW; exact y.ext.heap (a := wc2.drew) M2.out (by simp)) (by kernel_rfl) Try.underlying38 rfl size38 ?_; simp only [Act.put, List.setIfInBounds_toArray, List.set_cons_succ, List.set_cons_zero]); (repeat (go_big_quiet_step (fail))); refine wpQuiet_nil ?_)
            (rw [wpSegs_grow]; simp only [pickOps, List.map_cons, List.map_nil, List.getD_cons_succ, List.getD_cons_zero]; go_wp2_with ((go_at_call 28; refine (rsame_eq mm (.slice KA1 mk KC1) (.slice KA2 mk KC2) _ HMK.out T1.out T2.out).mono ?_; rintro e w8 ⟨rfl, x8⟩; refine stop_of ?_)))
            unfold Stop
            have X8 := Lib.hid (XF0.out.trans x8)
            go_wp2_with fail
            refine ⟨.of x8 _, ?_⟩
            clear x8 HD XF0 T1 T2
            have G0 : ∀ y : Grow [] w8, y.v.cell? ⟨pb, 0, none⟩ = some (.pointer (some ⟨b, 0, none⟩)) := fun y => y.ext.cell (X8.out.cell C0.out) (by simp)
            have G1 : ∀ y : Grow [] w8, y.v.cell? ⟨pb, 1, none⟩ = some (.pointer (some ⟨x, 0, none⟩)) := fun y => y.ext.cell (X8.out.cell C1.out) (by simp)
            (rw [wpSegs_inl]; simp only [pickOps, List.map_cons, List.map_nil, List.getD_cons_succ, List.getD_cons_zero]; (repeat (go_big_quiet_step (fail))); refine wpQuiet_nil ?_)
            clear G0 G1
            (rw [wpSegs_grow]; simp only [pickOps, List.map_cons, List.map_nil, List.getD_cons_succ, List.getD_cons_zero]; go_wp2_with ((go_at_call 25; refine (p_objs_R (HX.out.st.ext X8.out) HNL.out.1).mono ?_; rintro e w9 ⟨v9, rfl, r9, h9, x9⟩; refine stop_of ?_)))
            unfold Stop
            have H9 := Lib.hid h9; have X9 := Lib.hid (X8.out.trans x9); have T9 := Lib.hid (SRow.texts r9)
            go_wp2_with fail
            refine ⟨.of x9 _, ?_⟩
            clear r9 h9 x9
            (rw [wpSegs_grow]; simp only [pickOps, List.map_cons, List.map_nil, List.getD_cons_succ, List.getD_cons_zero]; go_wp2_with ((go_at_call 26; refine (d_objs H9.out HNL.out.2).mono ?_; rintro e w10 ⟨v10, rfl, r10, h10, x10⟩; refine stop_of ?_)))
            unfold Stop
            have X10 := Lib.hid (X9.out.trans x10); have T10 := Lib.hid (SRow.texts r10); have T90 := Lib.hid (TextsAt.ext T9.out x10)
            go_wp2_with fail
            refine ⟨.of x10 _, ?_⟩
            clear r10 h10 x10
            (rw [wpSegs_grow]; simp only [pickOps, List.map_cons, List.map_nil, List.getD_cons_succ, List.getD_cons_zero]; go_wp2_with ((go_at_call 24; refine (rnames_eq (objsR us) v9 v10 _ (by have := objsR_le us; have := HNL.out; omega) T90.out T10.out).mono ?_; rintro e w11 ⟨rfl, x11⟩; refine stop_of ?_)))
            unfold Stop
            have X11 := Lib.hid (X10.out.trans x11)
            go_wp2_with fail
            refine ⟨.of x11 _, ?_⟩
            clear x11
            (rw [wpSegs_inl]; simp only [pickOps, List.map_cons, List.map_nil, List.getD_cons_succ, List.getD_cons_zero]; (repeat (go_big_quiet_step (fail))); refine wpQuiet_nil ?_)
            rw [wpSegs_nil]
            go_wp2
            go_ret
            exact ⟨rfl, X0.out.trans (HX.out.st.base.trans X11.out)⟩
        · (simp only [pickOps, List.map_cons, List.map_nil, List.getD_cons_succ, List.getD_cons_zero]; go_wp2_with (refine wpList_new 38 _ zero38 rfl rfl ?_; intro wb1 xb nb sb; refine stop_of ?_))
          unfold Stop
          obtain ⟨mb1, hmb⟩ : ∃ p, p = w3.heap.size := ⟨_, rfl⟩
          have nb := (show wb1.heap[mb1]? = wb1.heap[w3.heap.size]? from by rw [hmb]).trans nb
          rw [← hmb]
          have MN1 := Lib.hid nb; have MB1 := Lib.hid (show w3.heap.size ≤ mb1 from by have h1 := XS1.out; have h2 : BB1 = w3.heap.size := HB1.out; omega)
          clear hmb
          go_wp2_with fail
          refine ⟨Below.mono xb XS1.out, ?_⟩
          have XB1 := Lib.hid (XD1.out.trans xb); have SB1 := Lib.hid (Nat.le_trans XS1.out xb.size)
          clear xb sb
          (rw [wpTzR_one]; simp only [pickOps, List.map_cons, List.map_nil, List.getD_cons_succ, List.getD_cons_zero]; go_wp2_with (go_at_call 21; refine (HMP.out _ (X6.out.trans XB1.out)).mono ?_; rintro e wa1 ⟨KA1, KC1, rfl, tx, xa⟩; refine stop_of ?_))
          unfold Stop
          go_wp2_with fail
          refine ⟨Below.mono xa SB1.out, ?_⟩
          have XA1 := Lib.hid (XB1.out.trans xa); have SA1 := Lib.hid (Nat.le_trans SB1.out xa.size)
          have T1 := Lib.hid tx
          have MN1 := Lib.hid (xa.heap MN1.out)
          (rw [wpTzR_pure]; simp only [pickOps, List.map_cons, List.map_nil, List.getD_cons_succ, List.getD_cons_zero]; (repeat (go_big_quiet_step (fail))); refine wpQuiet_nil ?_)
          clear xa tx nb
          (rw [wpTzR_one]; simp only [pickOps, List.map_cons, List.map_nil, List.getD_cons_succ, List.getD_cons_zero]; go_wp2_with (refine wpList_put 38 rfl _ _ rfl mb1 0 38 _ (metaC mm (.slice KA1 mk KC1)).toArray (metaC mm (.slice KA1 mk KC1)) _ MN1.out rfl rfl rfl (by simp [metaC]) rfl size38 (by kernel_rfl) ?_; intro wc1 xc nc sc; refine stop_of ?_))
          unfold Stop
          have M1 := Lib.hid nc
          go_wp2_with fail
          refine ⟨⟨xc.os, xc.tape, xc.output, xc.size, fun k hk => xc.block k (Nat.lt_of_lt_of_le hk SA1.out) (fun hh => by have := MB1.out; have h3 : BB1 = w3.heap.size := HB1.out; have h2 : k = mb1 := (by simpa using hh); omega)⟩, ?_⟩
          have XC1 := Lib.hid (show Ext w3 wc1 from XA1.out.thenB xc (by have := MB1.out; simp; omega))
          have XZ1 := Lib.hid (X6.out.trans XC1.out)
          have TT1 := Lib.hid (SRow.texts (own_extB T1.out xc (fun y hy e => by have h1 := kind_row T1.out e; rw [show y = mb1 by simpa using hy, kind_cells MN1.out] at h1; cases h1)))
          clear xc nc sc MN1 XA1 XB1 T1
          (rw [wpTzR_pure]; simp only [pickOps, List.map_cons, List.map_nil, List.getD_cons_succ, List.getD_cons_zero]; (repeat (go_big_quiet_step (fail))); refine wpQuiet_nil ?_)
          rw [wpTzR_done]
          go_wp2_with fail
          obtain ⟨BB3, hbb⟩ : ∃ p, p = wc1.drew.heap.size := ⟨_, rfl⟩
          have HB3 := Lib.hid hbb
          clear hbb
          have XD3 := Lib.hid (Ext.drew (Ext.refl wc1))
          have GA : ∀ y : GrowR (keepLow BB3) wc1.drew, y.v.cell? ⟨pb, 1, none⟩ = some (.pointer (some ⟨x, 0, none⟩)) := fun y => (y.low HB3.out).cell (XD3.out.cell (XZ1.out.cell C1.out))
          have GB : ∀ y : GrowR (keepLow BB3) wc1.drew, y.v.cell? ⟨fb, 0, none⟩ = some (.string ⟨ao.toArray⟩) := fun y => (y.low HB3.out).cell (XD3.out.cell (XZ1.out.cell CO.out))
          have XS3 := Lib.hid (show BB3 ≤ wc1.drew.heap.size from Nat.le_of_eq HB3.out)
          refine wp_region_trzR (keepLow BB3) [] [] (.pure [0, 1, 2, 3, 4, 5] (.fork 6 (.pure [7, 8, 9] (.one 10 (.one 11 (.pure [12] (.done))))) 10 (.one 6 (.pure [7, 8, 9] (.one 11 (.pure [12] (.done))))))) (by kernel_rfl) (by kernel_rfl) (fun c a d v w h => by cases d <;> exact h) ?_
          (simp only [pickOps, List.map_cons, List.map_nil, List.getD_cons_succ, List.getD_cons_zero]; refine wpQuiet_nil ?_)
          (rw [wpTzR_pure]; simp only [pickOps, List.map_cons, List.map_nil, List.getD_cons_succ, List.getD_cons_zero]; (repeat (go_big_quiet_step (fail))); refine wpQuiet_nil ?_)
          clear GA GB
          rw [wpTzR_fork]
          refine ⟨?_, ?_⟩
          · (simp only [pickOps, List.map_cons, List.map_nil, List.getD_cons_succ, List.getD_cons_zero]; go_wp2_with (go_at_call 27; refine (HMD.out _ (XZ1.out.trans XD3.out)).mono ?_; rintro e wa3 ⟨KA3, KC3, rfl, tx, xa⟩; refine stop_of ?_))
            unfold Stop
            go_wp2_with fail
            refine ⟨Below.mono xa XS3.out, ?_⟩
            have XA3 := Lib.hid (XD3.out.trans xa); have SA3 := Lib.hid (Nat.le_trans XS3.out xa.size)
            have T3 := Lib.hid tx
            (rw [wpTzR_pure]; simp only [pickOps, List.map_cons, List.map_nil, List.getD_cons_succ, List.getD_cons_zero]; (repeat (go_big_quiet_step (fail))); refine wpQuiet_nil ?_)
            clear xa tx
            (rw [wpTzR_one]; simp only [pickOps, List.map_cons, List.map_nil, List.getD_cons_succ, List.getD_cons_zero]; go_wp2_with (refine wpList_new 38 _ zero38 rfl rfl ?_; intro wb3 xb nb sb; refine stop_of ?_))
            unfold Stop
            obtain ⟨mb3, hmb⟩ : ∃ p, p = wa3.heap.size := ⟨_, rfl⟩
            have nb := (show wb3.heap[mb3]? = wb3.heap[wa3.heap.size]? from by rw [hmb]).trans nb
            rw [← hmb]
            have MN3 := Lib.hid nb; have MB3 := Lib.hid (show wc1.heap.size ≤ mb3 from by have h1 := SA3.out; have h2 : BB3 = wc1.heap.size := HB3.out; omega)
            clear hmb
            go_wp2_with fail
            refine ⟨Below.mono xb SA3.out, ?_⟩
            have XB3 := Lib.hid (XA3.out.trans xb); have SB3 := Lib.hid (Nat.le_trans SA3.out xb.size)
            have TB3 := Lib.hid (ownsRow_below T3.out xb)
            (rw [wpTzR_one]; simp only [pickOps, List.map_cons, List.map_nil, List.getD_cons_succ, List.getD_cons_zero]; go_wp2_with (refine wpList_put 38 rfl _ _ rfl mb3 0 38 _ (metaC mm (.slice KA3 mk KC3)).toArray (metaC mm (.slice KA3 mk KC3)) _ MN3.out rfl rfl rfl (by simp [metaC]) rfl size38 (by kernel_rfl) ?_; intro wc3 xc nc sc; refine stop_of ?_))
            unfold Stop
            have M3 := Lib.hid nc
            go_wp2_with fail
            refine ⟨⟨xc.os, xc.tape, xc.output, xc.size, fun k hk => xc.block k (Nat.lt_of_lt_of_le hk SB3.out) (fun hh => by have := MB3.out; have h3 : BB3 = wc1.heap.size := HB3.out; have h2 : k = mb3 := (by simpa using hh); omega)⟩, ?_⟩
            have XC3 := Lib.hid (show Ext wc1 wc3 from XB3.out.thenB xc (by have := MB3.out; simp; omega))
            have XZ3 := Lib.hid (XZ1.out.trans XC3.out)
            have TT3 := Lib.hid (SRow.texts (own_extB TB3.out xc (fun y hy e => by have h1 := kind_row TB3.out e; rw [show y = mb3 by simpa using hy, kind_cells MN3.out] at h1; cases h1)))
            clear xb nb sb xc nc sc MN3 XA3 XB3 T3 TB3
            (rw [wpTzR_pure]; simp only [pickOps, List.map_cons, List.map_nil, List.getD_cons_succ, List.getD_cons_zero]; (repeat (go_big_quiet_step (fail))); refine wpQuiet_nil ?_)
            rw [wpTzR_done]
            have MQ := Lib.hid (XC3.out.heap M1.out)
            have TQ := Lib.hid (TextsAt.ext TT1.out XC3.out)
            go_wp2_with fail
            have HD := Lib.hid (HX.out.st.ext (XZ3.out.trans (Ext.drew (Ext.refl wc3)))); have XF0 := Lib.hid (XZ3.out.trans (Ext.drew (Ext.refl wc3)))
            have T1 := Lib.hid (TextsAt.ext TQ.out (Ext.drew (Ext.refl wc3))); have T2 := Lib.hid (TextsAt.ext TT3.out (Ext.drew (Ext.refl wc3)))
            refine wp_region_segs [] [.inl [0, 1, 2, 3, 4, 5], .inr (.inl 6), .inl [7, 8, 9, 10, 11, 12, 14, 15, 16, 17], .inr (.inl 13), .inr (.inl 18), .inr (.inl 19), .inl [20, 21]] (by kernel_rfl) (by kernel_rfl) (fun c a d v w h => by cases d <;> exact h) ?_
            (rw [wpSegs_inl]; simp only [pickOps, List.map_cons, List.map_nil, List.getD_cons_succ, List.getD_cons_zero]; (repeat (go_big_quiet_step (fail))); (refine wpQuiet_get 38 _ rfl _ rfl mb1 0 38 _ (metaC mm (.slice KA1 mk KC1)) rfl (fun W hW => by obtain ⟨y, rfl⟩ := hW; exact y.ext.heap (a := wc3.drew) MQ.out (by simp)) (by kernel_rfl) Try.underlying38 rfl size38 ?_; simp only [Act.put, List.setIfInBounds_toArray, List.set_cons_succ, List.set_cons_zero]); (repeat (go_big_quiet_step (fail))); (refine wpQuiet_get 38 _ rfl _ rfl mb3 0 38 _ (metaC mm (.slice KA3 mk KC3)) rfl (fun W hW => by obtain ⟨y, rfl⟩ := hW; exact y.ext.heap (a := wc3.drew) M3.out (by simp)) (by kernel_rfl) Try.underlying38 rfl size38 ?_; simp only [Act.put, List.setIfInBounds_toArray, List.set_cons_succ, List.set_cons_zero]); (repeat (go_big_quiet_step (fail))); refine wpQuiet_nil ?_)
            (rw [wpSegs_grow]; simp only [pickOps, List.map_cons, List.map_nil, List.getD_cons_succ, List.getD_cons_zero]; go_wp2_with ((go_at_call 28; refine (rsame_eq mm (.slice KA1 mk KC1) (.slice KA3 mk KC3) _ HMK.out T1.out T2.out).mono ?_; rintro e w8 ⟨rfl, x8⟩; refine stop_of ?_)))
            unfold Stop
            have X8 := Lib.hid (XF0.out.trans x8)
            go_wp2_with fail
            refine ⟨.of x8 _, ?_⟩
            clear x8 HD XF0 T1 T2
            have G0 : ∀ y : Grow [] w8, y.v.cell? ⟨pb, 0, none⟩ = some (.pointer (some ⟨b, 0, none⟩)) := fun y => y.ext.cell (X8.out.cell C0.out) (by simp)
            have G1 : ∀ y : Grow [] w8, y.v.cell? ⟨pb, 1, none⟩ = some (.pointer (some ⟨x, 0, none⟩)) := fun y => y.ext.cell (X8.out.cell C1.out) (by simp)
            (rw [wpSegs_inl]; simp only [pickOps, List.map_cons, List.map_nil, List.getD_cons_succ, List.getD_cons_zero]; (repeat (go_big_quiet_step (fail))); refine wpQuiet_nil ?_)
            clear G0 G1
            (rw [wpSegs_grow]; simp only [pickOps, List.map_cons, List.map_nil, List.getD_cons_succ, List.getD_cons_zero]; go_wp2_with ((go_at_call 25; refine (p_objs_R (HX.out.st.ext X8.out) HNL.out.1).mono ?_; rintro e w9 ⟨v9, rfl, r9, h9, x9⟩; refine stop_of ?_)))
            unfold Stop
            have H9 := Lib.hid h9; have X9 := Lib.hid (X8.out.trans x9); have T9 := Lib.hid (SRow.texts r9)
            go_wp2_with fail
            refine ⟨.of x9 _, ?_⟩
            clear r9 h9 x9
            (rw [wpSegs_grow]; simp only [pickOps, List.map_cons, List.map_nil, List.getD_cons_succ, List.getD_cons_zero]; go_wp2_with ((go_at_call 26; refine (d_objs H9.out HNL.out.2).mono ?_; rintro e w10 ⟨v10, rfl, r10, h10, x10⟩; refine stop_of ?_)))
            unfold Stop
            have X10 := Lib.hid (X9.out.trans x10); have T10 := Lib.hid (SRow.texts r10); have T90 := Lib.hid (TextsAt.ext T9.out x10)
            go_wp2_with fail
            refine ⟨.of x10 _, ?_⟩
            clear r10 h10 x10
            (rw [wpSegs_grow]; simp only [pickOps, List.map_cons, List.map_nil, List.getD_cons_succ, List.getD_cons_zero]; go_wp2_with ((go_at_call 24; refine (rnames_eq (objsR us) v9 v10 _ (by have := objsR_le us; have := HNL.out; omega) T90.out T10.out).mono ?_; rintro e w11 ⟨rfl, x11⟩; refine stop_of ?_)))
            unfold Stop
            have X11 := Lib.hid (X10.out.trans x11)
            go_wp2_with fail
            refine ⟨.of x11 _, ?_⟩
            clear x11
            (rw [wpSegs_inl]; simp only [pickOps, List.map_cons, List.map_nil, List.getD_cons_succ, List.getD_cons_zero]; (repeat (go_big_quiet_step (fail))); refine wpQuiet_nil ?_)
            rw [wpSegs_nil]
            go_wp2
            go_ret
            exact ⟨rfl, X0.out.trans (HX.out.st.base.trans X11.out)⟩
          · (simp only [pickOps, List.map_cons, List.map_nil, List.getD_cons_succ, List.getD_cons_zero]; go_wp2_with (refine wpList_new 38 _ zero38 rfl rfl ?_; intro wb3 xb nb sb; refine stop_of ?_))
            unfold Stop
            obtain ⟨mb3, hmb⟩ : ∃ p, p = wc1.heap.size := ⟨_, rfl⟩
            have nb := (show wb3.heap[mb3]? = wb3.heap[wc1.heap.size]? from by rw [hmb]).trans nb
            rw [← hmb]
            have MN3 := Lib.hid nb; have MB3 := Lib.hid (show wc1.heap.size ≤ mb3 from by have h1 := XS3.out; have h2 : BB3 = wc1.heap.size := HB3.out; omega)
            clear hmb
            go_wp2_with fail
            refine ⟨Below.mono xb XS3.out, ?_⟩
            have XB3 := Lib.hid (XD3.out.trans xb); have SB3 := Lib.hid (Nat.le_trans XS3.out xb.size)
            clear xb sb
            (rw [wpTzR_one]; simp only [pickOps, List.map_cons, List.map_nil, List.getD_cons_succ, List.getD_cons_zero]; go_wp2_with (go_at_call 27; refine (HMD.out _ (XZ1.out.trans XB3.out)).mono ?_; rintro e wa3 ⟨KA3, KC3, rfl, tx, xa⟩; refine stop_of ?_))
            unfold Stop
            go_wp2_with fail
            refine ⟨Below.mono xa SB3.out, ?_⟩
            have XA3 := Lib.hid (XB3.out.trans xa); have SA3 := Lib.hid (Nat.le_trans SB3.out xa.size)
            have T3 := Lib.hid tx
            have MN3 := Lib.hid (xa.heap MN3.out)
            (rw [wpTzR_pure]; simp only [pickOps, List.map_cons, List.map_nil, List.getD_cons_succ, List.getD_cons_zero]; (repeat (go_big_quiet_step (fail))); refine wpQuiet_nil ?_)
            clear xa tx nb
            (rw [wpTzR_one]; simp only [pickOps, List.map_cons, List.map_nil, List.getD_cons_succ, List.getD_cons_zero]; go_wp2_with (refine wpList_put 38 rfl _ _ rfl mb3 0 38 _ (metaC mm (.slice KA3 mk KC3)).toArray (metaC mm (.slice KA3 mk KC3)) _ MN3.out rfl rfl rfl (by simp [metaC]) rfl size38 (by kernel_rfl) ?_; intro wc3 xc nc sc; refine stop_of ?_))
            unfold Stop
            have M3 := Lib.hid nc
            go_wp2_with fail
            refine ⟨⟨xc.os, xc.tape, xc.output, xc.size, fun k hk => xc.block k (Nat.lt_of_lt_of_le hk SA3.out) (fun hh => by have := MB3.out; have h3 : BB3 = wc1.heap.size := HB3.out; have h2 : k = mb3 := (by simpa using hh); omega)⟩, ?_⟩
            have XC3 := Lib.hid (show Ext wc1 wc3 from XA3.out.thenB xc (by have := MB3.out; simp; omega))
            have XZ3 := Lib.hid (XZ1.out.trans XC3.out)
            have TT3 := Lib.hid (SRow.texts (own_extB T3.out xc (fun y hy e => by have h1 := kind_row T3.out e; rw [show y = mb3 by simpa using hy, kind_cells MN3.out] at h1; cases h1)))
            clear xc nc sc MN3 XA3 XB3 T3
            (rw [wpTzR_pure]; simp only [pickOps, List.map_cons, List.map_nil, List.getD_cons_succ, List.getD_cons_zero]; (repeat (go_big_quiet_step (fail))); refine wpQuiet_nil ?_)
            rw [wpTzR_done]
            have MQ := Lib.hid (XC3.out.heap M1.out)
            have TQ := Lib.hid (TextsAt.ext TT1.out XC3.out)
            go_wp2_with fail
            have HD := Lib.hid (HX.out.st.ext (XZ3.out.trans (Ext.drew (Ext.refl wc3)))); have XF0 := Lib.hid (XZ3.out.trans (Ext.drew (Ext.refl wc3)))
            have T1 := Lib.hid (TextsAt.ext TQ.out (Ext.drew (Ext.refl wc3))); have T2 := Lib.hid (TextsAt.ext TT3.out (Ext.drew (Ext.refl wc3)))
            refine wp_region_segs [] [.inl [0, 1, 2, 3, 4, 5], .inr (.inl 6), .inl [7, 8, 9, 10, 11, 12, 14, 15, 16, 17], .inr (.inl 13), .inr (.inl 18), .inr (.inl 19), .inl [20, 21]] (by kernel_rfl) (by kernel_rfl) (fun c a d v w h => by cases d <;> exact h) ?_
            (rw [wpSegs_inl]; simp only [pickOps, List.map_cons, List.map_nil, List.getD_cons_succ, List.getD_cons_zero]; (repeat (go_big_quiet_step (fail))); (refine wpQuiet_get 38 _ rfl _ rfl mb1 0 38 _ (metaC mm (.slice KA1 mk KC1)) rfl (fun W hW => by obtain ⟨y, rfl⟩ := hW; exact y.ext.heap (a := wc3.drew) MQ.out (by simp)) (by kernel_rfl) Try.underlying38 rfl size38 ?_; simp only [Act.put, List.setIfInBounds_toArray, List.set_cons_succ, List.set_cons_zero]); (repeat (go_big_quiet_step (fail))); (refine wpQuiet_get 38 _ rfl _ rfl mb3 0 38 _ (metaC mm (.slice KA3 mk KC3)) rfl (fun W hW => by obtain ⟨y, rfl⟩ := hW; exact y.ext.heap (a := wc3.drew) M3.out (by simp)) (by kernel_rfl) Try.underlying38 rfl size38 ?_; simp only [Act.put, List.setIfInBounds_toArray, List.set_cons_succ, List.set_cons_zero]); (repeat (go_big_quiet_step (fail))); refine wpQuiet_nil ?_)
            (rw [wpSegs_grow]; simp only [pickOps, List.map_cons, List.map_nil, List.getD_cons_succ, List.getD_cons_zero]; go_wp2_with ((go_at_call 28; refine (rsame_eq mm (.slice KA1 mk KC1) (.slice KA3 mk KC3) _ HMK.out T1.out T2.out).mono ?_; rintro e w8 ⟨rfl, x8⟩; refine stop_of ?_)))
            unfold Stop
            have X8 := Lib.hid (XF0.out.trans x8)
            go_wp2_with fail
            refine ⟨.of x8 _, ?_⟩
            clear x8 HD XF0 T1 T2
            have G0 : ∀ y : Grow [] w8, y.v.cell? ⟨pb, 0, none⟩ = some (.pointer (some ⟨b, 0, none⟩)) := fun y => y.ext.cell (X8.out.cell C0.out) (by simp)
            have G1 : ∀ y : Grow [] w8, y.v.cell? ⟨pb, 1, none⟩ = some (.pointer (some ⟨x, 0, none⟩)) := fun y => y.ext.cell (X8.out.cell C1.out) (by simp)
            (rw [wpSegs_inl]; simp only [pickOps, List.map_cons, List.map_nil, List.getD_cons_succ, List.getD_cons_zero]; (repeat (go_big_quiet_step (fail))); refine wpQuiet_nil ?_)
            clear G0 G1
            (rw [wpSegs_grow]; simp only [pickOps, List.map_cons, List.map_nil, List.getD_cons_succ, List.getD_cons_zero]; go_wp2_with ((go_at_call 25; refine (p_objs_R (HX.out.st.ext X8.out) HNL.out.1).mono ?_; rintro e w9 ⟨v9, rfl, r9, h9, x9⟩; refine stop_of ?_)))
            unfold Stop
            have H9 := Lib.hid h9; have X9 := Lib.hid (X8.out.trans x9); have T9 := Lib.hid (SRow.texts r9)
            go_wp2_with fail
            refine ⟨.of x9 _, ?_⟩
            clear r9 h9 x9
            (rw [wpSegs_grow]; simp only [pickOps, List.map_cons, List.map_nil, List.getD_cons_succ, List.getD_cons_zero]; go_wp2_with ((go_at_call 26; refine (d_objs H9.out HNL.out.2).mono ?_; rintro e w10 ⟨v10, rfl, r10, h10, x10⟩; refine stop_of ?_)))
            unfold Stop
            have X10 := Lib.hid (X9.out.trans x10); have T10 := Lib.hid (SRow.texts r10); have T90 := Lib.hid (TextsAt.ext T9.out x10)
            go_wp2_with fail
            refine ⟨.of x10 _, ?_⟩
            clear r10 h10 x10
            (rw [wpSegs_grow]; simp only [pickOps, List.map_cons, List.map_nil, List.getD_cons_succ, List.getD_cons_zero]; go_wp2_with ((go_at_call 24; refine (rnames_eq (objsR us) v9 v10 _ (by have := objsR_le us; have := HNL.out; omega) T90.out T10.out).mono ?_; rintro e w11 ⟨rfl, x11⟩; refine stop_of ?_)))
            unfold Stop
            have X11 := Lib.hid (X10.out.trans x11)
            go_wp2_with fail
            refine ⟨.of x11 _, ?_⟩
            clear x11
            (rw [wpSegs_inl]; simp only [pickOps, List.map_cons, List.map_nil, List.getD_cons_succ, List.getD_cons_zero]; (repeat (go_big_quiet_step (fail))); refine wpQuiet_nil ?_)
            rw [wpSegs_nil]
            go_wp2
            go_ret
            exact ⟨rfl, X0.out.trans (HX.out.st.base.trans X11.out)⟩
set_option maxRecDepth 100000 in
theorem originAsks_lifted (os : Os) (started : os.Started) (H : Type) (enc : TypeId × Value → H) :
    ReturnsInHanded {} Try.checked os 6 .any (Rows.originAsksSpec.pre6 enc Try.prog Try.f6 Rows.originAsksRow.domain false) (Rows.originAsksSpec.post enc Try.prog Try.f6 false true false false) := by
  refine returnsInHanded_of_change_sized (C := Try.checked) own started (by kernel_rfl) Try.func6
    (ChangeSpec.witness6 (enc := enc) (C := Try.checked) false ⟨#[], #[.slice none 0 0, .agg #[.string ⟨#[]⟩, .int .i64 0, .int .i64 0, .string ⟨#[]⟩, .bool false, .string ⟨#[]⟩, .bool false]], []⟩ 8 (by kernel_rfl) (by kernel_rfl) (by kernel_rfl) (by kernel_rfl)) ?_
  intro W base args ds gs before hval0 hW hcnd hsz _
  have hval : ∀ (j : Nat) t v, Try.f6.params[j]? = some t → args[j]? = some v → Value.okWide Try.prog W .any base t v := hval0
  have hW' := hW
  obtain ⟨p, q, hA0, hV, rfl, hfz, hnd⟩ := hW
  have hA : DataW.TrodAll enc Try.prog W 0 (fun _ => true) true Try.f6.params.toList args.toList ds p := hA0
  rw [Try.params6] at hA hval
  obtain ⟨v0, vs0, d0, ds0, p0, q0, hargs, rfl, rfl, h0, r0⟩ := trodAll_cons hA
  obtain ⟨v1, vs1, d1, ds1, p1, q1, rfl, rfl, rfl, h1, r1⟩ := trodAll_cons r0
  obtain ⟨rfl, rfl, rfl⟩ := trodAll_nil r1
  obtain rfl : args = #[v0, v1] := by cases args; simp_all
  obtain ⟨rfl, rfl⟩ := trodVars_none hV
  have lt0 : ∀ x ∈ p0, x.block < W.heap.size := by obtain ⟨m, hm⟩ := h0; exact DataW.trod_lt m _ _ _ hm
  have t0 := fun W' (bel : Below W.heap.size W W') => Below.trod laidOut (by kernel_rfl) (of_decide_eq_true (by kernel_rfl)) h0 bel lt0
  have lt1 : ∀ x ∈ p1, x.block < W.heap.size := by obtain ⟨m, hm⟩ := h1; exact DataW.trod_lt m _ _ _ hm
  have t1 := fun W' (bel : Below W.heap.size W W') => Below.trod laidOut (by kernel_rfl) (of_decide_eq_true (by kernel_rfl)) h1 bel lt1
  have wk0 : WOk Try.prog 41 d0 := wok_arg hsz (j := 0) rfl rfl
  obtain ⟨xs0, ha0, hl0⟩ := acts_open (hval 0 41 v0 rfl rfl) h0
  have wt0 := acts_weight wk0 h0 ha0
  have wk1 : WOk Try.prog 29 d1 := wok_arg hsz (j := 1) rfl rfl
  obtain ⟨f1, rfl⟩ := fetch_open (hval 1 29 v1 rfl rfl) h1
  clear hA0 hval0 hsz
  refine (asks_walk v0 xs0 f1 W ha0 wt0 ).mono fun e W' ⟨he, bel⟩ => ?_
  subst he
  exact ⟨_, rfl, _, _, _, [], _, [], hW', trodAll_mk1 (shut_bool Try.underlying4 _), (trodAll_cons_mk (t0 W' bel) (trodAll_cons_mk (t1 W' bel) trodAll_mk0)), rfl, bel.frame _, fun h => by cases h⟩

/-- The statement. -/
theorem OriginAsks_proved : Rows.OriginAsksSaid :=
  OpenClaim.holds_of_wide 6 Try.f6 rfl rfl rfl rfl rfl rfl rfl ⟨rfl, rfl, rfl, rfl, rfl⟩ rfl rfl rfl rfl rfl (by kernel_rfl) Try.func6 (by kernel_rfl)
    (of_decide_eq_true (by kernel_rfl)) (by unfold Func.isWrapper; first | (rw [if_pos (by decide +kernel)]; kernel_rfl) | (rw [if_neg (by decide +kernel)]; exact ⟨rfl, rfl⟩))
    (fun os started H enc _ => originAsks_lifted os started H enc)
#print axioms OriginAsks_proved
end Go.Proofs.Ytpangoddbfiagaa
