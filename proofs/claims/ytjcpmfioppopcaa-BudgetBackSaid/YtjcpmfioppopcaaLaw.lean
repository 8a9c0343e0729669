/- The statements' own helpers, walked: wakes, small, same; and what stays where. -/
import Derived.Test.YtjcpmfioppopcaaTenP
namespace Go.Proofs.Ytjcpmfioppopcaa
open Go.RowKit Go.Maps
set_option linter.unusedVariables false

/-! ### what stays -/
theorem LinesAt.extB {X : List Nat} {w w' : World} {s : Value} {L : List Ln} (h : LinesAt w s L) (hx : ExtB X w w') (hX : ∀ g, s.ownBlock = some g → g ∉ X) : LinesAt w' s L := by
  refine ⟨h.1, ?_⟩
  rcases h.2 with h0 | ⟨g, cap, cur, rfl, hb, hg, r⟩
  · exact .inl h0
  · exact .inr ⟨g, cap, cur, rfl, hb, hx.heap hg (hX g rfl), r⟩
theorem LinesAt.own {w : World} {s : Value} {L : List Ln} (h : LinesAt w s L) {g : Nat} (hg : s.ownBlock = some g) : ∃ cur, w.heap[g]? = some (.cells cur 71 (0, 0)) := by
  rcases h.2 with ⟨rfl, _⟩ | ⟨g', cap, cur, rfl, _, hh, _⟩
  · simp [Value.ownBlock] at hg
  · simp [Value.ownBlock] at hg
    subst hg
    exact ⟨cur, hh⟩
theorem BookAt.mapAt {w : World} {b : Nat} {mo : Option Nat} {room share : Int} {L : List Ln} {N : Nat} (h : BookAt w b mo room share L N) {mb : Nat} (hm : mo = some mb) : ∃ es clock, w.heap[mb]? = some (.map es clock) := by
  rcases h.map with ⟨rfl, _⟩ | ⟨mb', D, rfl, ⟨es, clock, he, _⟩, _⟩
  · cases hm
  · injection hm with hm; subst hm; exact ⟨es, clock, he⟩
theorem mem_bks {b k : Nat} {mo : Option Nat} : k ∈ bks b mo ↔ k = b ∨ mo = some k := by
  unfold bks
  cases mo with
  | none => simp
  | some m => simp [eq_comm]
/-- A row of cells of another type than a book's is none of the book's blocks. -/
theorem BookAt.apart {w : World} {b : Nat} {mo : Option Nat} {room share : Int} {L : List Ln} {N : Nat} (h : BookAt w b mo room share L N) {k : Nat} {cs : Array Value} {t : TypeId} {z : Nat × Nat} (hk : w.heap[k]? = some (.cells cs t z)) (ht : t ≠ 57) : k ∉ bks b mo := by
  rw [mem_bks]
  rintro (rfl | hm)
  · rw [h.blk] at hk
    injection hk with hk
    injection hk with _ ht'
    exact ht ht'.symm
  · obtain ⟨es, clock, he⟩ := h.mapAt hm
    rw [he] at hk
    cases hk

structure PlayAt (w : World) (b : Nat) (mo : Option Nat) (bx : Nat) (s : Value) (room share : Int) (L : List Ln) (N : Nat) : Prop where
  book : BookAt w b mo room share L N
  box : w.heap[bx]? = some (.cells #[.int .i64 room, .int .i64 share, s] 32 (0, 0))
  lines : LinesAt w s L

theorem PlayAt.ext {w w' : World} {b : Nat} {mo : Option Nat} {bx : Nat} {s : Value} {room share : Int} {L : List Ln} {N : Nat} (h : PlayAt w b mo bx s room share L N) (hx : Ext w w') : PlayAt w' b mo bx s room share L N :=
  ⟨h.book.ext (.of hx []) (by simp) (by simp), hx.heap h.box, hx.lines h.lines⟩
theorem PlayAt.drewN {w : World} {b : Nat} {mo : Option Nat} {bx : Nat} {s : Value} {room share : Int} {L : List Ln} {N : Nat} (h : PlayAt w b mo bx s room share L N) (n : Nat) : PlayAt (w.drewN n) b mo bx s room share L N := h.ext (Ext.drewN (Ext.refl w) n)

/-- A book's own call turns nothing of the reference's book. -/
theorem PlayAt.others {w w1 : World} {b : Nat} {mo : Option Nat} {bx : Nat} {s : Value} {room share : Int} {L : List Ln} {N : Nat} (h : PlayAt w b mo bx s room share L N) (hx : ExtB (bks b mo) w w1) :
    w1.heap[bx]? = some (.cells #[.int .i64 room, .int .i64 share, s] 32 (0, 0)) ∧ LinesAt w1 s L :=
  ⟨hx.heap h.box (h.book.apart h.box (by decide)), h.lines.extB hx fun g hg => by
    obtain ⟨cur, hc⟩ := h.lines.own hg
    exact h.book.apart hc (by decide)⟩

theorem set3_blk {w : World} {b : Nat} {x y z u0 u1 u2 : Value} {t : TypeId} (h : w.heap[b]? = some (.cells #[x, y, z] t (0, 0))) :
    (((w.setCell ⟨b, 0, none⟩ u0).setCell ⟨b, 1, none⟩ u1).setCell ⟨b, 2, none⟩ u2).heap[b]? = some (.cells #[u0, u1, u2] t (0, 0)) := blk_set (blk_set (blk_set h 0 u0) 1 u1) 2 u2
theorem set3_ext (w : World) (b : Nat) (u0 u1 u2 : Value) : ExtB [b] w (((w.setCell ⟨b, 0, none⟩ u0).setCell ⟨b, 1, none⟩ u1).setCell ⟨b, 2, none⟩ u2) :=
  (((ExtB.refl [b] w).setCell (.inl (by simp)) _).setCell (.inl (by simp)) _).setCell (.inl (by simp)) _

/-- The book is told, then the reference's; its new value is laid into its box. -/
theorem PlayAt.step {w w1 w2 : World} {b : Nat} {mo mo' : Option Nat} {bx : Nat} {s s' : Value} {room share : Int} {L L' : List Ln} {N N' : Nat} (h : PlayAt w b mo bx s room share L N)
    (hb : BookAt w1 b mo' room share L' N') (hx1 : ExtB (bks b mo) w w1) (hx2 : Ext w1 w2) (hl : LinesAt w2 s' L') :
    PlayAt (((w2.setCell ⟨bx, 0, none⟩ (.int .i64 room)).setCell ⟨bx, 1, none⟩ (.int .i64 share)).setCell ⟨bx, 2, none⟩ s') b mo' bx s' room share L' N' := by
  have hbox := hx2.heap (h.others hx1).1
  have hb2 : BookAt w2 b mo' room share L' N' := hb.ext (.of hx2 []) (by simp) (by simp)
  have hx3 := set3_ext w2 bx (.int .i64 room) (.int .i64 share) s'
  have hap := hb2.apart hbox (by decide)
  rw [mem_bks] at hap
  refine ⟨hb2.ext hx3 ?_ ?_, set3_blk hbox, hl.extB hx3 ?_⟩
  · simp; rintro rfl; exact hap (.inl rfl)
  · rintro mb rfl; simp; rintro rfl; exact hap (.inr rfl)
  · intro g hg
    obtain ⟨cur, hc⟩ := hl.own hg
    simp
    rintro rfl
    rw [hbox] at hc
    injection hc with hc
    injection hc with _ ht
    exact absurd ht (by decide)

/-- A book's blocks lie from B on. -/
def Above (B : Nat) (mo : Option Nat) : Prop := ∀ m, mo = some m → B ≤ m
theorem Above.none (B : Nat) : Above B none := fun _ h => by cases h
theorem Above.new {B : Nat} {w : World} {mo mo' : Option Nat} (h : Above B mo) (hB : B ≤ w.heap.size) (hn : NewMap w mo mo') : Above B mo' := by
  rcases hn with rfl | ⟨_, m, rfl, hm⟩
  · exact h
  · intro m' e; injection e with e; omega
theorem below_bks {B b : Nat} {mo : Option Nat} {w w' : World} (hx : ExtB (bks b mo) w w') (hb : B ≤ b) (hm : Above B mo) (hB : B ≤ w.heap.size) : Below B w w' :=
  hx.below hB fun k hk => by
    rcases mem_bks.1 hk with rfl | h
    · exact hb
    · exact hm k h

/-! ### wakes -/
theorem inv0 {room share : Int} (h1 : okN room = true) (h2 : okN share = true) (h3 : share ≤ room) : Inv room share [] := by
  simp [okN] at h1 h2
  exact ⟨h2.1, h3, h1.2, by simp, by simp, by simp, by simp [rSum]; omega⟩

set_option maxRecDepth 100000 in
set_option maxHeartbeats 4000000 in
theorem wakes_any (w : World) : Calls Try.prog 9 #[] w fun e w' => e = .returned (.bool true) ∧ Ext w w' := by
  have hI0 : Inv 10 6 [] := inv0 (by decide) (by decide) (by decide)
  have hI1 := hI0.add [97] 6
  have hI2 := hI1.add [98] 3
  have E0 : addE 10 6 [] [97] 6 = 0 := by decide
  have E1 : addE 10 6 (addL 10 6 [] [97] 6) [98] 3 = 0 := by decide
  have E2 : addE 10 6 (addL 10 6 (addL 10 6 [] [97] 6) [98] 3) [99] 2 = 5 := by decide
  have O1 : overOwn 6 (addL 10 6 (addL 10 6 [] [97] 6) [98] 3) [97] 2 = 2 := by decide
  have O2 : overAny 10 6 (addL 10 6 (addL 10 6 [] [97] 6) [98] 3) [97] 2 = 0 := by decide
  have O3 : overE 6 [97] 2 = 0 := by decide
  have O4 : overOwn 6 (addL 10 6 (addL 10 6 [] [97] 6) [98] 3) [98] 3 = 0 := by decide
  have O5 : overAny 10 6 (addL 10 6 (addL 10 6 [] [97] 6) [98] 3) [98] 3 = 2 := by decide
  have O6 : overE 6 [98] 3 = 0 := by decide
  generalize hL2 : addL 10 6 (addL 10 6 [] [97] 6) [98] 3 = L2 at *
  generalize hL1 : addL 10 6 [] [97] 6 = L1 at *
  have HL1 := Lib.hid hL1; have HL2 := Lib.hid hL2; clear hL1 hL2
  have HE0 := Lib.hid E0; have HE1 := Lib.hid E1; have HE2 := Lib.hid E2; have HO := Lib.hid (And.intro O1 (And.intro O2 (And.intro O3 (And.intro O4 (And.intro O5 O6)))))
  clear E0 E1 E2 O1 O2 O3 O4 O5 O6
  go_enter Try.func9, Try.ntmps9
  go_wp2_with fail
  refine (new_ok 10 6 _ (by decide) (by decide) (by decide)).mono ?_
  rintro e w1 ⟨rfl, hB1, hx1⟩
  go_wp2_with fail
  refine (add_any w.heap.size none [] 0 10 6 6 [97] _ hB1 (by omega) hI0).mono ?_
  rw [HE0.out, HL1.out]
  rintro e w2 ⟨rfl, mo2, hB2, hx2, hn2⟩
  go_wp2_with fail
  refine (add_any w.heap.size mo2 L1 1 10 6 3 [98] _ hB2 (by omega) hI1).mono ?_
  rw [HE1.out, HL2.out]
  rintro e w3 ⟨rfl, mo3, hB3, hx3, hn3⟩
  go_wp2_with fail
  refine (over_any w.heap.size mo3 L2 2 10 6 2 [97] _ hB3 hI2).mono ?_
  rw [HO.out.1, HO.out.2.1, HO.out.2.2.1]
  rintro e w4 ⟨rfl, hx4⟩
  have hB4 := hB3.ext (.of hx4 []) (by simp) (by simp)
  go_wp2_with fail
  refine (over_any w.heap.size mo3 L2 2 10 6 3 [98] _ hB4 hI2).mono ?_
  rw [HO.out.2.2.2.1, HO.out.2.2.2.2.1, HO.out.2.2.2.2.2]
  rintro e w5 ⟨rfl, hx5⟩
  have hB5 := hB4.ext (.of hx5 []) (by simp) (by simp)
  go_wp2_with fail
  refine (add_any w.heap.size mo3 L2 2 10 6 2 [99] _ hB5 (by omega) hI2).mono ?_
  rw [HE2.out]
  rintro e w6 ⟨rfl, mo6, hB6, hx6, hn6⟩
  go_wp2_with fail
  go_ret
  have s1 : w.heap.size ≤ w1.heap.size := hx1.size
  have a2 := (Above.none w.heap.size).new s1 hn2
  have l2 := below_bks hx2 (Nat.le_refl _) (Above.none _) s1
  have s2 : w.heap.size ≤ w2.heap.size := Nat.le_trans s1 l2.size
  have a3 := a2.new s2 hn3
  have l3 := below_bks hx3 (Nat.le_refl _) a2 s2
  have s3 : w.heap.size ≤ w3.heap.size := Nat.le_trans s2 l3.size
  have l4 : Below w.heap.size w3 w5 := (Ext.trans hx4 hx5).mono s3
  have s5 : w.heap.size ≤ w5.heap.size := Nat.le_trans s3 l4.size
  have l6 := below_bks hx6 (Nat.le_refl _) a3 s5
  exact ⟨rfl, (((Below.trans hx1 l2).trans l3).trans l4).trans l6⟩

/-! ### the acts that come in -/
abbrev AR := Bs × Int × Bool
/-- The acts lie as they came in. -/
def ActsAt (w : World) (A : Option Addr) (xs : List AR) : Prop := ∀ k (hk : k < xs.length), ∃ b off, A = some ⟨b, off, none⟩ ∧
  w.cell? ⟨b, off + k * 3, none⟩ = some (.string ⟨xs[k].1.toArray⟩) ∧ w.cell? ⟨b, off + k * 3 + 1, none⟩ = some (.int .i64 xs[k].2.1) ∧ w.cell? ⟨b, off + k * 3 + 2, none⟩ = some (.bool xs[k].2.2)
theorem ActsAt.ext {w w' : World} {A : Option Addr} {xs : List AR} (h : ActsAt w A xs) (hx : Ext w w') : ActsAt w' A xs := fun k hk => by
  obtain ⟨b, off, e, h0, h1, h2⟩ := h k hk
  exact ⟨b, off, e, hx.cell h0, hx.cell h1, hx.cell h2⟩

def smallB (xs : List AR) : Bool := xs.all (fun x => decide (x.1.length ≤ 300)) && decide (xs.length ≤ 60)

set_option maxRecDepth 100000 in
set_option maxHeartbeats 4000000 in
theorem small_any (xs : List AR) (A : Option Addr) (c : Nat) (w : World) (h : ActsAt w A xs) (hlen : xs.length ≤ maxLen) :
    Calls Try.prog 10 #[.slice A xs.length c] w fun e w' => e = .returned (.bool (smallB xs)) ∧ Ext w w' := by
  unfold maxLen at hlen
  have H := Lib.hid h; clear h
  go_enter Try.func10, Try.ntmps10
  go_wp2
  go_loopw [4, 7] (fun _ i wr => ∃ k : Nat, k ≤ xs.length ∧ i = .int .i64 k ∧ xs.all (fun x => decide (x.1.length ≤ 300)) = (xs.drop k).all (fun x => decide (x.1.length ≤ 300)) ∧ Ext w wr) (fun _ i _ => xs.length - (intOf i).toNat)
  case atStart => exact ⟨0, by omega, rfl, by simp, Ext.refl w⟩
  case round =>
    obtain ⟨k, hk, rfl, hall, hx⟩ := hrel
    have HA := Lib.hid hall; clear hall
    by_cases hlt : k < xs.length
    · obtain ⟨b, off, rfl, h0, h1, h2⟩ := (H.out.ext hx) k hlt
      have hdr : (xs.drop k).all (fun x => decide (x.1.length ≤ 300)) = (decide (xs[k].1.length ≤ 300) && (xs.drop (k + 1)).all (fun x => decide (x.1.length ≤ 300))) := by rw [List.drop_eq_getElem_cons hlt, List.all_cons]
      have HD := Lib.hid hdr; clear hdr
      by_cases hl : xs[k].1.length ≤ 300
      · go_wp2
        go_roundw
        case rel => exact ⟨k + 1, by omega, by go_num, by rw [HA.out, HD.out, decide_eq_true hl, Bool.true_and], hx.alloc _⟩
        case measure => simp [intOf]; omega
      · go_wp2
        go_ret
        exact ⟨ret_bool (by unfold smallB; rw [HA.out, HD.out, decide_eq_false hl]; rfl), hx.alloc _⟩
    · have hd : xs.drop k = [] := List.drop_eq_nil_of_le (by omega)
      have HDD := Lib.hid hd; clear hd
      by_cases h60 : xs.length ≤ 60
      · go_wp2
        go_ret
        exact ⟨ret_bool (by unfold smallB; rw [HA.out, HDD.out, decide_eq_true h60]; simp; omega), hx⟩
      · go_wp2
        go_ret
        exact ⟨ret_bool (by unfold smallB; rw [HA.out, HDD.out, decide_eq_false h60]; simp; omega), hx⟩

theorem small_spec {xs : List AR} (h : smallB xs = true) : (∀ x ∈ xs, x.1.length ≤ 300) ∧ xs.length ≤ 60 := by
  simp only [smallB, Bool.and_eq_true, List.all_eq_true, decide_eq_true_eq] at h
  exact h

/-! ### same -/
set_option maxRecDepth 100000 in
set_option maxHeartbeats 8000000 in
theorem same_any (b : Nat) (mo : Option Nat) (L : List Ln) (N : Nat) (room share : Int) (s : Value) (xs : List AR) (A : Option Addr) (c : Nat) (w : World) (hBA : BookAt w b mo room share L N) (hL : LinesAt w s L) (hN : N ≤ 100000) (hlen : L.length ≤ 1000) (hI : Inv room share L)
    (hA : ActsAt w A xs) (hxs : ∀ x ∈ xs, x.1.length ≤ 300) (hxl : xs.length ≤ 1000) :
    Calls Try.prog 22 #[.pointer (some ⟨b, 0, none⟩), .agg #[.int .i64 room, .int .i64 share, s], .slice A xs.length c] w fun e w' => e = .returned (.bool true) ∧ Ext w w' := by
  obtain ⟨As, cs, rfl⟩ := hL.slice
  have b3 := hI.sum0; have b4 := hI.sum; have b7 := hI.r1
  have hv : ∀ x ∈ L, 0 ≤ x.2 := fun x hx => (hI.val x hx).1
  have HV := Lib.hid hv; have HXS := Lib.hid hxs; clear hv hxs
  obtain ⟨W, hW⟩ : ∃ W, W = w.alloc (.cells #[.int .i64 room, .int .i64 share, .slice As L.length cs] 32) := ⟨_, rfl⟩
  have hE : Ext w W := by rw [hW]; exact Ext.alloc (Ext.refl w) _
  have hw0 : W.heap[w.heap.size]? = some (.cells #[.int .i64 room, .int .i64 share, .slice As L.length cs] 32 (0, 0)) := by rw [hW]; exact heap_alloc_new w _
  have a0 : W.cell? ⟨w.heap.size, 0, none⟩ = some (.int .i64 room) := blk_cell hw0 0
  have a1 : W.cell? ⟨w.heap.size, 1, none⟩ = some (.int .i64 share) := blk_cell hw0 1
  have a2 : W.cell? ⟨w.heap.size, 2, none⟩ = some (.slice As L.length cs) := blk_cell hw0 2
  have hP : PlayAt W b mo w.heap.size (.slice As L.length cs) room share L N := ⟨hBA.ext (.of hE []) (by simp) (by simp), hw0, hE.lines hL⟩
  have HP := Lib.hid hP; have HW := Lib.hid hW; have HA := Lib.hid (hA.ext hE)
  clear hW hw0 hP hA hBA hL
  go_enter Try.func22, Try.ntmps22
  go_wp2
  rw [← HW.out]
  have G0 : ∀ x : Grow [] W, x.v.cell? ⟨w.heap.size, 0, none⟩ = some (.int .i64 room) := fun x => x.ext.cell a0 (by simp)
  have G1 : ∀ x : Grow [] W, x.v.cell? ⟨w.heap.size, 1, none⟩ = some (.int .i64 share) := fun x => x.ext.cell a1 (by simp)
  have G2 : ∀ x : Grow [] W, x.v.cell? ⟨w.heap.size, 2, none⟩ = some (.slice As L.length cs) := fun x => x.ext.cell a2 (by simp)
  (refine wp_region_grow (by kernel_rfl) (by kernel_rfl) ?_; (repeat (go_big_quiet_step ((first | (go_at_call 23; exact Calls.inGrow_same (all_any b mo L N room share _ (HP.out.ext (Grow.ext _).ext).book)) | (go_at_call 34; exact Calls.inGrow (rsum_any L _ room share _ (HP.out.ext (Grow.ext _).ext).lines hlen HV.out (by omega))))))); refine wpQuiet_nil ?_)
  clear G0 G1 G2
  intro w1 hx1
  have c0 := hx1.cell a0; have c1 := hx1.cell a1; have c2 := hx1.cell a2
  go_wp2
  refine wp_region_segs [] [.inl [0, 2], .inr (.inl 1), .inr (.inl 3), .inl [4, 5]] (by kernel_rfl) (by kernel_rfl) (fun c a d v w h => by cases d <;> exact h) ?_
  have G0 : ∀ x : Grow [] w1.drew, x.v.cell? ⟨w.heap.size, 0, none⟩ = some (.int .i64 room) := fun x => x.ext.cell c0 (by simp)
  have G1 : ∀ x : Grow [] w1.drew, x.v.cell? ⟨w.heap.size, 1, none⟩ = some (.int .i64 share) := fun x => x.ext.cell c1 (by simp)
  have G2 : ∀ x : Grow [] w1.drew, x.v.cell? ⟨w.heap.size, 2, none⟩ = some (.slice As L.length cs) := fun x => x.ext.cell c2 (by simp)
  (rw [wpSegs_inl]; simp only [pickOps, List.map_cons, List.map_nil, List.getD_cons_succ, List.getD_cons_zero]; (repeat (go_big_quiet_step (fail))); refine wpQuiet_nil ?_)
  clear G0 G1 G2
  have hx1' : Ext W w1.drew := hx1.drew
  (rw [wpSegs_grow]; simp only [pickOps, List.map_cons, List.map_nil, List.getD_cons_succ, List.getD_cons_zero]; go_wp2_with ((go_at_call 15; refine (tenants_any b mo L N room share _ (HP.out.ext hx1').book hN hI).mono ?_; rintro e w2 ⟨vt, rfl, hst, hx2⟩)))
  refine ⟨.of hx2 _, ?_⟩
  have hx2' : Ext W w2 := hx1'.trans hx2
  (rw [wpSegs_grow]; simp only [pickOps, List.map_cons, List.map_nil, List.getD_cons_succ, List.getD_cons_zero]; go_wp2_with ((go_at_call 35; refine (rten_any L _ room share _ (HP.out.ext hx2').lines hlen).mono ?_; rintro e w3 ⟨vu, rfl, hsu, hx3⟩)))
  refine ⟨.of hx3 _, ?_⟩
  have hx3' : Ext W w3 := hx2'.trans hx3
  have hst3 := hst.below hx3
  (rw [wpSegs_inl]; simp only [pickOps, List.map_cons, List.map_nil, List.getD_cons_succ, List.getD_cons_zero]; (repeat (go_big_quiet_step (fail))); refine wpQuiet_nil ?_)
  rw [wpSegs_nil]
  obtain ⟨At, ct, rfl⟩ := hst.slice
  obtain ⟨Au, cu, rfl⟩ := hsu.slice
  clear hst
  have hten : (rTen L).length ≤ 1000 := Nat.le_trans (len_rTen L) hlen
  generalize hts : rTen L = ts at *
  have HT := Lib.hid hts; clear hts
  have HST := Lib.hid hst3; have HSU := Lib.hid hsu; clear hst3 hsu c0 c1 c2
  go_wp2
  go_loopw [9, 28] (fun _ i wr => ∃ k : Nat, k ≤ ts.length ∧ i = .int .i64 k ∧ Ext w3 wr) (fun _ i _ => ts.length - (intOf i).toNat)
  case atStart => exact ⟨0, by omega, rfl, Ext.refl w3⟩
  case round =>
    obtain ⟨k, hk, rfl, hxr⟩ := hrel
    by_cases hlt : k < ts.length
    · obtain ⟨gt, rfl, hgt, ht⟩ := (HST.out.below hxr).at_ hlt
      obtain ⟨gu, rfl, hgu, hu⟩ := (HSU.out.below hxr).at_ hlt
      go_wp2
      go_quiet (fail)
      go_wp2
      go_roundw
      case rel => exact ⟨k + 1, by omega, by go_num, hxr.drewN _⟩
      case measure => simp [intOf]; omega
    · clear HST HSU
      go_wp2
      obtain ⟨wo, rfl⟩ : ∃ wo : World, wo = wr := ⟨_, rfl⟩
      have hxo : Ext W wo := hx3'.trans hxr
      have HB := Lib.hid (HP.out.ext hxo)
      have d0 := hxo.cell a0; have d1 := hxo.cell a1; have d2 := hxo.cell a2
      have hsz : w.heap.size < wo.heap.size := World.block_lt_of_cell? _ _ d0
      clear hxr
      go_loopw [11, 43] (fun _ i wr => ∃ k : Nat, k ≤ xs.length ∧ i = .int .i64 k ∧ Ext wo wr) (fun _ i _ => xs.length - (intOf i).toNat)
      case atStart => exact ⟨0, by omega, rfl, Ext.refl wo⟩
      case round =>
        obtain ⟨k2, hk2, rfl, hxr⟩ := hrel
        by_cases hlt2 : k2 < xs.length
        · obtain ⟨ba, off, rfl, h0, h1, h2⟩ := (HA.out.ext (hxo.trans hxr)) k2 hlt2
          have htl := HXS.out _ (List.getElem_mem hlt2)
          have e0 := hxr.cell d0; have e1 := hxr.cell d1; have e2 := hxr.cell d2
          have hsr : w.heap.size < wr.heap.size := hxr.lt hsz
          have hba : ba < wr.heap.size := World.block_lt_of_cell? _ _ h0
          go_wp2
          obtain ⟨wa, hwa⟩ : ∃ wa, wa = wr.alloc (.cells #[.string ⟨xs[k2].1.toArray⟩, .int .i64 xs[k2].2.1, .bool xs[k2].2.2] 26) := ⟨_, rfl⟩
          rw [← hwa]
          have hea : Ext wo wa := by rw [hwa]; exact hxr.alloc _
          have hla : wa.heap[wr.heap.size]? = some (.cells #[.string ⟨xs[k2].1.toArray⟩, .int .i64 xs[k2].2.1, .bool xs[k2].2.2] 26 (0, 0)) := by rw [hwa]; exact heap_alloc_new wr _
          have l0 : wa.cell? ⟨wr.heap.size, 0, none⟩ = some (.string ⟨xs[k2].1.toArray⟩) := blk_cell hla 0
          have g0 := hea.cell d0; have g1 := hea.cell d1; have g2 := hea.cell d2
          have G0 : ∀ x : Grow [] wa, x.v.cell? ⟨w.heap.size, 0, none⟩ = some (.int .i64 room) := fun x => x.ext.cell g0 (by simp)
          have G1 : ∀ x : Grow [] wa, x.v.cell? ⟨w.heap.size, 1, none⟩ = some (.int .i64 share) := fun x => x.ext.cell g1 (by simp)
          have G2 : ∀ x : Grow [] wa, x.v.cell? ⟨w.heap.size, 2, none⟩ = some (.slice As L.length cs) := fun x => x.ext.cell g2 (by simp)
          have GA : ∀ x : Grow [] wa, x.v.cell? ⟨wr.heap.size, 0, none⟩ = some (.string ⟨xs[k2].1.toArray⟩) := fun x => x.ext.cell l0 (by simp)
          have HEA := Lib.hid hea
          clear hla hwa hea h0 h1 h2 e0 e1 e2 g0 g1 g2
          (refine wp_region_grow (by kernel_rfl) (by kernel_rfl) ?_; (repeat (go_big_quiet_step ((first | (go_at_call 16; exact Calls.inGrow_same (of_any b mo L N room share xs[k2].1 _ (HB.out.ext (HEA.out.trans (Grow.ext _).ext)).book (by omega))) | (go_at_call 32; exact Calls.inGrow (rof_any L _ xs[k2].1 room share _ (HB.out.ext (HEA.out.trans (Grow.ext _).ext)).lines hlen)))))); refine wpQuiet_nil ?_)
          clear G0 G1 G2 GA
          intro w4 hx4
          go_wp2
          go_roundw
          case rel => exact ⟨k2 + 1, by omega, by go_num, HEA.out.trans hx4⟩
          case measure => simp [intOf]; omega
        · go_wp2
          go_ret
          exact ⟨rfl, (hE.trans hxo).trans hxr⟩

end Go.Proofs.Ytjcpmfioppopcaa
