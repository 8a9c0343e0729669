/- Proved: KeysOwn, for every input: a map keeps nothing that it was handed, and hands out nothing that it keeps. -/
import Derived.Test.YtgbhhofmghgpbaaPlays0
namespace Go.Proofs.Ytgbhhofmghgpbaa
open Go.ChangeShapes Go.WideShapes Go.ChangeAt Go.RowKit Go.Deep Go.Joins
open Go.Sort Go.Shelf Go.Maps Go.ChangeMaps
set_option linter.unusedVariables false

/-- Nothing but block g has turned. -/
def Only (g : Nat) (w w' : World) : Prop := w.grownBy w' (some g)
theorem Only.refl (g : Nat) (w : World) : Only g w w := ⟨rfl, rfl, rfl, Nat.le_refl _, fun _ _ _ => rfl⟩
theorem Only.set {g : Nat} {w w' : World} (h : Only g w w') (i : Nat) (u : Value) : Only g w (w'.setCell ⟨g, i, none⟩ u) := grown_setCell h (.inl rfl) u
theorem Only.ext {g : Nat} {w0 w w' : World} (h : Only g w w') (hx : Ext w0 w) (hg : w0.heap.size ≤ g) : Ext w0 w' := ⟨h.os.trans hx.os, h.tape.trans hx.tape, h.output.trans hx.output, Nat.le_trans hx.size h.size, fun i hi => (h.block i (Nat.lt_of_lt_of_le hi hx.size) (by intro e; injection e with e; omega)).trans (hx.block i hi)⟩
theorem KAt.only {w w' : World} {B b N g : Nat} {mo mw : Option Nat} {G : GOf} {Q : QW} (h : KAt w B b mo mw G Q N) (hx : Only g w w') (h1 : g < B) (h2 : g ≠ b) : KAt w' B b mo mw G Q N := by
  have hmap : ∀ {H : Type} {k : TypeId} {R : Value → Option (DataW H × List MemPlace)} {r n : Nat} {D : DataW H}, w.ownsMap Try.prog k R r n D → B ≤ r → w'.ownsMap Try.prog k R r n D := fun hm hr => hm.kept hx (by simp; omega)
  refine ⟨(hx.block b (blk_lt h.blk) (by simp; omega)).trans h.blk, ?_, ?_, fun id r c ss e => ?_, fun k r S e => ?_, h.inj, h.both, Nat.le_trans h.low hx.size, h.lowo, h.loww⟩
  · rcases h.of with h0 | ⟨m, D, rfl, hown, ht⟩
    · exact .inl h0
    · exact .inr ⟨m, D, rfl, hmap hown (h.lowo m rfl), ht⟩
  · rcases h.wi with h0 | ⟨m, D, rfl, hown, ht⟩
    · exact .inl h0
    · exact .inr ⟨m, D, rfl, hmap hown (h.loww m rfl), ht⟩
  · have hr := h.rows id r c ss e
    refine World.ownsRow.kept hr hx ?_
    have := (World.ownsRow.lt hr r rfl).1
    right; simp [Value.ownBlock]; omega
  · obtain ⟨⟨D, hown, ht⟩, hB, r⟩ := h.sets k r S e
    exact ⟨⟨D, hmap hown hB, ht⟩, hB, r⟩
theorem KI.only {w w' : World} {B b N g : Nat} {L : List Pr} (h : KI w B b N L) (hx : Only g w w') (h1 : g < B) (h2 : g ≠ b) : KI w' B b N L := by
  obtain ⟨mo, mw, G, Q, k1, k2⟩ := h
  exact ⟨mo, mw, G, Q, k1.only hx h1 h2, k2⟩
theorem RAt.only {w w' : World} {B x g : Nat} {L : List Pr} (h : RAt w B x L) (hx : Only g w w') (h1 : g < B) : RAt w' B x L := by
  obtain ⟨h0, v, h2, h3⟩ := h
  refine ⟨h0, v, (hx.block x (blk_lt h2) (by simp; omega)).trans h2, World.ownsRow.kept h3 hx ?_⟩
  cases hv : v.ownBlock with
  | none => simp
  | some k => have := (World.ownsRow.lt h3 k hv).1; right; simp; omega
/-- A row in which each element may be written. -/
structure Wr (e : TypeId) (v : Value) (n : Nat) (g : Nat) (w : World) : Prop where
  val : v = .slice none 0 0 ∧ n = 0 ∨ ∃ c, v = .slice (some ⟨g, 0, none⟩) n c ∧ n ≤ c
  blk : 0 < n → ∃ cur, w.heap[g]? = some (.cells cur e (0, 0)) ∧ n ≤ cur.size
theorem Wr.set {e : TypeId} {v : Value} {n g : Nat} {w : World} (h : Wr e v n g w) (i : Nat) (u : Value) : Wr e v n g (w.setCell ⟨g, i, none⟩ u) :=
  ⟨h.val, fun hn => by
    obtain ⟨cur, h1, h2⟩ := h.blk hn
    exact ⟨_, blk_set h1 i u, by simpa using h2⟩⟩
theorem Wr.put {e : TypeId} {v : Value} {n g : Nat} {w : World} (h : Wr e v n g w) (g' i : Nat) (u : Value) : Wr e v n g (w.setCell ⟨g', i, none⟩ u) :=
  ⟨h.val, fun hn => by
    obtain ⟨cur, h1, h2⟩ := h.blk hn
    by_cases hp : g = g'
    · subst hp
      exact ⟨_, blk_set h1 i u, by simpa using h2⟩
    · exact ⟨cur, blk_far h1 hp u, h2⟩⟩
theorem Wr.ext {e : TypeId} {v : Value} {n g : Nat} {w w' : World} (h : Wr e v n g w) (hx : Ext w w') : Wr e v n g w' :=
  ⟨h.val, fun hn => by
    obtain ⟨cur, h1, h2⟩ := h.blk hn
    exact ⟨cur, hx.heap h1, h2⟩⟩
theorem wr_of {w : World} {B : Nat} {e : TypeId} {v : Value} {n : Nat} {xs : List Value} (h : w.ownsRow B e 1 v n xs) : ∃ g, Wr e v n g w ∧ B ≤ g ∧ (g < w.heap.size ∨ g = B) := by
  rcases h.2 with ⟨h1, h2⟩ | ⟨g, cap, cur, h1, h2, h3, h4, h5, h6, h7⟩
  · exact ⟨B, ⟨.inl ⟨h1, h2⟩, fun hn => by omega⟩, Nat.le_refl _, .inr rfl⟩
  · exact ⟨g, ⟨.inr ⟨cap, h1, h4⟩, fun _ => ⟨cur, h3, by omega⟩⟩, h2, .inl (blk_lt h3)⟩
theorem Ext.put {w0 w : World} (h : Ext w0 w) {p : Addr} (hp : w0.heap.size ≤ p.block) (u : Value) : Ext w0 (w.setCell p u) :=
  ⟨h.os, h.tape, h.output, by simpa [World.setCell] using h.size, fun i hi => (Below.heap_setCell w p u i (by omega)).trans (h.block i hi)⟩

structure OwRel (w6 : World) (va vb vc : Value) (na nb nc ga gb gc : Nat) (wr : World) : Prop where
  ext : Ext w6 wr
  wa : Wr 9 va na ga wr
  wb : Wr 9 vb nb gb wr
  wc : Wr 2 vc nc gc wr
theorem OwRel.put {w6 : World} {va vb vc : Value} {na nb nc ga gb gc : Nat} {wr : World} (h : OwRel w6 va vb vc na nb nc ga gb gc wr) {g : Nat} (hg : w6.heap.size ≤ g) (i : Nat) (u : Value) : OwRel w6 va vb vc na nb nc ga gb gc (wr.setCell ⟨g, i, none⟩ u) :=
  ⟨h.ext.put hg u, h.wa.put _ _ _, h.wb.put _ _ _, h.wc.put _ _ _⟩

set_option maxRecDepth 100000 in
set_option maxHeartbeats 8000000 in
theorem own_walk (id : Int) (v : Value) (ks : List Bs) (w : World) (hid : (Lit.int .i64 id).wf = true) (hA : TextsA w v ks) :
    Calls Try.prog 6 #[.int .i64 id, v] w fun e w' => e = .returned (.bool true) ∧ Below w.heap.size w w' := by
  obtain ⟨Aa, ca, hva, -⟩ := hA.1
  obtain ⟨na, hna⟩ : ∃ n, n = ks.length := ⟨_, rfl⟩
  rw [← hna] at hva
  subst hva
  have hf := few_any w _ (.slice Aa na ca) ks 32 600 hA.1 hA.2.2.1 (by omega) (by omega) hA.2.2.2
  have HA := Lib.hid hA; have HF := Lib.hid hf; have HNA := Lib.hid hna
  clear hA hf hna
  go_enter Try.func6, Try.ntmps6
  go_wp2_with fail
  refine HF.out.mono ?_
  rintro e w0 ⟨rfl, rfl⟩
  clear HF
  by_cases hfa : fewB ks 32 600 = true
  · rw [hfa]
    have hfi := (fewB_iff _ _ _).1 hfa
    have hk1 : ∀ k ∈ ks, k.length ≤ 600 := fun k hk => by have := bytesL_mem hk; have := hfi.1; omega
    have hk2 : ks.length ≤ 32 := by have := hfi.2; omega
    have hri := rright_any w _ (.slice Aa na ca) ks HA.out.1 HA.out.2.1.1 (by omega) (fun k hk => by have := hk1 k hk; omega)
    have HK1 := Lib.hid hk1; have HK2 := Lib.hid hk2
    clear hfa hfi hk1 hk2
    obtain ⟨cn, hcn⟩ : ∃ n, n = checkN ks := ⟨_, rfl⟩
    rw [← hcn] at hri
    have HRI := Lib.hid hri; have HCN := Lib.hid hcn
    clear hri hcn
    go_wp2_with fail
    refine HRI.out.mono ?_
    rintro e w0 ⟨rfl, rfl⟩
    clear HRI
    by_cases hc0 : cn = 0
    · subst hc0
      by_cases h1 : id < 1
      · go_wp2_with fail
        refine (awake_any _).mono ?_
        rintro e w2 ⟨rfl, x2⟩
        have X2 := Lib.hid x2
        clear x2
        go_wp2
        go_ret
        exact ⟨rfl, X2.out⟩
      · have h1' : 1 ≤ id := by omega
        have e1 : decide (id < 1) = false := decide_eq_false h1
        clear h1
        go_wp2_with fail
        refine (new_blk _).mono ?_
        rintro e w1 ⟨rfl, p1, x1⟩
        obtain ⟨B, hBB⟩ : ∃ B, B = w.heap.size := ⟨_, rfl⟩
        rw [← hBB] at p1 ⊢
        have P1 := Lib.hid p1; have X1 := Lib.hid x1; have HBB := Lib.hid hBB
        have XA := Lib.hid (x1.trans (alloc_ext w1 (.cells #[] 9)))
        have HTA := Lib.hid (HA.out.ext XA.out)
        clear p1 x1 hBB
        go_wp2_with (at_builtin; refine wpList_append_txt rfl _ _ rfl w1.heap.size _ (.slice (some ⟨w1.heap.size, 0, none⟩) 0 0) (.slice Aa na ca) [] ks (World.ownsRow_made w1 #[] 0 (Nat.le_refl _) (by unfold maxLen; omega) rfl) HTA.out.1 HTA.out.2.1.2 rfl rfl ?c0 (by simp) ?_)
        case c0 => have := HK2.out; simp; omega
        intro v6 w2 q2 g2
        have b2 : Below w1.heap.size w1 w2 := RowKit.Below.trans (alloc_ext w1 (.cells #[] 9)) (own_below (World.ownsRow_made w1 #[] 0 (Nat.le_refl _) (by unfold maxLen; omega) rfl : (w1.alloc (.cells #[] 9)).ownsRow w1.heap.size 9 1 (.slice (some ⟨w1.heap.size, 0, none⟩) 0 0) 0 []) g2 (by simp))
        have sz2 : w1.heap.size < w2.heap.size := by have := g2.size; simp at this; omega
        have q2' : SRow w2 w1.heap.size v6 ks := by simpa using q2
        obtain ⟨g6, wr6, lo6, hi6⟩ := wr_of q2'
        have hB1 : B < w1.heap.size := blk_lt P1.out
        have hg6 : B < g6 ∧ g6 < w2.heap.size := by omega
        obtain ⟨B2, hB2⟩ : ∃ B2, B2 = w2.heap.size := ⟨_, rfl⟩
        have k2 : KI w2 B2 B 0 [] := ki_fresh w2 B2 B (Ext.heap b2 P1.out) (by omega)
        have htie := ki_tie w2 B2 B 0 [] id v6 ks k2 hid q2'.texts (by have := HK2.out; omega) (fun k hk => by have := HK1.out k hk; omega) (by omega)
        have HT := Lib.hid htie; have WR2 := Lib.hid wr6; have X2 := Lib.hid (X1.out.trans b2)
        have HG6 : Hid (B < g6 ∧ g6 < B2) := Lib.hid (by omega)
        have HB2 : Hid (B2 = w2.heap.size ∧ w.heap.size ≤ B2) := Lib.hid ⟨hB2, by have := X1.out.size; omega⟩
        have HL6 : Hid (w.heap.size ≤ g6) := Lib.hid (by have := HBB.out; omega)
        obtain ⟨A6, c6, hv6⟩ := own_slice q2'
        obtain ⟨n6, hn6⟩ : ∃ n, n = ks.length := ⟨_, rfl⟩
        rw [← hn6] at hv6 WR2
        have hn6' : n6 ≤ 32 := by have := HK2.out; omega
        clear htie q2 q2' g2 b2 sz2 wr6 lo6 hi6 hB1 hg6 hB2 k2 HTA XA hn6 P1 X1
        subst hv6
        go_wp2_with fail
        refine HT.out.mono ?_
        rintro e w3 ⟨rfl, k3, f3⟩
        obtain ⟨L, hL⟩ : ∃ L, L = tieL [] id ks := ⟨_, rfl⟩
        rw [← hL] at k3
        have lL : L.length ≤ 32 := by rw [hL]; have h0 := tieL_len [] id ks; have := HK2.out; rw [List.length_nil] at h0; omega
        have X3 : Hid (Ext w w3) := Lib.hid (RowKit.Below.trans X2.out ⟨f3.os, f3.tape, f3.output, f3.size, fun i hi => f3.block i (Nat.lt_of_lt_of_le hi X2.out.size) (by have := HBB.out; omega) (.inl (by have := HB2.out.2; omega))⟩)
        have K3 := Lib.hid k3
        have WR3 : Hid (Wr 9 (.slice A6 n6 c6) n6 g6 w3) := Lib.hid ⟨WR2.out.val, fun hn => by
          obtain ⟨cur, h1, h2⟩ := WR2.out.blk hn
          exact ⟨cur, f3.heap h1 (by have := HG6.out; omega), h2⟩⟩
        obtain ⟨x, hxx⟩ : ∃ x, x = w3.heap.size := ⟨_, rfl⟩
        have HX : Hid (B2 ≤ x) := Lib.hid (by have := f3.size; have := HB2.out.1; omega)
        have hr4 : RAt (w3.alloc (.cells #[.slice none 0 0] 40)) x x [] := ⟨Nat.le_refl _, _, by rw [hxx]; exact heap_alloc_new w3 _, World.ownsRow_nil _ _ _ _⟩
        have X4 := Lib.hid (X3.out.trans (alloc_ext w3 (.cells #[.slice none 0 0] 40)))
        have hT4 : Texts x (w3.alloc (.cells #[.slice none 0 0] 40)) (.slice Aa na ca) ks := texts_mono (Texts.below X4.out HA.out.1) (by rw [hxx]; exact X3.out.size)
        have hrt := rtie_any (w3.alloc (.cells #[.slice none 0 0] 40)) x x [] id (.slice Aa na ca) ks hr4 (by simp; omega) (by simp) hT4 HA.out.2.1.1 (by have := HK2.out; omega) (fun k hk => by have := HK1.out k hk; omega)
        rw [← hL] at hrt
        have HRT := Lib.hid hrt; have HXX := Lib.hid hxx; have HL := Lib.hid hL
        clear hrt hr4 hT4 hxx hL k3 f3 HT WR2 X2
        go_wp2_with fail
        rw [← HXX.out]
        refine HRT.out.mono ?_
        rintro e w5 ⟨rfl, r5, f5⟩
        have K5 := Lib.hid ((K3.out.ext (alloc_ext w3 (.cells #[.slice none 0 0] 40))).fq f5); have R5 := Lib.hid r5
        have WR5 : Hid (Wr 9 (.slice A6 n6 c6) n6 g6 w5) := Lib.hid ⟨WR3.out.val, fun hn => by
          obtain ⟨cur, h1, h2⟩ := WR3.out.blk hn
          exact ⟨cur, f5.heap ((alloc_ext w3 (.cells #[.slice none 0 0] 40)).heap h1) (fun _ _ _ e => by injection e with _ e _; subst e; decide), h2⟩⟩
        have X5 : Hid (Ext w w5) := Lib.hid (RowKit.Below.trans X4.out ⟨f5.os, f5.tape, f5.output, f5.size, fun i hi => f5.block i (Nat.lt_of_lt_of_le hi X4.out.size) (.inl (by have := HX.out; have := HB2.out.2; omega))⟩)
        clear HRT r5 f5 K3 WR3 X3 X4
        go_wp2
        go_loopw [46, 8] (fun i _ wr => ∃ j : Nat, j ≤ n6 ∧ i = .int .i64 j ∧ Only g6 w5 wr ∧ Wr 9 (.slice A6 n6 c6) n6 g6 wr) (fun i _ _ => n6 - (intOf i).toNat)
        case atStart => exact ⟨0, by omega, rfl, Only.refl _ _, WR5.out⟩
        case round =>
          obtain ⟨j, hj, rfl, hon, hwr⟩ := hrel
          have HON := Lib.hid hon; have HWR := Lib.hid hwr
          clear hon hwr
          by_cases hlt : j < n6
          · obtain ⟨cur, hb, hcs⟩ := HWR.out.blk (by omega)
            obtain ⟨cc, hA6, hcc⟩ : ∃ cc, A6 = some ⟨g6, 0, none⟩ ∧ n6 ≤ cc := by
              rcases HWR.out.val with ⟨_, h0⟩ | ⟨cc, e, h2⟩
              · omega
              · injection e with e1 e2 e3; exact ⟨cc, e1, h2⟩
            subst hA6
            have hcell : wr.cell? ⟨g6, j, none⟩ = some cur[j] := by rw [blk_cell hb]; exact Array.getElem?_eq_getElem (by omega)
            have hfree := blk_free hb j
            have HB := Lib.hid hb
            clear hb
            go_wp2
            go_roundw
            case rel => exact ⟨j + 1, by omega, by go_num, HON.out.set _ _, HWR.out.put _ _ _⟩
            case measure => simp [intOf]; omega
          · have hg := HG6.out; have hx := HX.out
            have K6 := Lib.hid (K5.out.only HON.out hg.2 (by omega)); have R6 := Lib.hid (R5.out.only HON.out (by omega))
            have X6 := Lib.hid (HON.out.ext X5.out HL6.out)
            clear hg hx K5 R5 X5 HON HWR WR5
            obtain ⟨w6, hw6⟩ : ∃ w6, w6 = wr := ⟨_, rfl⟩
            rw [← hw6] at K6 R6 X6 ⊢
            clear hw6
            have hof := of_any w6 B2 B _ L id K6.out hid
            have HOF := Lib.hid hof
            clear hof
            go_wp2_with fail
            refine HOF.out.mono ?_
            rintro e wa ⟨va, rfl, sa, xa⟩
            have SA := Lib.hid sa; have XA := Lib.hid xa
            clear HOF sa xa
            have hke := keys_any wa B2 B _ L (K6.out.ext XA.out) (by have := HK2.out; omega)
            have HKE := Lib.hid hke
            clear hke
            go_wp2_with fail
            refine HKE.out.mono ?_
            rintro e wb ⟨vb, ss, rfl, sb, ⟨db, mb⟩, xb⟩
            have lb : ss.length ≤ 32 := Nat.le_trans (nodup_len db (m := L.map Prod.snd) fun t ht => by
              obtain ⟨i, hm⟩ := (mb t).1 ht
              exact List.mem_map.2 ⟨_, hm, rfl⟩) (by simp; omega)
            have SB := Lib.hid sb; have XB := Lib.hid (XA.out.trans xb); have XB' := Lib.hid xb
            clear HKE sb db mb xb
            have hwi := with_any wb B2 B _ L (.slice Aa na ca) ks (K6.out.ext XB.out) (HA.out.ext (X6.out.trans XB.out)).1 (by have := HK2.out; omega) (fun k hk => by have := HK1.out k hk; omega) (by have := HK2.out; omega)
            have HWI := Lib.hid hwi
            clear hwi
            go_wp2_with fail
            refine HWI.out.mono ?_
            rintro e wc ⟨vc, zs, rfl, sc, ⟨dc, mc⟩, xc⟩
            have lc : zs.length ≤ 32 := Nat.le_trans (nodup_len dc (m := L.map Prod.fst) fun t ht => by
              obtain ⟨k, _, hm⟩ := (mc t).1 ht
              exact List.mem_map.2 ⟨_, hm, rfl⟩) (by simp; omega)
            obtain ⟨gx, hwx, hgx, -⟩ := wr_of SA.out
            obtain ⟨gy, hwy, hgy, -⟩ := wr_of SB.out
            obtain ⟨gz, hwz, hgz, -⟩ := wr_of sc
            obtain ⟨Ax, cx, hvx⟩ := own_slice SA.out
            obtain ⟨Ay, cy, hvy⟩ := own_slice SB.out
            obtain ⟨Az, cz, hvz⟩ := own_slice sc
            obtain ⟨nx, hnx⟩ : ∃ n, n = (sortS (keysL L id)).length := ⟨_, rfl⟩
            obtain ⟨ny, hny⟩ : ∃ n, n = (sortS ss).length := ⟨_, rfl⟩
            obtain ⟨nz, hnz⟩ : ∃ n, n = (sortI zs).length := ⟨_, rfl⟩
            rw [← hnx] at hwx hvx
            rw [← hny] at hwy hvy
            rw [← hnz] at hwz hvz
            have lx : nx ≤ 32 := by rw [hnx, sortS_len]; have := keysL_len L id; omega
            have ly : ny ≤ 32 := by rw [hny, sortS_len]; exact lb
            have lz : nz ≤ 32 := by rw [hnz, sortI_len]; exact lc
            subst hvx hvy hvz
            have OW : Hid (OwRel w6 (.slice Ax nx cx) (.slice Ay ny cy) (.slice Az nz cz) nx ny nz gx gy gz wc) := Lib.hid ⟨XB.out.trans xc, hwx.ext (XB'.out.trans xc), hwy.ext xc, hwz⟩
            have Lgx := Lib.hid hgx
            have Lgy : Hid (w6.heap.size ≤ gy) := Lib.hid (Nat.le_trans XA.out.size hgy)
            have Lgz : Hid (w6.heap.size ≤ gz) := Lib.hid (Nat.le_trans XB.out.size hgz)
            clear hwx hwy hwz hgx hgy hgz hnx hny hnz sc dc mc xc HWI SA SB XA XB XB' lb lc
            go_wp2
            go_loopw [63, 12] (fun i _ wr => ∃ j : Nat, j ≤ nx ∧ i = .int .i64 j ∧ OwRel w6 (.slice Ax nx cx) (.slice Ay ny cy) (.slice Az nz cz) nx ny nz gx gy gz wr) (fun i _ _ => nx - (intOf i).toNat)
            case atStart => exact ⟨0, by omega, rfl, OW.out⟩
            case round =>
              clear OW
              obtain ⟨j, hj, rfl, how⟩ := hrel
              have OW := Lib.hid how
              clear how
              by_cases hlt : j < nx
              · obtain ⟨cur, hb, hcs⟩ := OW.out.wa.blk (by omega)
                obtain ⟨cc, hAx, hcc⟩ : ∃ cc, Ax = some ⟨gx, 0, none⟩ ∧ nx ≤ cc := by
                  rcases OW.out.wa.val with ⟨_, h0⟩ | ⟨cc, e, h2⟩
                  · omega
                  · injection e with e1 e2 e3; exact ⟨cc, e1, h2⟩
                subst hAx
                have hcell : wr.cell? ⟨gx, j, none⟩ = some cur[j] := by rw [blk_cell hb]; exact Array.getElem?_eq_getElem (by omega)
                have hfree := blk_free hb j
                have HB := Lib.hid hb
                clear hb
                go_wp2
                go_roundw
                case rel => exact ⟨j + 1, by omega, by go_num, OW.out.put Lgx.out _ _⟩
                case measure => simp [intOf]; omega
              · go_wp2
                go_loopw [72, 13] (fun i _ wr => ∃ j : Nat, j ≤ ny ∧ i = .int .i64 j ∧ OwRel w6 (.slice Ax nx cx) (.slice Ay ny cy) (.slice Az nz cz) nx ny nz gx gy gz wr) (fun i _ _ => ny - (intOf i).toNat)
                case atStart => exact ⟨0, by omega, rfl, OW.out⟩
                case round =>
                  clear OW
                  obtain ⟨j, hj, rfl, how⟩ := hrel
                  have OW := Lib.hid how
                  clear how
                  by_cases hlt : j < ny
                  · obtain ⟨cur, hb, hcs⟩ := OW.out.wb.blk (by omega)
                    obtain ⟨cc, hAx, hcc⟩ : ∃ cc, Ay = some ⟨gy, 0, none⟩ ∧ ny ≤ cc := by
                      rcases OW.out.wb.val with ⟨_, h0⟩ | ⟨cc, e, h2⟩
                      · omega
                      · injection e with e1 e2 e3; exact ⟨cc, e1, h2⟩
                    subst hAx
                    have hcell : wr.cell? ⟨gy, j, none⟩ = some cur[j] := by rw [blk_cell hb]; exact Array.getElem?_eq_getElem (by omega)
                    have hfree := blk_free hb j
                    have HB := Lib.hid hb
                    clear hb
                    go_wp2
                    go_roundw
                    case rel => exact ⟨j + 1, by omega, by go_num, OW.out.put Lgy.out _ _⟩
                    case measure => simp [intOf]; omega
                  · go_wp2
                    go_loopw [81, 14] (fun i _ wr => ∃ j : Nat, j ≤ nz ∧ i = .int .i64 j ∧ OwRel w6 (.slice Ax nx cx) (.slice Ay ny cy) (.slice Az nz cz) nx ny nz gx gy gz wr) (fun i _ _ => nz - (intOf i).toNat)
                    case atStart => exact ⟨0, by omega, rfl, OW.out⟩
                    case round =>
                      clear OW
                      obtain ⟨j, hj, rfl, how⟩ := hrel
                      have OW := Lib.hid how
                      clear how
                      by_cases hlt : j < nz
                      · obtain ⟨cur, hb, hcs⟩ := OW.out.wc.blk (by omega)
                        obtain ⟨cc, hAx, hcc⟩ : ∃ cc, Az = some ⟨gz, 0, none⟩ ∧ nz ≤ cc := by
                          rcases OW.out.wc.val with ⟨_, h0⟩ | ⟨cc, e, h2⟩
                          · omega
                          · injection e with e1 e2 e3; exact ⟨cc, e1, h2⟩
                        subst hAx
                        have hcell : wr.cell? ⟨gz, j, none⟩ = some cur[j] := by rw [blk_cell hb]; exact Array.getElem?_eq_getElem (by omega)
                        have hfree := blk_free hb j
                        have HB := Lib.hid hb
                        clear hb
                        go_wp2
                        go_roundw
                        case rel => exact ⟨j + 1, by omega, by go_num, OW.out.put Lgz.out _ _⟩
                        case measure => simp [intOf]; omega
                      · obtain ⟨w9, hw9⟩ : ∃ w9, w9 = wr := ⟨_, rfl⟩
                        rw [← hw9] at OW ⊢
                        clear hw9
                        have K9 := Lib.hid (K6.out.ext OW.out.ext); have R9 := Lib.hid (R6.out.ext OW.out.ext); have X9 := Lib.hid (X6.out.trans OW.out.ext)
                        clear OW K6 R6 X6 Lgx Lgy Lgz
                        have hof := ofN w9 B2 B _ L id K9.out hid
                        have HOF := Lib.hid hof
                        clear hof
                        go_wp2_with fail
                        refine HOF.out.mono ?_
                        rintro e wa ⟨va, rfl, na', xa⟩
                        have XA := Lib.hid xa; have NA := Lib.hid na'
                        clear HOF xa na'
                        have hro := rof_any wa x x L id (R9.out.ext XA.out) (by omega)
                        have HRO := Lib.hid hro
                        clear hro
                        go_wp2_with fail
                        refine HRO.out.mono ?_
                        rintro e wb ⟨vb, ys, rfl, nb', sb, mb, xb⟩
                        have eys : sortS (keysL L id) = ys := sortS_put (keysL_nodup K9.out.good.nodup id) sb fun t => (mb t).trans (keysL_mem L id t).symm
                        subst eys
                        have hlk : (sortS (keysL L id)).length ≤ 1000000 := by rw [sortS_len]; have := keysL_len L id; omega
                        have hsa := same_any wb _ _ va vb _ _ (texts_up xb NA.out) nb'.texts hlk hlk
                        rw [decide_eq_true rfl] at hsa
                        have HSA := Lib.hid hsa; have XB := Lib.hid (XA.out.trans xb)
                        clear hsa nb' sb mb xb HRO NA XA hlk
                        go_wp2_with fail
                        refine HSA.out.mono ?_
                        rintro e wc ⟨rfl, xc⟩
                        have XC := Lib.hid (XB.out.trans xc)
                        clear xc HSA XB
                        have hke := keysN wc B2 B _ L (K9.out.ext XC.out) (by have := HK2.out; omega)
                        have HKE := Lib.hid hke
                        clear hke
                        go_wp2_with fail
                        refine HKE.out.mono ?_
                        rintro e wd ⟨vd, ss, rfl, nd, dd, md, sd, ld, xd⟩
                        have XE := Lib.hid (XC.out.trans xd); have ND := Lib.hid nd; have DD := Lib.hid dd; have MD := Lib.hid md; have SD := Lib.hid sd; have LD := Lib.hid ld
                        clear HKE nd dd md sd ld xd XC
                        have hrk := rkeys_any wd x x L (R9.out.ext XE.out) (by omega)
                        have HRK := Lib.hid hrk
                        clear hrk
                        go_wp2_with fail
                        refine HRK.out.mono ?_
                        rintro e wf ⟨vf, ys, rfl, nf, sf, mf, xf⟩
                        have eys := texts_same (n0 := 0) (n1 := 0) (w := wf) DD.out sf SD.out fun t => (MD.out t).trans (mf t).symm
                        subst eys
                        have hlk : ss.length ≤ 1000000 := by have := LD.out; omega
                        have hsa := same_any wf _ _ vd vf _ _ (texts_up xf ND.out) nf.texts hlk hlk
                        rw [decide_eq_true rfl] at hsa
                        have HSA := Lib.hid hsa; have XF := Lib.hid (XE.out.trans xf)
                        clear hsa nf sf mf xf HRK ND DD MD SD LD XE hlk
                        go_wp2_with fail
                        refine HSA.out.mono ?_
                        rintro e wg ⟨rfl, xg⟩
                        have XG := Lib.hid (XF.out.trans xg)
                        clear xg HSA XF
                        have TG := Lib.hid (HA.out.ext (X9.out.trans XG.out))
                        have hwi := withN wg B2 B _ L (.slice Aa na ca) ks (K9.out.ext XG.out) TG.out.1 (by have := HK2.out; omega) (fun k hk => by have := HK1.out k hk; omega) (by have := HK2.out; omega)
                        have HWI := Lib.hid hwi
                        clear hwi
                        go_wp2_with fail
                        refine HWI.out.mono ?_
                        rintro e wh ⟨vh, zs, rfl, nh, dh, mh, sh, lh, xh⟩
                        have XH := Lib.hid (XG.out.trans xh); have NH := Lib.hid nh; have DH := Lib.hid dh; have MH := Lib.hid mh; have SH := Lib.hid sh; have LH := Lib.hid lh
                        have hrw := rwith_any wh x x L (.slice Aa na ca) ks (R9.out.ext XH.out) (by omega) (fun p hp => (K9.out.good.ids p hp).2) (texts_up xh TG.out.1) (by have := HK2.out; omega)
                        have HRW := Lib.hid hrw
                        clear hrw nh dh mh sh lh xh HWI TG XG
                        go_wp2_with fail
                        refine HRW.out.mono ?_
                        rintro e wi ⟨vi, ys, rfl, ni, si, mi, xi⟩
                        have eys := nums_same DH.out si SH.out fun t => (MH.out t).trans (mi t).symm
                        subst eys
                        have hlk : zs.length ≤ 1000000 := by have := LH.out; omega
                        have hsa := numbers_any wi _ _ vh vi _ _ (nums_up xi NH.out) ni.nums hlk hlk
                        rw [decide_eq_true rfl] at hsa
                        have HSA := Lib.hid hsa; have XI := Lib.hid (XH.out.trans xi)
                        clear hsa ni si mi xi HRW NH DH MH SH LH XH hlk
                        go_wp2_with fail
                        refine HSA.out.mono ?_
                        rintro e wj ⟨rfl, xj⟩
                        have XJ := Lib.hid (X9.out.trans (XI.out.trans xj))
                        clear xj HSA XI
                        go_wp2_with fail
                        refine (awake_any _).mono ?_
                        rintro e wk ⟨rfl, xk⟩
                        have XK := Lib.hid (XJ.out.trans xk)
                        clear xk XJ
                        go_wp2
                        go_ret
                        exact ⟨rfl, XK.out⟩
    · have e0 : (cn == 0) = false := by simpa using hc0
      go_wp2_with fail
      refine (awake_any _).mono ?_
      rintro e w2 ⟨rfl, x2⟩
      have X2 := Lib.hid x2
      clear x2
      go_wp2
      go_ret
      exact ⟨rfl, X2.out⟩
  · have hfa' : fewB ks 32 600 = false := by simpa using hfa
    rw [hfa']
    clear hfa hfa'
    go_wp2_with fail
    refine (awake_any _).mono ?_
    rintro e w2 ⟨rfl, x2⟩
    have X2 := Lib.hid x2
    clear x2
    go_wp2
    go_ret
    exact ⟨rfl, X2.out⟩
set_option maxRecDepth 100000 in
theorem keysOwn_lifted (os : Os) (started : os.Started) (H : Type) (enc : TypeId × Value → H) :
    ReturnsInHanded {} Try.checked os 6 .any (Rows.keysOwnSpec.pre6 enc Try.prog Try.f6 Rows.keysOwnRow.domain false) (Rows.keysOwnSpec.post enc Try.prog Try.f6 false true false false) := by
  refine returnsInHanded_of_change (C := Try.checked) own started (by kernel_rfl) Try.func6
    (ChangeSpec.witness6 (enc := enc) (C := Try.checked) false ⟨#[], #[.int .i64 0, .slice none 0 0], []⟩ 8 (by kernel_rfl) (by kernel_rfl) (by kernel_rfl) (by kernel_rfl)) ?_
  intro W base args ds gs before hval0 hW hcnd _
  have hval : ∀ (j : Nat) t v, Try.f6.params[j]? = some t → args[j]? = some v → Value.okWide Try.prog W .any base t v := hval0
  have hW' := hW
  obtain ⟨p, q, hA0, hV, rfl, hfz, hnd⟩ := hW
  have hA : DataW.TrodAll enc Try.prog W 0 (fun _ => true) true Try.f6.params.toList args.toList ds p := hA0
  rw [Try.params6] at hA hval
  obtain ⟨v0, vs0, d0, ds0, p0, q0, hargs, rfl, rfl, h0, r0⟩ := trodAll_cons hA
  obtain ⟨v1, vs1, d1, ds1, p1, q1, rfl, rfl, rfl, h1, r1⟩ := trodAll_cons r0
  obtain ⟨rfl, rfl, rfl⟩ := trodAll_nil r1
  obtain rfl : args = #[v0, v1] := by cases args; simp_all
  obtain ⟨rfl, rfl⟩ := trodVars_none hV
  have lt0 : ∀ x ∈ p0, x.block < W.heap.size := by obtain ⟨m, hm⟩ := h0; exact DataW.trod_lt m _ _ _ hm
  have t0 := fun W' (bel : Below W.heap.size W W') => Below.trod laidOut (by kernel_rfl) (of_decide_eq_true (by kernel_rfl)) h0 bel lt0
  have lt1 : ∀ x ∈ p1, x.block < W.heap.size := by obtain ⟨m, hm⟩ := h1; exact DataW.trod_lt m _ _ _ hm
  have t1 := fun W' (bel : Below W.heap.size W W') => Below.trod laidOut (by kernel_rfl) (of_decide_eq_true (by kernel_rfl)) h1 bel lt1
  obtain ⟨i0, rfl, _, _, wf0⟩ := open_int Try.underlying2 (hval 0 2 v0 rfl rfl) h0
  obtain ⟨ss1, ha1⟩ := texts_open (hval 1 23 v1 rfl rfl) h1
  clear hA0 hval0
  refine (own_walk i0 v1 ss1 W wf0 ha1 ).mono fun e W' ⟨he, bel⟩ => ?_
  subst he
  exact ⟨_, rfl, _, _, _, [], _, [], hW', trodAll_mk1 (shut_bool Try.underlying4 _), (trodAll_cons_mk (t0 W' bel) (trodAll_cons_mk (t1 W' bel) trodAll_mk0)), rfl, bel.frame _, fun h => by cases h⟩

/-- The statement. -/
theorem KeysOwn_proved : Rows.KeysOwnSaid :=
  OpenClaim.holds_of_wide 6 Try.f6 rfl rfl rfl rfl rfl rfl rfl ⟨rfl, rfl, rfl, rfl, rfl⟩ rfl rfl rfl rfl rfl (by kernel_rfl) Try.func6 (by kernel_rfl)
    (of_decide_eq_true (by kernel_rfl)) (by unfold Func.isWrapper; first | (rw [if_pos (by decide +kernel)]; kernel_rfl) | (rw [if_neg (by decide +kernel)]; exact ⟨rfl, rfl⟩))
    (fun os started H enc _ => keysOwn_lifted os started H enc)
#print axioms KeysOwn_proved
end Go.Proofs.Ytgbhhofmghgpbaa
