/- Untie, walked. -/
import Derived.Test.YtgbhhofmghgpbaaDoorMem2
import Derived.Test.YtgbhhofmghgpbaaDoorRows
namespace Go.Proofs.YtgbhhofmghgpbaaDoor
open Go.RowKit Go.Sort Go.Shelf Go.Maps Go.ChangeMaps
set_option linter.unusedVariables false

abbrev Pr := Int × Bs
def keysL (L : List Pr) (id : Int) : List Bs := (L.filter fun p => p.1 == id).map (·.2)
theorem keysL_mem (L : List Pr) (id : Int) (k : Bs) : k ∈ keysL L id ↔ (id, k) ∈ L := by
  unfold keysL
  simp only [List.mem_map, List.mem_filter, beq_iff_eq]
  constructor
  · rintro ⟨⟨a, b⟩, ⟨h1, h2⟩, rfl⟩
    simp at h2; subst h2; exact h1
  · intro h; exact ⟨(id, k), ⟨h, rfl⟩, rfl⟩
theorem sortS_mem (ss : List Bs) (k : Bs) : k ∈ sortS ss ↔ k ∈ ss := (List.mergeSort_perm ss _).mem_iff
def GOk (v : Option (Nat × Nat × List Bs)) (L : List Pr) (id : Int) : Prop := match v with
  | none => keysL L id = []
  | some (g, c, ss) => ss = sortS (keysL L id) ∧ ss ≠ []
def QOk (v : Option (Nat × (Int → Bool))) (L : List Pr) (k : Bs) : Prop := match v with
  | none => ∀ id, (id, k) ∉ L
  | some (g, S) => (∀ id, S id = decide ((id, k) ∈ L)) ∧ ∃ id, (id, k) ∈ L
structure Good (L : List Pr) : Prop where
  nodup : L.Nodup
  ids : ∀ p ∈ L, (Lit.int .i64 p.1).wf = true ∧ 1 ≤ p.1
  keys : ∀ p ∈ L, p.2.length ≤ 200
  few : ∀ id, (keysL L id).length ≤ 100000
def KI (w : World) (B b N : Nat) (L : List Pr) : Prop := ∃ mo mw G Q, KAt w B b mo mw G Q N ∧ (mo = none ↔ mw = none) ∧ (∀ id, GOk (G id) L id) ∧ (∀ k, QOk (Q k) L k) ∧ Good L
/-- Without the first j keys of a thing. -/
def lessL (L : List Pr) (id : Int) (ss : List Bs) : List Pr := L.filter fun p => !(p.1 == id && ss.contains p.2)
theorem lessL_mem (L : List Pr) (id : Int) (ss : List Bs) (p : Pr) : p ∈ lessL L id ss ↔ p ∈ L ∧ ¬ (p.1 = id ∧ p.2 ∈ ss) := by
  unfold lessL
  rw [List.mem_filter]
  by_cases h1 : p.1 = id <;> by_cases h2 : p.2 ∈ ss <;> simp [h1, h2]
theorem lessL_nil (L : List Pr) (id : Int) : lessL L id [] = L := by unfold lessL; simp
def untieL (L : List Pr) (id : Int) : List Pr := L.filter fun p => !(p.1 == id)
theorem untieL_mem (L : List Pr) (id : Int) (p : Pr) : p ∈ untieL L id ↔ p ∈ L ∧ p.1 ≠ id := by unfold untieL; simp [List.mem_filter]
theorem lessL_all (L : List Pr) (id : Int) (ss : List Bs) (h : ∀ k, k ∈ ss ↔ (id, k) ∈ L) : lessL L id ss = untieL L id := by
  unfold lessL untieL
  apply List.filter_congr
  rintro ⟨a, k⟩ hp
  by_cases e : a = id
  · subst e; have := (h k).2 hp; simp [this]
  · simp [e]
theorem good_filter {L : List Pr} (h : Good L) (f : Pr → Bool) : Good (L.filter f) :=
  ⟨h.nodup.sublist List.filter_sublist, fun p hp => h.ids p (List.mem_filter.1 hp).1, fun p hp => h.keys p (List.mem_filter.1 hp).1, fun id => by
    refine Nat.le_trans ?_ (h.few id)
    unfold keysL
    rw [List.length_map, List.length_map]
    exact (List.filter_sublist.filter _).length_le⟩
theorem keysL_untie_same (L : List Pr) (id : Int) : keysL (untieL L id) id = [] := by
  rw [List.eq_nil_iff_forall_not_mem]
  intro k hk
  have := (untieL_mem L id _).1 ((keysL_mem _ _ _).1 hk)
  exact this.2 rfl
theorem keysL_untie_other (L : List Pr) {id id' : Int} (h : id' ≠ id) : keysL (untieL L id) id' = keysL L id' := by
  unfold keysL untieL
  rw [List.filter_filter]
  congr 1
  apply List.filter_congr
  rintro ⟨a, k⟩ hp
  by_cases e : a = id'
  · subst e; simp [h]
  · simp [e]

structure UnRel (w : World) (B b : Nat) (mo mw : Option Nat) (G : GOf) (N : Nat) (L : List Pr) (id : Int) (ss : List Bs) (j : Nat) (wr : World) : Prop where
  at_ : ∃ Q, KAt wr B b mo mw G Q N ∧ ∀ k, QOk (Q k) (lessL L id (ss.take j)) k
  fk : Fk B b w wr

set_option maxRecDepth 100000 in
set_option maxHeartbeats 4000000 in
theorem untie_none (w : World) (B b N : Nat) (mo mw : Option Nat) (G : GOf) (Q : QW) (id : Int) (h : KAt w B b mo mw G Q N) (hk : (Lit.int .i64 id).wf = true) (hG : G id = none) :
    Calls Tryd.prog 24 #[.pointer (some ⟨b, 0, none⟩), .int .i64 id] w fun e w' => e = .returned (.bool false) ∧ (KAt w' B b mo mw (updG G id none) Q N ∧ Fk B b w w') := by
  have c0 : w.cell? ⟨b, 0, none⟩ = some (.map mo) := blk_cell h.blk 0
  have hl := (h.of.look hk true).1 hG
  simp only [if_true] at hl
  obtain ⟨w', hd, h1, h2⟩ := h.dropO hk 0
  have H1 := Lib.hid h1; have H2 := Lib.hid h2
  clear h h1 h2 hG
  go_enter Tryd.func24, Tryd.ntmps24
  go_wp2
  refine wp_loop_rounds 1 ?_
  rw [rounds_succ]
  go_wp2
  go_ret
  exact ⟨rfl, H1.out, H2.out⟩

theorem qok_step {L : List Pr} {id : Int} {ss : List Bs} {k : Bs} {g : Nat} {S : Int → Bool} {Q : QW} (hQ : ∀ x, QOk (Q x) (lessL L id ss) x) (hk : Q k = some (g, S)) (x : Bs) (hx : x ≠ k) : QOk (Q x) (lessL L id (ss ++ [k])) x := by
  have h := hQ x
  have e : ∀ i, ((i, x) ∈ lessL L id (ss ++ [k])) ↔ (i, x) ∈ lessL L id ss := fun i => by
    rw [lessL_mem, lessL_mem]; simp [hx]
  revert h
  cases Q x with
  | none => intro h i hi; exact h i ((e i).1 hi)
  | some gs =>
    rintro ⟨h1, i, h2⟩
    refine ⟨fun i => ?_, i, (e i).2 h2⟩
    rw [h1 i, decide_eq_decide]; exact (e i).symm
theorem qok_same {L : List Pr} {id : Int} {ss : List Bs} {k : Bs} {g : Nat} {S : Int → Bool} (h : QOk (some (g, S)) (lessL L id ss) k) : ∀ i, (S i && !decide (i = id)) = decide ((i, k) ∈ lessL L id (ss ++ [k])) := fun i => by
  rw [h.1 i, Bool.eq_iff_iff]
  simp only [Bool.and_eq_true, decide_eq_true_eq, Bool.not_eq_true', decide_eq_false_iff_not, lessL_mem]
  constructor
  · rintro ⟨⟨h1, h2⟩, h3⟩; exact ⟨h1, fun e => h3 e.1⟩
  · rintro ⟨h1, h2⟩
    refine ⟨⟨h1, fun e => h2 ⟨e.1, by simp⟩⟩, fun e => h2 ⟨e, by simp⟩⟩

set_option maxRecDepth 100000 in
set_option maxHeartbeats 8000000 in
theorem untie_some (w : World) (B b N : Nat) (mo mw : Option Nat) (G : GOf) (Q : QW) (L : List Pr) (id : Int) (g c : Nat) (ss : List Bs) (h : KAt w B b mo mw G Q N) (hk : (Lit.int .i64 id).wf = true) (hG : G id = some (g, c, ss)) (hQ : ∀ k, QOk (Q k) L k)
    (hss : ∀ k, k ∈ ss ↔ (id, k) ∈ L) (hnd : ss.Nodup) (hlen : ∀ k ∈ ss, k.length ≤ 1000000) (hn : ss.length ≤ 100000) :
    Calls Tryd.prog 24 #[.pointer (some ⟨b, 0, none⟩), .int .i64 id] w fun e w' => e = .returned (.bool true) ∧ ((∃ Q', KAt w' B b mo mw (updG G id none) Q' N ∧ ∀ k, QOk (Q' k) (untieL L id) k) ∧ Fk B b w w') := by
  have c0 : w.cell? ⟨b, 0, none⟩ = some (.map mo) := blk_cell h.blk 0
  have hl := (h.of.look hk true).2 g c ss hG
  simp only [if_true] at hl
  obtain ⟨m, hm⟩ : ∃ m, m = ss.length := ⟨_, rfl⟩
  rw [← hm] at hl hn
  have R0 : Hid (UnRel w B b mo mw G N L id ss 0 w) := Lib.hid ⟨⟨Q, h, by simpa [lessL_nil] using hQ⟩, Fk.refl _ _ _⟩
  have HG := Lib.hid hG; have HSS := Lib.hid hss; have HND := Lib.hid hnd; have HLEN := Lib.hid hlen; have HM := Lib.hid hm
  clear h hG hQ hss hnd hlen hm
  go_enter Tryd.func24, Tryd.ntmps24
  go_wp2
  go_loopw [20, 8] (fun i _ wr => ∃ j : Nat, j ≤ m ∧ i = .int .i64 j ∧ UnRel w B b mo mw G N L id ss j wr) (fun i _ _ => m - (intOf i).toNat)
  case atStart => exact ⟨0, by omega, rfl, R0.out⟩
  case round =>
    clear R0
    obtain ⟨j, hj, rfl, ⟨Q1, hK, hQ1⟩, hfk⟩ := hrel
    by_cases hlt : j < m
    · have hjs : j < ss.length := by rw [← HM.out]; exact hlt
      obtain ⟨k, hkk⟩ : ∃ k, k = ss[j] := ⟨_, rfl⟩
      have hkm : k ∈ ss := by rw [hkk]; simp
      have hkl : k.length ≤ 1000000 := HLEN.out k hkm
      have htk : ss.take (j + 1) = ss.take j ++ [k] := by rw [hkk]; exact List.take_succ_eq_append_getElem hjs
      have hknot : k ∉ ss.take j := fun e => by
        have hn := HND.out
        rw [← List.take_append_drop (j + 1) ss, htk] at hn
        rw [List.nodup_append] at hn
        have := hn.1
        rw [List.nodup_append] at this
        exact this.2.2 k e k (by simp) rfl
      have hin : (id, k) ∈ lessL L id (ss.take j) := (lessL_mem _ _ _ _).2 ⟨(HSS.out k).1 hkm, fun e => hknot e.2⟩
      have hrow := hK.rows id g c ss HG.out
      have hcell : wr.cell? ⟨g, j, none⟩ = some (.string ⟨k.toArray⟩) := by
        rcases hrow.2 with ⟨e, _⟩ | ⟨g', cap, cur, e, hb, hgg, _, _, _, ht⟩
        · cases e
        · injection e with e1 e2 e3
          injection e1 with e1
          injection e1 with e1
          subst e1
          rw [blk_cell hgg]
          have : (ss.map encStr)[j]? = some (encStr k) := by rw [hkk]; simp [hjs]
          rw [← ht, List.getElem?_take] at this
          split at this
          · simpa using this
          · cases this
      have d1 : wr.cell? ⟨b, 1, none⟩ = some (.map mw) := blk_cell hK.blk 1
      have hq := hQ1 k
      cases hQk : Q1 k with
      | none => rw [hQk] at hq; exact absurd hin (hq id)
      | some gS =>
        obtain ⟨g1, S⟩ := gS
        rw [hQk] at hq
        have hlk := (hK.wi.look hkl).2 g1 S hQk
        have hset := hK.sets k g1 S hQk
        obtain ⟨w2, hdel, hs2, ht2⟩ := hset.1.del hk 0
        have hK2 := hK.set hQk (Nat.le_refl _) hs2 ht2
        obtain ⟨es, cl, hes⟩ := hset.1.at_
        have fk2 : Fk B b w w2 := hfk.trans (Fk.turned ht2 hes hset.2.1 b)
        have d2 : w2.cell? ⟨b, 1, none⟩ = some (.map mw) := blk_cell hK2.blk 1
        have hlk2 := (hK2.wi.look hkl).2 g1 _ (updQ_same _ _ _)
        obtain ⟨ln, hlen2, hiff⟩ := hs2.len 3
        have hsame := qok_same hq
        have hstep := fun x hx => qok_step hQ1 hQk x hx
        obtain ⟨mwb, hmwb⟩ : ∃ x, mw = some x := by
          cases mw with
          | none =>
            rcases hK.wi with ⟨_, h0⟩ | ⟨m, D, e, _⟩
            · rw [h0] at hQk; cases hQk
            · cases e
          | some x => exact ⟨x, rfl⟩
        subst hmwb
        have HST := Lib.hid hstep; have HSA := Lib.hid hsame; have HTK := Lib.hid htk; have HK2 := Lib.hid hK2; have FK2 := Lib.hid fk2; have HIFF := Lib.hid hiff
        clear hstep hsame htk hK2 fk2 hiff hK hQ1 hfk hq hset hs2 ht2 hes hQk hrow hin hknot hkm hjs hkk
        by_cases h0 : ln = 0
        · subst h0
          obtain ⟨w3, hdrop, hK3, fk3⟩ := HK2.out.dropW hkl 0
          have HN : Hid (UnRel w B b mo (some mwb) G N L id ss (j + 1) w3) := Lib.hid ⟨⟨_, hK3, fun x => by
              rw [HTK.out]
              by_cases e : x = k
              · subst e; rw [updQ_same]
                intro i hi
                have := HSA.out i
                rw [(HIFF.out.1 rfl) i] at this
                rw [decide_eq_true hi] at this
                cases this
              · rw [updQ_other _ e, updQ_other _ e]; exact HST.out x e⟩, FK2.out.trans fk3⟩
          clear hK3 fk3
          go_wp2
          go_roundw
          case rel => exact ⟨j + 1, by omega, by go_num, HN.out⟩
          case measure => simp [intOf]; omega
        · have h0' : (ln == 0) = false := by simpa using h0
          have h0'' : decide (ln = 0) = false := by simpa using h0
          have HN : Hid (UnRel w B b mo (some mwb) G N L id ss (j + 1) w2) := Lib.hid ⟨⟨_, HK2.out, fun x => by
              rw [HTK.out]
              by_cases e : x = k
              · subst e; rw [updQ_same]
                refine ⟨HSA.out, ?_⟩
                by_cases hex : ∃ i, (i, x) ∈ lessL L id (ss.take j ++ [x])
                · exact hex
                · exact absurd (HIFF.out.2 (fun i => by rw [HSA.out i, decide_eq_false (fun hi => hex ⟨i, hi⟩)])) h0
              · rw [updQ_other _ e]; exact HST.out x e⟩, FK2.out⟩
          go_wp2
          go_roundw
          case rel => exact ⟨j + 1, by omega, by go_num, HN.out⟩
          case measure => simp [intOf]; omega
    · have hjs : ss.take j = ss := List.take_of_length_le (by rw [← HM.out]; omega)
      have e0 : wr.cell? ⟨b, 0, none⟩ = some (.map mo) := blk_cell hK.blk 0
      obtain ⟨w', hd, h1, h2⟩ := hK.dropO hk 0
      rw [hjs, lessL_all L id ss HSS.out] at hQ1
      have H1 := Lib.hid h1; have H2 := Lib.hid (hfk.trans h2); have HQ1 := Lib.hid hQ1
      clear hK h1 h2 hjs hQ1 hfk
      go_wp2
      go_ret
      exact ⟨rfl, ⟨Q1, H1.out, HQ1.out⟩, H2.out⟩

theorem keysL_nodup {L : List Pr} (h : L.Nodup) (id : Int) : (keysL L id).Nodup := by
  unfold keysL
  refine List.pairwise_map.2 ((h.sublist List.filter_sublist).imp_of_mem ?_)
  rintro ⟨a, k⟩ ⟨a', k'⟩ h1 h2 hne e
  simp at h1 h2 e
  exact hne (by rw [h1.2, h2.2, e])
theorem sortS_nodup {ss : List Bs} (h : ss.Nodup) : (sortS ss).Nodup := ((List.mergeSort_perm ss _).nodup_iff).2 h
def UntieP (w : World) (B b N : Nat) (L : List Pr) (id : Int) (e : Ending) (w' : World) : Prop := e = .returned (.bool (!(keysL L id).isEmpty)) ∧ KI w' B b N (untieL L id) ∧ Fk B b w w'
theorem ki_untie (w : World) (B b N : Nat) (L : List Pr) (id : Int) (h : KI w B b N L) (hk : (Lit.int .i64 id).wf = true) : Calls Tryd.prog 24 #[.pointer (some ⟨b, 0, none⟩), .int .i64 id] w (UntieP w B b N L id) := by
  obtain ⟨mo, mw, G, Q, h1, h0, h2, h3, h4⟩ := h
  have hg := h2 id
  have gok : ∀ id', GOk (updG G id none id') (untieL L id) id' := fun id' => by
    by_cases e : id' = id
    · subst e; rw [updG_same]; exact keysL_untie_same L id'
    · rw [updG_other G e]
      have := h2 id'
      revert this
      unfold GOk
      rw [keysL_untie_other L e]
      exact fun x => x
  cases hG : G id with
  | none =>
    rw [hG] at hg
    have hno : ∀ k, (id, k) ∉ L := fun k hm => by
      have := (keysL_mem L id k).2 hm
      rw [show keysL L id = [] from hg] at this
      cases this
    have he : untieL L id = L := by
      unfold untieL
      rw [List.filter_eq_self]
      rintro ⟨a, k⟩ hp
      simp
      rintro rfl
      exact hno k hp
    refine (untie_none w B b N mo mw G Q id h1 hk hG).mono fun e w' ⟨e1, e2, e3⟩ => ⟨?_, ⟨mo, mw, _, Q, e2, h0, gok, ?_, good_filter h4 _⟩, e3⟩
    · rw [e1, show keysL L id = [] from hg]; rfl
    · rw [he]; exact h3
  | some gcs =>
    obtain ⟨g, c, ss⟩ := gcs
    rw [hG] at hg
    have hmem : ∀ k, k ∈ ss ↔ (id, k) ∈ L := fun k => by rw [hg.1, sortS_mem, keysL_mem]
    refine (untie_some w B b N mo mw G Q L id g c ss h1 hk hG h3 hmem (by rw [hg.1]; exact sortS_nodup (keysL_nodup h4.nodup id)) (fun k hm => by have := h4.keys _ ((hmem k).1 hm); simp at this; omega) (by rw [hg.1, sortS_len]; exact h4.few id)).mono fun e w' ⟨e1, ⟨Q', e2, e4⟩, e3⟩ => ⟨?_, ⟨mo, mw, _, Q', e2, h0, gok, e4, good_filter h4 _⟩, e3⟩
    rw [e1]
    have : (keysL L id).isEmpty = false := by
      cases hL : keysL L id with
      | nil => have := hg.2; rw [hg.1, hL] at this; exact absurd (by unfold sortS; simp) this
      | cons a l => rfl
    rw [this]; rfl
end Go.Proofs.YtgbhhofmghgpbaaDoor
