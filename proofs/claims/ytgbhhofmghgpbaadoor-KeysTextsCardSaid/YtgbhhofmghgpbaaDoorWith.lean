/- With, walked. -/
import Derived.Test.YtgbhhofmghgpbaaDoorAsk2
namespace Go.Proofs.YtgbhhofmghgpbaaDoor
open Go.RowKit Go.Sort Go.Shelf Go.Maps Go.ChangeMaps
set_option linter.unusedVariables false

/-- maps.Copy of a set of numbers (nil or not) into one. -/
theorem iset_copy (w : World) (bd nd : Nat) (S S2 : Int → Bool) (ps : Option Nat) (N : Nat) (hd : ISet w bd nd S)
    (hs : (ps = none ∧ ∀ k, S2 k = false) ∨ ∃ g, ps = some g ∧ ISet w g N S2) (hne : ps ≠ some bd) (hroom : nd + N ≤ 1000000) :
    Calls Tryd.prog 27 #[.map (some bd), .map ps] w fun e w' => e = .returned (.tuple #[]) ∧ ISet w' bd (nd + N) (fun k => S k || S2 k) ∧ w.grownBy w' (some bd) := by
  obtain ⟨Dd, hdo, hdt⟩ := hd
  rcases hs with ⟨rfl, h0⟩ | ⟨g, rfl, Ds, hso, hst⟩
  · refine (AnyX.maps_Copy_opt Tryd.copy28 law2 (plainElem Tryd.prog 4) bd nd none Dd .nil w hdo (.inl ⟨rfl, rfl⟩) hne (by simp [Maps.size]; unfold maxLen; omega)).mono ?_
    rintro e w' ⟨rfl, h1, h2⟩
    exact ⟨rfl, ⟨Dd, World.ownsMap.mono (h1 : w'.ownsMap Tryd.prog 2 (plainElem Tryd.prog 4) bd (nd + Maps.size (.nil : DataW Unit)) Dd) (by simp [Maps.size]), fun k => by show _ = (S k || S2 k); rw [hdt, h0]; simp⟩, h2⟩
  · have hsz := hso.size_le
    refine (AnyX.maps_Copy_opt Tryd.copy28 law2 (plainElem Tryd.prog 4) bd nd (some g) Dd Ds w hdo (.inr ⟨g, N, rfl, hso⟩) hne (by unfold maxLen; omega)).mono ?_
    rintro e w' ⟨rfl, h1, h2⟩
    refine ⟨rfl, ⟨_, World.ownsMap.mono h1 (by omega), fun k => ?_⟩, h2⟩
    obtain ⟨es, rfl, hkeys⟩ := hso.keysOf
    show Maps.has (es.foldl (fun D p => D.put p.1 p.2) Dd) _ = _
    rw [has_foldPut _ es Dd hdo.isMap (fun p hp => ?_), hdt]
    · rw [← has_eq, hst]
    · obtain ⟨v, hv⟩ := hkeys p hp
      obtain ⟨x, _, hx, _⟩ := Maps.keyOf_int_inv Tryd.underlying2 hv
      rw [hx]; exact isKeyI x
structure WiRel (w : World) (mb N : Nat) (L : List Pr) (ks : List Bs) (j : Nat) (wr : World) : Prop where
  set : ∃ S, ISet wr mb (j * N) S ∧ ∀ id, S id = true ↔ ∃ k ∈ ks.take j, (id, k) ∈ L
  ext : Ext w wr
set_option maxRecDepth 100000 in
set_option maxHeartbeats 4000000 in
theorem with_any (w : World) (B b N : Nat) (L : List Pr) (sv : Value) (ks : List Bs) (h : KI w B b N L) (hT : Texts w.heap.size w sv ks) (hl : ks.length ≤ 1000) (hk : ∀ k ∈ ks, k.length ≤ 1000000) (hN : N ≤ 1000) :
    Calls Tryd.prog 15 #[.pointer (some ⟨b, 0, none⟩), sv] w fun e w' => ∃ v zs, e = .returned v ∧ IRow w' w.heap.size v (sortI zs) ∧ (zs.Nodup ∧ ∀ id, id ∈ zs ↔ ∃ k ∈ ks, (id, k) ∈ L) ∧ Ext w w' := by
  obtain ⟨A, c, rfl, hc⟩ := hT
  obtain ⟨m, hm⟩ : ∃ m, m = ks.length := ⟨_, rfl⟩
  rw [← hm] at hl ⊢
  have HC := Lib.hid hc; have HM := Lib.hid hm; have HK := Lib.hid hk
  have HKI := Lib.hid h
  clear hc hm hk h
  have hmm := @run_makeMap Tryd.prog
  go_enter Tryd.func15, Tryd.ntmps15
  go_wp2
  go_loopw [11, 7] (fun i _ wr => ∃ j : Nat, j ≤ m ∧ i = .int .i64 j ∧ WiRel w w.heap.size N L ks j wr) (fun i _ _ => m - (intOf i).toNat)
  case atStart => exact ⟨0, by omega, rfl, ⟨_, by simpa using ISet.made w, by simp⟩, Ext.alloc (Ext.refl _) _⟩
  case round =>
    obtain ⟨j, hj, rfl, hr⟩ := hrel
    have R := Lib.hid hr
    clear hr
    by_cases hlt : j < m
    · have hjs : j < ks.length := by rw [← HM.out]; exact hlt
      obtain ⟨b', off, rfl, hb, hcell⟩ := HC.out j hjs
      have hcell' := Ext.cell R.out.ext hcell
      have htk : ks.take (j + 1) = ks.take j ++ [ks[j]] := List.take_succ_eq_append_getElem hjs
      have hkl := HK.out ks[j] (by simp)
      obtain ⟨k, hkk⟩ : ∃ k, k = ks[j] := ⟨_, rfl⟩
      rw [← hkk] at hcell' htk hkl
      have hcl : wr.cell? ⟨b', off + j, none⟩ = some (.string ⟨k.toArray⟩) := hcell'
      have hlook : ∃ mw ps, wr.cell? ⟨b, 1, none⟩ = some (.map mw) ∧ (Instr.lookup 48 (.map mw) (.string ⟨k.toArray⟩) false).run Tryd.prog wr = .ok (.map ps) wr ∧
          Calls Tryd.prog 27 #[.map (some w.heap.size), .map ps] wr fun e w' => e = .returned (.tuple #[]) ∧ WiRel w w.heap.size N L ks (j + 1) w' := by
        obtain ⟨mo, mw, G, Q, h0, h2, h3, h4, h5⟩ := HKI.out
        have h1 := h0.ext R.out.ext
        obtain ⟨S, hS, hSi⟩ := R.out.set
        obtain ⟨l1, l2⟩ := h1.wi.look hkl
        have hq := h4 k
        have hjN : j * N + N ≤ 1000000 := by
          have : (j + 1) * N ≤ 1000 * 1000 := Nat.mul_le_mul (by omega) hN
          rw [Nat.add_mul] at this; omega
        have hend : ∀ ps S2, ((ps = none ∧ ∀ k, S2 k = false) ∨ ∃ g, ps = some g ∧ ISet wr g N S2) → ps ≠ some w.heap.size → (∀ id, S2 id = true ↔ (id, k) ∈ L) → Calls Tryd.prog 27 #[.map (some w.heap.size), .map ps] wr fun e w' => e = .returned (.tuple #[]) ∧ WiRel w w.heap.size N L ks (j + 1) w' := by
          intro ps S2 hs hne hS2
          refine (iset_copy wr w.heap.size (j * N) S S2 ps N hS hs hne hjN).mono ?_
          rintro e w' ⟨rfl, q1, hg⟩
          refine ⟨rfl, ⟨_, by rw [Nat.add_mul, Nat.one_mul]; exact q1, fun id => ?_⟩, ?_⟩
          · rw [htk, Bool.or_eq_true, hSi, hS2]
            constructor
            · rintro (⟨k', hk', hm'⟩ | hm')
              · exact ⟨k', List.mem_append_left _ hk', hm'⟩
              · exact ⟨k, by simp, hm'⟩
            · rintro ⟨k', hk', hm'⟩
              rcases List.mem_append.1 hk' with hk' | hk'
              · exact .inl ⟨k', hk', hm'⟩
              · rw [List.mem_singleton] at hk'; subst hk'; exact .inr hm'
          · exact ⟨hg.os.trans R.out.ext.os, hg.tape.trans R.out.ext.tape, hg.output.trans R.out.ext.output, Nat.le_trans R.out.ext.size hg.size, fun i hi => (hg.block i (Nat.lt_of_lt_of_le hi R.out.ext.size) (fun e => by injection e with e; omega)).trans (R.out.ext.block i hi)⟩
        refine ⟨mw, ?_⟩
        cases hQ : Q k with
        | none =>
          rw [hQ] at hq
          exact ⟨none, blk_cell h1.blk 1, l1 hQ, hend none (fun _ => false) (.inl ⟨rfl, fun _ => rfl⟩) (by simp) (fun id => by simp; exact hq id)⟩
        | some gS =>
          obtain ⟨g, S2⟩ := gS
          rw [hQ] at hq
          refine ⟨some g, blk_cell h1.blk 1, l2 g S2 hQ, hend (some g) S2 (.inr ⟨g, rfl, (h1.sets k g S2 hQ).1⟩) ?_ (fun id => by rw [hq.1]; simp)⟩
          obtain ⟨_, _, hg⟩ := (h0.sets k g S2 hQ).1.at_
          have := blk_lt hg
          intro e; injection e with e; omega
      obtain ⟨mw, ps, c1, hlk, hcp⟩ := hlook
      have HCP := Lib.hid hcp
      clear hcp htk hkk hcell hcell' hjs
      go_wp2_with (go_at_call 27; refine HCP.out.mono ?_; rintro e w' ⟨rfl, q1⟩; have Q1 := Lib.hid q1; clear q1)
      go_round
      case rel => exact ⟨j + 1, by omega, by go_num, Q1.out⟩
      case measure => simp [intOf]; omega
    · have hjn : ks.take j = ks := List.take_of_length_le (by have := HM.out; omega)
      obtain ⟨S, ⟨D, hown, hD⟩, hS⟩ := R.out.set
      rw [hjn] at hS
      obtain ⟨n1, n2⟩ := intKeys_nodup hown
      have hjN : j * N ≤ 1000000 := Nat.le_trans (Nat.mul_le_mul (by omega : j ≤ 1000) hN) (by omega)
      have HS := Lib.hid (sorted_keys_i w.heap.size (j * N) D _ wr hown (Nat.le_trans hown.size_le hjN))
      have HM' : Hid (∀ id, id ∈ intKeys D ↔ ∃ k ∈ ks, (id, k) ∈ L) := Lib.hid fun id => by rw [n2, hD, hS]
      have HN1 := Lib.hid n1
      clear hown hD hS n1 n2 hjn hjN
      go_wp2_with (first | (go_at_call 29; refine (mkeys_i _ _).mono ?_; rintro e w' ⟨rfl, rfl⟩) | (go_at_call 28; refine HS.out.mono ?_; rintro e w' ⟨v, ss, rfl, q0, q1, q2⟩; have Q0 := Lib.hid q0; have Q1 := Lib.hid q1; have Q2 := Lib.hid q2; clear q0 q1 q2))
      go_ret
      refine ⟨v, ss, rfl, ?_, ⟨(Q0.out.nodup_iff).2 HN1.out, fun id => by rw [Q0.out.mem_iff]; exact HM'.out id⟩, R.out.ext.trans Q2.out⟩
      exact ownsRow_base Q1.out R.out.ext.size
end Go.Proofs.YtgbhhofmghgpbaaDoor
