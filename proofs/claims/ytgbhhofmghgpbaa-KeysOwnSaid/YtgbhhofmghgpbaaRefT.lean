/- The reference's Tie, walked. -/
import Derived.Test.YtgbhhofmghgpbaaRefM
namespace Go.Proofs.Ytgbhhofmghgpbaa
open Go.RowKit Go.Sort Go.Shelf Go.Maps Go.ChangeMaps
set_option linter.unusedVariables false

theorem Fq.cellB {B : Nat} {w w' : World} (h : Fq B w w') {p : Addr} {v : Value} (hg : p.block < B) (hB : B ≤ w.heap.size) (hc : w.cell? p = some v) : w'.cell? p = some v := by
  rw [World.cell?_of_block (h.block p.block (by omega) (.inl hg))]; exact hc
theorem tiePart_snoc (L : List Pr) (id : Int) (ks : List Bs) (j : Nat) (hj : j < ks.length) : tiePart L id (ks.take (j + 1)) = tiePart L id (ks.take j) ++ [(id, ks[j])] := by
  unfold tiePart
  rw [List.take_succ_eq_append_getElem hj, List.map_append, List.append_assoc]; rfl
theorem tiePart_len (L : List Pr) (id : Int) (ks : List Bs) : (tiePart L id ks).length = L.length + ks.length := by unfold tiePart; simp
/-- The pair's append, its new list laid into the block. -/
theorem rat_put {w w' : World} {B x : Nat} {L L' : List Pr} {v v' : Value} (h0 : B ≤ x) (h1 : w.heap[x]? = some (.cells #[v] 40 (0, 0))) (h2 : PRow w B v L) (g : w.grownBy w' v.ownBlock) (h3 : PRow w' B v' L') (hx : ∀ k, v'.ownBlock = some k → k ≠ x) :
    w'.heap[x]? = some (.cells #[v] 40 (0, 0)) ∧ RAt (w'.setCell ⟨x, 0, none⟩ v') B x L' ∧ Fq B w (w'.setCell ⟨x, 0, none⟩ v') := by
  have hne : ∀ k, v.ownBlock = some k → k ≠ x := fun k hk e => by
    rcases h2.2 with ⟨e1, _⟩ | ⟨g, cap, cur, e1, hgb, hg, _⟩
    · rw [e1] at hk; simp [Value.ownBlock] at hk
    · rw [e1] at hk; simp [Value.ownBlock] at hk
      rw [← e, ← hk, hg] at h1
      injection h1 with h1; injection h1 with _ h1 _; simp at h1
  have hb : w'.heap[x]? = some (.cells #[v] 40 (0, 0)) := (g.block x (blk_lt h1) (fun e => hne x e.symm rfl)).trans h1
  have hg : w'.grownBy (w'.setCell ⟨x, 0, none⟩ v') (some x) := grown_setCell ⟨rfl, rfl, rfl, Nat.le_refl _, fun _ _ _ => rfl⟩ (.inl rfl) _
  refine ⟨hb, ⟨h0, _, by simpa using blk_set hb 0 _, World.ownsRow.kept h3 hg ?_⟩, ?_⟩
  · cases hv : v'.ownBlock with
    | none => simp
    | some k => have := hx k hv; simp; omega
  · refine Fq.trans (w2 := w') ?_ (Fq.of_grown hg hb (.inl rfl) h0)
    rcases h2.2 with ⟨e1, _⟩ | ⟨gg, cap, cur, e1, hgb, hgg, _⟩
    · rw [e1] at g
      exact Fq.of_ext ⟨g.os, g.tape, g.output, g.size, fun k hk => g.block k hk (by simp [Value.ownBlock])⟩ B
    · rw [e1] at g
      exact Fq.of_grown g hgg (.inr rfl) hgb
theorem PRow.apart {w : World} {B x : Nat} {L : List Pr} {v : Value} (h : PRow w B v L) {cs : Array Value} {z : Nat × Nat} (hb : w.heap[x]? = some (.cells cs 40 z)) : ∀ k, v.ownBlock = some k → k ≠ x := fun k hk e => by
  rcases h.2 with ⟨e1, _⟩ | ⟨g, cap, cur, e1, hgb, hg, _⟩
  · rw [e1] at hk; simp [Value.ownBlock] at hk
  · rw [e1] at hk; simp [Value.ownBlock] at hk
    rw [← e, ← hk, hg] at hb
    injection hb with hb; injection hb with _ hb _; simp at hb
theorem RAt.row {w : World} {B x : Nat} {L : List Pr} (h : RAt w B x L) : ∃ A c, w.heap[x]? = some (.cells #[.slice A L.length c] 40 (0, 0)) ∧ PRow w B (.slice A L.length c) L := by
  obtain ⟨h0, v, h1, h2⟩ := h
  obtain ⟨A, c, rfl⟩ := own_slice h2
  exact ⟨A, c, h1, h2⟩
structure RtRel (w : World) (B x : Nat) (L : List Pr) (wr : World) : Prop where
  rat : RAt wr B x L
  fq : Fq B w wr
set_option maxRecDepth 100000 in
set_option maxHeartbeats 2000000 in
theorem rtie_any (w : World) (B x : Nat) (L : List Pr) (id : Int) (sv : Value) (ks : List Bs) (h : RAt w B x L) (hB : B ≤ w.heap.size) (hl : L.length ≤ 500) (hT : Texts B w sv ks) (hcap : Capd sv) (hl2 : ks.length ≤ 500) (hk : ∀ k ∈ ks, k.length ≤ 1000000) :
    Calls Try.prog 13 #[.pointer (some ⟨x, 0, none⟩), .int .i64 id, sv] w fun e w' => e = .returned (.int .i64 (tieN id ks)) ∧ RAt w' B x (tieL L id ks) ∧ Fq B w w' := by
  have hri := rright_any w B sv ks hT hcap (by omega) hk
  have hBx := h.1
  by_cases h1 : id < 1
  · have e1 : tieN id ks = 1 := by unfold tieN; simp [h1]
    have e2 : tieL L id ks = L := by unfold tieL; rw [if_neg (by rw [e1]; decide)]
    rw [e1, e2]
    have HH := Lib.hid h
    clear hri e1 e2 h hT hcap hk hl2 hl
    go_enter Try.func13, Try.ntmps13
    go_wp2
    go_ret
    exact ⟨rfl, HH.out, Fq.refl _ _⟩
  · have hun := runtie_any w B x L id h hB (by omega)
    by_cases hc : checkN ks = 0
    · have e1 : tieN id ks = 0 := by unfold tieN; simp [h1, hc]
      have e2 : tieL L id ks = tiePart (untieL L id) id ks := by unfold tieL; rw [if_pos e1]
      rw [e1, e2]
      rw [hc] at hri
      obtain ⟨A, c, rfl, hcs⟩ := hT
      obtain ⟨m, hm⟩ : ∃ m, m = ks.length := ⟨_, rfl⟩
      rw [← hm] at hl2 hri ⊢
      have hul := untieL_len L id
      obtain ⟨L0, hL0⟩ : ∃ L0, L0 = untieL L id := ⟨_, rfl⟩
      rw [← hL0] at hun hul ⊢
      have HRI := Lib.hid hri; have HUN := Lib.hid hun; have HCS := Lib.hid hcs; have HM := Lib.hid hm
      clear hri hun hcs hm hk h hcap hc e1 e2 hL0
      go_enter Try.func13, Try.ntmps13
      go_wp2_with fail
      refine HRI.out.mono ?_
      rintro e w' ⟨rfl, rfl⟩
      clear HRI
      go_wp2_with fail
      refine HUN.out.mono ?_
      rintro e w1 ⟨rfl, p1, q1⟩
      have P1 : Hid (RtRel w B x L0 w1) := Lib.hid ⟨p1, q1⟩
      clear HUN p1 q1
      go_wp2
      go_loopw [22, 9] (fun i _ wr => ∃ j : Nat, j ≤ m ∧ i = .int .i64 j ∧ RtRel w B x (tiePart L0 id (ks.take j)) wr) (fun i _ _ => m - (intOf i).toNat)
      case atStart => exact ⟨0, by omega, rfl, by simpa [tiePart] using P1.out⟩
      case round =>
        clear P1
        obtain ⟨j, hj, rfl, hr⟩ := hrel
        have R := Lib.hid hr
        clear hr
        by_cases hlt : j < m
        · have hjs : j < ks.length := by rw [← HM.out]; exact hlt
          obtain ⟨g, off, rfl, hg, hcell⟩ := HCS.out j hjs
          have hcl : wr.cell? ⟨g, off + j, none⟩ = some (.string ⟨ks[j].toArray⟩) := R.out.fq.cellB hg hB hcell
          have hsn := tiePart_snoc L0 id ks j hjs
          have hln := tiePart_len L0 id (ks.take j)
          rw [List.length_take] at hln
          obtain ⟨k, hkk⟩ : ∃ k, k = ks[j] := ⟨_, rfl⟩
          rw [← hkk] at hcl hsn
          obtain ⟨Lj, hLj⟩ : ∃ L, L = tiePart L0 id (ks.take j) := ⟨_, rfl⟩
          rw [← hLj] at R hln hsn
          obtain ⟨A1, c1, hb1, hp1⟩ := R.out.rat.row
          obtain ⟨n1, hn1⟩ : ∃ n, n = Lj.length := ⟨_, rfl⟩
          rw [← hn1] at hb1 hp1 hln
          have hcellx := blk_cell hb1 0
          have HSN := Lib.hid hsn; have HB1 := Lib.hid hb1; have HP1 := Lib.hid hp1; have HN1 := Lib.hid hn1
          have hln' : n1 ≤ 1000 := by omega
          clear hsn hb1 hp1 hkk hcell hjs hLj hln hn1
          go_wp2_with (at_builtin; refine wpList_append_pair rfl _ _ rfl B _ _ id k HP1.out rfl _ rfl ?c0 ?c1 ?c2 ?_)
          case c0 => simp
          case c1 => have := HN1.out; omega
          case c2 => exact Nat.le_trans hB R.out.fq.size
          intro v' w' q1 g1
          obtain ⟨e1, e2, e3⟩ := rat_put hBx HB1.out HP1.out g1 q1 (q1.apart ((g1.block x (blk_lt HB1.out) (fun e => HP1.out.apart HB1.out x e.symm rfl)).trans HB1.out))
          obtain ⟨A2, c2, hv2⟩ := own_slice q1
          obtain ⟨n2, hn2⟩ : ∃ n, n = (Lj ++ [(id, k)]).length := ⟨_, rfl⟩
          rw [← hn2] at hv2
          have E2 := Lib.hid e2; have E3 := Lib.hid (R.out.fq.trans e3)
          have hcell2 := blk_cell e1 0
          have hfree2 := blk_free e1 0
          clear e1 e2 e3 g1 q1 HP1 HB1 R hn2 hcellx
          subst hv2
          go_wp2
          go_roundw
          case rel => exact ⟨j + 1, by omega, by go_num, by rw [HSN.out]; exact ⟨E2.out, E3.out⟩⟩
          case measure => simp [intOf]; omega
        · have hjn : ks.take j = ks := List.take_of_length_le (by have := HM.out; omega)
          rw [hjn] at R
          go_wp2
          go_ret
          exact ⟨rfl, R.out.rat, R.out.fq⟩
    · have e1 : tieN id ks = checkN ks := by unfold tieN; simp [h1]
      have e2 : tieL L id ks = L := by unfold tieL; rw [if_neg (by rw [e1]; exact hc)]
      rw [e1, e2]
      obtain ⟨cn, hcn⟩ : ∃ n, n = checkN ks := ⟨_, rfl⟩
      rw [← hcn] at hri hc ⊢
      have HRI := Lib.hid hri; have HH := Lib.hid h
      clear hri hun hcn e1 e2 h hT hcap hk hl2 hl
      have e3 : (cn == 0) = false := by simpa using hc
      go_enter Try.func13, Try.ntmps13
      go_wp2_with fail
      refine HRI.out.mono ?_
      rintro e w' ⟨rfl, rfl⟩
      clear HRI
      go_wp2
      go_ret
      exact ⟨rfl, HH.out, Fq.refl _ _⟩
end Go.Proofs.Ytgbhhofmghgpbaa
