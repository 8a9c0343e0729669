/- Of, walked. -/
import Derived.Test.YtgbhhofmghgpbaaAsk
import Derived.Lib.SlMapMerge
namespace Go.Proofs.Ytgbhhofmghgpbaa
open Go.RowKit Go.Sort Go.Shelf Go.Maps Go.ChangeMaps
set_option linter.unusedVariables false

/-- 'append(v, u...)' of texts, u a row of the call's own or nil. -/
theorem wpList_append_texts {W : World} {ops : Array Oper} {rest : List Oper} {o : Oper} {a : Act} {Q : Exit → Act → World → Prop}
    (hgd : o.guard = none) (s x : Operand) (ho : o.op = .call { callee := .builtin .append, args := #[s, x], argTypes := #[23, 23] })
    (base B : Nat) (v u : Value) (ys xs : List Bs) (hown : SRow W base v ys) (hsrc : SRow W B u xs) (hs : a.eval s = v) (hx : a.eval x = u)
    (hlen : ys.length + xs.length ≤ 1000000) (hbase : base ≤ W.heap.size)
    (h : ∀ v' w', SRow w' base v' (ys ++ xs) → W.grownBy w' v.ownBlock → wpList Try.prog ops Q rest (a.put o.dst v') w') : wpList Try.prog ops Q (o :: rest) a W := by
  obtain ⟨i0, hi, hz0, hz1, hz2⟩ := info_parts info9
  rcases hsrc.2 with ⟨rfl, h0⟩ | ⟨g, cap, cur, rfl, hb, hgg, h1, h2, h3, h4⟩
  · have hx0 : xs = [] := List.length_eq_zero_iff.1 h0
    subst hx0
    refine wpList_append_own_none hgd s x 23 ho base 9 i0 1 Try.underlying23 hi v _ _ hs hown hx ?_
    exact h v W (by simpa using hown) ⟨rfl, rfl, rfl, Nat.le_refl _, fun _ _ _ => rfl⟩
  · refine wpList_append_own _ hgd s x 23 ho base 9 i0 _ 1 16 Try.underlying23 hi hz0 hz1 hz2 rfl (by decide) v _ _ hs hown ⟨g, 0, none⟩ xs.length cap (xs.map encStr) hx (by simp) ?_ (by intro q hq; obtain ⟨z, _, rfl⟩ := List.mem_map.1 hq; rfl) (by unfold maxLen; omega) (by omega) hbase ?_
    · intro j q hq
      have : (⟨g, 0, none⟩ : Addr).add j = ⟨g, j, none⟩ := by unfold Addr.add; split <;> simp_all
      rw [this, blk_cell hgg]
      rw [← h4, List.getElem?_take] at hq
      split at hq
      · simpa using hq
      · cases hq
    · intro v' w' q1 q2 _
      refine h v' w' ?_ q2
      unfold SRow
      rw [List.map_append, List.length_append]
      exact q1

set_option maxRecDepth 100000 in
set_option maxHeartbeats 2000000 in
/-- Of: a thing's keys, by name; a list of one's own. -/
theorem of_any (w : World) (B b N : Nat) (L : List Pr) (id : Int) (h : KI w B b N L) (hid : (Lit.int .i64 id).wf = true) :
    Calls Try.prog 19 #[.pointer (some ⟨b, 0, none⟩), .int .i64 id] w fun e w' => ∃ v, e = .returned v ∧ SRow w' w.heap.size v (sortS (keysL L id)) ∧ Ext w w' := by
  obtain ⟨mo, mw, G, Q, h1, h2, h3, h4, h5⟩ := h
  have c0 : w.cell? ⟨b, 0, none⟩ = some (.map mo) := blk_cell h1.blk 0
  have hg := h3 id
  obtain ⟨l1, l2⟩ := h1.of.look hid false
  have hsl : ∃ u, (Instr.lookup 51 (.map mo) (.int .i64 id) false).run Try.prog w = .ok u w ∧ SRow w B u (sortS (keysL L id)) := by
    cases hG : G id with
    | none =>
      rw [hG] at hg
      refine ⟨_, l1 hG, ?_⟩
      have : keysL L id = [] := hg
      rw [this]
      have e : sortS [] = [] := by unfold sortS; simp
      rw [e]
      exact World.ownsRow_nil _ _ _ _
    | some gcs =>
      obtain ⟨g, c, ss⟩ := gcs
      rw [hG] at hg
      exact ⟨_, l2 g c ss hG, by rw [← hg.1]; exact h1.rows id g c ss hG⟩
  obtain ⟨u, hrun, hrow⟩ := hsl
  have hlen : (sortS (keysL L id)).length ≤ 100000 := by rw [sortS_len]; exact h5.few id
  obtain ⟨ss, hss⟩ : ∃ ss, ss = sortS (keysL L id) := ⟨_, rfl⟩
  rw [← hss] at hrow hlen ⊢
  obtain ⟨A, c, hu⟩ := own_slice hrow
  obtain ⟨n, hn⟩ : ∃ n, n = ss.length := ⟨_, rfl⟩
  rw [← hn] at hu
  subst hu
  have HROW := Lib.hid hrow; have HLEN := Lib.hid hlen
  clear h1 h2 h3 h4 h5 hg l1 l2 hrow hss hn hlen
  go_enter Try.func19, Try.ntmps19
  go_wp2_with (at_builtin; refine wpList_append_texts rfl _ _ rfl w.heap.size B (.slice none 0 0) (.slice A n c) [] ss (World.ownsRow_nil _ _ _ _) HROW.out rfl rfl ?c0 (Nat.le_refl _) ?_)
  case c0 => have := HLEN.out; simp; omega
  intro v' w' r1 g1
  have x1 : Ext w w' := ⟨g1.os, g1.tape, g1.output, g1.size, fun k hk => g1.block k hk (by simp [Value.ownBlock])⟩
  have R1 := Lib.hid r1; have X1 := Lib.hid x1
  clear r1 g1 x1
  go_wp2
  go_ret
  exact ⟨v', rfl, R1.out, X1.out⟩
end Go.Proofs.Ytgbhhofmghgpbaa
