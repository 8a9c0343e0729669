/- Of, Keys, New, walked. -/
import Derived.Test.YtgbhhofmghgpbaaTie4
import Derived.Laws.AppendOwnNone
namespace Go.Proofs.Ytgbhhofmghgpbaa
open Go.RowKit Go.Sort Go.Shelf Go.Maps Go.ChangeMaps
set_option linter.unusedVariables false

theorem ki_fresh (w : World) (B b : Nat) (hb : w.heap[b]? = some (.cells #[.map none, .map none] 54 (0, 0))) (hB : B ≤ w.heap.size) : KI w B b 0 [] :=
  ⟨none, none, fun _ => none, fun _ => none, ⟨hb, .inl ⟨rfl, fun _ => rfl⟩, .inl ⟨rfl, fun _ => rfl⟩, (fun _ _ _ _ e => by cases e), (fun _ _ _ e => by cases e), (fun _ _ _ _ _ e => by cases e), (fun _ e => by cases e), hB, (fun _ e => by cases e), (fun _ e => by cases e)⟩,
    by simp, fun _ => rfl, fun _ _ => by simp, ⟨List.nodup_nil, by simp, by simp, fun _ => by simp [keysL]⟩⟩
theorem new_blk (w : World) : Calls Try.prog 10 #[] w fun e w' => e = .returned (.pointer (some ⟨w.heap.size, 0, none⟩)) ∧ w'.heap[w.heap.size]? = some (.cells #[.map none, .map none] 54 (0, 0)) ∧ Ext w w' := by
  have HK := Lib.hid (heap_alloc_new w (.cells #[.map none, .map none] 54))
  go_enter Try.func10, Try.ntmps10
  go_wp2
  go_ret
  exact ⟨rfl, HK.out, Ext.alloc (Ext.refl _) _⟩
theorem new_any (w : World) : Calls Try.prog 10 #[] w fun e w' => e = .returned (.pointer (some ⟨w.heap.size, 0, none⟩)) ∧ (KI w' w.heap.size w.heap.size 0 [] ∧ Ext w w') :=
  (new_blk w).mono fun e w' ⟨h1, h2, h3⟩ => ⟨h1, ki_fresh w' _ _ h2 h3.size, h3⟩

set_option maxRecDepth 100000 in
set_option maxHeartbeats 2000000 in
/-- Keys: all keys to which something is tied, by name. -/
theorem keys_any (w : World) (B b N : Nat) (L : List Pr) (h : KI w B b N L) (hN : N ≤ 1000000) :
    Calls Try.prog 21 #[.pointer (some ⟨b, 0, none⟩)] w fun e w' => ∃ v ss, e = .returned v ∧ SRow w' w.heap.size v (sortS ss) ∧ (ss.Nodup ∧ ∀ k, k ∈ ss ↔ ∃ id, (id, k) ∈ L) ∧ Ext w w' := by
  obtain ⟨mo, mw, G, Q, h1, h2, h3, h4, h5⟩ := h
  have c1 : w.cell? ⟨b, 1, none⟩ = some (.map mw) := blk_cell h1.blk 1
  cases mw with
  | none =>
    have hno : ∀ k, ¬ ∃ id, (id, k) ∈ L := fun k ⟨id, hm⟩ => by
      rcases h1.wi with ⟨_, h0⟩ | ⟨m, D, e, _⟩
      · have := h4 k; rw [h0] at this; exact this id hm
      · cases e
    have HNO := Lib.hid hno
    have HS := Lib.hid (sorted_keys_nil_s w)
    clear h1 h2 h3 h4 h5 hno
    go_enter Try.func21, Try.ntmps21
    go_wp2_with (first | (go_at_call 32; refine (mkeys_s _ _).mono ?_; rintro e w' ⟨rfl, rfl⟩) | (go_at_call 26; refine HS.out.mono ?_; rintro e w' ⟨v, rfl, q1, q2⟩; have Q1 := Lib.hid q1; have Q2 := Lib.hid q2; clear q1 q2))
    go_ret
    refine ⟨v, [], rfl, ?_, ⟨List.nodup_nil, fun k => by simp; exact fun x hx => HNO.out k ⟨x, hx⟩⟩, Q2.out⟩
    have : sortS [] = [] := by unfold sortS; simp
    rw [this]; exact Q1.out
  | some m =>
    rcases h1.wi with ⟨e, _⟩ | ⟨m', D, e, hown, ht⟩
    · cases e
    · injection e with e; subst e
      obtain ⟨n1, n2⟩ := strKeys_nodup hown
      have hmem : ∀ k, k ∈ strKeys D ↔ ∃ id, (id, k) ∈ L := fun k => by
        rw [n2]
        have hk := ht k
        have hq := h4 k
        revert hk hq
        cases Q k with
        | none => intro hk hq; constructor
                  · intro e; rw [hk] at e; cases e
                  · rintro ⟨id, hm⟩; exact absurd hm (hq id)
        | some gS => intro hk hq; exact ⟨fun _ => hq.2, fun _ => hk.1⟩
      have HS := Lib.hid (sorted_keys_s m N D mpElem w hown (Nat.le_trans hown.size_le hN))
      have HM := Lib.hid hmem; have HN1 := Lib.hid n1
      clear h1 h2 h3 h4 h5 hown ht n1 n2 hmem
      go_enter Try.func21, Try.ntmps21
      go_wp2_with (first | (go_at_call 32; refine (mkeys_s _ _).mono ?_; rintro e w' ⟨rfl, rfl⟩) | (go_at_call 26; refine HS.out.mono ?_; rintro e w' ⟨v, ss, rfl, q0, q1, q2⟩; have Q0 := Lib.hid q0; have Q1 := Lib.hid q1; have Q2 := Lib.hid q2; clear q0 q1 q2))
      go_ret
      exact ⟨v, ss, rfl, Q1.out, ⟨(Q0.out.nodup_iff).2 HN1.out, fun k => by rw [Q0.out.mem_iff]; exact HM.out k⟩, Q2.out⟩
end Go.Proofs.Ytgbhhofmghgpbaa
