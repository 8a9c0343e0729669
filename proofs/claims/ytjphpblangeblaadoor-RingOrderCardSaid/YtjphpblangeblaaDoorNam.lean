/- The program's Owner and Names, walked. -/
import Derived.Test.YtjphpblangeblaaDoorOwns
namespace Go.Proofs.YtjphpblangeblaaDoor
open Go.RowKit Go.Sort Go.Shelf Go.Maps Go.ChangeMaps
set_option linter.unusedVariables false
set_option linter.unusedSimpArgs false
section
variable {w : World} {B b N each : Nat} {own : Nat → Prop} {L : NL} {ob : Bs}
/-- The first owner. -/
def whoL (l : List Nm) : Nm := l.headD []
set_option maxRecDepth 100000 in
set_option maxHeartbeats 2000000 in
theorem owner_any (hI : RgI w B b N own each L) (ho : ob.length ≤ 1000000) : Calls Tryd.prog 13 #[.pointer (some ⟨b, 0, none⟩), .string ⟨ob.toArray⟩] w fun e w' => e = .returned (.tuple #[.string ⟨(whoL (ordL pd each (hashL ob) L)).toArray⟩, .bool (decide (L ≠ []))]) ∧ Ext w w' := by
  have hk : LOk L := by obtain ⟨P, mo, sv, h⟩ := hI; exact h.ok
  have hlen := ordL_len (pd := pd) each (hashL ob) hk.nd
  have HO := Lib.hid (owners_any hI ho 1)
  obtain ⟨l, hl⟩ : ∃ l, l = ordL pd each (hashL ob) L := ⟨_, rfl⟩
  rw [← hl] at HO hlen ⊢
  clear hl hI hk
  cases l with
  | nil =>
    have hL : L = [] := List.eq_nil_of_length_eq_zero hlen.symm
    subst hL
    have e0 : decide (([] : NL) ≠ []) = false := by simp
    rw [e0]
    simp at HO
    clear hlen
    go_enter Tryd.func13, Tryd.ntmps13
    go_wp2_with (go_at_call 12; refine HO.out.mono ?_; rintro e w1 ⟨v, rfl, hr, hx⟩; refine stop_of ?_)
    unfold Stop
    obtain ⟨A, c, rfl⟩ := own_slice hr
    have HX := Lib.hid hx
    clear hr hx
    go_wp2
    go_ret2
    exact ⟨rfl, HX.out⟩
  | cons x r =>
    have hL : L ≠ [] := by rintro rfl; simp at hlen
    have e0 : decide (L ≠ []) = true := by simp [hL]
    rw [e0]
    have e1 : (min 1 (L.length : Int)).toNat = 1 := by simp at hlen; omega
    rw [e1] at HO
    simp only [List.take_succ_cons, List.take_zero] at HO
    clear hlen e1 e0 hL
    go_enter Tryd.func13, Tryd.ntmps13
    go_wp2_with (go_at_call 12; refine HO.out.mono ?_; rintro e w1 ⟨v, rfl, hr, hx⟩; refine stop_of ?_)
    unfold Stop
    obtain ⟨A, c, rfl⟩ := own_slice hr
    obtain ⟨b1, o1, rfl, k1⟩ := hr.texts.cell (j := 0) (by simp)
    simp at k1
    have HX := Lib.hid hx
    clear hr hx
    simp only [List.length_cons, List.length_nil] 
    go_wp2
    go_ret2
    exact ⟨rfl, HX.out⟩
def sortS (ss : List Bs) : List Bs := ss.mergeSort fun x y => decide (x ≤ y)
theorem sortS_len (ss : List Bs) : (sortS ss).length = ss.length := by unfold sortS; simp
theorem sortS_mem (ss : List Bs) (k : Bs) : k ∈ sortS ss ↔ k ∈ ss := (List.mergeSort_perm ss _).mem_iff
theorem sorts37 (m : Nat) : AnyZ.SortsIn Tryd.prog Tryd.sorted37_ren Fence.wide m :=
  ⟨fun blk off cap ss W hH hblk hsz => callsIn_wide.2 (AnyM.slices_Sort_string Tryd.sort50 blk off cap ss W hH hblk hsz),
   fun p cap W => callsIn_wide.2 (AnyM.slices_Sort_string_none Tryd.sort50 p cap W)⟩
theorem mkeys_s (mb : Option Nat) (W : World) : Calls Tryd.prog 38 #[.map mb] W fun e w' => e = .returned (.func (.func 51) #[] #[.pointer (some ⟨W.heap.size, 0, none⟩)]) ∧ w' = W.alloc (.cells #[.map mb] 60) :=
  (callsIn_wide (n := 5)).1 (AnyZ.keys_in Tryd.keys38 Fence.wide 5 trivial rfl mb W)
set_option maxHeartbeats 1000000 in
theorem sorted_keys_s {H : Type} (b nn : Nat) (D0 : DataW H) (R : Value → Option (DataW H × List MemPlace)) (w : World) (hown : w.ownsMap Tryd.prog 9 R b nn D0) (hmax : Maps.size D0 ≤ 1000000) :
    Calls Tryd.prog 37 #[.func (.func 51) #[] #[.pointer (some ⟨w.heap.size, 0, none⟩)]] (w.alloc (.cells #[.map (some b)] 60)) fun e w' => ∃ (v : Value) (ss : List Bs), e = .returned v ∧ ss.Perm (strKeys D0) ∧
      SRow w' w.heap.size v (sortS ss) ∧ Ext w w' := by
  have hbl := hown.lt
  have hseq : SeqGives Fence.wide 2 Tryd.prog 51 #[.pointer (some ⟨w.heap.size, 0, none⟩)] encStr (fun ss => ss.Perm (strKeys D0)) (Maps.size D0) (w.alloc (.cells #[.map (some b)] 60)) :=
    AnyZ.keys_gives (ρ := Tryd.keys38_ren) { Tryd.keys38 with } Fence.wide _ trivial rfl (by omega) w.heap.size b nn D0 _ (by simp) (by simp) (by
      obtain ⟨es, clock, hb, Ft, hs, hD⟩ := hown
      exact ⟨es, clock, (Below.heap_alloc _ _ b hbl).trans hb, Ft, hs, hD⟩)
  refine ((callsIn_wide (n := 5)).1 (AnyZ.sorted_in Tryd.sorted37 Fence.wide 5 trivial trivial trivial trivial rfl (by omega) (sorts37 _) (enters_of Tryd.func50 (by kernel_rfl) rfl) 51 #[.pointer (some ⟨w.heap.size, 0, none⟩)] trivial (enters_of Tryd.func51 (by kernel_rfl) rfl) _ _ (by unfold maxLen; omega) (by omega) _ hseq)).mono ?_
  rintro e w' ⟨v, ss, rfl, h1, h2, _, h4⟩
  refine ⟨v, ss, rfl, h1, ?_, Below.trans (Ext.alloc (Ext.refl w) _) (Below.mono h4 (by simp))⟩
  unfold SRow
  rw [sortS_len]
  exact ownsRow_base h2 (by simp)
set_option maxHeartbeats 1000000 in
theorem sorted_keys_nil_s (w : World) :
    Calls Tryd.prog 37 #[.func (.func 51) #[] #[.pointer (some ⟨w.heap.size, 0, none⟩)]] (w.alloc (.cells #[.map none] 60)) fun e w' => ∃ (v : Value), e = .returned v ∧ SRow w' w.heap.size v [] ∧ Ext w w' := by
  have hseq : SeqGives Fence.wide 2 Tryd.prog 51 #[.pointer (some ⟨w.heap.size, 0, none⟩)] encStr (fun ss : List Bs => ss = []) 0 (w.alloc (.cells #[.map none] 60)) :=
    AnyZ.keys_gives_nil (ρ := Tryd.keys38_ren) { Tryd.keys38 with } Fence.wide _ trivial rfl w.heap.size _ (by simp) (by simp)
  refine ((callsIn_wide (n := 5)).1 (AnyZ.sorted_in Tryd.sorted37 Fence.wide 5 trivial trivial trivial trivial rfl (by omega) (sorts37 _) (enters_of Tryd.func50 (by kernel_rfl) rfl) 51 #[.pointer (some ⟨w.heap.size, 0, none⟩)] trivial (enters_of Tryd.func51 (by kernel_rfl) rfl) _ 0 (Nat.zero_le _) (by omega) _ hseq)).mono ?_
  rintro e w' ⟨v, ss, rfl, h1, h2, _, h4⟩
  subst h1
  refine ⟨v, rfl, ?_, Below.trans (Ext.alloc (Ext.refl w) _) (Below.mono h4 (by simp))⟩
  have h3 : w'.ownsRow w.heap.size 9 1 v 0 [] := by
    have := ownsRow_base (base' := w.heap.size) h2 (by simp)
    simp at this
    exact this
  exact h3
/-- All names, in order. -/
def namL (L : NL) : List Nm := toldN (L.map Prod.fst) L.length
theorem namL_of {L : NL} (hk : LOk L) {ss : List Bs} (hp : ss.Perm (L.map Prod.fst)) : sortS ss = namL L := by
  have h0 : ∀ x ∈ L.map Prod.fst, x ≠ [] := fun x hx => by
    obtain ⟨y, hy, rfl⟩ := List.mem_map.1 hx
    have := hk.right y hy
    rintro e
    rw [e] at this
    simp [rightN] at this
  have hS : (sortS ss).Pairwise (· < ·) := by
    have h1 : (sortS ss).Pairwise (· ≤ ·) := by
      have := List.pairwise_mergeSort (le := fun x y : Bs => decide (x ≤ y)) (fun a b c h1 h2 => by simp at *; exact List.le_trans h1 h2) (fun a b => by simp; exact List.le_total a b) ss
      exact this.imp fun h => by simpa using h
    have h2 : (sortS ss).Nodup := (List.mergeSort_perm ss _).nodup_iff.2 (hp.nodup_iff.2 hk.nd)
    exact (List.Pairwise.and h1 h2).imp fun {a b} ⟨h, hne⟩ => Classical.byContradiction fun hh => hne (List.le_antisymm h (List.not_lt.1 hh))
  have hm : ∀ x, x ∈ sortS ss ↔ x ∈ L.map Prod.fst := fun x => by rw [sortS_mem, hp.mem_iff]
  have hl : (sortS ss).length = L.length := by rw [sortS_len, hp.length_eq, List.length_map]
  have := toldN_take h0 hS hm L.length (by omega)
  unfold namL
  rw [this, List.take_of_length_le (by omega)]
set_option maxRecDepth 100000 in
set_option maxHeartbeats 2000000 in
theorem names_any (hI : RgI w B b N own each L) : Calls Tryd.prog 19 #[.pointer (some ⟨b, 0, none⟩)] w fun e w' => ∃ v, e = .returned v ∧ SRow w' w.heap.size v (namL L) ∧ Ext w w' := by
  obtain ⟨P, mo, sv, h⟩ := hI
  have k1 := blk_cell h.blk 1
  simp at k1
  rcases h.names with ⟨rfl, h0⟩ | ⟨m, rfl, hg⟩
  · have hL : L = [] := by
      rcases L with _ | ⟨x, L⟩
      · rfl
      · have h1 := h0 x.1
        have h2 := h.ok.wts x (by simp)
        have h3 := wt_of h.ok.nd x (by simp)
        unfold ptsF at h1
        rw [h3, if_neg (by omega)] at h1; cases h1
    subst hL
    have HS := Lib.hid (sorted_keys_nil_s w)
    clear h h0
    go_enter Tryd.func19, Tryd.ntmps19
    go_wp2_with (first | (go_at_call 38; refine (mkeys_s _ _).mono ?_; rintro e w' ⟨rfl, rfl⟩) | (go_at_call 37; refine HS.out.mono ?_; rintro e w' ⟨v, rfl, q1, q2⟩; have Q1 := Lib.hid q1; have Q2 := Lib.hid q2; clear q1 q2))
    go_ret
    exact ⟨v, rfl, Q1.out, Q2.out⟩
  · obtain ⟨D, hown, ht⟩ := gmap_has hg
    have hpk := names_keys h.e1.1 h.ok hown ht
    have HS := Lib.hid (sorted_keys_s m N D naE.R w hown (Nat.le_trans hown.size_le (by have := h.nb; omega)))
    have HP := Lib.hid hpk; have HK := Lib.hid h.ok
    clear h hg hown ht hpk
    go_enter Tryd.func19, Tryd.ntmps19
    go_wp2_with (first | (go_at_call 38; refine (mkeys_s _ _).mono ?_; rintro e w' ⟨rfl, rfl⟩) | (go_at_call 37; refine HS.out.mono ?_; rintro e w' ⟨v, ss, rfl, q0, q1, q2⟩; have Q0 := Lib.hid q0; have Q1 := Lib.hid q1; have Q2 := Lib.hid q2; clear q0 q1 q2))
    go_ret
    refine ⟨v, rfl, ?_, Q2.out⟩
    rw [← namL_of HK.out (Q0.out.trans HP.out)]
    exact Q1.out
end
end Go.Proofs.YtjphpblangeblaaDoor
