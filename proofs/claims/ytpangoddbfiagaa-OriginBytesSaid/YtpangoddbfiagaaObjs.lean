/- Objects, walked over the state: slices.Sorted(maps.Keys(o.objects)). -/
import Derived.Test.YtpangoddbfiagaaMeth3
import Derived.Test.YtpangoddbfiagaaLay
import Derived.Sort.OwnSorted
namespace Go.Proofs.Ytpangoddbfiagaa
open Go.RowKit Go.Sort Go.Shelf Go.Maps Go.ChangeMaps
set_option linter.unusedVariables false
set_option linter.unusedSimpArgs false

def sortS (ss : List Bs) : List Bs := ss.mergeSort fun x y => decide (x ≤ y)
theorem sortS_len (ss : List Bs) : (sortS ss).length = ss.length := by unfold sortS; simp
theorem sortS_mem (ss : List Bs) (k : Bs) : k ∈ sortS ss ↔ k ∈ ss := (List.mergeSort_perm ss _).mem_iff
theorem encStr_strV : (encStr : Bs → Value) = strV := rfl
theorem strKeys_nodup {R : Value → Option (DataW Unit × List MemPlace)} {w : World} {b n : Nat} {D : DataW Unit} (h : w.ownsMap Try.prog 9 R b n D) : (strKeys D).Nodup ∧ ∀ x, x ∈ strKeys D ↔ Maps.has D (.string x) = true := by
  obtain ⟨es, rfl, hp, hlit⟩ := h.canon law9
  obtain ⟨es', he, hkeys⟩ := h.keysOf
  injection he with he
  subst he
  have hk : ∀ p ∈ es, ∃ x, p.1 = .string x := fun p hpm => by
    obtain ⟨v, hv⟩ := hkeys p hpm
    obtain ⟨x, _, hx, _⟩ := Maps.keyOf_str Try.underlying9 hv
    exact ⟨x, hx⟩
  constructor
  · show (es.map fun p => strOf p.1).Nodup
    refine List.pairwise_map.2 ((apart_of_rising hp).imp_of_mem fun {p q} hp' hq' hne e => hne ?_)
    obtain ⟨a, ha⟩ := hk p hp'
    obtain ⟨b, hb⟩ := hk q hq'
    rw [ha, hb] at e ⊢
    exact congrArg _ e
  · intro x
    rw [has_eq, List.any_eq_true]
    show x ∈ es.map (fun p => strOf p.1) ↔ _
    rw [List.mem_map]
    constructor
    · rintro ⟨p, hpm, rfl⟩
      obtain ⟨a, ha⟩ := hk p hpm
      refine ⟨p, hpm, ?_⟩
      rw [ha]; exact WideAt.sameKey_self (isKeyS a)
    · rintro ⟨p, hpm, hs⟩
      exact ⟨p, hpm, by rw [WideAt.sameKey_eq hs]; rfl⟩

theorem sorts52 (m : Nat) : AnyZ.SortsIn Try.prog Try.sorted52_ren Fence.wide m :=
  ⟨fun blk off cap ss W hH hblk hsz => callsIn_wide.2 (AnyM.slices_Sort_string Try.sort66 blk off cap ss W hH hblk hsz),
   fun p cap W => callsIn_wide.2 (AnyM.slices_Sort_string_none Try.sort66 p cap W)⟩
theorem mkeys_s (mb : Option Nat) (W : World) : Calls Try.prog 53 #[.map mb] W fun e w' => e = .returned (.func (.func 67) #[] #[.pointer (some ⟨W.heap.size, 0, none⟩)]) ∧ w' = W.alloc (.cells #[.map mb] 82) :=
  (callsIn_wide (n := 5)).1 (AnyZ.keys_in Try.keys53 Fence.wide 5 trivial rfl mb W)
set_option maxHeartbeats 1000000 in
theorem sorted_keys_s {H : Type} (b nn : Nat) (D0 : DataW H) (R : Value → Option (DataW H × List MemPlace)) (w : World) (hown : w.ownsMap Try.prog 9 R b nn D0) (hmax : Maps.size D0 ≤ 1000000) :
    Calls Try.prog 52 #[.func (.func 67) #[] #[.pointer (some ⟨w.heap.size, 0, none⟩)]] (w.alloc (.cells #[.map (some b)] 82)) fun e w' => ∃ (v : Value) (ss : List Bs), e = .returned v ∧ ss.Perm (strKeys D0) ∧
      SRow w' w.heap.size v (sortS ss) ∧ Ext w w' := by
  have hbl := hown.lt
  have hseq : SeqGives Fence.wide 2 Try.prog 67 #[.pointer (some ⟨w.heap.size, 0, none⟩)] encStr (fun ss => ss.Perm (strKeys D0)) (Maps.size D0) (w.alloc (.cells #[.map (some b)] 82)) :=
    AnyZ.keys_gives (ρ := Try.keys53_ren) { Try.keys53 with } Fence.wide _ trivial rfl (by omega) w.heap.size b nn D0 _ (by simp) (by simp) (by
      obtain ⟨es, clock, hb, Ft, hs, hD⟩ := hown
      exact ⟨es, clock, (Below.heap_alloc _ _ b hbl).trans hb, Ft, hs, hD⟩)
  refine ((callsIn_wide (n := 5)).1 (AnyZ.sorted_in Try.sorted52 Fence.wide 5 trivial trivial trivial trivial rfl (by omega) (sorts52 _) (enters_of Try.func66 (by kernel_rfl) rfl) 67 #[.pointer (some ⟨w.heap.size, 0, none⟩)] trivial (enters_of Try.func67 (by kernel_rfl) rfl) _ _ (by unfold maxLen; omega) (by omega) _ hseq)).mono ?_
  rintro e w' ⟨v, ss, rfl, h1, h2, _, h4⟩
  refine ⟨v, ss, rfl, h1, ?_, Below.trans (Ext.alloc (Ext.refl w) _) (Below.mono h4 (by simp))⟩
  unfold SRow
  rw [sortS_len]
  exact ownsRow_base h2 (by simp)
set_option maxHeartbeats 1000000 in
theorem sorted_keys_nil_s (w : World) :
    Calls Try.prog 52 #[.func (.func 67) #[] #[.pointer (some ⟨w.heap.size, 0, none⟩)]] (w.alloc (.cells #[.map none] 82)) fun e w' => ∃ (v : Value), e = .returned v ∧ SRow w' w.heap.size v [] ∧ Ext w w' := by
  have hseq : SeqGives Fence.wide 2 Try.prog 67 #[.pointer (some ⟨w.heap.size, 0, none⟩)] encStr (fun ss : List Bs => ss = []) 0 (w.alloc (.cells #[.map none] 82)) :=
    AnyZ.keys_gives_nil (ρ := Try.keys53_ren) { Try.keys53 with } Fence.wide _ trivial rfl w.heap.size _ (by simp) (by simp)
  refine ((callsIn_wide (n := 5)).1 (AnyZ.sorted_in Try.sorted52 Fence.wide 5 trivial trivial trivial trivial rfl (by omega) (sorts52 _) (enters_of Try.func66 (by kernel_rfl) rfl) 67 #[.pointer (some ⟨w.heap.size, 0, none⟩)] trivial (enters_of Try.func67 (by kernel_rfl) rfl) _ 0 (Nat.zero_le _) (by omega) _ hseq)).mono ?_
  rintro e w' ⟨v, ss, rfl, h1, h2, _, h4⟩
  subst h1
  refine ⟨v, rfl, ?_, Below.trans (Ext.alloc (Ext.refl w) _) (Below.mono h4 (by simp))⟩
  have h3 : w'.ownsRow w.heap.size 9 1 v 0 [] := by
    have := ownsRow_base (base' := w.heap.size) h2 (by simp)
    simp at this
    exact this
  exact h3
/-- The names of the objects that are there. -/
def liveB (vs : List Vn) (o : Bs) : Prop := ∃ v ∈ vs, v.obj = o ∧ v.went = false
def Names (vs : List Vn) (ss : List Bs) : Prop := ss.Nodup ∧ (ss.Pairwise fun a b => a ≤ b) ∧ ∀ o, o ∈ ss ↔ liveB vs o
theorem nowI_live (vs : List Vn) (o : Bs) : nowI vs o = none ↔ ¬ liveB vs o := by
  constructor
  · rintro h ⟨v, hv, ho, hw⟩
    have := nowI_none h v hv ho
    rw [this] at hw; cases hw
  · intro h
    cases hn : nowI vs o with
    | none => rfl
    | some i =>
      obtain ⟨v, hv, h1, h2⟩ := nowI_some hn
      exact absurd ⟨v, List.mem_of_getElem? hv, h1, h2⟩ h
theorem names_sort {vs : List Vn} {ss : List Bs} (h1 : ss.Nodup) (h2 : ∀ o, o ∈ ss ↔ liveB vs o) : Names vs (sortS ss) := by
  refine ⟨(List.mergeSort_perm ss _).nodup_iff.2 h1, ?_, fun o => by rw [sortS_mem]; exact h2 o⟩
  have := List.pairwise_mergeSort (le := fun x y : Bs => decide (x ≤ y)) (fun a b c h1 h2 => by simp at *; exact List.le_trans h1 h2) (fun a b => by simp; exact List.le_total a b) ss
  exact this.imp fun h => by simpa using h
section
variable {w w' : World} {b B N : Nat} {own : Nat → Prop} {vs : List Vn} {ss : List Sn} {sa : List Nat} {gs : List Vg} {mo mh : Option Nat} {H : Bs → Option Nat} {K : Bs → Bs → Option Bool}
set_option maxRecDepth 100000 in
set_option maxHeartbeats 2000000 in
theorem objects_any (hI : OI w b B N own vs ss sa) (hN : N ≤ 900000) : Calls Try.prog 25 #[.pointer (some ⟨b, 0, none⟩)] w fun e w' => ∃ v ns, e = .returned v ∧ SRow w' w.heap.size v ns ∧ Names vs ns ∧ ns.length ≤ N ∧ Ext w w' := by
  obtain ⟨gs, mo, mh, H, K, h⟩ := hI
  have c1 : w.cell? ⟨b, 0, none⟩ = some (.map mo) := blk_cell h.blk 0
  have hF : ∀ o, (nowI vs o).bind ((gs.map (·.b))[·]?) = none ↔ ¬ liveB vs o := fun o => by
    rw [← nowI_live]
    cases hn : nowI vs o with
    | none => simp
    | some i =>
      obtain ⟨v, hv, _⟩ := nowI_some hn
      obtain ⟨g, hg, _⟩ := h.vers.get hv
      simp [hg]
  cases mo with
  | none =>
    have hno : ∀ o, ¬ liveB vs o := fun o => by
      rcases h.maps.obs with ⟨_, h0⟩ | ⟨m, e, _⟩
      · exact (hF o).1 (h0 o)
      · cases e
    have HNO := Lib.hid hno
    have HS := Lib.hid (sorted_keys_nil_s w)
    clear h hno hF
    go_enter Try.func25, Try.ntmps25
    go_wp2_with (first | (go_at_call 53; refine (mkeys_s _ _).mono ?_; rintro e w' ⟨rfl, rfl⟩) | (go_at_call 52; refine HS.out.mono ?_; rintro e w' ⟨v, rfl, q1, q2⟩; have Q1 := Lib.hid q1; have Q2 := Lib.hid q2; clear q1 q2))
    go_ret
    exact ⟨v, [], rfl, Q1.out, ⟨List.nodup_nil, List.Pairwise.nil, fun k => by simp; exact HNO.out k⟩, by simp, Q2.out⟩
  | some m =>
    rcases h.maps.obs with ⟨e, _⟩ | ⟨m', e, D, hown, ht⟩
    · cases e
    · injection e with e; subst e
      obtain ⟨n1, n2⟩ := strKeys_nodup hown
      have hmem : ∀ k, k ∈ strKeys D ↔ liveB vs k := fun k => by
        rw [n2]
        have hk := ht k
        have hq := hF k
        dsimp only at hk
        revert hk hq
        cases (nowI vs k).bind ((gs.map (·.b))[·]?) with
        | none => intro hk hq; have := hq.1 rfl; exact ⟨fun e => (by rw [hk] at e; cases e), fun e => absurd e this⟩
        | some x => intro hk hq; refine ⟨fun _ => Classical.byContradiction fun hh => ?_, fun _ => hk.1⟩; have := hq.2 hh; cases this
      have hszk : (strKeys D).length ≤ N := by
        have h1 := hown.size_le
        obtain ⟨es, rfl, _⟩ := hown.canon law9
        simpa [Maps.size, strKeys] using h1
      have HS := Lib.hid (sorted_keys_s m N D ptE.R w hown (Nat.le_trans hown.size_le (by omega)))
      have HM := Lib.hid hmem; have HN1 := Lib.hid n1; have HZ := Lib.hid hszk
      clear h hown ht n1 n2 hmem hF hszk
      go_enter Try.func25, Try.ntmps25
      go_wp2_with (first | (go_at_call 53; refine (mkeys_s _ _).mono ?_; rintro e w' ⟨rfl, rfl⟩) | (go_at_call 52; refine HS.out.mono ?_; rintro e w' ⟨v, ss, rfl, q0, q1, q2⟩; have Q0 := Lib.hid q0; have Q1 := Lib.hid q1; have Q2 := Lib.hid q2; clear q0 q1 q2))
      go_ret
      exact ⟨v, sortS ss, rfl, Q1.out, names_sort ((Q0.out.nodup_iff).2 HN1.out) (fun k => by rw [Q0.out.mem_iff]; exact HM.out k), by rw [sortS_len, Q0.out.length_eq]; exact HZ.out, Q2.out⟩
end
end Go.Proofs.Ytpangoddbfiagaa
