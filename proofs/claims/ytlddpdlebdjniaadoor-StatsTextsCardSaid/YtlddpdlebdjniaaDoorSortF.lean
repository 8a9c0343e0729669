/- slices.SortedFunc(maps.Keys(m), ..) of Top. -/
import Derived.Test.YtlddpdlebdjniaaDoorCmp
import Derived.Test.YtlddpdlebdjniaaDoorLay
import Derived.Sort.OwnSorted
namespace Go.Proofs.YtlddpdlebdjniaaDoor
set_option linter.unusedSimpArgs false
open Go.RowKit Go.Maps Go.ChangeMaps Go.Sort Go.Shelf
set_option linter.unusedVariables false

def SRow (w : World) (B : Nat) (v : Value) (ss : List Bs) : Prop := w.ownsRow B 9 1 v ss.length (ss.map encStr)
def ltT (M : Bs → Int) (a b : Bs) : Prop := M b < M a ∨ (M a = M b ∧ a < b)
theorem cmpT_neg (M : Bs → Int) (a b : Bs) : cmpT M a b < 0 ↔ ltT M a b := by
  unfold cmpT ltT cmpI cmpS
  by_cases h1 : M b < M a
  · simp [h1]
  · by_cases h2 : M a < M b
    · simp [h1, h2]; omega
    · have e : M a = M b := by omega
      by_cases h3 : a < b
      · simp [e, h3]
      · by_cases h4 : b < a
        · simp [e, h3, h4]
        · simp [e, h3, h4]
/-- A text that may be a key of a map, or none. -/
def sh (x : Bs) : Bs := if x.length ≤ 1000000 then x else []
theorem sh_len (x : Bs) : (sh x).length ≤ 1000000 := by unfold sh; split <;> simp_all
theorem sh_of {x : Bs} (h : x.length ≤ 1000000) : sh x = x := by unfold sh; rw [if_pos h]
def encT (x : Bs) : Value := encStr (sh x)
def cfT (M : Bs → Int) (x y : Bs) : Int := cmpT M (sh x) (sh y)
theorem ltT_irrefl (M : Bs → Int) (a : Bs) : ¬ ltT M a a := fun h => by
  rcases h with h | h
  · omega
  · exact List.lt_irrefl _ h.2
theorem ltT_trans {M : Bs → Int} {a b c : Bs} (h : ltT M a b) (k : ltT M b c) : ltT M a c := by
  rcases h with h | ⟨h1, h2⟩ <;> rcases k with k | ⟨k1, k2⟩
  · exact .inl (by omega)
  · exact .inl (by omega)
  · exact .inl (by omega)
  · exact .inr ⟨by omega, List.lt_trans h2 k2⟩
theorem ltT_total (M : Bs → Int) (a b : Bs) : ltT M a b ∨ a = b ∨ ltT M b a := by
  by_cases h1 : M b < M a
  · exact .inl (.inl h1)
  · by_cases h2 : M a < M b
    · exact .inr (.inr (.inl h2))
    · by_cases h3 : a < b
      · exact .inl (.inr ⟨by omega, h3⟩)
      · by_cases h4 : a = b
        · exact .inr (.inl h4)
        · exact .inr (.inr (.inr ⟨by omega, (lt_iff a b).2 ⟨h3, h4⟩⟩))
theorem swoT (M : Bs → Int) : SWO (ltOf (cfT M)) where
  irrefl x := by unfold ltOf cfT; rw [decide_eq_false_iff_not, cmpT_neg]; exact ltT_irrefl M _
  trans x y z := by unfold ltOf cfT; rw [decide_eq_true_iff, decide_eq_true_iff, decide_eq_true_iff, cmpT_neg, cmpT_neg, cmpT_neg]; exact ltT_trans
  ntrans x y z := by
    unfold ltOf cfT
    rw [decide_eq_false_iff_not, decide_eq_false_iff_not, decide_eq_false_iff_not, cmpT_neg, cmpT_neg, cmpT_neg]
    intro h1 h2 h3
    rcases ltT_total M (sh x) (sh y) with h | h | h
    · exact h1 h
    · rw [h] at h3; exact h2 h3
    · exact h2 (ltT_trans h h3)
theorem grown_sorted {α : Type} [Inhabited α] (enc : α → Value) {w : World} {g n : Nat} {os : Array Obj} (d : Array α) : w.grownBy (sortWorld enc w g 0 n d os) (some g) := by
  refine ⟨rfl, rfl, rfl, by simp [sortWorld], fun k hk hne => ?_⟩
  unfold sortWorld
  rw [heap_grow_old _ _ (by simpa using hk)]
  have : g ≠ k := fun e => hne (by rw [e])
  simp [putRow, mapBlock, Sort.ahead, Array.getElem?_modify, this]
theorem putCells_same {c : Array Value} {ts : List Bs} (h : ∀ t ∈ ts, t.length ≤ 1000000) : putCells encT 0 ts.toArray c = putCells encStr 0 ts.toArray c := by
  unfold putCells
  apply Array.ext
  · simp
  · intro i h1 h2
    simp only [Array.getElem_mapIdx]
    split
    · rename_i hc
      have hi : i - 0 < ts.length := by simpa using hc.2
      unfold encT
      rw [sh_of]
      rw [getElem!_pos ts.toArray (i - 0) (by simpa using hi)]
      exact h _ (by simp)
    · rfl
theorem sortWorld_same {w : World} {g n : Nat} {os : Array Obj} {ts : List Bs} (h : ∀ t ∈ ts, t.length ≤ 1000000) {cur : Array Value} {e : TypeId} {z : Nat × Nat} (hg : w.heap[g]? = some (.cells cur e z)) : sortWorld encT w g 0 n ts.toArray os = grow (putRow encStr (Sort.ahead w n) g 0 ts.toArray) os := by
  unfold sortWorld putRow
  have : putCells encT 0 ts.toArray = putCells encStr 0 ts.toArray := funext fun c => putCells_same h
  rw [this]
theorem cmpLays (w : World) (g size vb m N : Nat) (M : Bs → Int) (hv : w.heap[vb]? = some (.cells #[.map (some m)] 70 (0, 0))) (hM : ByAt w m N M) (h1 : vb ≠ g) (h2 : m ≠ g) : CmpLays1 Tryd.prog 18 #[.pointer (some ⟨vb, 0, none⟩)] encT (cfT M) g 0 size w := by
  intro n os dk hs x y
  have hg : w.grownBy (sortWorld encT w g 0 n dk os) (some g) := grown_sorted encT dk
  have hv' : (sortWorld encT w g 0 n dk os).heap[vb]? = some (.cells #[.map (some m)] 70 (0, 0)) := (hg.block _ (blk_lt hv) (by simpa using h1)).trans hv
  refine (top25 (sh x) (sh y) (sortWorld encT w g 0 n dk os) vb m N M (blk_cell hv' 0) (hM.grown hg (fun e => h2 e.symm)) (sh_len x) (sh_len y)).mono ?_
  rintro e w' ⟨rfl, rfl⟩
  exact ⟨rfl, 0, _, alloc_eq_grow _ _⟩
/-- Sorted: the most first; of those alike by name. -/
theorem sortf_any (w : World) (B : Nat) (v : Value) (ss : List Bs) (vb m N : Nat) (M : Bs → Int) (h : SRow w B v ss) (hl : ss.length ≤ 1000000) (hs : ∀ t ∈ ss, t.length ≤ 1000000) (hv : w.heap[vb]? = some (.cells #[.map (some m)] 70 (0, 0))) (hM : ByAt w m N M) (h1 : vb < B) (h2 : m < B) :
    Calls Tryd.prog 29 #[v, .func (.func 18) #[] #[.pointer (some ⟨vb, 0, none⟩)]] w fun e w' => e = .returned (.tuple #[]) ∧ (∃ ts, ts.Perm ss ∧ (ts.Pairwise fun a b => ¬ ltT M b a) ∧ SRow w' B v ts) ∧ w.grownBy w' v.ownBlock := by
  rcases h.2 with ⟨rfl, h0⟩ | ⟨g, cap, cur, rfl, hb, hgg, c1, c2, c3, c4⟩
  · have : ss = [] := List.length_eq_zero_iff.1 h0
    subst this
    refine (AnyF.slices_SortFunc_none (ρ := Tryd.sortf33_ren) { Tryd.sortf33 with } none 0 _ w).mono ?_
    rintro e w' ⟨rfl, rfl⟩
    exact ⟨rfl, ⟨[], List.Perm.refl _, List.Pairwise.nil, World.ownsRow_nil _ _ _ _⟩, ⟨rfl, rfl, rfl, Nat.le_refl _, fun _ _ _ => rfl⟩⟩
  · have hH0 : Holds encStr w g 0 ss.toArray := holds_of_block hgg (by simpa using c4)
    have hH : Holds encT w g 0 ss.toArray := fun j hj => by
      obtain ⟨a1, a2⟩ := hH0 j hj
      refine ⟨?_, a2⟩
      unfold encT
      rw [sh_of]
      · exact a1
      · rw [getElem!_pos ss.toArray j hj]; exact hs _ (by simp)
    have hc := cmpLays w g ss.toArray.size vb m N M hv hM (by omega) (by omega)
    refine (Any.slices_SortFunc Tryd.sortf33 encT (fun x => rfl) (cfT M) (swoT M) 18 _ g 0 cap ss.toArray w (enters_of Tryd.func18 (by kernel_rfl) rfl) hc hH (blk_lt hgg) (by simp; omega)).mono ?_
    rintro e w' ⟨rfl, d', n, os, hp, hso, rfl⟩
    obtain ⟨ts, rfl⟩ : ∃ ts : List Bs, d' = ts.toArray := ⟨d'.toList, by simp⟩
    obtain ⟨p1, p2, p3⟩ := hp
    have hlen : ts.length = ss.length := by simpa using p1
    have hperm : ts.Perm ss := by
      have h3 := p3
      simp at h3
      rw [List.take_of_length_le (by omega)] at h3
      exact h3
    have hts : ∀ t ∈ ts, t.length ≤ 1000000 := fun t ht => hs t (hperm.mem_iff.1 ht)
    refine ⟨rfl, ⟨ts, hperm, ?_, ?_⟩, grown_sorted encT _⟩
    · rw [List.pairwise_iff_getElem]
      intro i j hi hj hij
      have := hso i j (Nat.zero_le _) hij (by simpa [hlen] using hj)
      rw [getElem!_pos ts.toArray j (by simpa using hj), getElem!_pos ts.toArray i (by simpa using hi)] at this
      simp only [List.getElem_toArray] at this
      unfold ltOf cfT at this
      rw [decide_eq_false_iff_not, cmpT_neg, sh_of (hts _ (by simp)), sh_of (hts _ (by simp))] at this
      exact this
    · rw [sortWorld_same hts hgg]
      unfold SRow
      rw [hlen]
      exact ownsRow_sorted hlen hb hgg c1 c2 c3
theorem mkeys22 (mb : Option Nat) (W : World) : Calls Tryd.prog 17 #[.map mb] W fun e w' => e = .returned (.func (.func 30) #[] #[.pointer (some ⟨W.heap.size, 0, none⟩)]) ∧ w' = W.alloc (.cells #[.map mb] 70) :=
  (callsIn_wide (n := 5)).1 (AnyZ.keys_in Tryd.keys22 Fence.wide 5 trivial rfl mb W)
set_option maxHeartbeats 1000000 in
theorem collect_keys {H : Type} (b nn : Nat) (D0 : DataW H) (R : Value → Option (DataW H × List MemPlace)) (w : World) (hown : w.ownsMap Tryd.prog 9 R b nn D0) (hmax : Maps.size D0 ≤ 1000000) :
    Calls Tryd.prog 28 #[.func (.func 30) #[] #[.pointer (some ⟨w.heap.size, 0, none⟩)]] (w.alloc (.cells #[.map (some b)] 70)) fun e w' => ∃ (v : Value) (ss : List Bs), e = .returned v ∧ ss.Perm (strKeys D0) ∧
      SRow w' (w.heap.size + 1) v ss ∧ Ext (w.alloc (.cells #[.map (some b)] 70)) w' := by
  have hbl := hown.lt
  have hseq : SeqGives Fence.wide 3 Tryd.prog 30 #[.pointer (some ⟨w.heap.size, 0, none⟩)] encStr (fun ss => ss.Perm (strKeys D0)) (Maps.size D0) (w.alloc (.cells #[.map (some b)] 70)) :=
    AnyZ.keys_gives (ρ := Tryd.keys22_ren) { Tryd.keys22 with } Fence.wide _ trivial rfl (by omega) w.heap.size b nn D0 _ (by simp) (by simp) (by
      obtain ⟨es, clock, hb, Ft, hs, hD⟩ := hown
      exact ⟨es, clock, (Below.heap_alloc _ _ b hbl).trans hb, Ft, hs, hD⟩)
  refine ((callsIn_wide (n := 5)).1 (AnyZ.collect_in Tryd.collect30 Fence.wide 5 trivial trivial rfl (by omega) 30 #[.pointer (some ⟨w.heap.size, 0, none⟩)] trivial (enters_of Tryd.func30 (by kernel_rfl) rfl) _ _ (by unfold maxLen; omega) (by omega) _ hseq)).mono ?_
  rintro e w' ⟨v, ss, rfl, h1, h2, _, h4⟩
  refine ⟨v, ss, rfl, h1, ?_, h4⟩
  have := h2
  rw [World.size_alloc] at this
  exact this
theorem strKeys_nodup {R : Value → Option (DataW Unit × List MemPlace)} {w : World} {b n : Nat} {D : DataW Unit} (h : w.ownsMap Tryd.prog 9 R b n D) : (strKeys D).Nodup ∧ ∀ x, x ∈ strKeys D ↔ Maps.has D (.string x) = true := by
  obtain ⟨es, rfl, hp, hlit⟩ := h.canon law9
  obtain ⟨es', he, hkeys⟩ := h.keysOf
  injection he with he
  subst he
  have hk : ∀ p ∈ es, ∃ x, p.1 = .string x := fun p hpm => by
    obtain ⟨v, hv⟩ := hkeys p hpm
    obtain ⟨x, _, hx, _⟩ := Maps.keyOf_str Tryd.underlying9 hv
    exact ⟨x, hx⟩
  constructor
  · show (es.map fun p => strOf p.1).Nodup
    refine List.pairwise_map.2 ((apart_of_rising hp).imp_of_mem fun {p q} hp' hq' hne e => hne ?_)
    obtain ⟨a, ha⟩ := hk p hp'
    obtain ⟨b, hb⟩ := hk q hq'
    rw [ha, hb] at e ⊢
    exact congrArg _ e
  · intro x
    rw [has_eq, List.any_eq_true]
    show x ∈ es.map (fun p => strOf p.1) ↔ _
    rw [List.mem_map]
    constructor
    · rintro ⟨p, hpm, rfl⟩
      obtain ⟨a, ha⟩ := hk p hpm
      refine ⟨p, hpm, ?_⟩
      rw [ha]; exact WideAt.sameKey_self (isKey9 a)
    · rintro ⟨p, hpm, hs⟩
      exact ⟨p, hpm, by rw [WideAt.sameKey_eq hs]; rfl⟩
set_option maxRecDepth 100000 in
set_option maxHeartbeats 2000000 in
theorem sortedf_any (w : World) (vb m N : Nat) (M : Bs → Int) (hv : w.heap[vb]? = some (.cells #[.map (some m)] 70 (0, 0))) (hM : ByAt w m N M) (hN : N ≤ 1000000) (hlen : ∀ t, M t ≠ 0 → t.length ≤ 1000000) :
    Calls Tryd.prog 16 #[.func (.func 30) #[] #[.pointer (some ⟨w.heap.size, 0, none⟩)], .func (.func 18) #[] #[.pointer (some ⟨vb, 0, none⟩)]] (w.alloc (.cells #[.map (some m)] 70)) fun e w' => ∃ (v : Value) (ts : List Bs), e = .returned v ∧ (ts.Nodup ∧ (∀ t, t ∈ ts ↔ M t ≠ 0) ∧ (ts.Pairwise fun a b => ¬ ltT M b a) ∧ ts.length ≤ N) ∧ SRow w' (w.heap.size + 1) v ts ∧ Ext w w' := by
  obtain ⟨D, hown, hD⟩ := hM
  have hcol := collect_keys m N D _ w hown (Nat.le_trans hown.size_le hN)
  have hml := hown.lt
  have hvl := blk_lt hv
  obtain ⟨n1, n2⟩ := strKeys_nodup hown
  have hszk : (strKeys D).length ≤ N := by
    have h1 := hown.size_le
    obtain ⟨es, rfl, _⟩ := hown.canon law9
    simpa [Maps.size, strKeys] using h1
  have hmem : ∀ t, t ∈ strKeys D ↔ M t ≠ 0 := fun t => by rw [n2, (hD t).2]; simp
  have HC := Lib.hid hcol; have HN1 := Lib.hid n1; have HMEM := Lib.hid hmem; have HV := Lib.hid hv; have HM : Hid (ByAt w m N M) := Lib.hid ⟨D, hown, hD⟩; have HSZ := Lib.hid hszk; have HL := Lib.hid hlen
  clear hcol n1 n2 hmem hv hown hD hszk hlen
  go_enter Tryd.func16, Tryd.ntmps16
  go_wp2_with (go_at_call 28; refine HC.out.mono ?_; rintro e w1 ⟨v, ss, rfl, h1, h2, h3⟩; refine stop_of ?_)
  unfold Stop
  have hsz1 : w.heap.size + 1 ≤ w1.heap.size := by have := h3.size; rw [World.size_alloc] at this; exact this
  replace h3 := (alloc_ext w (.cells #[.map (some m)] 70)).trans h3
  have hs := sortf_any w1 (w.heap.size + 1) v ss vb m N M h2 (by have := h1.length_eq; have := HSZ.out; omega) (fun t ht => HL.out t ((HMEM.out t).1 (h1.mem_iff.1 ht))) (h3.heap HV.out) (HM.out.ext h3) (by omega) (by omega)
  have HS := Lib.hid hs; have H1 := Lib.hid h1; have H2 := Lib.hid h2; have H3 := Lib.hid h3
  clear hs h1 h2 h3 HC
  go_wp2_with (go_at_call 29; refine HS.out.mono ?_; rintro e w2 ⟨rfl, q1, q2⟩; have Q1 := Lib.hid q1; have Q2 := Lib.hid q2; clear q1 q2)
  go_ret
  obtain ⟨ts, hp, hso, hrow⟩ := Q1.out
  have hpk := hp.trans H1.out
  refine ⟨v, ts, rfl, ⟨hpk.nodup_iff.2 HN1.out, fun t => hpk.mem_iff.trans (HMEM.out t), hso, by rw [hpk.length_eq]; exact HSZ.out⟩, hrow, ?_⟩
  exact RowKit.Below.trans H3.out (RowKit.Below.mono (own_below H2.out Q2.out hsz1) (by omega))
end Go.Proofs.YtlddpdlebdjniaaDoor
