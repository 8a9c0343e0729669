/- stats.Tenants, walked. -/
import Derived.Test.YtlddpdlebdjniaaTenA
import Derived.Test.YtlddpdlebdjniaaField
import Derived.Test.YtlddpdlebdjniaaLay2
namespace Go.Proofs.Ytlddpdlebdjniaa
open Go.RowKit Go.Maps Go.ChangeMaps Go.Sort Go.Shelf
set_option linter.unusedVariables false

theorem tot_le (u : Bs) : ∀ l : List (Bs × Int), (∀ a ∈ l, 0 ≤ a.2) → tot l u ≤ (l.map (·.2)).sum
  | [], _ => by simp [tot]
  | a :: l, h => by
    have h1 := tot_le u l (fun b hb => h b (by simp [hb])); have h2 := h a (by simp)
    rw [tot_cons]
    simp only [List.map_cons, List.sum_cons]
    split <;> omega
theorem Adds.le {M : Bs → Int} {v : Int} (h : Adds M v) (u : Bs) : M u ≤ v := by
  obtain ⟨l, h1, h2, h3⟩ := h
  rw [h2, ← h3]; exact tot_le u l h1
theorem ObjAt.look0 {w : World} {m N : Nat} {O : Int → Int → Option Bs} (h : ObjAt w m N O) {n wh : Int} (hn : (Lit.int .i64 n).wf = true) (hw : (Lit.int .i64 wh).wf = true) :
    (Instr.lookup 69 (.map (some m)) (.agg #[.int .i64 n, .int .i64 wh]) false).run Try.prog w = .ok (.string ⟨((O n wh).getD []).toArray⟩) w := by
  obtain ⟨D, hown, hD⟩ := h
  obtain ⟨v, ps, hrun, hv⟩ := hown.lookup law71 Try.underlying69 (zero9 w) (zd := .lit (.string [])) (zp := []) (plainElem_string (s := ⟨#[]⟩) Try.underlying9 (by simp [ByteArray.size])) (key71 hn hw)
  rw [(hD n wh hn hw).1] at hv
  obtain ⟨t, rfl, e⟩ := plainElem_string_inv hv
  simp at e
  rw [e.1]
  exact hrun
theorem sorts21 (m : Nat) : AnyZ.SortsIn Try.prog Try.sorted21_ren Fence.wide m :=
  ⟨fun blk off cap ss W hH hblk hsz => callsIn_wide.2 (AnyM.slices_Sort_string Try.sort31 blk off cap ss W hH hblk hsz),
   fun p cap W => callsIn_wide.2 (AnyM.slices_Sort_string_none Try.sort31 p cap W)⟩
def SoR (w : World) (N : Nat) (M : Bs → Int) (e : Ending) (w' : World) : Prop := ∃ (v : Value) (ts : List Bs), e = .returned v ∧ ts.Nodup ∧ (∀ t, t ∈ ts ↔ M t ≠ 0) ∧ ts.length ≤ N ∧ Texts w'.heap.size w' v ts ∧ Ext w w'
set_option maxHeartbeats 1000000 in
theorem sorted21_any (w : World) (b N : Nat) (M : Bs → Int) (hM : ByAt w b N M) (hN : N ≤ 1000000) :
    Calls Try.prog 21 #[.func (.func 32) #[] #[.pointer (some ⟨w.heap.size, 0, none⟩)]] (w.alloc (.cells #[.map (some b)] 68)) (SoR w N M) := by
  obtain ⟨D0, hown, hD⟩ := hM
  have hbl := hown.lt
  have hmax : Maps.size D0 ≤ 1000000 := Nat.le_trans hown.size_le hN
  obtain ⟨n1, n2⟩ := strKeys_nodup hown
  have hszk : (strKeys D0).length ≤ N := by
    have h1 := hown.size_le
    obtain ⟨es, rfl, _⟩ := hown.canon law9
    simpa [Maps.size, strKeys] using h1
  have hmem : ∀ t, t ∈ strKeys D0 ↔ M t ≠ 0 := fun t => by rw [n2, (hD t).2]; simp
  have hseq : SeqGives Fence.wide 2 Try.prog 32 #[.pointer (some ⟨w.heap.size, 0, none⟩)] encStr (fun ss => ss.Perm (strKeys D0)) (Maps.size D0) (w.alloc (.cells #[.map (some b)] 68)) :=
    AnyZ.keys_gives (ρ := Try.keys22_ren) { Try.keys22 with } Fence.wide _ trivial rfl (by omega) w.heap.size b N D0 _ (by simp) (by simp) (by
      obtain ⟨es, clock, hb, Ft, hs, hD⟩ := hown
      exact ⟨es, clock, (Below.heap_alloc _ _ b hbl).trans hb, Ft, hs, hD⟩)
  refine ((callsIn_wide (n := 5)).1 (AnyZ.sorted_in Try.sorted21 Fence.wide 5 trivial trivial trivial trivial rfl (by omega) (sorts21 _) (enters_of Try.func31 (by kernel_rfl) rfl) 32 #[.pointer (some ⟨w.heap.size, 0, none⟩)] trivial (enters_of Try.func32 (by kernel_rfl) rfl) _ _ (by unfold maxLen; omega) (by omega) _ hseq)).mono ?_
  rintro e w' ⟨v, ss, rfl, h1, h2, _, h4⟩
  obtain ⟨zs, hzs⟩ : ∃ zs, zs = ss.mergeSort fun x y => decide (x ≤ y) := ⟨_, rfl⟩
  have hp : zs.Perm (strKeys D0) := by rw [hzs]; exact (List.mergeSort_perm ss _).trans h1
  have hrow : SRow w' w.heap.size v zs := by
    unfold SRow
    have hlen : zs.length = ss.length := by rw [hzs]; simp
    rw [hlen, hzs]
    exact ownsRow_base h2 (by simp)
  exact ⟨v, zs, rfl, hp.nodup_iff.2 n1, fun t => hp.mem_iff.trans (hmem t), by rw [hp.length_eq]; exact hszk, hrow.texts, RowKit.Below.trans (Ext.alloc (Ext.refl w) _) (RowKit.Below.mono h4 (by simp))⟩
end Go.Proofs.Ytlddpdlebdjniaa
