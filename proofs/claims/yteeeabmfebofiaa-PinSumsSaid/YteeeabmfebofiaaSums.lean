/- How many holds live, key by key and together; plain laws. Lists of numbers among the arguments. -/
import Derived.Test.YteeeabmfebofiaaArgs
import Derived.Test.YteeeabmfebofiaaAll
import Derived.ChangeSlices
namespace Go.Proofs.Yteeeabmfebofiaa
open Go.ChangeShapes Go.WideShapes Go.ChangeAt Go.RowKit Go.Maps
set_option linter.unusedVariables false

def total (L : List Hold) : Nat := (L.filter fun x => !x.freed).length
theorem total_le (L : List Hold) : total L ≤ L.length := List.length_filter_le _ _
theorem total_cons (x : Hold) (L : List Hold) : total (x :: L) = total L + if x.freed = false then 1 else 0 := by
  unfold total; cases hf : x.freed <;> simp [hf]
theorem total_all {L : List Hold} (h : ∀ x ∈ L, x.freed = false) : total L = L.length := by
  unfold total
  rw [List.filter_eq_self.2]
  intro x hx
  simp [h x hx]
theorem total_end : ∀ (L : List Hold) (i : Nat) (x : Hold), L[i]? = some x → total L = total (endAt L i) + if x.freed = false then 1 else 0
  | [], i, x, h => by simp at h
  | y :: L, 0, x, h => by
    simp at h; subst h
    show total (y :: L) = total ({ y with freed := true } :: L) + _
    rw [total_cons, total_cons]; simp
  | y :: L, i + 1, x, h => by
    rw [endAt_cons, total_cons, total_cons, total_end L i x (by simpa using h)]; omega
def inOf (L : List Hold) (zs : List Int) : Nat := (L.filter fun x => zs.contains x.key && !x.freed).length
theorem sum_live (zs : List Int) (hz : zs.Nodup) : ∀ L : List Hold, (zs.map (live L)).sum = inOf L zs
  | [] => by
    have : zs.map (live []) = zs.map fun _ => 0 := List.map_congr_left fun k _ => rfl
    rw [this]
    have : ∀ ys : List Int, (ys.map fun _ => 0).sum = 0 := fun ys => by
      induction ys with
      | nil => rfl
      | cons y ys ih => simp [ih]
    rw [this]
    rfl
  | x :: L => by
    have ih := sum_live zs hz L
    have key : ∀ (ys : List Int), ys.Nodup → (ys.map (live (x :: L))).sum = (ys.map (live L)).sum + if ys.contains x.key && !x.freed then 1 else 0 := by
      intro ys
      induction ys with
      | nil => intro _; simp
      | cons y ys ihy =>
        intro hy
        rw [List.nodup_cons] at hy
        rw [List.map_cons, List.map_cons, List.sum_cons, List.sum_cons, ihy hy.2, live_cons]
        by_cases e : x.key = y
        · subst e
          have : ys.contains x.key = false := by simpa using hy.1
          rw [this]
          cases hf : x.freed <;> simp
          omega
        · have e' : y ≠ x.key := fun h => e h.symm
          have : (y :: ys).contains x.key = ys.contains x.key := by simp [e]
          rw [this, if_neg (fun h => e h.1)]
          omega
    rw [key zs hz, ih]
    unfold inOf
    rw [List.filter_cons]
    split <;> simp_all
theorem inOf_le (L : List Hold) (zs : List Int) : inOf L zs ≤ L.length := List.length_filter_le _ _
theorem inOf_all {L : List Hold} {zs : List Int} (h : ∀ k, k ∈ zs ↔ 1 ≤ live L k) : inOf L zs = total L := by
  unfold inOf total
  congr 1
  apply List.filter_congr
  intro x hx
  cases hf : x.freed with
  | true => simp
  | false =>
    have : x.key ∈ zs := (h _).2 (live_pos hx hf)
    simp [this]
theorem nodup_of_lt {zs : List Int} (h : zs.Pairwise (· < ·)) : zs.Nodup := h.imp fun h => by omega

/-- A list of numbers that came in. -/
def NumsAt (w : World) (q : IntKind) (A : Option Addr) (xs : List Int) : Prop := ∀ k (hk : k < xs.length), ∃ b off, A = some ⟨b, off, none⟩ ∧ w.cell? ⟨b, off + k, none⟩ = some (.int q xs[k]) ∧ (Lit.int q xs[k]).wf = true
theorem NumsAt.ext {w w' : World} {q : IntKind} {A : Option Addr} {xs : List Int} (h : NumsAt w q A xs) (hb : Ext w w') : NumsAt w' q A xs := fun k hk => by
  obtain ⟨b, off, e, h0, r⟩ := h k hk
  exact ⟨b, off, e, Ext.cell hb h0, r⟩
set_option maxRecDepth 100000 in
theorem nums_open {H : Type} {enc : TypeId × Value → H} {w : World} {base : Nat} {held : Bool} {t e : TypeId} {q : IntKind} {v : Value} {d : DataW H} {p : List MemPlace} {r : Reach} {b0 : Nat} (ht : Try.prog.underlying t = some (.slice e)) (he : Try.prog.underlying e = some (.int q)) (hc : Try.prog.cellsOf e = 1)
    (hv : Value.okWide Try.prog w r b0 t v) (h : DataW.Trod enc Try.prog w base (fun _ => true) held t v d p) :
    ∃ (A : Option Addr) (xs : List Int) (c : Nat), v = .slice A xs.length c ∧ NumsAt w q A xs ∧ xs.length ≤ maxLen := by
  obtain ⟨a0, len, cap, rfl⟩ := okWide_slice ht hv
  obtain ⟨fuel, hf⟩ := h
  rcases open_ints ht he hc hf with ⟨hcs, _⟩ | ⟨a, len', cap', zs, hcs, _, hl, hm, hz, _, hcell, hwf⟩
  · simp [Value.cells] at hcs
    obtain ⟨rfl, rfl, rfl⟩ := hcs
    exact ⟨none, [], 0, rfl, fun k hk => by simp at hk, by simp⟩
  · simp [Value.cells] at hcs
    obtain ⟨rfl, rfl, rfl⟩ := hcs
    simp at hz
    refine ⟨some a, zs.take len, cap, by simp; omega, fun k hk => ?_, by simp; omega⟩
    have hk' : k < len := by simp at hk; omega
    have hc0 := hcell k (by omega)
    have hz0 := hcell 0 (by omega)
    obtain ⟨b, off, spot⟩ := a
    have hspot : spot = none := by simpa [Addr.add] using World.cell?_spot hz0
    subst hspot
    rw [add_plain] at hc0
    refine ⟨b, off, rfl, ?_, ?_⟩
    · rw [hc0]; simp [List.getD_eq_getElem?_getD, show k < zs.length by omega]
    · exact hwf _ (by simp)
end Go.Proofs.Yteeeabmfebofiaa
