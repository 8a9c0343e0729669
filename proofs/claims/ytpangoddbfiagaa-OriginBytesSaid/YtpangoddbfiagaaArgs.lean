/- The statements' arguments, opened. -/
import Derived.Test.YtpangoddbfiagaaAwake2
import Derived.Test.YtpangoddbfiagaaRows
import Derived.ProofKit
import Derived.OpenShut
import Derived.ShutString
import Derived.ChangeOld
import Derived.Deep.Slices
import Derived.Lib.SmallJoins
namespace Go.Proofs.Ytpangoddbfiagaa
open Go.ChangeShapes Go.WideShapes Go.ChangeAt Go.RowKit Go.Deep Go.Joins
set_option linter.unusedVariables false
set_option linter.unusedSimpArgs false

theorem own : ownKnob Try.prog.godebug = none := by kernel_rfl
theorem laidOut : laidOutB Try.prog = true := by kernel_rfl
theorem u8_nat {z : Int} (h : (Lit.int .u8 z).wf = true) : ∃ n : Nat, z = n ∧ n ≤ 255 := by
  have : 0 ≤ z ∧ z ≤ 255 := by
    simp [Lit.wf] at h
    have e1 : IntKind.u8.min = 0 := rfl
    have e2 : IntKind.u8.max = 255 := rfl
    omega
  exact ⟨z.toNat, by omega, by omega⟩
/-- A given slice of elements of z cells each. -/
def RowsG {α : Type} (w : World) (z : Nat) (R : α → List Value → Prop) (v : Value) (xs : List α) : Prop :=
  ∃ A c, v = .slice A xs.length c ∧ xs.length ≤ c ∧ (A = none → c = 0) ∧
    ∀ k (hk : k < xs.length), ∃ b off cs, A = some ⟨b, off, none⟩ ∧ R xs[k] cs ∧ b < w.heap.size ∧ ∀ j u, cs[j]? = some u → w.cell? ⟨b, off + k * z + j, none⟩ = some u
theorem RowsG.ext {α : Type} {w w' : World} {z : Nat} {R : α → List Value → Prop} {v : Value} {xs : List α} (h : RowsG w z R v xs) (x : Ext w w') : RowsG w' z R v xs := by
  obtain ⟨A, c, h1, h2, h3, h6⟩ := h
  refine ⟨A, c, h1, h2, h3, fun k hk => ?_⟩
  obtain ⟨b, off, cs, e, hr, hb, hc⟩ := h6 k hk
  exact ⟨b, off, cs, e, hr, x.lt hb, fun j u hj => x.cell (hc j u hj)⟩
theorem RowsG.mono {α : Type} {w : World} {z : Nat} {R R' : α → List Value → Prop} {v : Value} {xs : List α} (h : RowsG w z R v xs) (hR : ∀ a cs, R a cs → R' a cs) : RowsG w z R' v xs := by
  obtain ⟨A, c, h1, h2, h3, h6⟩ := h
  refine ⟨A, c, h1, h2, h3, fun k hk => ?_⟩
  obtain ⟨b, off, cs, e, hr, hb, hc⟩ := h6 k hk
  exact ⟨b, off, cs, e, hR _ _ hr, hb, hc⟩
theorem RowsG.low {α : Type} {w : World} {z : Nat} {R : α → List Value → Prop} {v : Value} {xs : List α} (h : RowsG w z R v xs) : LowV w v := by
  obtain ⟨A, c, h1, h2, h3, h6⟩ := h
  intro A' n c' e hn
  rw [h1] at e
  injection e with e1 e2 e3
  obtain ⟨b, off, cs, e4, _, hb, _⟩ := h6 0 (by omega)
  rw [e1] at e4
  rw [Option.some.inj e4]; exact hb
def RByte (b : UInt8) (cs : List Value) : Prop := cs = [byteV b]
def RText (t : Bs) (cs : List Value) : Prop := cs = [.string ⟨t.toArray⟩]
def BytesA (w : World) (v : Value) (bs : Bs) : Prop := RowsG w 1 RByte v bs
def TextsA (w : World) (v : Value) (ts : List Bs) : Prop := RowsG w 1 RText v ts
theorem BytesA.at_ {w : World} {v : Value} {bs : Bs} (h : BytesA w v bs) : BytesAt w v bs := by
  obtain ⟨A, c, h1, h2, h3, h6⟩ := h
  refine ⟨A, c, by simpa using h1, by simpa using h2, h3, fun j hj => ?_⟩
  have hj' : j < bs.length := by simpa using hj
  obtain ⟨b, off, cs, e, hr, hb, hc⟩ := h6 j hj'
  have := hc 0 (byteV bs[j]) (by rw [hr]; rfl)
  exact ⟨b, off, e, by simpa using this⟩
theorem TextsA.at_ {w : World} {v : Value} {ts : List Bs} (h : TextsA w v ts) : TextsAt w v ts := by
  obtain ⟨A, c, h1, h2, h3, h6⟩ := h
  refine ⟨A, c, h1, h2, h3, fun j hj => ?_⟩
  obtain ⟨b, off, cs, e, hr, hb, hc⟩ := h6 j hj
  have := hc 0 (.string ⟨ts[j].toArray⟩) (by rw [hr]; rfl)
  exact ⟨b, off, e, by simpa using this⟩
theorem cellsT5 : Try.prog.cellsOf 5 = 1 := by kernel_rfl
theorem cellsT9 : Try.prog.cellsOf 9 = 1 := by kernel_rfl
theorem cellsT22 : Try.prog.cellsOf 22 = 1 := by kernel_rfl
section
variable {H : Type} {enc : TypeId × Value → H} {w : World} {base : Nat} {spare : Nat → Bool} {held : Bool}
set_option maxRecDepth 100000 in
theorem rows_of {α : Type} {t e : TypeId} {z : Nat} (ht : Try.prog.underlying t = some (.slice e)) (he : Try.prog.cellsOf e = z) (hz : 0 < z) (R : α → List Value → Prop)
    (hR : ∀ {fuel : Nat} {cs : List Value} {x : DataW H × List MemPlace}, DataW.trod enc Try.prog w base (fun _ => true) held fuel e cs = some x → ∃ a, R a cs)
    {fuel : Nat} {cs : List Value} {x : DataW H × List MemPlace} (h : DataW.trod enc Try.prog w base (fun _ => true) held fuel t cs = some x) : ∃ (v : Value) (xs : List α), cs = [v] ∧ RowsG w z R v xs ∧ xs.length ≤ maxLen := by
  rcases open_slice ht h with ⟨hcs, _⟩ | ⟨a, len, cap, m, n, D, Pl, hcs, _, hl, hm, hmm, _, hi⟩
  · exact ⟨_, [], hcs, ⟨none, 0, rfl, Nat.le_refl _, fun _ => rfl, fun k hk => by simp at hk⟩, by simp⟩
  · have hm' : m = cap := by simpa using hmm
    subst hm'
    have ex : ∀ i : Fin len, ∃ a' : α, ∃ b off cs', a = ⟨b, off, none⟩ ∧ R a' cs' ∧ b < w.heap.size ∧ ∀ j u, cs'[j]? = some u → w.cell? ⟨b, off + i.1 * z + j, none⟩ = some u := fun i => by
      obtain ⟨cs', hc, ht'⟩ := hi i.1 (by have := i.2; omega)
      rw [he] at hc
      obtain ⟨a', ha'⟩ := hR ht'
      obtain ⟨_, hl', hat⟩ := World.cells?_some hc
      have hsp : a.spot = none := by
        obtain ⟨c0, hc0, _⟩ := hi 0 (by have := i.2; omega)
        rw [he] at hc0
        obtain ⟨_, hl0, hat0⟩ := World.cells?_some hc0
        have g0 := hat0 0 hz
        rw [List.getElem?_eq_getElem (by omega)] at g0
        have := World.cell?_spot g0
        simpa [Addr.add] using this
      have h0 := hat 0 hz
      have h1 : cs'[0]? = some (cs'[0]'(by omega)) := List.getElem?_eq_getElem (by omega)
      rw [h1] at h0
      obtain ⟨b, off, spot⟩ := a
      simp only at hsp
      subst hsp
      rw [add_plain, add_plain] at h0
      refine ⟨a', b, off, cs', rfl, ha', World.block_lt_of_cell? _ _ h0, fun j u hj => ?_⟩
      have hjz : j < z := by have := (List.getElem?_eq_some_iff.1 hj).1; omega
      have := hat j hjz
      rw [add_plain, add_plain] at this
      rw [this]; exact hj
    refine ⟨_, List.ofFn fun i => (ex i).choose, hcs, ⟨some a, m, by simp, by simpa using hl, fun e => (by cases e), fun k hk => ?_⟩, by rw [List.length_ofFn]; exact Nat.le_trans hl hm⟩
    simp only [List.length_ofFn] at hk
    obtain ⟨b, off, cs', e, hr, hb, hc⟩ := (ex ⟨k, hk⟩).choose_spec
    exact ⟨b, off, cs', by rw [e], by simpa using hr, hb, hc⟩
theorem fld {t : TypeId} {fs : Array Field} {fuel : Nat} {cs : List Value} {x : DataW H × List MemPlace} (ht : Try.prog.underlying t = some (.struct fs)) (h : DataW.trod enc Try.prog w base (fun _ => true) held fuel t cs = some x) (i : Nat) (f : Field) (hf : fs[i]? = some f) :
    ∃ m y, DataW.trod enc Try.prog w base (fun _ => true) held m f.type ((cs.drop f.offset).take (Try.prog.cellsOf f.type)) = some y := by
  obtain ⟨ys, m, _, _, hlen, hyl, hff⟩ := DataW.trod_struct ht h
  have hil : i < ys.length := by rw [hyl]; exact (Array.getElem?_eq_some_iff.1 hf).1
  exact ⟨m, ys[i], by rw [hff i f hf]; simp [hil]⟩
set_option maxRecDepth 100000 in
theorem byte_cells {fuel : Nat} {cs : List Value} {x : DataW H × List MemPlace} (h : DataW.trod enc Try.prog w base (fun _ => true) held fuel 5 cs = some x) : ∃ b, RByte b cs := by
  obtain ⟨n, rfl, _, hw⟩ := DataW.trod_int Try.underlying5 h
  obtain ⟨k, rfl, hk⟩ := u8_nat hw
  refine ⟨UInt8.ofNat k, ?_⟩
  unfold RByte byteV
  have : (UInt8.ofNat k).toNat = k := by rw [UInt8.toNat_ofNat']; exact Nat.mod_eq_of_lt (by omega)
  rw [this]
set_option maxRecDepth 100000 in
theorem text_cells {fuel : Nat} {cs : List Value} {x : DataW H × List MemPlace} (h : DataW.trod enc Try.prog w base (fun _ => true) held fuel 9 cs = some x) : ∃ b : Bs, RText b cs ∧ b.length ≤ maxLen := by
  obtain ⟨s, rfl, _, hw⟩ := DataW.trod_string Try.underlying9 h
  exact ⟨s.data.toList, by unfold RText; simp, by have e : s.data.toList.length = s.size := Array.length_toList; rw [e]; exact hw⟩
set_option maxRecDepth 100000 in
theorem bytes_cells {fuel : Nat} {cs : List Value} {x : DataW H × List MemPlace} (h : DataW.trod enc Try.prog w base (fun _ => true) held fuel 22 cs = some x) : ∃ (v : Value) (bs : Bs), cs = [v] ∧ BytesA w v bs ∧ bs.length ≤ maxLen :=
  rows_of Try.underlying22 cellsT5 (by omega) RByte byte_cells h
set_option maxRecDepth 100000 in
theorem texts_cells {fuel : Nat} {cs : List Value} {x : DataW H × List MemPlace} (h : DataW.trod enc Try.prog w base (fun _ => true) held fuel 36 cs = some x) : ∃ (v : Value) (ts : List Bs), cs = [v] ∧ TextsA w v ts ∧ ts.length ≤ maxLen :=
  rows_of Try.underlying36 cellsT9 (by omega) RText (fun h => by obtain ⟨b, hb, _⟩ := text_cells h; exact ⟨b, hb⟩) h
/-- A row of rows of bytes. -/
def RRow (w : World) (p : Value × Bs) (cs : List Value) : Prop := cs = [p.1] ∧ BytesA w p.1 p.2 ∧ p.2.length ≤ maxLen
set_option maxRecDepth 100000 in
theorem rrows_cells {fuel : Nat} {cs : List Value} {x : DataW H × List MemPlace} (h : DataW.trod enc Try.prog w base (fun _ => true) held fuel 23 cs = some x) : ∃ (v : Value) (xs : List (Value × Bs)), cs = [v] ∧ RowsG w 1 (RRow w) v xs ∧ xs.length ≤ maxLen :=
  rows_of Try.underlying23 cellsT22 (by omega) (RRow w) (fun h => by obtain ⟨v, bs, h1, h2, h3⟩ := bytes_cells h; exact ⟨(v, bs), h1, h2, h3⟩) h
set_option maxRecDepth 100000 in
theorem bytes_open {v : Value} {d : DataW H} {p : List MemPlace} {r : Reach} {b0 : Nat} (hv : Value.okWide Try.prog w r b0 22 v) (h : DataW.Trod enc Try.prog w base (fun _ => true) held 22 v d p) : ∃ (bs : Bs), BytesA w v bs ∧ bs.length ≤ maxLen := by
  obtain ⟨a0, len, cap, rfl⟩ := okWide_slice Try.underlying22 hv
  obtain ⟨fuel, hf⟩ := h
  obtain ⟨v, ss, e, hT⟩ := bytes_cells hf
  simp [Value.cells] at e
  subst e
  exact ⟨ss, hT⟩
set_option maxRecDepth 100000 in
theorem rrows_open {v : Value} {d : DataW H} {p : List MemPlace} {r : Reach} {b0 : Nat} (hv : Value.okWide Try.prog w r b0 23 v) (h : DataW.Trod enc Try.prog w base (fun _ => true) held 23 v d p) : ∃ (xs : List (Value × Bs)), RowsG w 1 (RRow w) v xs ∧ xs.length ≤ maxLen := by
  obtain ⟨a0, len, cap, rfl⟩ := okWide_slice Try.underlying23 hv
  obtain ⟨fuel, hf⟩ := h
  obtain ⟨v, ss, e, hT⟩ := rrows_cells hf
  simp [Value.cells] at e
  subst e
  exact ⟨ss, hT⟩
end
end Go.Proofs.Ytpangoddbfiagaa
