/- Texts put together: LawC, LawD. -/
import Derived.Test.YtpangoddbfiagaaTG27
import Derived.SizedLaws
namespace Go.Proofs.Ytpangoddbfiagaa
open Go.ChangeShapes Go.WideShapes Go.ChangeAt Go.RowKit Go.Deep Go.Joins
open Go.Maps Go.ChangeMaps
set_option linter.unusedVariables false
set_option linter.unusedSimpArgs false

section
variable {H : Type} {P : Program}
/-- No part of a datum is greater than a machine's memory. -/
def WOk (P : Program) (t : TypeId) (d : DataW H) : Prop := ∀ n ∈ d.weights P t, n ≤ reachBytes
theorem WOk.struct {t : TypeId} {fs : Array Field} {parts : List (DataW H)} (h : WOk P t (.agg parts)) (hu : P.underlying t = some (.struct fs)) {i : Nat} {f : Field} {d : DataW H} (hf : fs[i]? = some f) (hd : parts[i]? = some d) : WOk P f.type d := fun n hn => by
  refine h n ?_
  simp only [DataW.weights, hu]
  exact DataW.weights_mem_each (j := i) (by simp [hf]) hd n hn
theorem weightsAll_mem {e : TypeId} {d : DataW H} {n : Nat} (hn : n ∈ d.weights P e) : ∀ {l : List (DataW H)}, d ∈ l → n ∈ DataW.weightsAll P e l
  | x :: l, h => by
    simp only [DataW.weightsAll, List.mem_append]
    rcases List.mem_cons.1 h with rfl | h
    · exact .inl hn
    · exact .inr (weightsAll_mem hn h)
theorem WOk.slice {t e : TypeId} {els sp : List (DataW H)} (h : WOk P t (.slice els sp)) (hu : P.underlying t = some (.slice e)) : (els.length + sp.length) * P.bytesOf e ≤ reachBytes ∧ ∀ d ∈ els, WOk P e d := by
  refine ⟨h _ (by simp [DataW.weights, hu]), fun d hd n hn => h n ?_⟩
  simp only [DataW.weights, hu]
  exact List.mem_cons_of_mem _ (List.mem_append_left _ (weightsAll_mem hn hd))
theorem WOk.string {t : TypeId} {b : List UInt8} (h : WOk P t (.lit (.string b) : DataW H)) : b.length ≤ reachBytes := h _ (by simp [DataW.weights])
end
end Go.Proofs.Ytpangoddbfiagaa
namespace Go.Proofs.Ytpangoddbfiagaa
open Go.RowKit Go.Maps Go.ChangeMaps
set_option linter.unusedVariables false
set_option linter.unusedSimpArgs false

section
variable {w0 w w' : World} {b x N : Nat} {L L' : Nat → Prop} {vs us : List Vn} {ss ts : List Sn} {sa ra : List Nat} {hl : List (Value × Bs)}
/-- What is refused leaves all as it was. -/
theorem setA_no {o bs : Bs} {m : MetaP} (h : (setA vs o m bs).1 ≠ 0) : (setA vs o m bs).2 = vs := by
  unfold setA at *
  split
  · rfl
  · rename_i h1
    rw [if_neg h1] at h
    split
    · rfl
    · rename_i h2
      rw [if_neg h2] at h
      exact absurd rfl h
theorem brow_slice {base : Nat} {v : Value} {bs : Bs} {g : Nat} (hr : BRow w base v bs) (hv : v.ownBlock = some g) : ∃ c, v = .slice (some ⟨g, 0, none⟩) bs.length c := by
  rcases hr.2 with ⟨e, _⟩ | ⟨g', cap, cur, e, _⟩
  · rw [e] at hv; cases hv
  · rw [e] at hv
    cases hv
    exact ⟨cap, e⟩
/-- A row that the law holds stays as it is. -/
theorem Stt.row {own P : Nat → Prop} {base : Nat} (h : Stt w0 w b N own vs ss sa hl P) (x : ExtP own w w') {v : Value} {bs : Bs} (hm : (v, bs) ∈ hl) (hr : 0 < bs.length → BRow w base v bs) : 0 < bs.length → BRow w' base v bs := fun hn => own_keep (hr hn) fun g e => x.block g ((hr hn).lt g e).2 fun hh => by
  obtain ⟨c, rfl⟩ := brow_slice (hr hn) e
  exact (h.held _ hm).2.1 _ _ _ rfl hn (.inl hh)
/-- The law's own blocks and the block of a row that it adopts. -/
def addV (v : Value) (n : Nat) (L : Nat → Prop) : Nat → Prop := fun i => (0 < n ∧ v.ownBlock = some i) ∨ L i
/-- A row of bytes in which each element may be written. -/
structure WrB (v : Value) (n g : Nat) (w : World) : Prop where
  val : 0 < n → ∃ c, v = .slice (some ⟨g, 0, none⟩) n c ∧ n ≤ c
  blk : 0 < n → ∃ cur : Array Value, w.heap[g]? = some (.cells cur 5 (0, 0)) ∧ n ≤ cur.size ∧ ∀ j, j < n → ∃ z : Int, cur[j]? = some (.int .u8 z)
theorem WrB.put {v : Value} {n g : Nat} (h : WrB v n g w) {i : Nat} (u : Int) : WrB v n g (w.setCell ⟨g, i, none⟩ (.int .u8 u)) :=
  ⟨h.val, fun hn => by
    obtain ⟨cur, h1, h2, h3⟩ := h.blk hn
    refine ⟨_, blk_set h1 i _, by simpa using h2, fun j hj => ?_⟩
    by_cases e : i = j
    · subst e
      exact ⟨u, by simp [Array.getElem?_setIfInBounds, show i < cur.size by omega]⟩
    · obtain ⟨u', h4⟩ := h3 j hj
      exact ⟨u', by rw [Array.getElem?_setIfInBounds_ne e]; exact h4⟩⟩
/-- What stands while the law turns a row of its own. -/
structure TurnR (w0 w1 w : World) (b x N : Nat) (L : Nat → Prop) (vs : List Vn) (ss : List Sn) (sa : List Nat) (us : List Vn) (ts : List Sn) (ra : List Nat) (v : Value) (n g : Nat) : Prop where
  st : Pl2 w0 w b x N (addV v n L) vs ss sa us ts ra []
  keep : KeepP L w1 w
  wr : WrB v n g w
  off : 0 < n → ¬ L g
theorem TurnR.put {w1 : World} {v : Value} {n g : Nat} (h : TurnR w0 w1 w b x N L vs ss sa us ts ra v n g) (hn : 0 < n) (i : Nat) (u : Int) : TurnR w0 w1 (w.setCell ⟨g, i, none⟩ (.int .u8 u)) b x N L vs ss sa us ts ra v n g := by
  obtain ⟨c, hv, _⟩ := h.wr.val hn
  have hx : ExtP (addV v n L) w (w.setCell ⟨g, i, none⟩ (.int .u8 u)) := ⟨rfl, rfl, rfl, by simp [World.setCell], fun k hk hh => Below.heap_setCell w _ _ k (by
    rintro rfl
    exact hh (.inl ⟨hn, by rw [hv]; rfl⟩))⟩
  exact ⟨h.st.other hx fun i hi => .inl hi, h.keep.trans fun k hk => Below.heap_setCell w _ _ k (by rintro rfl; exact h.off hn hk), h.wr.put u, h.off⟩
end
end Go.Proofs.Ytpangoddbfiagaa
