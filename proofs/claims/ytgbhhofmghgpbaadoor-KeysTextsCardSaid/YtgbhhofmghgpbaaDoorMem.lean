/- The program's Map in memory. -/
import Derived.Test.YtgbhhofmghgpbaaDoorSets
namespace Go.Proofs.YtgbhhofmghgpbaaDoor
open Go.RowKit Go.Sort Go.Shelf Go.Maps Go.ChangeMaps
set_option linter.unusedVariables false

def slElem (v : Value) : Option (DataW Unit × List MemPlace) :=
  match v with
  | .slice (some ⟨g, 0, none⟩) n c => some (.slice [.lit (.int .i64 g), .lit (.int .i64 n), .lit (.int .i64 c)] [], [])
  | .slice none 0 0 => some (.nil, [])
  | _ => none
def mpElem (v : Value) : Option (DataW Unit × List MemPlace) :=
  match v with
  | .map (some g) => some (.lit (.int .i64 g), [])
  | .map none => some (.lit (.int .i64 (-1)), [])
  | _ => none
def slData (g n c : Nat) : DataW Unit := .slice [.lit (.int .i64 g), .lit (.int .i64 n), .lit (.int .i64 c)] []
theorem slElem_inv {v : Value} {g n c : Nat} {ps : List MemPlace} (h : slElem v = some (slData g n c, ps)) : v = .slice (some ⟨g, 0, none⟩) n c := by
  unfold slElem slData at h
  split at h
  · simp at h
    obtain ⟨⟨h1, h2, h3⟩, _⟩ := h
    have e1 : (_ : Nat) = g := Int.ofNat.inj h1
    have e2 : (_ : Nat) = n := Int.ofNat.inj h2
    have e3 : (_ : Nat) = c := Int.ofNat.inj h3
    rw [e1, e2, e3]
  · simp at h
  · cases h
theorem slElem_nil {v : Value} {ps : List MemPlace} (h : slElem v = some (.nil, ps)) : v = .slice none 0 0 := by
  unfold slElem at h
  split at h
  · simp at h
  · rfl
  · cases h
theorem mpElem_inv {v : Value} {g : Nat} {ps : List MemPlace} (h : mpElem v = some (.lit (.int .i64 g), ps)) : v = .map (some g) := by
  unfold mpElem at h
  split at h
  · simp at h
    have e1 : (_ : Nat) = g := Int.ofNat.inj h.1
    rw [e1]
  · simp at h
  · cases h
theorem mpElem_nil {v : Value} {ps : List MemPlace} (h : mpElem v = some (.lit (.int .i64 (-1)), ps)) : v = .map none := by
  unfold mpElem at h
  split at h
  · simp at h
  · rfl
  · cases h

abbrev GOf := Int → Option (Nat × Nat × List Bs)
abbrev QW := Bs → Option (Nat × (Int → Bool))
def TiesO (D : DataW Unit) (G : GOf) : Prop := ∀ id, match G id with
  | none => Maps.has D (.int .i64 id) = false
  | some (g, c, ss) => Maps.has D (.int .i64 id) = true ∧ D.atKey (.int .i64 id) .nil = slData g ss.length c
def TiesW (D : DataW Unit) (Q : QW) : Prop := ∀ k, match Q k with
  | none => Maps.has D (.string k) = false
  | some (g, _) => Maps.has D (.string k) = true ∧ D.atKey (.string k) (.lit (.int .i64 (-1))) = .lit (.int .i64 g)
def OfAt (w : World) (mo : Option Nat) (N : Nat) (G : GOf) : Prop := (mo = none ∧ ∀ id, G id = none) ∨ ∃ m D, mo = some m ∧ w.ownsMap Tryd.prog 2 slElem m N D ∧ TiesO D G
def WiAt (w : World) (mw : Option Nat) (N : Nat) (Q : QW) : Prop := (mw = none ∧ ∀ k, Q k = none) ∨ ∃ m D, mw = some m ∧ w.ownsMap Tryd.prog 9 mpElem m N D ∧ TiesW D Q
structure KAt (w : World) (B b : Nat) (mo mw : Option Nat) (G : GOf) (Q : QW) (N : Nat) : Prop where
  blk : w.heap[b]? = some (.cells #[.map mo, .map mw] 50 (0, 0))
  of : OfAt w mo N G
  wi : WiAt w mw N Q
  rows : ∀ id g c ss, G id = some (g, c, ss) → SRow w B (.slice (some ⟨g, 0, none⟩) ss.length c) ss
  sets : ∀ k g S, Q k = some (g, S) → ISet w g N S ∧ B ≤ g ∧ mo ≠ some g ∧ mw ≠ some g
  inj : ∀ k k' g S S', Q k = some (g, S) → Q k' = some (g, S') → k = k'
  both : ∀ m, mo = some m → mw ≠ some m
  low : B ≤ w.heap.size
  lowo : ∀ m, mo = some m → B ≤ m
  loww : ∀ m, mw = some m → B ≤ m
theorem zero23 (w : World) : (zeroValue 23).run Tryd.prog w = .ok (.slice none 0 0) w := Tryd.zeroValue23 w
theorem zero59 (w : World) : (zeroValue 54).run Tryd.prog w = .ok (.map none) w := Tryd.zeroValue54 w
section
variable {w w' : World} {B b : Nat} {mo mw : Option Nat} {G : GOf} {Q : QW} {N : Nat}
/-- 'l, there := m.of[id]'. -/
theorem OfAt.look (h : OfAt w mo N G) {id : Int} (hk : (Lit.int .i64 id).wf = true) (ok : Bool) :
    (G id = none → (Instr.lookup 47 (.map mo) (.int .i64 id) ok).run Tryd.prog w = .ok (if ok then .tuple #[.slice none 0 0, .bool false] else .slice none 0 0) w) ∧
    ∀ g c ss, G id = some (g, c, ss) → (Instr.lookup 47 (.map mo) (.int .i64 id) ok).run Tryd.prog w = .ok (if ok then .tuple #[.slice (some ⟨g, 0, none⟩) ss.length c, .bool true] else .slice (some ⟨g, 0, none⟩) ss.length c) w := by
  rcases h with ⟨rfl, h0⟩ | ⟨m, D, rfl, hown, ht⟩
  · refine ⟨fun _ => Maps.look_nil (w := w) ok law2 Tryd.underlying47 (zero23 w) (key2 hk), fun g c ss e => ?_⟩
    rw [h0] at e; cases e
  · have hk' := ht id
    cases ok with
    | true =>
      obtain ⟨v, ps, hrun, hv⟩ := hown.look_ok law2 Tryd.underlying47 (zero23 w) (zd := .nil) (zp := []) rfl (key2 hk)
      refine ⟨fun e => ?_, fun g c ss e => ?_⟩
      · rw [e] at hk'
        rw [hk'] at hrun
        rw [atKey_of_not_has hk'] at hv
        rw [slElem_nil hv] at hrun
        exact hrun
      · rw [e] at hk'
        rw [hk'.1] at hrun
        rw [hk'.2] at hv
        rw [slElem_inv hv] at hrun
        exact hrun
    | false =>
      obtain ⟨v, ps, hrun, hv⟩ := hown.lookup law2 Tryd.underlying47 (zero23 w) (zd := .nil) (zp := []) rfl (key2 hk)
      refine ⟨fun e => ?_, fun g c ss e => ?_⟩
      · rw [e] at hk'
        rw [atKey_of_not_has hk'] at hv
        rw [slElem_nil hv] at hrun
        exact hrun
      · rw [e] at hk'
        rw [hk'.2] at hv
        rw [slElem_inv hv] at hrun
        exact hrun
/-- 'm.with[k]'. -/
theorem WiAt.look (h : WiAt w mw N Q) {k : Bs} (hk : k.length ≤ 1000000) :
    (Q k = none → (Instr.lookup 48 (.map mw) (.string ⟨k.toArray⟩) false).run Tryd.prog w = .ok (.map none) w) ∧
    ∀ g S, Q k = some (g, S) → (Instr.lookup 48 (.map mw) (.string ⟨k.toArray⟩) false).run Tryd.prog w = .ok (.map (some g)) w := by
  rcases h with ⟨rfl, h0⟩ | ⟨m, D, rfl, hown, ht⟩
  · refine ⟨fun _ => Maps.look_nil (w := w) false law9 Tryd.underlying48 (zero59 w) (key9 hk), fun g S e => ?_⟩
    rw [h0] at e; cases e
  · have hk' := ht k
    obtain ⟨v, ps, hrun, hv⟩ := hown.lookup law9 Tryd.underlying48 (zero59 w) (zd := .lit (.int .i64 (-1))) (zp := []) rfl (key9 hk)
    refine ⟨fun e => ?_, fun g S e => ?_⟩
    · rw [e] at hk'
      rw [atKey_of_not_has hk'] at hv
      rw [mpElem_nil hv] at hrun
      exact hrun
    · rw [e] at hk'
      rw [hk'.2] at hv
      rw [mpElem_inv hv] at hrun
      exact hrun

/-- What lies below B, and every row but the Map's own block, is as it was. -/
structure Fk (B b : Nat) (w w' : World) : Prop where
  os : w'.os = w.os
  tape : w'.tape = w.tape
  output : w'.output = w.output
  size : w.heap.size ≤ w'.heap.size
  block : ∀ i, i < w.heap.size → i ≠ b → (i < B ∨ ∃ cs t z, w.heap[i]? = some (.cells cs t z)) → w'.heap[i]? = w.heap[i]?
theorem Fk.refl (B b : Nat) (w : World) : Fk B b w w := ⟨rfl, rfl, rfl, Nat.le_refl _, fun _ _ _ _ => rfl⟩
theorem Fk.trans {w1 w2 w3 : World} (h : Fk B b w1 w2) (k : Fk B b w2 w3) : Fk B b w1 w3 :=
  ⟨k.os.trans h.os, k.tape.trans h.tape, k.output.trans h.output, Nat.le_trans h.size k.size, fun i hi hb hc => by
    have e := h.block i hi hb hc
    rw [k.block i (Nat.lt_of_lt_of_le hi h.size) hb (by rw [e]; exact hc), e]⟩
theorem Fk.of_ext (h : Ext w w') (B b : Nat) : Fk B b w w' := ⟨h.os, h.tape, h.output, h.size, fun i hi _ _ => h.block i hi⟩
theorem Fk.below (h : Fk B b w w') (hB : B ≤ w.heap.size) (hb : B ≤ b) : Below B w w' := ⟨h.os, h.tape, h.output, h.size, fun i hi => h.block i (Nat.lt_of_lt_of_le hi hB) (by omega) (.inl hi)⟩
theorem Fk.heap (h : Fk B b w w') {i : Nat} {cs : Array Value} {t : TypeId} {z : Nat × Nat} (hi : w.heap[i]? = some (.cells cs t z)) (hb : i ≠ b) : w'.heap[i]? = some (.cells cs t z) := (h.block i (blk_lt hi) hb (.inr ⟨_, _, _, hi⟩)).trans hi
theorem Fk.turned {m : Nat} {es : Array MapEntry} {cl : Nat} (ht : w.mapTurned w' m) (hm : w.heap[m]? = some (.map es cl)) (hB : B ≤ m) (b : Nat) : Fk B b w w' := by
  have hg := ht.grown
  refine ⟨hg.os, hg.tape, hg.output, hg.size, fun i hi _ hc => hg.block i hi ?_⟩
  intro e; injection e with e; subst e
  rcases hc with hc | ⟨cs, t, z, hh⟩
  · omega
  · rw [hm] at hh; cases hh
theorem Fk.cell {p : Addr} (h : Fk B b w w') {v : Value} (hp : w.cell? p = some v) (hb : p.block ≠ b) : w'.cell? p = some v := by
  have : ∃ cs t z, w.heap[p.block]? = some (.cells cs t z) := by
    unfold World.cell? at hp
    split at hp
    · rename_i cs t z hh; exact ⟨cs, t, z, hh⟩
    · cases hp
  obtain ⟨cs, t, z, hh⟩ := this
  rw [World.cell?_of_block (h.block p.block (blk_lt hh) hb (.inr ⟨cs, t, z, hh⟩))]; exact hp

theorem KAt.ext (h : KAt w B b mo mw G Q N) (hx : Ext w w') : KAt w' B b mo mw G Q N := by
  refine ⟨hx.heap h.blk, ?_, ?_, fun id g c ss e => ownsRow_below (h.rows id g c ss e) hx, fun k g S e => ?_, h.inj, h.both, Nat.le_trans h.low hx.size, h.lowo, h.loww⟩
  · rcases h.of with h0 | ⟨m, D, rfl, hown, ht⟩
    · exact .inl h0
    · exact .inr ⟨m, D, rfl, hown.kept (row := none) (Below.grownNone hx none) (by simp), ht⟩
  · rcases h.wi with h0 | ⟨m, D, rfl, hown, ht⟩
    · exact .inl h0
    · exact .inr ⟨m, D, rfl, hown.kept (row := none) (Below.grownNone hx none) (by simp), ht⟩
  · obtain ⟨h1, h2⟩ := h.sets k g S e
    obtain ⟨es, cl, he⟩ := h1.at_
    exact ⟨h1.same (hx.block g (blk_lt he)), h2⟩
theorem OfAt.same {m : Nat} (h : OfAt w (some m) N G) (hs : w'.heap[m]? = w.heap[m]?) : OfAt w' (some m) N G := by
  rcases h with ⟨e, _⟩ | ⟨m', D, e, ⟨es, cl, he, hr⟩, ht⟩
  · cases e
  · injection e with e; subst e
    exact .inr ⟨m, D, rfl, ⟨es, cl, hs.trans he, hr⟩, ht⟩
theorem WiAt.same {m : Nat} (h : WiAt w (some m) N Q) (hs : w'.heap[m]? = w.heap[m]?) : WiAt w' (some m) N Q := by
  rcases h with ⟨e, _⟩ | ⟨m', D, e, ⟨es, cl, he, hr⟩, ht⟩
  · cases e
  · injection e with e; subst e
    exact .inr ⟨m, D, rfl, ⟨es, cl, hs.trans he, hr⟩, ht⟩
theorem OfAt.at_ {m : Nat} (h : OfAt w (some m) N G) : ∃ es cl, w.heap[m]? = some (.map es cl) := by
  rcases h with ⟨e, _⟩ | ⟨m', D, e, ⟨es, cl, he, hr⟩, ht⟩
  · cases e
  · injection e with e; subst e; exact ⟨es, cl, he⟩
theorem WiAt.at_ {m : Nat} (h : WiAt w (some m) N Q) : ∃ es cl, w.heap[m]? = some (.map es cl) := by
  rcases h with ⟨e, _⟩ | ⟨m', D, e, ⟨es, cl, he, hr⟩, ht⟩
  · cases e
  · injection e with e; subst e; exact ⟨es, cl, he⟩
/-- One map object turns; the rest stays. -/
theorem turn_cells {m : Nat} {es : Array MapEntry} {cl : Nat} (ht : w.mapTurned w' m) (hm : w.heap[m]? = some (.map es cl)) {i : Nat} {cs : Array Value} {t : TypeId} {z : Nat × Nat} (hi : w.heap[i]? = some (.cells cs t z)) : w'.heap[i]? = some (.cells cs t z) :=
  (ht.grown.block i (blk_lt hi) (fun e => by injection e with e; subst e; rw [hm] at hi; cases hi)).trans hi
theorem turn_row {m : Nat} {es : Array MapEntry} {cl : Nat} (ht : w.mapTurned w' m) (hm : w.heap[m]? = some (.map es cl)) {B : Nat} {v : Value} {ss : List Bs} (h : SRow w B v ss) : SRow w' B v ss := by
  refine ⟨h.1, ?_⟩
  rcases h.2 with hn | ⟨g, cap, cur, rfl, hb, hgg, rest⟩
  · exact .inl hn
  · exact .inr ⟨g, cap, cur, rfl, hb, turn_cells ht hm hgg, rest⟩
theorem turn_other {m : Nat} (ht : w.mapTurned w' m) {i : Nat} (hi : i < w.heap.size) (hne : i ≠ m) : w'.heap[i]? = w.heap[i]? :=
  ht.grown.block i hi (fun e => by injection e with e; exact hne e)
def updQ (Q : QW) (k : Bs) (v : Option (Nat × (Int → Bool))) : QW := fun x => if x = k then v else Q x
def updG (G : GOf) (id : Int) (v : Option (Nat × Nat × List Bs)) : GOf := fun x => if x = id then v else G x
theorem updQ_same (Q : QW) (k : Bs) (v : Option (Nat × (Int → Bool))) : updQ Q k v k = v := by simp [updQ]
theorem updQ_other (Q : QW) {k k' : Bs} (h : k' ≠ k) (v : Option (Nat × (Int → Bool))) : updQ Q k v k' = Q k' := by simp [updQ, h]
theorem updG_same (G : GOf) (k : Int) (v : Option (Nat × Nat × List Bs)) : updG G k v k = v := by simp [updG]
theorem updG_other (G : GOf) {k k' : Int} (h : k' ≠ k) (v : Option (Nat × Nat × List Bs)) : updG G k v k' = G k' := by simp [updG, h]
/-- A set of the map with turns. -/
theorem KAt.set (h : KAt w B b mo mw G Q N) {k : Bs} {g : Nat} {S S' : Int → Bool} (hQ : Q k = some (g, S)) {M : Nat} (hNM : N ≤ M) (hs : ISet w' g M S') (ht : w.mapTurned w' g) : KAt w' B b mo mw G (updQ Q k (some (g, S'))) M := by
  obtain ⟨s1, s2, s3, s4⟩ := h.sets k g S hQ
  obtain ⟨es, cl, he⟩ := s1.at_
  refine ⟨turn_cells ht he h.blk, ?_, ?_, fun id g1 c ss e => turn_row ht he (h.rows id g1 c ss e), fun k1 g1 S1 e => ?_, fun k1 k2 g1 S1 S2 e1 e2 => ?_, h.both, Nat.le_trans h.low ht.grown.size, h.lowo, h.loww⟩
  · have h0 : OfAt w mo M G := by
      rcases h.of with h0 | ⟨m, D, rfl, hown, ht'⟩
      · exact .inl h0
      · exact .inr ⟨m, D, rfl, hown.mono hNM, ht'⟩
    cases mo with
    | none =>
      rcases h0 with h0 | ⟨m, D, e, _⟩
      · exact .inl h0
      · cases e
    | some m =>
      obtain ⟨_, _, hm⟩ := h0.at_
      exact h0.same (turn_other ht (blk_lt hm) (fun e => s3 (by rw [e])))
  · have h0 : WiAt w mw M (updQ Q k (some (g, S'))) := by
      rcases h.wi with ⟨rfl, h0⟩ | ⟨m, D, rfl, hown, ht'⟩
      · rw [h0] at hQ; cases hQ
      · refine .inr ⟨m, D, rfl, hown.mono hNM, fun x => ?_⟩
        have hx := ht' x
        by_cases e : x = k
        · subst e; rw [updQ_same]; rw [hQ] at hx; exact hx
        · rw [updQ_other Q e]; exact hx
    cases mw with
    | none =>
      rcases h0 with h0 | ⟨m, D, e, _⟩
      · exact .inl h0
      · cases e
    | some m =>
      obtain ⟨_, _, hm⟩ := h0.at_
      exact h0.same (turn_other ht (blk_lt hm) (fun e => s4 (by rw [e])))
  · by_cases e' : k1 = k
    · subst e'; rw [updQ_same] at e; injection e with e; injection e with e1 e2; subst e1; subst e2
      exact ⟨hs, s2, s3, s4⟩
    · rw [updQ_other Q e'] at e
      obtain ⟨t1, t2⟩ := h.sets k1 g1 S1 e
      obtain ⟨es1, cl1, he1⟩ := t1.at_
      have hne : g1 ≠ g := fun x => by subst x; exact e' (h.inj _ _ _ _ _ e hQ)
      obtain ⟨D, hd, hh⟩ := t1.same (turn_other ht (blk_lt he1) hne)
      exact ⟨⟨D, hd.mono hNM, hh⟩, t2⟩
  · have key : ∀ k1 g1 S1, updQ Q k (some (g, S')) k1 = some (g1, S1) → ∃ S0, Q k1 = some (g1, S0) := fun k1 g1 S1 e => by
      by_cases e' : k1 = k
      · subst e'; rw [updQ_same] at e; injection e with e; injection e with e1 e2; subst e1; exact ⟨_, hQ⟩
      · rw [updQ_other Q e'] at e; exact ⟨_, e⟩
    obtain ⟨_, f1⟩ := key _ _ _ e1; obtain ⟨_, f2⟩ := key _ _ _ e2
    exact h.inj _ _ _ _ _ f1 f2
end
end Go.Proofs.YtgbhhofmghgpbaaDoor
