/- Maps with texts for keys, of whatever elements. -/
import Derived.Test.YtjphpblangeblaaDoorBase
import Derived.Maps.OwnSet
import Derived.Maps.OwnOps
import Derived.Maps.Ext
import Derived.Lib.SlKeysI
namespace Go.Proofs.YtjphpblangeblaaDoor
open Go.RowKit Go.Maps Go.ChangeMaps
set_option linter.unusedVariables false
set_option linter.unusedSimpArgs false

theorem lawS : Keyed Tryd.prog 9 := string_keyed Tryd.underlying9
theorem keyS {t : Bs} (h : t.length ≤ 1000000) : keyOf Tryd.prog 9 (.string ⟨t.toArray⟩) = some (.string t) := by
  have := Go.WideMaps.keyOf_string_mk (P := Tryd.prog) Tryd.underlying9 (s := ⟨t.toArray⟩) (by simp [ByteArray.size, maxLen]; omega)
  simpa using this
theorem isKeyS (t : Bs) : WideAt.IsKeyLit (Lit.string t) := by trivial
theorem ne_str {k k' : Bs} (h : k' ≠ k) : (Lit.string k' : Lit) ≠ .string k := fun e => by injection e with e; exact h e
/-- A kind of elements. -/
structure ElemK (β : Type) where
  R : Value → Option (DataW Unit × List MemPlace)
  enc : β → Value
  de : β → DataW Unit
  zv : Value
  dz : DataW Unit
  ok : ∀ b, R (enc b) = some (de b, [])
  inv : ∀ v b ps, R v = some (de b, ps) → v = enc b
  okz : R zv = some (dz, [])
  zinv : ∀ v ps, R v = some (dz, ps) → v = zv
def GMap {β : Type} (E : ElemK β) (w : World) (m N : Nat) (F : Bs → Option β) : Prop := ∃ D : DataW Unit, w.ownsMap Tryd.prog 9 E.R m N D ∧ ∀ k, match F k with
  | none => Maps.has D (.string k) = false
  | some b => Maps.has D (.string k) = true ∧ D.atKey (.string k) E.dz = E.de b
def upd {β : Type} (F : Bs → Option β) (k : Bs) (v : Option β) : Bs → Option β := fun x => if x = k then v else F x
section
variable {β : Type} {E : ElemK β} {w w' : World} {m N : Nat} {F : Bs → Option β}
theorem upd_same (F : Bs → Option β) (k : Bs) (v : Option β) : upd F k v k = v := by simp [upd]
theorem upd_other (F : Bs → Option β) {k k' : Bs} (h : k' ≠ k) (v : Option β) : upd F k v k' = F k' := by simp [upd, h]
theorem GMap.made (E : ElemK β) (w : World) : GMap E (w.alloc (.map #[] 0)) w.heap.size 0 (fun _ => none) := ⟨_, World.ownsMap_made w Tryd.prog 9 E.R, fun _ => rfl⟩
theorem GMap.at_ (h : GMap E w m N F) : ∃ es cl, w.heap[m]? = some (.map es cl) := by
  obtain ⟨D, ⟨es, cl, he, _⟩, _⟩ := h; exact ⟨es, cl, he⟩
theorem GMap.same (h : GMap E w m N F) (hs : w'.heap[m]? = w.heap[m]?) : GMap E w' m N F := by
  obtain ⟨D, ⟨es, cl, he, hr⟩, ht⟩ := h
  exact ⟨D, ⟨es, cl, hs.trans he, hr⟩, ht⟩
theorem GMap.more {M : Nat} (h : GMap E w m N F) (hM : N ≤ M) : GMap E w m M F := by
  obtain ⟨D, h1, h2⟩ := h
  exact ⟨D, h1.mono hM, h2⟩
theorem GMap.look (h : GMap E w m N F) {ty te : TypeId} (hu : Tryd.prog.underlying ty = some (.map 9 te)) (hz : (zeroValue te).run Tryd.prog w = .ok E.zv w) {k : Bs} (hk : k.length ≤ 1000000) :
    (Instr.lookup ty (.map (some m)) (.string ⟨k.toArray⟩) false).run Tryd.prog w = .ok (match F k with | none => E.zv | some b => E.enc b) w := by
  obtain ⟨D, hown, ht⟩ := h
  have hk' := ht k
  obtain ⟨v, ps, hrun, hv⟩ := hown.lookup lawS hu hz (zd := E.dz) (zp := []) E.okz (keyS hk)
  cases e : F k with
  | none =>
    rw [e] at hk'
    rw [atKey_of_not_has hk'] at hv
    rw [E.zinv _ _ hv] at hrun
    exact hrun
  | some b =>
    rw [e] at hk'
    rw [hk'.2] at hv
    rw [E.inv _ _ _ hv] at hrun
    exact hrun
theorem GMap.look_ok (h : GMap E w m N F) {ty te : TypeId} (hu : Tryd.prog.underlying ty = some (.map 9 te)) (hz : (zeroValue te).run Tryd.prog w = .ok E.zv w) {k : Bs} (hk : k.length ≤ 1000000) :
    (Instr.lookup ty (.map (some m)) (.string ⟨k.toArray⟩) true).run Tryd.prog w = .ok (.tuple #[(match F k with | none => E.zv | some b => E.enc b), .bool (F k).isSome]) w := by
  obtain ⟨D, hown, ht⟩ := h
  have hk' := ht k
  obtain ⟨v, ps, hrun, hv⟩ := hown.look_ok lawS hu hz (zd := E.dz) (zp := []) E.okz (keyS hk)
  cases e : F k with
  | none =>
    rw [e] at hk'
    rw [hk'] at hrun
    rw [atKey_of_not_has hk'] at hv
    rw [E.zinv _ _ hv] at hrun
    exact hrun
  | some b =>
    rw [e] at hk'
    rw [hk'.1] at hrun
    rw [hk'.2] at hv
    rw [E.inv _ _ _ hv] at hrun
    exact hrun
theorem GMap.put (h : GMap E w m N F) (hN : N ≤ 1000000) {ty te : TypeId} (hu : Tryd.prog.underlying ty = some (.map 9 te)) {k : Bs} (hk : k.length ≤ 1000000) (b : β) :
    ∃ w', (Instr.mapUpdate ty (.map (some m)) (.string ⟨k.toArray⟩) (E.enc b)).run Tryd.prog w = .ok () w' ∧ GMap E w' m (N + 1) (upd F k (some b)) ∧ w.mapTurned w' m := by
  obtain ⟨D, hown, ht⟩ := h
  obtain ⟨w', hrun, hown', hturn⟩ := hown.store lawS hu (by unfold maxLen; omega) (keyS hk) (val := E.enc b) (d := E.de b) (ps := []) (E.ok b)
  refine ⟨w', hrun, ⟨_, hown', fun x => ?_⟩, hturn⟩
  have hx := ht x
  by_cases e : x = k
  · subst e; rw [upd_same]
    exact ⟨has_put_same hown.isMap (isKeyS _) _, atKey_put_same hown.isMap (isKeyS _) _ _⟩
  · rw [upd_other F e]
    have h1 := has_put_other (D := D) (ne_str e) (E.de b)
    have h2 := atKey_put_other (D := D) (ne_str e) (E.de b) E.dz
    split
    · rename_i hn; rw [hn] at hx; rw [h1]; exact hx
    · rename_i hn; rw [hn] at hx; rw [h1, h2]; exact hx
theorem GMap.del (h : GMap E w m N F) {ty te : TypeId} (hu : Tryd.prog.underlying ty = some (.map 9 te)) {k : Bs} (hk : k.length ≤ 1000000) (rt : TypeId) :
    ∃ w', (Builtin.delete_ #[ty, 9] rt #[.map (some m), .string ⟨k.toArray⟩]).run Tryd.prog w = .ok (.tuple #[]) w' ∧ GMap E w' m N (upd F k none) ∧ w.mapTurned w' m := by
  obtain ⟨D, hown, ht⟩ := h
  obtain ⟨w', hrun, hown', hturn⟩ := hown.drop lawS hu (keyS hk) rt
  refine ⟨w', hrun, ⟨_, hown', fun x => ?_⟩, hturn⟩
  have hx := ht x
  by_cases e : x = k
  · subst e; rw [upd_same]; exact has_del_same
  · rw [upd_other F e]
    have h1 := has_del_other (D := D) (ne_str e)
    have h2 := atKey_del_other (D := D) (ne_str e) E.dz
    split
    · rename_i hn; rw [hn] at hx; rw [h1]; exact hx
    · rename_i hn; rw [hn] at hx; rw [h1, h2]; exact hx
/-- A map or nil. -/
def OMap (E : ElemK β) (w : World) (mo : Option Nat) (N : Nat) (F : Bs → Option β) : Prop := (mo = none ∧ ∀ k, F k = none) ∨ ∃ m, mo = some m ∧ GMap E w m N F
theorem OMap.look {mo : Option Nat} (h : OMap E w mo N F) {ty te : TypeId} (hu : Tryd.prog.underlying ty = some (.map 9 te)) (hz : (zeroValue te).run Tryd.prog w = .ok E.zv w) {k : Bs} (hk : k.length ≤ 1000000) :
    (Instr.lookup ty (.map mo) (.string ⟨k.toArray⟩) false).run Tryd.prog w = .ok (match F k with | none => E.zv | some b => E.enc b) w := by
  rcases h with ⟨rfl, h0⟩ | ⟨m, rfl, h⟩
  · rw [h0]; exact Maps.look_nil (w := w) false lawS hu hz (keyS hk)
  · exact h.look hu hz hk
theorem OMap.look_ok {mo : Option Nat} (h : OMap E w mo N F) {ty te : TypeId} (hu : Tryd.prog.underlying ty = some (.map 9 te)) (hz : (zeroValue te).run Tryd.prog w = .ok E.zv w) {k : Bs} (hk : k.length ≤ 1000000) :
    (Instr.lookup ty (.map mo) (.string ⟨k.toArray⟩) true).run Tryd.prog w = .ok (.tuple #[(match F k with | none => E.zv | some b => E.enc b), .bool (F k).isSome]) w := by
  rcases h with ⟨rfl, h0⟩ | ⟨m, rfl, h⟩
  · rw [h0]; exact Maps.look_nil (w := w) true lawS hu hz (keyS hk)
  · exact h.look_ok hu hz hk
theorem OMap.same {mo : Option Nat} (h : OMap E w mo N F) (hs : ∀ m, mo = some m → w'.heap[m]? = w.heap[m]?) : OMap E w' mo N F := by
  rcases h with h | ⟨m, rfl, h⟩
  · exact .inl h
  · exact .inr ⟨m, rfl, h.same (hs m rfl)⟩
theorem OMap.more {mo : Option Nat} {M : Nat} (h : OMap E w mo N F) (hM : N ≤ M) : OMap E w mo M F := by
  rcases h with h | ⟨m, rfl, h⟩
  · exact .inl h
  · exact .inr ⟨m, rfl, h.more hM⟩
theorem OMap.lt {m : Nat} (h : OMap E w (some m) N F) : ∃ es cl, w.heap[m]? = some (.map es cl) := by
  rcases h with ⟨e, _⟩ | ⟨m', e, h⟩
  · cases e
  · cases e; exact h.at_
end
/-- Numbers. -/
def naR (v : Value) : Option (DataW Unit × List MemPlace) :=
  match v with
  | .int .i64 n => some (.lit (.int .i64 n), [])
  | _ => none
def naE : ElemK Nat where
  R := naR
  enc b := .int .i64 b
  de b := .lit (.int .i64 b)
  zv := .int .i64 0
  dz := .lit (.int .i64 0)
  ok b := rfl
  inv v b ps h := by
    unfold naR at h
    split at h
    · simp at h; rw [h.1]
    · cases h
  okz := rfl
  zinv v ps h := by
    unfold naR at h
    split at h
    · simp at h; rw [h.1]
    · cases h
/-- Bools. -/
def boR (v : Value) : Option (DataW Unit × List MemPlace) :=
  match v with
  | .bool b => some (.lit (.bool b), [])
  | _ => none
def boE : ElemK Bool where
  R := boR
  enc b := .bool b
  de b := .lit (.bool b)
  zv := .bool false
  dz := .lit (.bool false)
  ok b := rfl
  inv v b ps h := by
    unfold boR at h
    split at h
    · simp at h; rw [h.1]
    · cases h
  okz := rfl
  zinv v ps h := by
    unfold boR at h
    split at h
    · simp at h; rw [h.1]
    · cases h
theorem turned_ext {w w' : World} {m : Nat} (h : w.mapTurned w' m) : ExtB [m] w w' := by
  have hg := h.grown
  refine ⟨hg.os, hg.tape, hg.output, hg.size, fun i hi hx => hg.block i hi ?_⟩
  intro e; injection e with e; subst e; exact hx (by simp)
theorem zeroB (w : World) : (zeroValue 4).run Tryd.prog w = .ok (.bool false) w := by kernel_rfl
theorem zeroI (w : World) : (zeroValue 3).run Tryd.prog w = .ok (.int .i64 0) w := by kernel_rfl
theorem size_bool : (Tryd.prog.info? 4).map (·.size) = some 1 := by kernel_rfl
theorem size_int : (Tryd.prog.info? 3).map (·.size) = some 1 := by kernel_rfl
end Go.Proofs.YtjphpblangeblaaDoor
