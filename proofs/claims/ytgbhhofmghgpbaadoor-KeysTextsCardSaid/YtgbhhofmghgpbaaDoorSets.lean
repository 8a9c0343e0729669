/- Maps as sets: of numbers, of texts; what is in them, sorted. -/
import Derived.Test.YtgbhhofmghgpbaaDoorSorts
import Derived.Maps.OwnSet
import Derived.Lib.SlKeysI
namespace Go.Proofs.YtgbhhofmghgpbaaDoor
open Go.RowKit Go.Sort Go.Shelf Go.Maps Go.ChangeMaps
set_option linter.unusedVariables false

theorem law9 : Keyed Tryd.prog 9 := string_keyed Tryd.underlying9
theorem law2 : Keyed Tryd.prog 2 := int_keyed Tryd.underlying2
theorem key2 {k : Int} (hk : (Lit.int .i64 k).wf = true) : keyOf Tryd.prog 2 (.int .i64 k) = some (.int .i64 k) := keyOf_int_mk Tryd.underlying2 hk
theorem key9 {t : Bs} (h : t.length ≤ 1000000) : keyOf Tryd.prog 9 (.string ⟨t.toArray⟩) = some (.string t) := by
  have := Go.WideMaps.keyOf_string_mk (P := Tryd.prog) Tryd.underlying9 (s := ⟨t.toArray⟩) (by simp [ByteArray.size, maxLen]; omega)
  simpa using this
theorem isKeyS (t : Bs) : WideAt.IsKeyLit (Lit.string t) := by trivial
theorem isKeyI (k : Int) : WideAt.IsKeyLit (Lit.int .i64 k) := by trivial
theorem ne_int {k k' : Int} (h : k' ≠ k) : (Lit.int .i64 k' : Lit) ≠ .int .i64 k := fun e => by injection e with _ e; exact h e
theorem ne_str {k k' : Bs} (h : k' ≠ k) : (Lit.string k' : Lit) ≠ .string k := fun e => by injection e with e; exact h e

theorem strKeys_nodup {R : Value → Option (DataW Unit × List MemPlace)} {w : World} {b n : Nat} {D : DataW Unit} (h : w.ownsMap Tryd.prog 9 R b n D) : (strKeys D).Nodup ∧ ∀ x, x ∈ strKeys D ↔ Maps.has D (.string x) = true := by
  obtain ⟨es, rfl, hp, hlit⟩ := h.canon law9
  obtain ⟨es', he, hkeys⟩ := h.keysOf
  injection he with he
  subst he
  have hk : ∀ p ∈ es, ∃ x, p.1 = .string x := fun p hpm => by
    obtain ⟨v, hv⟩ := hkeys p hpm
    obtain ⟨x, _, hx, _⟩ := Maps.keyOf_str Tryd.underlying9 hv
    exact ⟨x, hx⟩
  constructor
  · show (es.map fun p => strOf p.1).Nodup
    refine List.pairwise_map.2 ((apart_of_rising hp).imp_of_mem fun {p q} hp' hq' hne e => hne ?_)
    obtain ⟨a, ha⟩ := hk p hp'
    obtain ⟨b, hb⟩ := hk q hq'
    rw [ha, hb] at e ⊢
    exact congrArg _ e
  · intro x
    rw [has_eq, List.any_eq_true]
    show x ∈ es.map (fun p => strOf p.1) ↔ _
    rw [List.mem_map]
    constructor
    · rintro ⟨p, hpm, rfl⟩
      obtain ⟨a, ha⟩ := hk p hpm
      refine ⟨p, hpm, ?_⟩
      rw [ha]; exact WideAt.sameKey_self (isKeyS a)
    · rintro ⟨p, hpm, hs⟩
      exact ⟨p, hpm, by rw [WideAt.sameKey_eq hs]; rfl⟩
theorem intKeys_nodup {R : Value → Option (DataW Unit × List MemPlace)} {w : World} {b n : Nat} {D : DataW Unit} (h : w.ownsMap Tryd.prog 2 R b n D) : (intKeys D).Nodup ∧ ∀ x, x ∈ intKeys D ↔ Maps.has D (.int .i64 x) = true := by
  obtain ⟨es, rfl, hp, hlit⟩ := h.canon law2
  obtain ⟨es', he, hkeys⟩ := h.keysOf
  injection he with he
  subst he
  have hk : ∀ p ∈ es, ∃ x, p.1 = .int .i64 x := fun p hpm => by
    obtain ⟨v, hv⟩ := hkeys p hpm
    obtain ⟨x, _, hx, _⟩ := Maps.keyOf_int_inv Tryd.underlying2 hv
    exact ⟨x, hx⟩
  constructor
  · show (es.map fun p => Go.intOf p.1).Nodup
    refine List.pairwise_map.2 ((apart_of_rising hp).imp_of_mem fun {p q} hp' hq' hne e => hne ?_)
    obtain ⟨a, ha⟩ := hk p hp'
    obtain ⟨b, hb⟩ := hk q hq'
    rw [ha, hb] at e ⊢
    exact congrArg _ e
  · intro x
    rw [has_eq, List.any_eq_true]
    show x ∈ es.map (fun p => Go.intOf p.1) ↔ _
    rw [List.mem_map]
    constructor
    · rintro ⟨p, hpm, rfl⟩
      obtain ⟨a, ha⟩ := hk p hpm
      refine ⟨p, hpm, ?_⟩
      rw [ha]; exact WideAt.sameKey_self (isKeyI a)
    · rintro ⟨p, hpm, hs⟩
      exact ⟨p, hpm, by rw [WideAt.sameKey_eq hs]; rfl⟩

/-- A set of numbers: a map[int64]bool. -/
def ISet (w : World) (b n : Nat) (S : Int → Bool) : Prop := ∃ D : DataW Unit, w.ownsMap Tryd.prog 2 (plainElem Tryd.prog 4) b n D ∧ ∀ k, Maps.has D (.int .i64 k) = S k
theorem rbTrue : (plainElem Tryd.prog 4 (.bool true) : Option (DataW Unit × List MemPlace)) = some (.lit (.bool true), []) := by simp [plainElem, Tryd.underlying4]
theorem ISet.made (w : World) : ISet (w.alloc (.map #[] 0)) w.heap.size 0 (fun _ => false) := ⟨_, World.ownsMap_made w Tryd.prog 2 (plainElem Tryd.prog 4), fun _ => rfl⟩
theorem ISet.at_ {w : World} {b n : Nat} {S : Int → Bool} (h : ISet w b n S) : ∃ es cl, w.heap[b]? = some (.map es cl) := by
  obtain ⟨D, ⟨es, cl, he, _⟩, _⟩ := h; exact ⟨es, cl, he⟩
theorem ISet.same {w w' : World} {b n : Nat} {S : Int → Bool} (h : ISet w b n S) (hs : w'.heap[b]? = w.heap[b]?) : ISet w' b n S := by
  obtain ⟨D, ⟨es, cl, he, hr⟩, ht⟩ := h
  exact ⟨D, ⟨es, cl, hs.trans he, hr⟩, ht⟩
theorem ISet.put {w : World} {b n : Nat} {S : Int → Bool} (h : ISet w b n S) (hn : n ≤ 1000000) {k : Int} (hk : (Lit.int .i64 k).wf = true) :
    ∃ w', (Instr.mapUpdate 54 (.map (some b)) (.int .i64 k) (.bool true)).run Tryd.prog w = .ok () w' ∧ ISet w' b (n + 1) (fun x => S x || decide (x = k)) ∧ w.mapTurned w' b := by
  obtain ⟨D, hown, ht⟩ := h
  obtain ⟨w', hrun, hown', hturn⟩ := hown.store law2 Tryd.underlying54 (by unfold maxLen; omega) (key2 hk) (val := .bool true) (d := .lit (.bool true)) (ps := []) rbTrue
  refine ⟨w', hrun, ⟨_, hown', fun x => ?_⟩, hturn⟩
  by_cases e : x = k
  · subst e; rw [has_put_same hown.isMap (isKeyI _)]; simp
  · rw [has_put_other (ne_int e), ht]; simp [e]
theorem ISet.del {w : World} {b n : Nat} {S : Int → Bool} (h : ISet w b n S) {k : Int} (hk : (Lit.int .i64 k).wf = true) (ty : TypeId) :
    ∃ w', (Builtin.delete_ #[54, 2] ty #[.map (some b), .int .i64 k]).run Tryd.prog w = .ok (.tuple #[]) w' ∧ ISet w' b n (fun x => S x && !decide (x = k)) ∧ w.mapTurned w' b := by
  obtain ⟨D, hown, ht⟩ := h
  obtain ⟨w', hrun, hown', hturn⟩ := hown.drop law2 Tryd.underlying54 (key2 hk) ty
  refine ⟨w', hrun, ⟨_, hown', fun x => ?_⟩, hturn⟩
  by_cases e : x = k
  · subst e; rw [has_del_same]; simp
  · rw [has_del_other (ne_int e), ht]; simp [e]
/-- len(m) == 0 just if there is nothing in it. -/
theorem ISet.len {w : World} {b n : Nat} {S : Int → Bool} (h : ISet w b n S) (ty : TypeId) : ∃ m : Nat, (Builtin.len_ #[54] ty #[.map (some b)]).run Tryd.prog w = .ok (.int .i64 m) w ∧ (m = 0 ↔ ∀ k, S k = false) := by
  obtain ⟨D, hown, ht⟩ := h
  refine ⟨_, hown.len Tryd.underlying54 ty, ?_⟩
  obtain ⟨h1, h2⟩ := intKeys_nodup hown
  have hsz : Maps.size D = (intKeys D).length := by
    obtain ⟨es, rfl, _⟩ := hown.canon law2
    simp [Maps.size, intKeys]
  rw [hsz]
  constructor
  · intro h0 k
    have hnil : intKeys D = [] := List.length_eq_zero_iff.1 h0
    have := h2 k
    rw [hnil, ht] at this
    cases hS : S k with
    | false => rfl
    | true => rw [hS] at this; exact absurd (this.2 rfl) (by simp)
  · intro h0
    rw [List.length_eq_zero_iff, List.eq_nil_iff_forall_not_mem]
    intro k hk
    have := (h2 k).1 hk
    rw [ht, h0] at this
    cases this
end Go.Proofs.YtgbhhofmghgpbaaDoor
