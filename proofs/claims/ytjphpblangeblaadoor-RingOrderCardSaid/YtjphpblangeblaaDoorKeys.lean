/- The names in the program's map: how many; look-ups and stores. -/
import Derived.Test.YtjphpblangeblaaDoorCmp
import Derived.Sort.KeysCollected
namespace Go.Proofs.YtjphpblangeblaaDoor
open Go.RowKit Go.Maps Go.ChangeMaps Go.Sort
set_option linter.unusedVariables false
set_option linter.unusedSimpArgs false
theorem strKeys_nodup {R : Value → Option (DataW Unit × List MemPlace)} {w : World} {b n : Nat} {D : DataW Unit} (h : w.ownsMap Tryd.prog 9 R b n D) : (strKeys D).Nodup ∧ ∀ x, x ∈ strKeys D ↔ Maps.has D (.string x) = true := by
  obtain ⟨es, rfl, hp, hlit⟩ := h.canon lawS
  obtain ⟨es', he, hkeys⟩ := h.keysOf
  injection he with he
  subst he
  have hk : ∀ p ∈ es, ∃ x, p.1 = .string x := fun p hpm => by
    obtain ⟨v, hv⟩ := hkeys p hpm
    obtain ⟨x, _, hx, _⟩ := Maps.keyOf_str Tryd.underlying9 hv
    exact ⟨x, hx⟩
  constructor
  · show (es.map fun p => strOf p.1).Nodup
    refine List.pairwise_map.2 ((apart_of_rising hp).imp_of_mem fun {p q} hp' hq' hne e => hne ?_)
    obtain ⟨a, ha⟩ := hk p hp'
    obtain ⟨b, hb⟩ := hk q hq'
    rw [ha, hb] at e ⊢
    exact congrArg _ e
  · intro x
    rw [has_eq, List.any_eq_true]
    show x ∈ es.map (fun p => strOf p.1) ↔ _
    rw [List.mem_map]
    constructor
    · rintro ⟨p, hpm, rfl⟩
      obtain ⟨a, ha⟩ := hk p hpm
      refine ⟨p, hpm, ?_⟩
      rw [ha]; exact WideAt.sameKey_self (isKeyS a)
    · rintro ⟨p, hpm, hs⟩
      exact ⟨p, hpm, by rw [WideAt.sameKey_eq hs]; rfl⟩
theorem strKeys_len {R : Value → Option (DataW Unit × List MemPlace)} {w : World} {b n : Nat} {D : DataW Unit} (h : w.ownsMap Tryd.prog 9 R b n D) : (strKeys D).length = Maps.size D := by
  obtain ⟨es, rfl, _⟩ := h.canon lawS
  simp [Maps.size, strKeys]
/-- The keys are the names. -/
theorem names_keys {w : World} {m N each : Nat} {L : NL} {D : DataW Unit} (he : 1 ≤ each) (hk : LOk L) (hown : w.ownsMap Tryd.prog 9 naE.R m N D) (ht : ∀ k, Maps.has D (.string k) = (ptsF each L k).isSome) : (strKeys D).Perm (L.map Prod.fst) := by
  obtain ⟨n1, n2⟩ := strKeys_nodup hown
  rw [List.perm_ext_iff_of_nodup n1 hk.nd]
  intro x
  rw [n2, hk.pos]
  have := ht x
  unfold ptsF at this
  by_cases h0 : wt L x = 0
  · rw [if_pos h0] at this
    rw [this, h0]
    exact ⟨fun e => (by cases e), fun e => absurd rfl e⟩
  · rw [if_neg h0] at this
    rw [this]
    exact ⟨fun _ => h0, fun _ => rfl⟩
theorem gmap_has {w : World} {m N : Nat} {F : Bs → Option Nat} (h : GMap naE w m N F) : ∃ D : DataW Unit, w.ownsMap Tryd.prog 9 naE.R m N D ∧ ∀ k, Maps.has D (.string k) = (F k).isSome := by
  obtain ⟨D, h1, h2⟩ := h
  refine ⟨D, h1, fun k => ?_⟩
  have := h2 k
  revert this
  cases F k with
  | none => intro this; exact this
  | some b => intro this; exact this.1
theorem names_len {w : World} {mo : Option Nat} {N each : Nat} {L : NL} (h : OMap naE w mo N (ptsF each L)) (he : 1 ≤ each) (hk : LOk L) (ty : TypeId) : (Builtin.len_ #[60] ty #[.map mo]).run Tryd.prog w = .ok (.int .i64 L.length) w := by
  rcases h with ⟨rfl, h0⟩ | ⟨m, rfl, hg⟩
  · have : L = [] := by
      rcases L with _ | ⟨x, L⟩
      · rfl
      · have h1 := h0 x.1
        have h2 := hk.wts x (by simp)
        have h3 := wt_of hk.nd x (by simp)
        unfold ptsF at h1
        rw [h3, if_neg (by omega)] at h1; cases h1
    subst this
    simp [Builtin.len_, Builtin.lenOf, run_underlying Tryd.underlying60]; rfl
  · obtain ⟨D, hown, ht⟩ := gmap_has hg
    rw [hown.len Tryd.underlying60 ty, ← strKeys_len hown, (names_keys he hk hown ht).length_eq, List.length_map]
theorem str_add (W : World) {x y z : Bs} (hx : x.length ≤ 1000000) (hy : y.length ≤ 1000000) (hz : z = x ++ y) : (binOp .add 9 (.string ⟨x.toArray⟩) (.string ⟨y.toArray⟩)).run Tryd.prog W = .ok (.string ⟨z.toArray⟩) W := by
  subst hz
  have h1 : (x.length : Int) ≤ 8388608 := by omega
  have h2 : (y.length : Int) ≤ 8388608 := by omega
  simp [binOp, run_string_add_lists, *]
theorem wpQuiet_add {ops : Array Oper} {C : World → Prop} {Q : Act → Prop} {a : Act} {o : Oper} {rest : List Oper} (hw : Region.wanted o (yielded ops a.tmps) = true) (s t : Operand) (ho : o.op = .binOp .add 9 s t 9) (x y z : Bs) (hs : a.eval s = .string ⟨x.toArray⟩) (ht : a.eval t = .string ⟨y.toArray⟩) (hx : x.length ≤ 1000000) (hy : y.length ≤ 1000000) (hz : z = x ++ y)
    (h : wpQuiet Tryd.prog ops C Q rest (a.put o.dst (.string ⟨z.toArray⟩))) : wpQuiet Tryd.prog ops C Q (o :: rest) a :=
  BigFrame.wpQuiet_want hw fun K hK => ⟨.string ⟨z.toArray⟩, fun W hW => by
    unfold Oper.quietAt execOp
    have e := str_add W hx hy hz
    simp only [ho, hs, ht, eqGuard, Sem.run_bind, Sem.run_pure, Result.andThen_ok, Bool.not_false, if_true, e]
    exact ⟨rfl, rfl⟩, hK _ h⟩
/-- Hides a goal. -/
def Stop (p : Prop) : Prop := p
theorem stop_of {p : Prop} (h : Stop p) : p := h
theorem q60 (w : World) (r : Option Nat) : (binOp .eql 60 (.map r) (.map none)).run Tryd.prog w = .ok (.bool r.isNone) w := run_eql_map_nil w _ _ _ r Tryd.underlying60
theorem size60 : (Tryd.prog.info? 60).map (·.size) = some 1 := by kernel_rfl
theorem size56 : (Tryd.prog.info? 56).map (·.size) = some 1 := by kernel_rfl
theorem info59 : (Tryd.prog.info? 59).map (fun i => (i.zero, i.size, i.bytes)) = some (some (.agg #[.int .u64 0, .string ⟨#[]⟩]), 2, 24) := by kernel_rfl
end Go.Proofs.YtjphpblangeblaaDoor
