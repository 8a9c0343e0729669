/- The program's Origin in memory: versions, streams, maps; what keeps it. -/
import Derived.Test.YtpangoddbfiagaaMaps
namespace Go.Proofs.Ytpangoddbfiagaa
open Go.RowKit Go.Maps Go.ChangeMaps
set_option linter.unusedVariables false
set_option linter.unusedSimpArgs false

/-- A version. -/
structure Vn where
  obj : Bs
  m : MetaP
  bytes : Bs
  went : Bool
/-- A stream. -/
structure Sn where
  st : Int
  m : MetaP
  fr : Int
  to : Int
  at_ : Int
  v : Option Nat
def nowI (vs : List Vn) (o : Bs) : Option Nat := vs.findIdx? (fun v => v.obj == o && !v.went)
def tagsB (v : Vn) (o t : Bs) : Bool := v.obj == o && !noTag v.m && v.m.tt == t
def hadA (vs : List Vn) (o t : Bs) : Option Bool := if vs.any (fun v => tagsB v o t) = true then some (vs.any fun v => tagsB v o t && !v.m.tw) else none
/-- Where a version lies. -/
structure Vg where
  b : Nat
  kv : Value
  bv : Value
  h : Int
structure VerOk (w : World) (B : Nat) (own : Nat → Prop) (v : Vn) (g : Vg) : Prop where
  blk : VerAt w g.b { v.m with hav := g.h } g.kv g.bv v.went
  keys : SRow w B g.kv v.m.keys
  row : BRow w B g.bv v.bytes
  ob : own g.b
  ok : ∀ x, g.kv.ownBlock = some x → own x
  obv : ∀ x, g.bv.ownBlock = some x → own x
  z : MetaZ v.m
  len : v.bytes.length ≤ 100000
structure VsAt (w : World) (B : Nat) (own : Nat → Prop) (vs : List Vn) (gs : List Vg) : Prop where
  len : gs.length = vs.length
  at_ : ∀ (i : Nat) (v : Vn) (g : Vg), vs[i]? = some v → gs[i]? = some g → VerOk w B own v g
  nd : ∀ (i j : Nat) (g g' : Vg), gs[i]? = some g → gs[j]? = some g' → g.b = g'.b → i = j
  bnd : ∀ (i j : Nat) (g g' : Vg) (x : Nat), gs[i]? = some g → gs[j]? = some g' → g.bv.ownBlock = some x → g'.bv.ownBlock = some x → i = j
def verP (va : List Nat) (v : Option Nat) : Option Addr := (v.bind (va[·]?)).map fun b => ⟨b, 0, none⟩
def StrOk (w : World) (B : Nat) (own : Nat → Prop) (va : List Nat) (s : Sn) (b : Nat) : Prop :=
  ∃ kv, StrAt w b (verP va s.v) s.st s.m kv s.fr s.to s.at_ ∧ SRow w B kv s.m.keys ∧ own b ∧ (∀ x, kv.ownBlock = some x → own x) ∧ MetaZ s.m ∧ (∀ i, s.v = some i → i < va.length) ∧ 0 ≤ s.at_ ∧ s.at_ ≤ 4611686018427387904 ∧ 0 ≤ s.to ∧ s.to ≤ 4611686018427387904
structure SsAt (w : World) (B : Nat) (own : Nat → Prop) (va : List Nat) (ss : List Sn) (sa : List Nat) : Prop where
  len : sa.length = ss.length
  at_ : ∀ (j : Nat) (s : Sn) (b : Nat), ss[j]? = some s → sa[j]? = some b → StrOk w B own va s b
  nd : ∀ (i j b : Nat), sa[i]? = some b → sa[j]? = some b → i = j
structure MpAt (w : World) (N : Nat) (own : Nat → Prop) (vs : List Vn) (va : List Nat) (mo mh : Option Nat) (H : Bs → Option Nat) (K : Bs → Bs → Option Bool) : Prop where
  obs : OMap ptE w mo N (fun o => (nowI vs o).bind (va[·]?))
  had : OMap mpE w mh N H
  inn : ∀ o g, H o = some g → GMap boE w g N (K o)
  tie : ∀ o t, (match H o with | none => none | some _ => K o t) = hadA vs o t
  hinj : ∀ o o' g, H o = some g → H o' = some g → o = o'
  omo : ∀ m, mo = some m → own m
  omh : ∀ m, mh = some m → own m
  oin : ∀ o g, H o = some g → own g
  d1 : ∀ m, mo = some m → mh ≠ some m
  d2 : ∀ o g, H o = some g → mo ≠ some g ∧ mh ≠ some g
/-- At most one version of an object is the one that it has. -/
def One (vs : List Vn) : Prop := ∀ (i j : Nat) (v v' : Vn), vs[i]? = some v → vs[j]? = some v' → v.went = false → v'.went = false → v.obj = v'.obj → i = j
structure OIx (w : World) (b B N : Nat) (own : Nat → Prop) (vs : List Vn) (ss : List Sn) (sa : List Nat) (gs : List Vg) (mo mh : Option Nat) (H : Bs → Option Nat) (K : Bs → Bs → Option Bool) : Prop where
  blk : w.heap[b]? = some (.cells #[.map mo, .map mh] 84 (0, 0))
  ob : own b
  vers : VsAt w B own vs gs
  strs : SsAt w B own (gs.map (·.b)) ss sa
  maps : MpAt w N own vs (gs.map (·.b)) mo mh H K
  one : One vs
  lt : ∀ i, own i → i < w.heap.size
  low : ∀ i, own i → B ≤ i
  lowB : B ≤ w.heap.size
  objs : ∀ v ∈ vs, v.obj.length ≤ 1000
def OI (w : World) (b B N : Nat) (own : Nat → Prop) (vs : List Vn) (ss : List Sn) (sa : List Nat) : Prop := ∃ gs mo mh H K, OIx w b B N own vs ss sa gs mo mh H K
section
variable {w w' : World} {b B N : Nat} {own : Nat → Prop} {vs : List Vn} {ss : List Sn} {sa : List Nat} {gs : List Vg} {mo mh : Option Nat} {H : Bs → Option Nat} {K : Bs → Bs → Option Bool}
theorem own_keep {base : Nat} {e : TypeId} {size : Nat} {v : Value} {n : Nat} {xs : List Value} (h : w.ownsRow base e size v n xs) (hx : ∀ g, v.ownBlock = some g → w'.heap[g]? = w.heap[g]?) : w'.ownsRow base e size v n xs := by
  refine ⟨h.1, ?_⟩
  rcases h.2 with h2 | ⟨g, cap, cur, rfl, hb, hgg, r⟩
  · exact .inl h2
  · exact .inr ⟨g, cap, cur, rfl, hb, (hx g rfl).trans hgg, r⟩
theorem VerOk.keep {own' : Nat → Prop} {v : Vn} {g : Vg} (h : VerOk w B own v g) (hk : ∀ i, own i → w'.heap[i]? = w.heap[i]?) (ho : ∀ i, own i → own' i) : VerOk w' B own' v g :=
  ⟨(hk _ h.ob).trans h.blk, own_keep h.keys fun x hx => hk x (h.ok x hx), own_keep h.row fun x hx => hk x (h.obv x hx), ho _ h.ob, fun x hx => ho x (h.ok x hx), fun x hx => ho x (h.obv x hx), h.z, h.len⟩
theorem VsAt.keep {own' : Nat → Prop} (h : VsAt w B own vs gs) (hk : ∀ i, own i → w'.heap[i]? = w.heap[i]?) (ho : ∀ i, own i → own' i) : VsAt w' B own' vs gs :=
  ⟨h.len, fun i v g hv hg => (h.at_ i v g hv hg).keep hk ho, h.nd, h.bnd⟩
theorem StrOk.keep {own' : Nat → Prop} {va : List Nat} {s : Sn} {b : Nat} (h : StrOk w B own va s b) (hk : ∀ i, own i → w'.heap[i]? = w.heap[i]?) (ho : ∀ i, own i → own' i) : StrOk w' B own' va s b := by
  obtain ⟨kv, h1, h2, h3, h4, h5⟩ := h
  exact ⟨kv, (hk _ h3).trans h1, own_keep h2 fun x hx => hk x (h4 x hx), ho _ h3, fun x hx => ho x (h4 x hx), h5⟩
theorem SsAt.keep {own' : Nat → Prop} {va : List Nat} (h : SsAt w B own va ss sa) (hk : ∀ i, own i → w'.heap[i]? = w.heap[i]?) (ho : ∀ i, own i → own' i) : SsAt w' B own' va ss sa :=
  ⟨h.len, fun j s b hs hb => (h.at_ j s b hs hb).keep hk ho, h.nd⟩
theorem MpAt.keep {own' : Nat → Prop} {va : List Nat} (h : MpAt w N own vs va mo mh H K) (hk : ∀ i, own i → w'.heap[i]? = w.heap[i]?) (ho : ∀ i, own i → own' i) : MpAt w' N own' vs va mo mh H K :=
  ⟨h.obs.same fun m e => hk m (h.omo m e), h.had.same fun m e => hk m (h.omh m e), fun o g e => (h.inn o g e).same (hk g (h.oin o g e)), h.tie, h.hinj, fun m e => ho m (h.omo m e), fun m e => ho m (h.omh m e), fun o g e => ho g (h.oin o g e), h.d1, h.d2⟩
theorem OIx.keep {own' : Nat → Prop} (h : OIx w b B N own vs ss sa gs mo mh H K) (hk : ∀ i, own i → w'.heap[i]? = w.heap[i]?) (hs : w.heap.size ≤ w'.heap.size) (ho : ∀ i, own i → own' i) (hlt : ∀ i, own' i → i < w'.heap.size) (hlow : ∀ i, own' i → B ≤ i) : OIx w' b B N own' vs ss sa gs mo mh H K :=
  ⟨(hk _ h.ob).trans h.blk, ho _ h.ob, h.vers.keep hk ho, h.strs.keep hk ho, h.maps.keep hk ho, h.one, hlt, hlow, Nat.le_trans h.lowB hs, h.objs⟩
theorem OI.keep (h : OI w b B N own vs ss sa) (hk : ∀ i, own i → w'.heap[i]? = w.heap[i]?) (hs : w.heap.size ≤ w'.heap.size) : OI w' b B N own vs ss sa := by
  obtain ⟨gs, mo, mh, H, K, h⟩ := h
  exact ⟨gs, mo, mh, H, K, h.keep hk hs (fun _ x => x) (fun i hi => Nat.lt_of_lt_of_le (h.lt i hi) hs) h.low⟩
theorem OIx.ext (h : OIx w b B N own vs ss sa gs mo mh H K) (hx : Ext w w') : OIx w' b B N own vs ss sa gs mo mh H K :=
  h.keep (fun i hi => hx.block i (h.lt i hi)) hx.size (fun _ x => x) (fun i hi => Nat.lt_of_lt_of_le (h.lt i hi) hx.size) h.low
theorem OI.ext (h : OI w b B N own vs ss sa) (hx : Ext w w') : OI w' b B N own vs ss sa := by
  obtain ⟨gs, mo, mh, H, K, h⟩ := h
  exact ⟨gs, mo, mh, H, K, h.ext hx⟩
/-- 'o.objects[object]'. -/
theorem OIx.look (h : OIx w b B N own vs ss sa gs mo mh H K) {o : Bs} (ho : o.length ≤ 1000000) :
    (Instr.lookup 82 (.map mo) (.string ⟨o.toArray⟩) false).run Try.prog w = .ok (.pointer ((nowI vs o).bind fun i => (gs[i]?).map fun g => ⟨g.b, 0, none⟩)) w := by
  rw [h.maps.obs.look Try.underlying82 (zero88 w) ho]
  cases nowI vs o with
  | none => rfl
  | some i =>
    simp only [Option.bind_some, List.getElem?_map]
    cases gs[i]? <;> rfl
theorem nowI_some {vs : List Vn} {o : Bs} {i : Nat} (h : nowI vs o = some i) : ∃ v, vs[i]? = some v ∧ v.obj = o ∧ v.went = false := by
  unfold nowI at h
  rw [List.findIdx?_eq_some_iff_getElem] at h
  obtain ⟨hi, h1, _⟩ := h
  simp at h1
  exact ⟨vs[i], by simp [hi], h1.1, h1.2⟩
theorem nowI_none {vs : List Vn} {o : Bs} (h : nowI vs o = none) : ∀ v ∈ vs, v.obj = o → v.went = true := by
  intro v hv ho
  unfold nowI at h
  rw [List.findIdx?_eq_none_iff] at h
  have := h v hv
  simp [ho] at this
  exact this
theorem nowI_of {vs : List Vn} (h1 : One vs) {i : Nat} {v : Vn} (hv : vs[i]? = some v) (hw : v.went = false) : nowI vs v.obj = some i := by
  cases hn : nowI vs v.obj with
  | none =>
    have := nowI_none hn v (List.mem_of_getElem? hv) rfl
    rw [this] at hw; cases hw
  | some j =>
    obtain ⟨v', hv', e1, e2⟩ := nowI_some hn
    rw [h1 j i v' v hv' hv e2 hw e1]
theorem VsAt.get (h : VsAt w B own vs gs) {i : Nat} {v : Vn} (hv : vs[i]? = some v) : ∃ g, gs[i]? = some g ∧ VerOk w B own v g := by
  have hi : i < vs.length := (List.getElem?_eq_some_iff.1 hv).1
  have hi' : i < gs.length := by rw [h.len]; exact hi
  exact ⟨gs[i], by simp [hi'], h.at_ i v _ hv (by simp [hi'])⟩
end
end Go.Proofs.Ytpangoddbfiagaa
