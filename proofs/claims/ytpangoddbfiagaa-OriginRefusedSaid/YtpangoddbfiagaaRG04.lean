import Derived.Test.YtpangoddbfiagaaRG03
import Derived.Maps.OwnSet
import Derived.Maps.OwnOps
import Derived.Maps.Ext
import Derived.Lib.SlKeysI
import Derived.Laws.ResultCell
namespace Go.Proofs.Ytpangoddbfiagaa
open Go.RowKit Go.Maps Go.ChangeMaps
set_option linter.unusedVariables false
set_option linter.unusedSimpArgs false
theorem law9 : Keyed Try.prog 9 := string_keyed Try.underlying9
theorem key9 {t : Bs} (h : t.length ≤ 1000000) : keyOf Try.prog 9 (.string ⟨t.toArray⟩) = some (.string t) := by
 have := Go.WideMaps.keyOf_string_mk (P := Try.prog) Try.underlying9 (s := ⟨t.toArray⟩) (by simp [ByteArray.size, maxLen]; omega)
 simpa using this
theorem isKeyS (t : Bs) : WideAt.IsKeyLit (Lit.string t) := by trivial
theorem ne_str {k k' : Bs} (h : k' ≠ k) : (Lit.string k' : Lit) ≠ .string k := fun e => by injection e with e; exact h e
structure ElemK (β : Type) where
 R : Value → Option (DataW Unit × List MemPlace)
 enc : β → Value
 de : β → DataW Unit
 zv : Value
 dz : DataW Unit
 ok : ∀ b, R (enc b) = some (de b, [])
 inv : ∀ v b ps, R v = some (de b, ps) → v = enc b
 okz : R zv = some (dz, [])
 zinv : ∀ v ps, R v = some (dz, ps) → v = zv
def GMap {β : Type} (E : ElemK β) (w : World) (m N : Nat) (F : Bs → Option β) : Prop := ∃ D : DataW Unit, w.ownsMap Try.prog 9 E.R m N D ∧ ∀ k, match F k with
 | none => Maps.has D (.string k) = false
 | some b => Maps.has D (.string k) = true ∧ D.atKey (.string k) E.dz = E.de b
def upd {β : Type} (F : Bs → Option β) (k : Bs) (v : Option β) : Bs → Option β := fun x => if x = k then v else F x
section
variable {β : Type} {E : ElemK β} {w w' : World} {m N : Nat} {F : Bs → Option β}
theorem upd_same (F : Bs → Option β) (k : Bs) (v : Option β) : upd F k v k = v := by simp [upd]
theorem upd_other (F : Bs → Option β) {k k' : Bs} (h : k' ≠ k) (v : Option β) : upd F k v k' = F k' := by simp [upd, h]
theorem GMap.made (E : ElemK β) (w : World) : GMap E (w.alloc (.map #[] 0)) w.heap.size 0 (fun _ => none) := ⟨_, World.ownsMap_made w Try.prog 9 E.R, fun _ => rfl⟩
theorem GMap.at_ (h : GMap E w m N F) : ∃ es cl, w.heap[m]? = some (.map es cl) := by
 obtain ⟨D, ⟨es, cl, he, _⟩, _⟩ := h; exact ⟨es, cl, he⟩
theorem GMap.same (h : GMap E w m N F) (hs : w'.heap[m]? = w.heap[m]?) : GMap E w' m N F := by
 obtain ⟨D, ⟨es, cl, he, hr⟩, ht⟩ := h
 exact ⟨D, ⟨es, cl, hs.trans he, hr⟩, ht⟩
theorem GMap.more {M : Nat} (h : GMap E w m N F) (hM : N ≤ M) : GMap E w m M F := by
 obtain ⟨D, h1, h2⟩ := h
 exact ⟨D, h1.mono hM, h2⟩
theorem GMap.look (h : GMap E w m N F) {ty te : TypeId} (hu : Try.prog.underlying ty = some (.map 9 te)) (hz : (zeroValue te).run Try.prog w = .ok E.zv w) {k : Bs} (hk : k.length ≤ 1000000) :
  (Instr.lookup ty (.map (some m)) (.string ⟨k.toArray⟩) false).run Try.prog w = .ok (match F k with | none => E.zv | some b => E.enc b) w := by
 obtain ⟨D, hown, ht⟩ := h
 have hk' := ht k
 obtain ⟨v, ps, hrun, hv⟩ := hown.lookup law9 hu hz (zd := E.dz) (zp := []) E.okz (key9 hk)
 cases e : F k with
 | none =>
  rw [e] at hk'
  rw [atKey_of_not_has hk'] at hv
  rw [E.zinv _ _ hv] at hrun
  exact hrun
 | some b =>
  rw [e] at hk'
  rw [hk'.2] at hv
  rw [E.inv _ _ _ hv] at hrun
  exact hrun
theorem GMap.look_ok (h : GMap E w m N F) {ty te : TypeId} (hu : Try.prog.underlying ty = some (.map 9 te)) (hz : (zeroValue te).run Try.prog w = .ok E.zv w) {k : Bs} (hk : k.length ≤ 1000000) :
  (Instr.lookup ty (.map (some m)) (.string ⟨k.toArray⟩) true).run Try.prog w = .ok (.tuple #[(match F k with | none => E.zv | some b => E.enc b), .bool (F k).isSome]) w := by
 obtain ⟨D, hown, ht⟩ := h
 have hk' := ht k
 obtain ⟨v, ps, hrun, hv⟩ := hown.look_ok law9 hu hz (zd := E.dz) (zp := []) E.okz (key9 hk)
 cases e : F k with
 | none =>
  rw [e] at hk'
  rw [hk'] at hrun
  rw [atKey_of_not_has hk'] at hv
  rw [E.zinv _ _ hv] at hrun
  exact hrun
 | some b =>
  rw [e] at hk'
  rw [hk'.1] at hrun
  rw [hk'.2] at hv
  rw [E.inv _ _ _ hv] at hrun
  exact hrun
theorem GMap.put (h : GMap E w m N F) (hN : N ≤ 1000000) {ty te : TypeId} (hu : Try.prog.underlying ty = some (.map 9 te)) {k : Bs} (hk : k.length ≤ 1000000) (b : β) :
  ∃ w', (Instr.mapUpdate ty (.map (some m)) (.string ⟨k.toArray⟩) (E.enc b)).run Try.prog w = .ok () w' ∧ GMap E w' m (N + 1) (upd F k (some b)) ∧ w.mapTurned w' m := by
 obtain ⟨D, hown, ht⟩ := h
 obtain ⟨w', hrun, hown', hturn⟩ := hown.store law9 hu (by unfold maxLen; omega) (key9 hk) (val := E.enc b) (d := E.de b) (ps := []) (E.ok b)
 refine ⟨w', hrun, ⟨_, hown', fun x => ?_⟩, hturn⟩
 have hx := ht x
 by_cases e : x = k
 ·subst e; rw [upd_same]
  exact ⟨has_put_same hown.isMap (isKeyS _) _, atKey_put_same hown.isMap (isKeyS _) _ _⟩
 ·rw [upd_other F e]
  have h1 := has_put_other (D := D) (ne_str e) (E.de b)
  have h2 := atKey_put_other (D := D) (ne_str e) (E.de b) E.dz
  split
  ·rename_i hn; rw [hn] at hx; rw [h1]; exact hx
  ·rename_i hn; rw [hn] at hx; rw [h1, h2]; exact hx
theorem GMap.del (h : GMap E w m N F) {ty te : TypeId} (hu : Try.prog.underlying ty = some (.map 9 te)) {k : Bs} (hk : k.length ≤ 1000000) (rt : TypeId) :
  ∃ w', (Builtin.delete_ #[ty, 9] rt #[.map (some m), .string ⟨k.toArray⟩]).run Try.prog w = .ok (.tuple #[]) w' ∧ GMap E w' m N (upd F k none) ∧ w.mapTurned w' m := by
 obtain ⟨D, hown, ht⟩ := h
 obtain ⟨w', hrun, hown', hturn⟩ := hown.drop law9 hu (key9 hk) rt
 refine ⟨w', hrun, ⟨_, hown', fun x => ?_⟩, hturn⟩
 have hx := ht x
 by_cases e : x = k
 ·subst e; rw [upd_same]; exact has_del_same
 ·rw [upd_other F e]
  have h1 := has_del_other (D := D) (ne_str e)
  have h2 := atKey_del_other (D := D) (ne_str e) E.dz
  split
  ·rename_i hn; rw [hn] at hx; rw [h1]; exact hx
  ·rename_i hn; rw [hn] at hx; rw [h1, h2]; exact hx
def OMap (E : ElemK β) (w : World) (mo : Option Nat) (N : Nat) (F : Bs → Option β) : Prop := (mo = none ∧ ∀ k, F k = none) ∨ ∃ m, mo = some m ∧ GMap E w m N F
theorem OMap.look {mo : Option Nat} (h : OMap E w mo N F) {ty te : TypeId} (hu : Try.prog.underlying ty = some (.map 9 te)) (hz : (zeroValue te).run Try.prog w = .ok E.zv w) {k : Bs} (hk : k.length ≤ 1000000) :
  (Instr.lookup ty (.map mo) (.string ⟨k.toArray⟩) false).run Try.prog w = .ok (match F k with | none => E.zv | some b => E.enc b) w := by
 rcases h with ⟨rfl, h0⟩ | ⟨m, rfl, h⟩
 ·rw [h0]; exact Maps.look_nil (w := w) false law9 hu hz (key9 hk)
 ·exact h.look hu hz hk
theorem OMap.look_ok {mo : Option Nat} (h : OMap E w mo N F) {ty te : TypeId} (hu : Try.prog.underlying ty = some (.map 9 te)) (hz : (zeroValue te).run Try.prog w = .ok E.zv w) {k : Bs} (hk : k.length ≤ 1000000) :
  (Instr.lookup ty (.map mo) (.string ⟨k.toArray⟩) true).run Try.prog w = .ok (.tuple #[(match F k with | none => E.zv | some b => E.enc b), .bool (F k).isSome]) w := by
 rcases h with ⟨rfl, h0⟩ | ⟨m, rfl, h⟩
 ·rw [h0]; exact Maps.look_nil (w := w) true law9 hu hz (key9 hk)
 ·exact h.look_ok hu hz hk
theorem OMap.same {mo : Option Nat} (h : OMap E w mo N F) (hs : ∀ m, mo = some m → w'.heap[m]? = w.heap[m]?) : OMap E w' mo N F := by
 rcases h with h | ⟨m, rfl, h⟩
 ·exact .inl h
 ·exact .inr ⟨m, rfl, h.same (hs m rfl)⟩
theorem OMap.more {mo : Option Nat} {M : Nat} (h : OMap E w mo N F) (hM : N ≤ M) : OMap E w mo M F := by
 rcases h with h | ⟨m, rfl, h⟩
 ·exact .inl h
 ·exact .inr ⟨m, rfl, h.more hM⟩
theorem OMap.lt {m : Nat} (h : OMap E w (some m) N F) : ∃ es cl, w.heap[m]? = some (.map es cl) := by
 rcases h with ⟨e, _⟩ | ⟨m', e, h⟩
 ·cases e
 ·cases e; exact h.at_
end
def ptR (v : Value) : Option (DataW Unit × List MemPlace) :=
 match v with
 | .pointer (some ⟨g, 0, none⟩) => some (.lit (.int .i64 g), [])
 | .pointer none => some (.lit (.int .i64 (-1)), [])
 | _ => none
def ptE : ElemK Nat where
 R := ptR
 enc b := .pointer (some ⟨b, 0, none⟩)
 de b := .lit (.int .i64 b)
 zv := .pointer none
 dz := .lit (.int .i64 (-1))
 ok b := rfl
 inv v b ps h := by
  unfold ptR at h
  split at h
  ·simp at h
   have e1 : (_ : Nat) = b := Int.ofNat.inj h.1
   rw [e1]
  ·simp at h
  ·cases h
 okz := rfl
 zinv v ps h := by
  unfold ptR at h
  split at h
  ·simp at h
  ·rfl
  ·cases h
def mpR (v : Value) : Option (DataW Unit × List MemPlace) :=
 match v with
 | .map (some g) => some (.lit (.int .i64 g), [])
 | .map none => some (.lit (.int .i64 (-1)), [])
 | _ => none
def mpE : ElemK Nat where
 R := mpR
 enc b := .map (some b)
 de b := .lit (.int .i64 b)
 zv := .map none
 dz := .lit (.int .i64 (-1))
 ok b := rfl
 inv v b ps h := by
  unfold mpR at h
  split at h
  ·simp at h
   have e1 : (_ : Nat) = b := Int.ofNat.inj h.1
   rw [e1]
  ·simp at h
  ·cases h
 okz := rfl
 zinv v ps h := by
  unfold mpR at h
  split at h
  ·simp at h
  ·rfl
  ·cases h
def boR (v : Value) : Option (DataW Unit × List MemPlace) :=
 match v with
 | .bool b => some (.lit (.bool b), [])
 | _ => none
def boE : ElemK Bool where
 R := boR
 enc b := .bool b
 de b := .lit (.bool b)
 zv := .bool false
 dz := .lit (.bool false)
 ok b := rfl
 inv v b ps h := by
  unfold boR at h
  split at h
  ·simp at h; rw [h.1]
  ·cases h
 okz := rfl
 zinv v ps h := by
  unfold boR at h
  split at h
  ·simp at h; rw [h.1]
  ·cases h
theorem zero88 (w : World) : (zeroValue 88).run Try.prog w = .ok (.pointer none) w := by kernel_rfl
theorem zero79 (w : World) : (zeroValue 79).run Try.prog w = .ok (.map none) w := by kernel_rfl
theorem zero4 (w : World) : (zeroValue 4).run Try.prog w = .ok (.bool false) w := by kernel_rfl
end Go.Proofs.Ytpangoddbfiagaa
namespace Go.Proofs.Ytpangoddbfiagaa
open Go.RowKit Go.Maps Go.ChangeMaps
set_option linter.unusedVariables false
set_option linter.unusedSimpArgs false
structure Vn where
 obj : Bs
 m : MetaP
 bytes : Bs
 went : Bool
structure Sn where
 st : Int
 m : MetaP
 fr : Int
 to : Int
 at_ : Int
 v : Option Nat
def nowI (vs : List Vn) (o : Bs) : Option Nat := vs.findIdx? (fun v => v.obj == o && !v.went)
def tagsB (v : Vn) (o t : Bs) : Bool := v.obj == o && !noTag v.m && v.m.tt == t
def hadA (vs : List Vn) (o t : Bs) : Option Bool := if vs.any (fun v => tagsB v o t) = true then some (vs.any fun v => tagsB v o t && !v.m.tw) else none
structure Vg where
 b : Nat
 kv : Value
 bv : Value
 h : Int
structure VerOk (w : World) (B : Nat) (own : Nat → Prop) (v : Vn) (g : Vg) : Prop where
 blk : VerAt w g.b { v.m with hav := g.h } g.kv g.bv v.went
 keys : SRow w B g.kv v.m.keys
 row : BRow w B g.bv v.bytes
 ob : own g.b
 ok : ∀ x, g.kv.ownBlock = some x → own x
 obv : ∀ x, g.bv.ownBlock = some x → own x
 z : MetaZ v.m
 len : v.bytes.length ≤ 100000
structure VsAt (w : World) (B : Nat) (own : Nat → Prop) (vs : List Vn) (gs : List Vg) : Prop where
 len : gs.length = vs.length
 at_ : ∀ (i : Nat) (v : Vn) (g : Vg), vs[i]? = some v → gs[i]? = some g → VerOk w B own v g
 nd : ∀ (i j : Nat) (g g' : Vg), gs[i]? = some g → gs[j]? = some g' → g.b = g'.b → i = j
 bnd : ∀ (i j : Nat) (g g' : Vg) (x : Nat), gs[i]? = some g → gs[j]? = some g' → g.bv.ownBlock = some x → g'.bv.ownBlock = some x → i = j
def verP (va : List Nat) (v : Option Nat) : Option Addr := (v.bind (va[·]?)).map fun b => ⟨b, 0, none⟩
def StrOk (w : World) (B : Nat) (own : Nat → Prop) (va : List Nat) (s : Sn) (b : Nat) : Prop :=
 ∃ kv, StrAt w b (verP va s.v) s.st s.m kv s.fr s.to s.at_ ∧ SRow w B kv s.m.keys ∧ own b ∧ (∀ x, kv.ownBlock = some x → own x) ∧ MetaZ s.m ∧ (∀ i, s.v = some i → i < va.length) ∧ 0 ≤ s.at_ ∧ s.at_ ≤ 4611686018427387904 ∧ 0 ≤ s.to ∧ s.to ≤ 4611686018427387904
structure SsAt (w : World) (B : Nat) (own : Nat → Prop) (va : List Nat) (ss : List Sn) (sa : List Nat) : Prop where
 len : sa.length = ss.length
 at_ : ∀ (j : Nat) (s : Sn) (b : Nat), ss[j]? = some s → sa[j]? = some b → StrOk w B own va s b
 nd : ∀ (i j b : Nat), sa[i]? = some b → sa[j]? = some b → i = j
structure MpAt (w : World) (N : Nat) (own : Nat → Prop) (vs : List Vn) (va : List Nat) (mo mh : Option Nat) (H : Bs → Option Nat) (K : Bs → Bs → Option Bool) : Prop where
 obs : OMap ptE w mo N (fun o => (nowI vs o).bind (va[·]?))
 had : OMap mpE w mh N H
 inn : ∀ o g, H o = some g → GMap boE w g N (K o)
 tie : ∀ o t, (match H o with | none => none | some _ => K o t) = hadA vs o t
 hinj : ∀ o o' g, H o = some g → H o' = some g → o = o'
 omo : ∀ m, mo = some m → own m
 omh : ∀ m, mh = some m → own m
 oin : ∀ o g, H o = some g → own g
 d1 : ∀ m, mo = some m → mh ≠ some m
 d2 : ∀ o g, H o = some g → mo ≠ some g ∧ mh ≠ some g
def One (vs : List Vn) : Prop := ∀ (i j : Nat) (v v' : Vn), vs[i]? = some v → vs[j]? = some v' → v.went = false → v'.went = false → v.obj = v'.obj → i = j
structure OIx (w : World) (b B N : Nat) (own : Nat → Prop) (vs : List Vn) (ss : List Sn) (sa : List Nat) (gs : List Vg) (mo mh : Option Nat) (H : Bs → Option Nat) (K : Bs → Bs → Option Bool) : Prop where
 blk : w.heap[b]? = some (.cells #[.map mo, .map mh] 84 (0, 0))
 ob : own b
 vers : VsAt w B own vs gs
 strs : SsAt w B own (gs.map (·.b)) ss sa
 maps : MpAt w N own vs (gs.map (·.b)) mo mh H K
 one : One vs
 lt : ∀ i, own i → i < w.heap.size
 low : ∀ i, own i → B ≤ i
 lowB : B ≤ w.heap.size
 objs : ∀ v ∈ vs, v.obj.length ≤ 1000
def OI (w : World) (b B N : Nat) (own : Nat → Prop) (vs : List Vn) (ss : List Sn) (sa : List Nat) : Prop := ∃ gs mo mh H K, OIx w b B N own vs ss sa gs mo mh H K
section
variable {w w' : World} {b B N : Nat} {own : Nat → Prop} {vs : List Vn} {ss : List Sn} {sa : List Nat} {gs : List Vg} {mo mh : Option Nat} {H : Bs → Option Nat} {K : Bs → Bs → Option Bool}
theorem own_keep {base : Nat} {e : TypeId} {size : Nat} {v : Value} {n : Nat} {xs : List Value} (h : w.ownsRow base e size v n xs) (hx : ∀ g, v.ownBlock = some g → w'.heap[g]? = w.heap[g]?) : w'.ownsRow base e size v n xs := by
 refine ⟨h.1, ?_⟩
 rcases h.2 with h2 | ⟨g, cap, cur, rfl, hb, hgg, r⟩
 ·exact .inl h2
 ·exact .inr ⟨g, cap, cur, rfl, hb, (hx g rfl).trans hgg, r⟩
theorem VerOk.keep {own' : Nat → Prop} {v : Vn} {g : Vg} (h : VerOk w B own v g) (hk : ∀ i, own i → w'.heap[i]? = w.heap[i]?) (ho : ∀ i, own i → own' i) : VerOk w' B own' v g :=
 ⟨(hk _ h.ob).trans h.blk, own_keep h.keys fun x hx => hk x (h.ok x hx), own_keep h.row fun x hx => hk x (h.obv x hx), ho _ h.ob, fun x hx => ho x (h.ok x hx), fun x hx => ho x (h.obv x hx), h.z, h.len⟩
theorem VsAt.keep {own' : Nat → Prop} (h : VsAt w B own vs gs) (hk : ∀ i, own i → w'.heap[i]? = w.heap[i]?) (ho : ∀ i, own i → own' i) : VsAt w' B own' vs gs :=
 ⟨h.len, fun i v g hv hg => (h.at_ i v g hv hg).keep hk ho, h.nd, h.bnd⟩
theorem StrOk.keep {own' : Nat → Prop} {va : List Nat} {s : Sn} {b : Nat} (h : StrOk w B own va s b) (hk : ∀ i, own i → w'.heap[i]? = w.heap[i]?) (ho : ∀ i, own i → own' i) : StrOk w' B own' va s b := by
 obtain ⟨kv, h1, h2, h3, h4, h5⟩ := h
 exact ⟨kv, (hk _ h3).trans h1, own_keep h2 fun x hx => hk x (h4 x hx), ho _ h3, fun x hx => ho x (h4 x hx), h5⟩
theorem SsAt.keep {own' : Nat → Prop} {va : List Nat} (h : SsAt w B own va ss sa) (hk : ∀ i, own i → w'.heap[i]? = w.heap[i]?) (ho : ∀ i, own i → own' i) : SsAt w' B own' va ss sa :=
 ⟨h.len, fun j s b hs hb => (h.at_ j s b hs hb).keep hk ho, h.nd⟩
theorem MpAt.keep {own' : Nat → Prop} {va : List Nat} (h : MpAt w N own vs va mo mh H K) (hk : ∀ i, own i → w'.heap[i]? = w.heap[i]?) (ho : ∀ i, own i → own' i) : MpAt w' N own' vs va mo mh H K :=
 ⟨h.obs.same fun m e => hk m (h.omo m e), h.had.same fun m e => hk m (h.omh m e), fun o g e => (h.inn o g e).same (hk g (h.oin o g e)), h.tie, h.hinj, fun m e => ho m (h.omo m e), fun m e => ho m (h.omh m e), fun o g e => ho g (h.oin o g e), h.d1, h.d2⟩
theorem OIx.keep {own' : Nat → Prop} (h : OIx w b B N own vs ss sa gs mo mh H K) (hk : ∀ i, own i → w'.heap[i]? = w.heap[i]?) (hs : w.heap.size ≤ w'.heap.size) (ho : ∀ i, own i → own' i) (hlt : ∀ i, own' i → i < w'.heap.size) (hlow : ∀ i, own' i → B ≤ i) : OIx w' b B N own' vs ss sa gs mo mh H K :=
 ⟨(hk _ h.ob).trans h.blk, ho _ h.ob, h.vers.keep hk ho, h.strs.keep hk ho, h.maps.keep hk ho, h.one, hlt, hlow, Nat.le_trans h.lowB hs, h.objs⟩
theorem OI.keep (h : OI w b B N own vs ss sa) (hk : ∀ i, own i → w'.heap[i]? = w.heap[i]?) (hs : w.heap.size ≤ w'.heap.size) : OI w' b B N own vs ss sa := by
 obtain ⟨gs, mo, mh, H, K, h⟩ := h
 exact ⟨gs, mo, mh, H, K, h.keep hk hs (fun _ x => x) (fun i hi => Nat.lt_of_lt_of_le (h.lt i hi) hs) h.low⟩
theorem OIx.ext (h : OIx w b B N own vs ss sa gs mo mh H K) (hx : Ext w w') : OIx w' b B N own vs ss sa gs mo mh H K :=
 h.keep (fun i hi => hx.block i (h.lt i hi)) hx.size (fun _ x => x) (fun i hi => Nat.lt_of_lt_of_le (h.lt i hi) hx.size) h.low
theorem OI.ext (h : OI w b B N own vs ss sa) (hx : Ext w w') : OI w' b B N own vs ss sa := by
 obtain ⟨gs, mo, mh, H, K, h⟩ := h
 exact ⟨gs, mo, mh, H, K, h.ext hx⟩
theorem OIx.look (h : OIx w b B N own vs ss sa gs mo mh H K) {o : Bs} (ho : o.length ≤ 1000000) :
  (Instr.lookup 82 (.map mo) (.string ⟨o.toArray⟩) false).run Try.prog w = .ok (.pointer ((nowI vs o).bind fun i => (gs[i]?).map fun g => ⟨g.b, 0, none⟩)) w := by
 rw [h.maps.obs.look Try.underlying82 (zero88 w) ho]
 cases nowI vs o with
 | none => rfl
 | some i =>
  simp only [Option.bind_some, List.getElem?_map]
  cases gs[i]? <;> rfl
theorem nowI_some {vs : List Vn} {o : Bs} {i : Nat} (h : nowI vs o = some i) : ∃ v, vs[i]? = some v ∧ v.obj = o ∧ v.went = false := by
 unfold nowI at h
 rw [List.findIdx?_eq_some_iff_getElem] at h
 obtain ⟨hi, h1, _⟩ := h
 simp at h1
 exact ⟨vs[i], by simp [hi], h1.1, h1.2⟩
theorem nowI_none {vs : List Vn} {o : Bs} (h : nowI vs o = none) : ∀ v ∈ vs, v.obj = o → v.went = true := by
 intro v hv ho
 unfold nowI at h
 rw [List.findIdx?_eq_none_iff] at h
 have := h v hv
 simp [ho] at this
 exact this
theorem VsAt.get (h : VsAt w B own vs gs) {i : Nat} {v : Vn} (hv : vs[i]? = some v) : ∃ g, gs[i]? = some g ∧ VerOk w B own v g := by
 have hi : i < vs.length := (List.getElem?_eq_some_iff.1 hv).1
 have hi' : i < gs.length := by rw [h.len]; exact hi
 exact ⟨gs[i], by simp [hi'], h.at_ i v _ hv (by simp [hi'])⟩
end
end Go.Proofs.Ytpangoddbfiagaa
namespace Go.Proofs.Ytpangoddbfiagaa
open Go.RowKit Go.Maps Go.ChangeMaps
set_option linter.unusedVariables false
set_option linter.unusedSimpArgs false
structure ExtP (own : Nat → Prop) (w w' : World) : Prop where
 os : w'.os = w.os
 tape : w'.tape = w.tape
 output : w'.output = w.output
 size : w.heap.size ≤ w'.heap.size
 block : ∀ k, k < w.heap.size → ¬ own k → w'.heap[k]? = w.heap[k]?
theorem ExtP.of {own : Nat → Prop} {w w' : World} (h : Ext w w') : ExtP own w w' := ⟨h.os, h.tape, h.output, h.size, fun k hk _ => h.block k hk⟩
theorem ExtP.ofB {own : Nat → Prop} {w w' : World} {X : List Nat} (h : ExtB X w w') (hX : ∀ k ∈ X, own k ∨ w.heap.size ≤ k) : ExtP own w w' := ⟨h.os, h.tape, h.output, h.size, fun k hk hn => h.block k hk fun hh => by
 rcases hX k hh with h1 | h1
 ·exact hn h1
 ·omega⟩
theorem ExtP.trans {own own1 : Nat → Prop} {w w1 w2 : World} (h : ExtP own w w1) (k : ExtP own1 w1 w2) (ho : ∀ i, own1 i → own i ∨ w.heap.size ≤ i) : ExtP own w w2 :=
 ⟨k.os.trans h.os, k.tape.trans h.tape, k.output.trans h.output, Nat.le_trans h.size k.size, fun i hi hn => (k.block i (Nat.lt_of_lt_of_le hi h.size) (fun h1 => by
  rcases ho i h1 with h2 | h2
  ·exact hn h2
  ·omega)).trans (h.block i hi hn)⟩
theorem ExtP.below {own : Nat → Prop} {w w' : World} {B : Nat} (h : ExtP own w w') (hB : B ≤ w.heap.size) (hX : ∀ k, own k → B ≤ k) : Below B w w' :=
 ⟨h.os, h.tape, h.output, h.size, fun k hk => h.block k (Nat.lt_of_lt_of_le hk hB) (fun hh => by have := hX k hh; omega)⟩
def grownOwn (own : Nat → Prop) (w w' : World) : Nat → Prop := fun i => own i ∨ (w.heap.size ≤ i ∧ i < w'.heap.size)
set_option maxRecDepth 100000 in
theorem new_any (w : World) : Calls Try.prog 10 #[] w fun e w' => e = .returned (.pointer (some ⟨w.heap.size, 0, none⟩)) ∧ OI w' w.heap.size w.heap.size 0 (fun i => i = w.heap.size) [] [] [] ∧ Ext w w' := by
 go_enter Try.func10, Try.ntmps10
 go_wp2
 go_ret
 refine ⟨rfl, ⟨[], none, none, fun _ => none, fun _ _ => none, heap_alloc_new w _, rfl, ⟨rfl, fun i v g h => (by simp at h), fun i j g g' h => (by simp at h), fun i j g g' x h => (by simp at h)⟩, ⟨rfl, fun j s b h => (by simp at h), fun i j b h => (by simp at h)⟩, ⟨.inl ⟨rfl, fun k => rfl⟩, .inl ⟨rfl, fun k => rfl⟩, fun o g h => (by cases h), fun o t => rfl, fun o o' g h => (by cases h), fun m h => (by cases h), fun m h => (by cases h), fun o g h => (by cases h), fun m h => (by cases h), fun o g h => (by cases h)⟩, fun i j v v' h => (by simp at h), fun i hi => ?_, fun i hi => ?_, ?_, by simp⟩, ext_alloc1 _ _⟩
 ·rw [hi]; simp
 ·omega
 ·simp
section
variable {w : World} {b B N : Nat} {own : Nat → Prop} {vs : List Vn} {ss : List Sn} {sa : List Nat} {gs : List Vg} {mo mh : Option Nat} {H : Bs → Option Nat} {K : Bs → Bs → Option Bool}
theorem look_none (h : OIx w b B N own vs ss sa gs mo mh H K) {o : Bs} (ho : o.length ≤ 1000000) (hn : nowI vs o = none) : (Instr.lookup 82 (.map mo) (.string ⟨o.toArray⟩) false).run Try.prog w = .ok (.pointer none) w := by
 rw [h.look ho, hn]; rfl
theorem look_some (h : OIx w b B N own vs ss sa gs mo mh H K) {o : Bs} (ho : o.length ≤ 1000000) {i : Nat} {g : Vg} (hn : nowI vs o = some i) (hg : gs[i]? = some g) : (Instr.lookup 82 (.map mo) (.string ⟨o.toArray⟩) false).run Try.prog w = .ok (.pointer (some ⟨g.b, 0, none⟩)) w := by
 rw [h.look ho, hn]; simp [hg]
set_option maxRecDepth 100000 in
theorem growing_none (h : OIx w b B N own vs ss sa gs mo mh H K) {o : Bs} (ho : o.length ≤ 1000000) (hn : nowI vs o = none) : Calls Try.prog 44 #[.pointer (some ⟨b, 0, none⟩), .string ⟨o.toArray⟩] w fun e w' => e = .returned (.tuple #[.pointer none, .int .i64 6]) ∧ w = w' := by
 have k0 := blk_cell h.blk 0
 simp at k0
 have hl := look_none h ho hn
 clear h hn
 go_enter Try.func44, Try.ntmps44
 go_wp2
 go_ret2
 exact ⟨rfl, rfl⟩
set_option maxRecDepth 100000 in
theorem growing_not (h : OIx w b B N own vs ss sa gs mo mh H K) {o : Bs} (ho : o.length ≤ 1000000) {i : Nat} {v : Vn} {g : Vg} (hn : nowI vs o = some i) (hv : vs[i]? = some v) (hg : gs[i]? = some g) (hlen : (v.m.len == -1) = false) : Calls Try.prog 44 #[.pointer (some ⟨b, 0, none⟩), .string ⟨o.toArray⟩] w fun e w' => e = .returned (.tuple #[.pointer none, .int .i64 11]) ∧ w = w' := by
 have k0 := blk_cell h.blk 0
 simp at k0
 have hl := look_some h ho hn hg
 have hgr := grows_any w g.b _ _ _ _ (h.vers.at_ i v g hv hg).blk
 simp only at hgr
 rw [hlen] at hgr
 have HGR := Lh hgr
 clear h hn hv hg hlen hgr
 obtain ⟨q, hq⟩ : ∃ q, q = g.b := ⟨_, rfl⟩
 rw [← hq] at hl HGR
 clear hq
 go_enter Try.func44, Try.ntmps44
 go_wp2_with (go_at_call 43; refine HGR.out.mono ?_; rintro e w1 ⟨rfl, rfl⟩)
 go_ret2
 exact ⟨rfl, rfl⟩
set_option maxRecDepth 100000 in
theorem growing_ok (h : OIx w b B N own vs ss sa gs mo mh H K) {o : Bs} (ho : o.length ≤ 1000000) {i : Nat} {v : Vn} {g : Vg} (hn : nowI vs o = some i) (hv : vs[i]? = some v) (hg : gs[i]? = some g) (hlen : (v.m.len == -1) = true) : Calls Try.prog 44 #[.pointer (some ⟨b, 0, none⟩), .string ⟨o.toArray⟩] w fun e w' => e = .returned (.tuple #[.pointer (some ⟨g.b, 0, none⟩), .int .i64 0]) ∧ w = w' := by
 have k0 := blk_cell h.blk 0
 simp at k0
 have hl := look_some h ho hn hg
 have hgr := grows_any w g.b _ _ _ _ (h.vers.at_ i v g hv hg).blk
 simp only at hgr
 rw [hlen] at hgr
 have HGR := Lh hgr
 clear h hn hv hg hlen hgr
 obtain ⟨q, hq⟩ : ∃ q, q = g.b := ⟨_, rfl⟩
 rw [← hq] at hl HGR ⊢
 clear hq
 go_enter Try.func44, Try.ntmps44
 go_wp2_with (go_at_call 43; refine HGR.out.mono ?_; rintro e w1 ⟨rfl, rfl⟩)
 go_ret2
 exact ⟨rfl, rfl⟩
def nowM (v : Vn) : MetaP := { v.m with hav := v.bytes.length }
def zeroM : MetaP := ⟨[], false, 0, 0, 0, 0, 0, 0, [], [], false⟩
def metaA (vs : List Vn) (o : Bs) : MetaP × Bool := match nowI vs o with
 | none => (zeroM, false)
 | some i => match vs[i]? with
  | none => (zeroM, false)
  | some v => (nowM v, true)
theorem VerOk.bvs {v : Vn} {g : Vg} (h : VerOk w B own v g) : ∃ A c, g.bv = .slice A v.bytes.length c := own_slice h.row
set_option maxRecDepth 100000 in
set_option maxHeartbeats 1000000 in
theorem bytes_any (hI : OI w b B N own vs ss sa) {o : Bs} (ho : o.length ≤ 1000000) : Calls Try.prog 20 #[.pointer (some ⟨b, 0, none⟩), .string ⟨o.toArray⟩] w fun e w' => ∃ v, e = .returned v ∧ BRow w' w.heap.size v (match nowI vs o with | none => [] | some i => match vs[i]? with | none => [] | some v => v.bytes) ∧ Ext w w' := by
 obtain ⟨gs, mo, mh, H, K, h⟩ := hI
 have k0 := blk_cell h.blk 0
 simp at k0
 cases hn : nowI vs o with
 | none =>
  have hl := look_none h ho hn
  clear h hn
  go_enter Try.func20, Try.ntmps20
  go_wp2
  go_ret
  exact ⟨_, rfl, World.ownsRow_nil _ _ _ _, Ext.refl _⟩
 | some i =>
  obtain ⟨v, hv, _, _⟩ := nowI_some hn
  obtain ⟨g, hg, hok⟩ := h.vers.get hv
  have hl := look_some h ho hn hg
  obtain ⟨A, c, hbv⟩ := hok.bvs
  have k11 := blk_cell hok.blk 11
  simp [verC, hbv] at k11
  have hrow := hok.row.at_
  rw [hbv] at hrow
  have HR := Lh hrow; have HLN := Lh hok.len
  simp only [hv]
  clear h hn hg hok hrow hbv hv
  obtain ⟨q, hq⟩ : ∃ q, q = g.b := ⟨_, rfl⟩
  rw [← hq] at hl k11
  clear hq
  obtain ⟨bs, hbs⟩ : ∃ bs, bs = v.bytes := ⟨_, rfl⟩
  rw [← hbs] at HR HLN k11 ⊢
  clear hbs
  go_enter Try.func20, Try.ntmps20
  go_wp2_with (at_builtin; refine wpList_copyB rfl _ _ rfl _ bs HR.out rfl rfl (by have := HLN.out; omega) ?_; intro v' W2 r2 x2; refine stop_of ?_)
  unfold Stop
  have R2 := Lh r2; have X2 := Lh x2
  clear r2 x2
  go_wp2
  go_ret
  exact ⟨_, rfl, R2.out, X2.out⟩
theorem results_row_tmp {fn : Func} {p u : Tmp} {ty : TypeId} (h : fn.results = #[.cell p ty, .tmp u]) (tmps : Array Value) (w : World) (g : Nat) (t : TypeId) (cs : Array Value) (fr : Nat × Nat) (d : TypeDesc) (x : Value)
  (hd : (match d with | .struct _ | .array _ _ => true | _ => false) = true) (hp : tmps.getD p undef = .pointer (some ⟨g, 0, none⟩)) (hg : w.heap[g]? = some (.cells cs t fr)) (hx : tmps.getD u undef = x)
  (hu : Try.prog.underlying ty = some d) (hi : (Try.prog.info? ty).map (·.size) = some cs.size) :
  (results fn tmps).run Try.prog w = .ok (.tuple #[.agg cs, x]) w := by
 rw [results_cell_tmp h, hp, hx]
 simp [asAddr, run_loadVar_row w g t ty cs fr d hg hu (by cases d <;> simp_all) hi]
set_option maxRecDepth 100000 in
set_option maxHeartbeats 1000000 in
theorem meta_any (hI : OI w b B N own vs ss sa) {o : Bs} (ho : o.length ≤ 1000000) : Calls Try.prog 21 #[.pointer (some ⟨b, 0, none⟩), .string ⟨o.toArray⟩] w fun e w' => ∃ kv, e = .returned (.tuple #[metaV (metaA vs o).1 kv, .bool (metaA vs o).2]) ∧ SRow w' w.heap.size kv (metaA vs o).1.keys ∧ Ext w w' := by
 obtain ⟨gs, mo, mh, H, K, h⟩ := hI
 cases hn : nowI vs o with
 | none =>
  have em : metaA vs o = (zeroM, false) := by simp [metaA, hn]
  rw [em]
  have hl := Lh fun W (x : Ext w W) => look_none (h.ext x) ho hn
  have HB := Lh h.blk
  clear h hn em
  go_enter Try.func21, Try.ntmps21
  go_wp2_with (refine wpList_new 38 _ zero38 rfl rfl ?_; intro W1 x1 n1 s1; refine stop_of ?_)
  unfold Stop
  have hl1 := hl.out _ x1
  have k0 := blk_cell (x1.heap HB.out) 0
  simp at k0
  have X1 := Lh x1; have N1 := Lh n1
  clear x1 n1 hl
  go_wp2_with (refine wpList_put 38 rfl _ _ rfl _ 0 38 _ (metaC zeroM (.slice none 0 0)).toArray (metaC zeroM (.slice none 0 0)) _ N1.out rfl rfl rfl (by simp [metaC]) rfl size38 (by kernel_rfl) ?_; intro W3 x3 n3 s3; refine stop_of ?_)
  unfold Stop
  have X3 := Lh (X1.out.thenB x3 (by simp)); have N3 := Lh n3
  clear x3 n3 k0 hl1
  go_wp2
  exact bodyPost_ret (results_row_tmp rfl _ _ w.heap.size 38 _ (0, 0) _ _ rfl rfl N3.out rfl Try.underlying38 size38) rfl ⟨.slice none 0 0, rfl, World.ownsRow_nil _ _ _ _, X3.out⟩
 | some i =>
  obtain ⟨v, hv, _, _⟩ := nowI_some hn
  obtain ⟨g, hg, hok⟩ := h.vers.get hv
  obtain ⟨A, c, hbv⟩ := hok.bvs
  have em : metaA vs o = (nowM v, true) := by simp [metaA, hn, hv]
  rw [em]
  have hl := Lh fun W (x : Ext w W) => look_some (h.ext x) ho hn hg
  have HNOW := Lh fun W (x : Ext w W) => now_any W g.b { v.m with hav := g.h } g.kv A v.bytes.length c v.went (by rw [← hbv]; exact x.heap hok.blk) (hok.keys.texts.ext x) ⟨hok.z.tt, hok.z.keys, hok.z.key, hok.z.ten⟩ (by have := hok.len; omega)
  have HB := Lh h.blk
  obtain ⟨q, hq⟩ : ∃ q, q = g.b := ⟨_, rfl⟩
  rw [← hq] at hl HNOW
  clear h hn hg hok hbv hv em hq
  go_enter Try.func21, Try.ntmps21
  go_wp2_with (refine wpList_new 38 _ zero38 rfl rfl ?_; intro W1 x1 n1 s1; refine stop_of ?_)
  unfold Stop
  have hl1 := hl.out _ x1
  have k0 := blk_cell (x1.heap HB.out) 0
  simp at k0
  have X1 := Lh x1; have N1 := Lh n1
  clear x1 n1 hl
  go_wp2_with (go_at_call 41; refine (HNOW.out _ X1.out).mono ?_; rintro e W2 ⟨kv, rfl, t2, x2⟩; refine stop_of ?_)
  unfold Stop
  obtain ⟨KA, KC, rfl, _, _, _⟩ := t2.texts
  have X2 := Lh (X1.out.trans x2); have N2 := Lh (x2.heap N1.out); have T2 := Lh t2
  clear x2 t2 X1 N1 k0 hl1
  unfold metaV
  go_wp2_with (refine wpList_put 38 rfl _ _ rfl _ 0 38 _ (metaC (nowM v) (.slice KA v.m.keys.length KC)).toArray (metaC (nowM v) (.slice KA v.m.keys.length KC)) _ N2.out rfl rfl rfl (by simp [metaC]) rfl size38 (by kernel_rfl) ?_; intro W3 x3 n3 s3; refine stop_of ?_)
  unfold Stop
  have X3 := Lh (X2.out.thenB x3 (by simp)); have N3 := Lh n3
  have T3 : Hid (SRow W3 w.heap.size (.slice KA v.m.keys.length KC) v.m.keys) := Lh (ownsRow_base (own_extB T2.out x3 (by
   intro y hy
   have : y = w.heap.size := by simpa using hy
   exact own_low T2.out (by omega))) (by omega))
  clear x3 n3
  go_wp2
  exact bodyPost_ret (results_row_tmp rfl _ _ w.heap.size 38 _ (0, 0) _ _ rfl rfl N3.out rfl Try.underlying38 size38) rfl ⟨.slice KA v.m.keys.length KC, rfl, T3.out, X3.out⟩
end
end Go.Proofs.Ytpangoddbfiagaa
namespace Go.Proofs.Ytpangoddbfiagaa
open Go.RowKit Go.Maps Go.ChangeMaps
set_option linter.unusedVariables false
set_option linter.unusedSimpArgs false
def kindOf (w : World) (g : Nat) : Nat := match w.heap[g]? with
 | some (.cells _ t _) => t
 | some (.map _ _) => 1000
 | _ => 2000
theorem kind_cells {w : World} {g : Nat} {cs : Array Value} {t : TypeId} {z : Nat × Nat} (h : w.heap[g]? = some (.cells cs t z)) : kindOf w g = t := by simp [kindOf, h]
theorem kind_map {w : World} {g : Nat} {es : Array MapEntry} {c : Nat} (h : w.heap[g]? = some (.map es c)) : kindOf w g = 1000 := by simp [kindOf, h]
theorem kind_row {w : World} {base : Nat} {e : TypeId} {size : Nat} {v : Value} {n : Nat} {xs : List Value} (h : w.ownsRow base e size v n xs) {x : Nat} (hx : v.ownBlock = some x) : kindOf w x = e := by
 rcases h.2 with ⟨rfl, _⟩ | ⟨g, cap, cur, rfl, hb, hgg, r⟩
 ·cases hx
 ·cases hx; exact kind_cells hgg
section
variable {w w' : World} {b B N : Nat} {own own' : Nat → Prop} {vs : List Vn} {ss : List Sn} {sa va : List Nat} {gs : List Vg} {mo mh : Option Nat} {H : Bs → Option Nat} {K : Bs → Bs → Option Bool} {X : List Nat}
theorem VerOk.extX {v : Vn} {g : Vg} (h : VerOk w B own v g) (hx : ExtB X w w') (h1 : g.b ∉ X) (h2 : ∀ x, g.kv.ownBlock = some x → x ∉ X) (h3 : ∀ x, g.bv.ownBlock = some x → x ∉ X) (ho : ∀ i, own i → own' i) : VerOk w' B own' v g :=
 ⟨hx.heap h.blk h1, own_keep h.keys fun x e => hx.block x (h.keys.lt x e).2 (h2 x e), own_keep h.row fun x e => hx.block x (h.row.lt x e).2 (h3 x e), ho _ h.ob, fun x e => ho x (h.ok x e), fun x e => ho x (h.obv x e), h.z, h.len⟩
theorem VerOk.kb {v : Vn} {g : Vg} (h : VerOk w B own v g) : kindOf w g.b = 90 := kind_cells h.blk
theorem VerOk.kk {v : Vn} {g : Vg} (h : VerOk w B own v g) {x : Nat} (e : g.kv.ownBlock = some x) : kindOf w x = 9 := kind_row h.keys e
theorem VerOk.kbv {v : Vn} {g : Vg} (h : VerOk w B own v g) {x : Nat} (e : g.bv.ownBlock = some x) : kindOf w x = 5 := kind_row h.row e
theorem VsAt.extK (h : VsAt w B own vs gs) (hx : ExtB X w w') (hX : ∀ g ∈ X, kindOf w g ≠ 90 ∧ kindOf w g ≠ 9 ∧ kindOf w g ≠ 5) (ho : ∀ i, own i → own' i) : VsAt w' B own' vs gs :=
 ⟨h.len, fun i v g hv hg => by
  have q := h.at_ i v g hv hg
  exact q.extX hx (fun hh => (hX _ hh).1 q.kb) (fun x e hh => (hX _ hh).2.1 (q.kk e)) (fun x e hh => (hX _ hh).2.2 (q.kbv e)) ho, h.nd, h.bnd⟩
theorem SsAt.extK (h : SsAt w B own va ss sa) (hx : ExtB X w w') (hX : ∀ g ∈ X, kindOf w g ≠ 94 ∧ kindOf w g ≠ 9) (ho : ∀ i, own i → own' i) : SsAt w' B own' va ss sa :=
 ⟨h.len, fun j s b hs hb => by
  obtain ⟨kv, h1, h2, h3, h4, h5⟩ := h.at_ j s b hs hb
  exact ⟨kv, hx.heap h1 (fun hh => (hX _ hh).1 (kind_cells h1)), own_keep h2 fun x e => hx.block x (h2.lt x e).2 (fun hh => (hX _ hh).2 (kind_row h2 e)), ho _ h3, fun x e => ho x (h4 x e), h5⟩, h.nd⟩
theorem MpAt.extK (h : MpAt w N own vs va mo mh H K) (hx : ExtB X w w') (hX : ∀ g ∈ X, kindOf w g ≠ 1000) (ho : ∀ i, own i → own' i) : MpAt w' N own' vs va mo mh H K := by
 have key : ∀ (m : Nat) (es : Array MapEntry) (cl : Nat), w.heap[m]? = some (.map es cl) → w'.heap[m]? = w.heap[m]? := fun m es cl e => hx.block m (blk_lt e) (fun hh => hX _ hh (kind_map e))
 refine ⟨?_, ?_, fun o g e => ?_, h.tie, h.hinj, fun m e => ho m (h.omo m e), fun m e => ho m (h.omh m e), fun o g e => ho g (h.oin o g e), h.d1, h.d2⟩
 ·refine h.obs.same fun m e => ?_
  subst e
  obtain ⟨es, cl, e⟩ := h.obs.lt
  exact key m es cl e
 ·refine h.had.same fun m e => ?_
  subst e
  obtain ⟨es, cl, e⟩ := h.had.lt
  exact key m es cl e
 ·obtain ⟨es, cl, e1⟩ := (h.inn o g e).at_
  exact (h.inn o g e).same (key g es cl e1)
theorem VsAt.set (h : VsAt w B own vs gs) {i : Nat} {v v' : Vn} {g g' : Vg} (hv : vs[i]? = some v) (hg : gs[i]? = some g) (hb : g'.b = g.b) (hok : VerOk w' B own' v' g') (hx : ExtB X w w') (hX : ∀ x ∈ X, x = g.b ∨ g.bv.ownBlock = some x) (hbv : ∀ x, g'.bv.ownBlock = some x → g.bv.ownBlock = some x ∨ w.heap.size ≤ x) (ho : ∀ i, own i → own' i) : VsAt w' B own' (vs.set i v') (gs.set i g') := by
 have hi : i < vs.length := (List.getElem?_eq_some_iff.1 hv).1
 have hi' : i < gs.length := (List.getElem?_eq_some_iff.1 hg).1
 have q := h.at_ i v g hv hg
 have get : ∀ (j : Nat) (y : Vg), (gs.set i g')[j]? = some y → (j = i ∧ y = g') ∨ (j ≠ i ∧ gs[j]? = some y) := fun j y e => by
  by_cases hj : j = i
  ·subst hj; rw [List.getElem?_set_self hi'] at e; exact .inl ⟨rfl, (Option.some.inj e).symm⟩
  ·rw [List.getElem?_set_ne (Ne.symm hj)] at e; exact .inr ⟨hj, e⟩
 have vget : ∀ (j : Nat), j < gs.length → ∃ u, vs[j]? = some u := fun j hj => ⟨vs[j]'(by rw [← h.len]; exact hj), by simp [← h.len, hj]⟩
 refine ⟨by simp [h.len], fun j u y hu hy => ?_, fun j k y y' hy hy' e => ?_, fun j k y y' x hy hy' e e' => ?_⟩
 ·rcases get j y hy with ⟨rfl, rfl⟩ | ⟨hj, hy⟩
  ·rw [List.getElem?_set_self hi] at hu
   cases hu; exact hok
  ·rw [List.getElem?_set_ne (Ne.symm hj)] at hu
   have p := h.at_ j u y hu hy
   refine p.extX hx (fun hh => ?_) (fun x e hh => ?_) (fun x e hh => ?_) ho
   ·rcases hX _ hh with h1 | h1
    ·exact hj (h.nd j i y g hy hg h1)
    ·have := p.kb; rw [q.kbv h1] at this; cases this
   ·rcases hX _ hh with h1 | h1
    ·subst h1; have := p.kk e; rw [q.kb] at this; cases this
    ·have := p.kk e; rw [q.kbv h1] at this; cases this
   ·rcases hX _ hh with h1 | h1
    ·subst h1; have := p.kbv e; rw [q.kb] at this; cases this
    ·exact hj (h.bnd j i y g x hy hg e h1)
 ·rcases get j y hy with ⟨e1, e2⟩ | ⟨hj, h1⟩ <;> rcases get k y' hy' with ⟨e3, e4⟩ | ⟨hk, h2⟩
  ·rw [e1, e3]
  ·rw [e1]; rw [e2] at e; exact h.nd _ _ _ _ hg h2 (hb.symm.trans e)
  ·rw [e3]; rw [e4] at e; exact h.nd _ _ _ _ h1 hg (e.trans hb)
  ·exact h.nd _ _ _ _ h1 h2 e
 ·have low : ∀ (k : Nat) (y : Vg), gs[k]? = some y → y.bv.ownBlock = some x → x < w.heap.size := fun k y hy e => by
   obtain ⟨u, hu⟩ := vget k (List.getElem?_eq_some_iff.1 hy).1
   exact ((h.at_ k u y hu hy).row.lt x e).2
  rcases get j y hy with ⟨e1, e2⟩ | ⟨hj, h1⟩ <;> rcases get k y' hy' with ⟨e3, e4⟩ | ⟨hk, h2⟩
  ·rw [e1, e3]
  ·rw [e2] at e
   rcases hbv x e with h3 | h3
   ·rw [e1]; exact h.bnd _ _ _ _ x hg h2 h3 e'
   ·have := low k y' h2 e'; omega
  ·rw [e4] at e'
   rcases hbv x e' with h3 | h3
   ·rw [e3]; exact h.bnd _ _ _ _ x h1 hg e h3
   ·have := low j y h1 e; omega
  ·exact h.bnd _ _ _ _ x h1 h2 e e'
theorem map_set_same {α β : Type} {l : List α} {f : α → β} {i : Nat} {x y : α} (hx : l[i]? = some x) (hf : f y = f x) : (l.set i y).map f = l.map f := by
 rw [List.map_set, hf]
 apply List.ext_getElem?
 intro j
 by_cases hj : j = i
 ·subst hj
  have hi : j < l.length := (List.getElem?_eq_some_iff.1 hx).1
  rw [List.getElem?_set_self (by simpa using hi)]
  simp [hx]
 ·rw [List.getElem?_set_ne (Ne.symm hj)]
def viewN (v : Vn) : Bs × Bool := (v.obj, v.went)
def viewT (v : Vn) : Bs × Bs × Bool := (v.obj, v.m.tt, v.m.tw)
theorem nowI_view {vs vs' : List Vn} (h : vs.map viewN = vs'.map viewN) (o : Bs) : nowI vs o = nowI vs' o := by
 have e : ∀ l : List Vn, nowI l o = (l.map viewN).findIdx? (fun p => p.1 == o && !p.2) := fun l => by
  rw [List.findIdx?_map]; rfl
 rw [e, e, h]
theorem hadA_view {vs vs' : List Vn} (h : vs.map viewT = vs'.map viewT) (o t : Bs) : hadA vs o t = hadA vs' o t := by
 have e : ∀ (l : List Vn), hadA l o t = if (l.map viewT).any (fun p => p.1 == o && !(p.2.1 == [] && !p.2.2) && p.2.1 == t) = true then some ((l.map viewT).any fun p => p.1 == o && !(p.2.1 == [] && !p.2.2) && p.2.1 == t && !p.2.2) else none := fun l => by
  rw [List.any_map, List.any_map]; rfl
 rw [e, e, h]
theorem One.view {vs vs' : List Vn} (h1 : One vs) (h : vs.map viewN = vs'.map viewN) : One vs' := by
 have key : ∀ (i : Nat) (v : Vn), vs'[i]? = some v → ∃ u, vs[i]? = some u ∧ u.obj = v.obj ∧ u.went = v.went := fun i v hv => by
  have e : (vs'.map viewN)[i]? = some (viewN v) := by simp [hv]
  rw [← h, List.getElem?_map] at e
  cases hu : vs[i]? with
  | none => rw [hu] at e; cases e
  | some u =>
   rw [hu] at e
   have e' : viewN u = viewN v := by simpa using e
   exact ⟨u, rfl, congrArg Prod.fst e', congrArg Prod.snd e'⟩
 intro i j v v' hv hv' hw hw' ho
 obtain ⟨u, hu, e1, e2⟩ := key i v hv
 obtain ⟨u', hu', e3, e4⟩ := key j v' hv'
 exact h1 i j u u' hu hu' (e2.trans hw) (e4.trans hw') (e1.trans (ho.trans e3.symm))
theorem MpAt.view {vs' : List Vn} (h : MpAt w N own vs va mo mh H K) (h1 : vs.map viewN = vs'.map viewN) (h2 : vs.map viewT = vs'.map viewT) : MpAt w N own vs' va mo mh H K := by
 refine ⟨?_, h.had, h.inn, fun o t => by rw [← hadA_view h2]; exact h.tie o t, h.hinj, h.omo, h.omh, h.oin, h.d1, h.d2⟩
 have : (fun o => (nowI vs' o).bind (va[·]?)) = (fun o => (nowI vs o).bind (va[·]?)) := by funext o; rw [nowI_view h1]
 rw [this]; exact h.obs
theorem OIx.setV (h : OIx w b B N own vs ss sa gs mo mh H K) {i : Nat} {v v' : Vn} {g g' : Vg} (hv : vs[i]? = some v) (hg : gs[i]? = some g) (hb : g'.b = g.b) (hok : VerOk w' B own' v' g') (hx : ExtB X w w') (hX : ∀ x ∈ X, x = g.b ∨ g.bv.ownBlock = some x) (hbv : ∀ x, g'.bv.ownBlock = some x → g.bv.ownBlock = some x ∨ w.heap.size ≤ x) (ho : ∀ i, own i → own' i)
  (hlt : ∀ i, own' i → i < w'.heap.size) (hlow : ∀ i, own' i → B ≤ i) (hobj : v'.obj = v.obj) (hwent : v'.went = v.went) (htt : v'.m.tt = v.m.tt) (htw : v'.m.tw = v.m.tw) : OIx w' b B N own' (vs.set i v') ss sa (gs.set i g') mo mh H K := by
 have q := h.vers.at_ i v g hv hg
 have hne : ∀ x ∈ X, ∀ t, t ≠ 90 → t ≠ 5 → kindOf w x ≠ t := fun x hx t h1 h2 e => by
  rcases hX x hx with h3 | h3
  ·subst h3; exact h1 (e.symm.trans q.kb)
  ·exact h2 (e.symm.trans (q.kbv h3))
 have eb : (gs.set i g').map (·.b) = gs.map (·.b) := map_set_same hg hb
 have e1 : (vs.set i v').map viewN = vs.map viewN := map_set_same hv (by unfold viewN; rw [hobj, hwent])
 have e2 : (vs.set i v').map viewT = vs.map viewT := map_set_same hv (by unfold viewT; rw [hobj, htt, htw])
 refine ⟨hx.heap h.blk (fun hh => hne _ hh 84 (by decide) (by decide) (kind_cells h.blk)), ho _ h.ob, h.vers.set hv hg hb hok hx hX hbv ho, ?_, ?_, h.one.view e1.symm, hlt, hlow, Nat.le_trans h.lowB hx.size, fun u hu => ?_⟩
 ·rw [eb]; exact h.strs.extK hx (fun x hx => ⟨hne x hx 94 (by decide) (by decide), hne x hx 9 (by decide) (by decide)⟩) ho
 ·rw [eb]; exact (h.maps.extK hx (fun x hx => hne x hx 1000 (by decide) (by decide)) ho).view e1.symm e2.symm
 ·rcases List.mem_or_eq_of_mem_set hu with h1 | h1
  ·exact h.objs u h1
  ·subst h1; rw [hobj]; exact h.objs v (List.mem_of_getElem? hv)
end
end Go.Proofs.Ytpangoddbfiagaa
namespace Go.Proofs.Ytpangoddbfiagaa
open Go.RowKit Go.Maps Go.ChangeMaps
set_option linter.unusedVariables false
set_option linter.unusedSimpArgs false
def sealV (v : Vn) : Vn := { v with m := { v.m with len := v.bytes.length } }
def sealA (vs : List Vn) (o : Bs) : Int × List Vn := match nowI vs o with
 | none => (6, vs)
 | some i => match vs[i]? with
  | none => (6, vs)
  | some v => if (v.m.len == -1) = true then (0, vs.set i (sealV v)) else (11, vs)
def growV (v : Vn) (bs : Bs) : Vn := { v with bytes := v.bytes ++ bs }
def growA (vs : List Vn) (o bs : Bs) : Int × List Vn := match nowI vs o with
 | none => (6, vs)
 | some i => match vs[i]? with
  | none => (6, vs)
  | some v => if (v.m.len == -1) = true then (0, vs.set i (growV v bs)) else (11, vs)
section
variable {w : World} {b B N : Nat} {own : Nat → Prop} {vs : List Vn} {ss : List Sn} {sa : List Nat}
set_option maxRecDepth 100000 in
set_option maxHeartbeats 1000000 in
theorem seal_any (hI : OI w b B N own vs ss sa) {o : Bs} (ho : o.length ≤ 1000000) : Calls Try.prog 19 #[.pointer (some ⟨b, 0, none⟩), .string ⟨o.toArray⟩] w fun e w' => e = .returned (.int .i64 (sealA vs o).1) ∧ OI w' b B N own (sealA vs o).2 ss sa ∧ ExtP own w w' := by
 obtain ⟨gs, mo, mh, H, K, h⟩ := hI
 cases hn : nowI vs o with
 | none =>
  have em : sealA vs o = (6, vs) := by simp [sealA, hn]
  rw [em]
  have hg := Lh (growing_none h ho hn)
  have HI := Lh (show OI w b B N own vs ss sa from ⟨gs, mo, mh, H, K, h⟩)
  clear h hn em
  go_enter Try.func19, Try.ntmps19
  go_wp2_with (go_at_call 44; refine hg.out.mono ?_; rintro e w1 ⟨rfl, rfl⟩)
  go_ret
  exact ⟨rfl, HI.out, .of (Ext.refl _)⟩
 | some i =>
  obtain ⟨v, hv, _, _⟩ := nowI_some hn
  obtain ⟨g, hg, hok⟩ := h.vers.get hv
  obtain ⟨A, c, hbv⟩ := hok.bvs
  cases hlen : (v.m.len == -1) with
  | false =>
   have em : sealA vs o = (11, vs) := by simp [sealA, hn, hv, hlen]
   rw [em]
   have hg := Lh (growing_not h ho hn hv hg hlen)
   have HI := Lh (show OI w b B N own vs ss sa from ⟨gs, mo, mh, H, K, h⟩)
   clear h hn em hok hlen hbv
   go_enter Try.func19, Try.ntmps19
   go_wp2_with (go_at_call 44; refine hg.out.mono ?_; rintro e w1 ⟨rfl, rfl⟩)
   go_ret
   exact ⟨rfl, HI.out, .of (Ext.refl _)⟩
  | true =>
   have em : sealA vs o = (0, vs.set i (sealV v)) := by simp [sealA, hn, hv, hlen]
   rw [em]
   have hgr := Lh (growing_ok h ho hn hv hg hlen)
   have HI := Lh h; have HV := Lh hv; have HG := Lh hg; have OK := Lh hok; have HBV := Lh hbv
   have k11 := blk_cell hok.blk 11
   simp [verC, hbv] at k11
   have HBLK := Lh hok.blk
   have hlb : v.bytes.length ≤ 100000 := hok.len
   obtain ⟨q, hq⟩ : ∃ q, q = g.b := ⟨_, rfl⟩
   rw [← hq] at hgr k11 HBLK
   have HQ := Lh hq
   clear h hn em hok hlen hbv hv hg hq
   go_enter Try.func19, Try.ntmps19
   go_wp2_with (first | (go_at_call 44; refine hgr.out.mono ?_; rintro e w1 ⟨rfl, rfl⟩) | (refine wpList_put 2 rfl _ _ rfl _ 3 90 _ (verC { v.m with hav := g.h, len := v.bytes.length } g.kv g.bv v.went) [.int .i64 v.bytes.length] (.int .i64 v.bytes.length) HBLK.out rfl rfl rfl (by simp [verC]) rfl size2 (by simp [putA, verC]) ?_; intro W3 x3 n3 s3; refine stop_of ?_))
   unfold Stop
   have X3 := Lh x3; have N3 := Lh n3
   clear x3 n3 k11
   go_wp2
   go_ret
   rw [HQ.out] at X3 N3
   refine ⟨rfl, ⟨gs.set i g, mo, mh, H, K, ?_⟩, .ofB X3.out (fun k hk => .inl ?_)⟩
   ·have ok := OK.out
    refine HI.out.setV (v' := sealV v) (g' := g) HV.out HG.out rfl ⟨N3.out, own_extB ok.keys X3.out ?_, own_extB ok.row X3.out ?_, ok.ob, ok.ok, ok.obv, ⟨ok.z.tt, ok.z.keys, ok.z.key, ok.z.ten⟩, ok.len⟩ X3.out (fun x hx => .inl (by simpa using hx)) (fun x hx => .inl hx) (fun _ hi => hi) (fun j hj => Nat.lt_of_lt_of_le (HI.out.lt j hj) X3.out.size) HI.out.low rfl rfl rfl rfl
    ·intro x hx e
     have hx' : x = g.b := by simpa using hx
     subst hx'
     have := ok.kk e; rw [ok.kb] at this; cases this
    ·intro x hx e
     have hx' : x = g.b := by simpa using hx
     subst hx'
     have := ok.kbv e; rw [ok.kb] at this; cases this
   ·have hk' : k = g.b := by simpa using hk
    rw [hk']; exact OK.out.ob
end
end Go.Proofs.Ytpangoddbfiagaa
namespace Go.Proofs.Ytpangoddbfiagaa
open Go.RowKit Go.Maps Go.ChangeMaps
set_option linter.unusedVariables false
set_option linter.unusedSimpArgs false
theorem run_append_where {w : World} (base : Nat) (ty : TypeId) (i : TypeInfo) (z : Value) (hi : Try.prog.info? 5 = some i) (hz : i.zero = some z) (hsize : i.size = 1) (hby : i.bytes = 1) (hzs : z.cells.size = 1)
  (v : Value) (n : Nat) (xs : List Value) (hown : w.ownsRow base 5 1 v n xs)
  (a : Addr) (m c : Nat) (news : List Value) (hl : news.length = m * 1) (hnews : ∀ j u, news[j]? = some u → w.cell? (a.add j) = some u) (h1 : ∀ u ∈ news, u.oneCell' = true)
  (h63 : n + m ≤ 1000000) {v' : Value} {w' : World} (hr : (Builtin.append_ #[22, 22] ty #[v, .slice (some a) m c]).run Try.prog w = .ok v' w') : ∀ x, v'.ownBlock = some x → v.ownBlock = some x ∨ w.heap.size ≤ x := by
 rcases hown.2 with ⟨rfl, rfl⟩ | ⟨g, cap, cur, rfl, hbg, hg, hnc, hcm, hcs, htake⟩
 ·have hx : xs = [] := List.eq_nil_of_length_eq_zero (by simpa using hown.1)
  subst hx
  obtain ⟨v2, w2, hr2, h2, _, _⟩ := run_append_own (P := Try.prog) w w.heap.size 22 ty 5 i z 1 1 Try.underlying22 hi hz hsize hby hzs (by decide) (.slice none 0 0) 0 [] (World.ownsRow_nil _ _ _ _) a m c news hl hnews h1 (by unfold maxLen; omega) (by omega) (Nat.le_refl _)
  rw [hr] at hr2
  cases hr2
  exact fun x hx => .inr (h2.lt x hx).1
 ·by_cases hroom : n + m ≤ cap
  ·have hr2 := run_append_room (P := Try.prog) w 22 ty 5 i Try.underlying22 hi g n cap cur hg a m c news (by rw [hsize]; exact hl) hnews h1 hroom (by rw [hsize, hl, hcs]; omega)
   rw [hr] at hr2
   cases hr2
   exact fun x hx => .inl hx
  ·have holds : ∀ j u, xs[j]? = some u → w.cell? ((⟨g, 0, none⟩ : Addr).add j) = some u := hown.cells (g := g) rfl
   have hr2 := run_append_grow (P := Try.prog) w 22 ty 5 i z Try.underlying22 hi hz ⟨g, 0, none⟩ n cap xs (by rw [hsize]; exact hown.1) holds a m c news (by rw [hsize]; exact hl) hnews (by omega) (by omega) (growslice_fits (by omega) (by rw [hby]; omega))
   rw [hr] at hr2
   cases hr2
   exact fun x hx => .inr (by cases hx; exact Nat.le_refl _)
set_option maxRecDepth 100000 in
theorem wpList_growB {W : World} {ops : Array Oper} {rest : List Oper} {o : Oper} {a : Act} {Q : Exit → Act → World → Prop}
  (hgd : o.guard = none) (s x : Operand) (ho : o.op = .call { callee := .builtin .append, args := #[s, x], argTypes := #[22, 22] }) (base : Nat) (v u : Value) (ys bs : Bs) (hown : BRow W base v ys) (hsrc : BytesAt W u bs) (hs : a.eval s = v) (hx : a.eval x = u) (hlen : ys.length + bs.length ≤ 1000000) (hbase : base ≤ W.heap.size)
  (h : ∀ v' w', BRow w' base v' (ys ++ bs) → W.grownBy w' v.ownBlock → (∀ x, v'.ownBlock = some x → v.ownBlock = some x ∨ W.heap.size ≤ x) → wpList Try.prog ops Q rest (a.put o.dst v') w') : wpList Try.prog ops Q (o :: rest) a W := by
 obtain ⟨i0, hi, hz0, hz1, hz2⟩ := info_parts info5
 obtain ⟨A, c, rfl, hc0, hc1, hc⟩ := hsrc
 cases A with
 | none =>
  have hx0 : bs = [] := by
   cases bs with
   | nil => rfl
   | cons x xs => obtain ⟨b, off, e, _⟩ := hc 0 (by simp); cases e
  subst hx0
  have hc0 := hc1 rfl
  subst hc0
  refine wpList_append_own_none hgd s x 22 ho base 5 i0 1 Try.underlying22 hi v _ _ hs hown hx ?_
  exact h v W (by simpa using hown) ⟨rfl, rfl, rfl, Nat.le_refl _, fun _ _ _ => rfl⟩ (fun x hx => .inl hx)
 | some A =>
  have hl : (bs.map byteV).length = bs.length * 1 := by simp
  have hone : ∀ q ∈ bs.map byteV, q.oneCell' = true := by intro q hq; obtain ⟨z, _, rfl⟩ := List.mem_map.1 hq; rfl
  have hnews : ∀ j u, (bs.map byteV)[j]? = some u → W.cell? (A.add j) = some u := by
   intro j q hq
   have hj : j < (bs.map byteV).length := (List.getElem?_eq_some_iff.1 hq).1
   obtain ⟨b, off, e, hcell⟩ := hc j hj
   injection e with e
   subst e
   rw [List.getElem?_eq_getElem hj] at hq
   rw [← hq, add_plain]; exact hcell
  simp only [List.length_map] at hx
  obtain ⟨v', w', hr, h2, h3, _⟩ := run_append_own (P := Try.prog) W base 22 o.type 5 i0 _ 1 1 Try.underlying22 hi hz0 hz1 hz2 rfl (by decide) v ys.length (ys.map byteV) hown A bs.length c (bs.map byteV) hl hnews hone (by unfold maxLen; omega) (by omega) hbase
  have h4 := run_append_where base o.type i0 _ hi hz0 hz1 hz2 rfl v ys.length (ys.map byteV) hown A bs.length c (bs.map byteV) hl hnews hone (by omega) hr
  refine wpList_plain hgd fun K hK => ?_
  unfold Oper.wp execOp
  simp only [ho, resolve, invoke, builtin, Sem.run_bind, Sem.run_pure, Result.andThen_ok, List.map_toArray, List.map_cons, List.map_nil, hs, hx, hr]
  refine hK _ _ (h v' w' ?_ h3 h4)
  unfold BRow
  rw [List.length_append, List.map_append]
  exact h2
theorem grownBy_extB {w w' : World} {r : Option Nat} (h : w.grownBy w' r) : ExtB r.toList w w' := ⟨h.os, h.tape, h.output, h.size, fun k hk hx => h.block k hk (fun e => hx (by rw [← e]; simp))⟩
section
variable {w : World} {b B N : Nat} {own : Nat → Prop} {vs : List Vn} {ss : List Sn} {sa : List Nat}
set_option maxRecDepth 100000 in
set_option maxHeartbeats 1000000 in
theorem grow_any (hI : OI w b B N own vs ss sa) {o bs : Bs} {u : Value} (ho : o.length ≤ 1000000) (hu : BytesAt w u bs) (hbs : bs.length ≤ 1000) (hcap : ∀ i v, nowI vs o = some i → vs[i]? = some v → v.bytes.length + bs.length ≤ 100000) :
  Calls Try.prog 17 #[.pointer (some ⟨b, 0, none⟩), .string ⟨o.toArray⟩, u] w fun e w' => e = .returned (.int .i64 (growA vs o bs).1) ∧ OI w' b B N (grownOwn own w w') (growA vs o bs).2 ss sa ∧ ExtP own w w' := by
 obtain ⟨gs, mo, mh, H, K, h⟩ := hI
 have own_w : ∀ i, grownOwn own w w i → own i := fun i hi => by
  rcases hi with hi | hi
  ·exact hi
  ·omega
 cases hn : nowI vs o with
 | none =>
  have em : growA vs o bs = (6, vs) := by simp [growA, hn]
  rw [em]
  have hg := Lh (growing_none h ho hn)
  have HI := Lh (show OI w b B N (grownOwn own w w) vs ss sa from ⟨gs, mo, mh, H, K, h.keep (fun _ _ => rfl) (Nat.le_refl _) (fun i hi => .inl hi) (fun i hi => h.lt i (own_w i hi)) (fun i hi => h.low i (own_w i hi))⟩)
  clear h hn em hcap own_w
  go_enter Try.func17, Try.ntmps17
  go_wp2_with (go_at_call 44; refine hg.out.mono ?_; rintro e w1 ⟨rfl, rfl⟩)
  go_ret
  exact ⟨rfl, HI.out, .of (Ext.refl _)⟩
 | some i =>
  obtain ⟨v, hv, _, _⟩ := nowI_some hn
  obtain ⟨g, hg, hok⟩ := h.vers.get hv
  obtain ⟨A, c, hbv⟩ := hok.bvs
  cases hlen : (v.m.len == -1) with
  | false =>
   have em : growA vs o bs = (11, vs) := by simp [growA, hn, hv, hlen]
   rw [em]
   have hg := Lh (growing_not h ho hn hv hg hlen)
   have HI := Lh (show OI w b B N (grownOwn own w w) vs ss sa from ⟨gs, mo, mh, H, K, h.keep (fun _ _ => rfl) (Nat.le_refl _) (fun i hi => .inl hi) (fun i hi => h.lt i (own_w i hi)) (fun i hi => h.low i (own_w i hi))⟩)
   clear h hn em hok hlen hbv hcap own_w
   go_enter Try.func17, Try.ntmps17
   go_wp2_with (go_at_call 44; refine hg.out.mono ?_; rintro e w1 ⟨rfl, rfl⟩)
   go_ret
   exact ⟨rfl, HI.out, .of (Ext.refl _)⟩
  | true =>
   have em : growA vs o bs = (0, vs.set i (growV v bs)) := by simp [growA, hn, hv, hlen]
   rw [em]
   have hgr := Lh (growing_ok h ho hn hv hg hlen)
   have HI := Lh h; have HV := Lh hv; have HG := Lh hg; have OK := Lh hok; have HBV := Lh hbv
   have k11 := blk_cell hok.blk 11
   simp [verC, hbv] at k11
   have hlb := hcap i v hn hv
   have HU := Lh hu
   obtain ⟨A2, c2, rfl, _, _, _⟩ := hu
   rw [List.length_map] at HU ⊢
   obtain ⟨q, hq⟩ : ∃ q, q = g.b := ⟨_, rfl⟩
   rw [← hq] at hgr k11
   have HQ := Lh hq
   clear h hn em hok hlen hbv hv hg hq hcap own_w
   go_enter Try.func17, Try.ntmps17
   go_wp2_with (first | (go_at_call 44; refine hgr.out.mono ?_; rintro e w1 ⟨rfl, rfl⟩) | (at_builtin; refine wpList_growB rfl _ _ rfl B (.slice A v.bytes.length c) (.slice A2 bs.length c2) v.bytes bs (by rw [← HBV.out]; exact OK.out.row) HU.out rfl rfl (by omega) HI.out.lowB ?_; intro v2 W2 r2 g2 p2; refine stop_of ?_))
   unfold Stop
   obtain ⟨A3, c3, hv2⟩ := own_slice r2
   subst hv2
   have ok := OK.out
   have XB := grownBy_extB g2
   have hqX : ∀ x, (Value.slice A v.bytes.length c).ownBlock = some x → x ≠ q := fun x e e2 => by
    rw [← HBV.out] at e
    have := ok.kbv e; rw [e2, HQ.out, ok.kb] at this; cases this
   have hblk : W2.heap[q]? = some (.cells (verC { v.m with hav := g.h } g.kv (.slice A v.bytes.length c) v.went) 90 (0, 0)) := by
    have := XB.heap (r := q) (o := .cells (verC { v.m with hav := g.h } g.kv g.bv v.went) 90 (0, 0)) (by rw [HQ.out]; exact ok.blk) (by simp; exact fun e => hqX q e rfl)
    rw [HBV.out] at this; exact this
   have HBLK := Lh hblk; have XB2 := Lh XB; have R2 := Lh r2; have P2 := Lh p2
   clear hblk XB r2 p2 hqX g2 ok k11
   go_wp2_with (refine wpList_put 22 rfl _ _ rfl _ 11 90 _ (verC { v.m with hav := g.h } g.kv (.slice A3 (v.bytes ++ bs).length c3) v.went) [.slice A3 (v.bytes ++ bs).length c3] (.slice A3 (v.bytes ++ bs).length c3) HBLK.out rfl rfl rfl (by simp [verC]) rfl size22 (by simp [putA, verC]) ?_; intro W3 x3 n3 s3; refine stop_of ?_)
   unfold Stop
   have X3 := Lh x3; have N3 := Lh n3
   clear x3 n3
   go_wp2
   go_ret
   have ok := OK.out
   have hqlt : q < w.heap.size := by rw [HQ.out]; exact blk_lt ok.blk
   have hsz : w.heap.size ≤ W2.heap.size := XB2.out.size
   have XX : ExtB (q :: (Value.slice A v.bytes.length c).ownBlock.toList) w W3 := (XB2.out.mono (by intro k hk; exact List.mem_cons_of_mem _ hk)).trans (X3.out.mono (by intro k hk; simp at hk; simp [hk]))
   have hXX : ∀ x ∈ q :: (Value.slice A v.bytes.length c).ownBlock.toList, x = g.b ∨ g.bv.ownBlock = some x := fun x hx => by
    rcases List.mem_cons.1 hx with h1 | h1
    ·exact .inl (h1.trans HQ.out)
    ·exact .inr (by rw [HBV.out]; simpa using h1)
   have hp2 : ∀ x, (Value.slice A3 (v.bytes ++ bs).length c3).ownBlock = some x → g.bv.ownBlock = some x ∨ w.heap.size ≤ x := fun x e => by rw [HBV.out]; exact P2.out x e
   have r3 : BRow W3 B (.slice A3 (v.bytes ++ bs).length c3) (v.bytes ++ bs) := own_extB R2.out X3.out (by
    intro x hx e
    have hx' : x = q := by simpa using hx
    subst hx'
    rcases hp2 _ e with h1 | h1
    ·have := ok.kbv h1; rw [HQ.out, ok.kb] at this; cases this
    ·omega)
   have hkeys : SRow W3 B g.kv v.m.keys := own_extB ok.keys XX (by
    intro x hx e
    rcases hXX x hx with h1 | h1
    ·subst h1; have := ok.kk e; rw [ok.kb] at this; cases this
    ·have := ok.kk e; rw [ok.kbv h1] at this; cases this)
   have hz : MetaZ v.m := ok.z
   rw [HQ.out] at N3
   refine ⟨rfl, ⟨gs.set i ⟨g.b, g.kv, .slice A3 (v.bytes ++ bs).length c3, g.h⟩, mo, mh, H, K, HI.out.setV (v' := growV v bs) HV.out HG.out rfl ⟨N3.out, hkeys, r3, .inl ok.ob, fun x e => .inl (ok.ok x e), fun x e => ?_, hz, by simp [growV]; omega⟩ XX hXX hp2 (fun _ hi => .inl hi) (fun j hj => ?_) (fun j hj => ?_) rfl rfl rfl rfl⟩, .ofB XX (fun k hk => .inl ?_)⟩
   ·rcases hp2 x e with h1 | h1
    ·exact .inl (ok.obv x h1)
    ·exact .inr ⟨h1, (r3.lt x e).2⟩
   ·rcases hj with hj | hj
    ·exact Nat.lt_of_lt_of_le (HI.out.lt j hj) XX.size
    ·exact hj.2
   ·rcases hj with hj | hj
    ·exact HI.out.low j hj
    ·exact Nat.le_trans HI.out.lowB hj.1
   ·rcases hXX k hk with h1 | h1
    ·rw [h1]; exact ok.ob
    ·exact ok.obv k h1
end
end Go.Proofs.Ytpangoddbfiagaa
namespace Go.Proofs.Ytpangoddbfiagaa
open Go.RowKit Go.Maps Go.ChangeMaps
set_option linter.unusedVariables false
set_option linter.unusedSimpArgs false
def askB (t : Bs) (b : Bool) : Bool := (t == [] && !b) || tagB t
set_option maxRecDepth 100000 in
theorem asks_any (t : Bs) (b : Bool) (w : World) (ht : t.length ≤ 1000000) : Calls Try.prog 38 #[tagV t b] w fun e w' => e = .returned (.bool (askB t b)) ∧ Ext w w' := by
 have HT := Lh fun W => tag_any t W b ht
 unfold tagV
 obtain ⟨x, hx⟩ : ∃ x, x = askB t b := ⟨_, rfl⟩
 rw [← hx]
 have HX := Lh hx
 clear hx
 cases t with
 | nil =>
  cases b with
  | false =>
   go_enter Try.func38, Try.ntmps38
   go_wp2
   go_ret
   exact ⟨ret_bool (by rw [HX.out]; rfl), ext_alloc1 _ _⟩
  | true =>
   go_enter Try.func38, Try.ntmps38
   go_wp2_with (go_at_call 39; refine (HT.out _).mono ?_; rintro e w1 ⟨rfl, x1⟩; refine stop_of ?_)
   unfold Stop
   have X1 := Lh ((ext_alloc1 w _).trans x1)
   clear x1
   go_wp2
   go_ret
   exact ⟨ret_bool (by rw [HX.out]; simp [askB]), X1.out⟩
 | cons c0 t0 =>
  obtain ⟨yt, hyt⟩ : ∃ y, y = tagB (c0 :: t0) := ⟨_, rfl⟩
  rw [← hyt] at HT
  have YT := Lh hyt
  clear hyt
  go_enter Try.func38, Try.ntmps38
  go_wp2_with (go_at_call 39; refine (HT.out _).mono ?_; rintro e w1 ⟨rfl, x1⟩; refine stop_of ?_)
  unfold Stop
  have X1 := Lh ((ext_alloc1 w _).trans x1)
  clear x1
  go_wp2
  go_ret
  exact ⟨ret_bool (by rw [HX.out, YT.out]; simp [askB]), X1.out⟩
structure Ft where
 obj : Bs
 fr : Int
 to : Int
 mt : Bs
 mw : Bool
 nt : Bs
 nw : Bool
def ftC (f : Ft) : Array Value := #[.string ⟨f.obj.toArray⟩, .int .i64 f.fr, .int .i64 f.to, .string ⟨f.mt.toArray⟩, .bool f.mw, .string ⟨f.nt.toArray⟩, .bool f.nw]
structure FtZ (f : Ft) : Prop where
 obj : f.obj.length ≤ 1000
 mt : f.mt.length ≤ 1000
 nt : f.nt.length ≤ 1000
def ftB (f : Ft) : Bool := objB f.obj && spanB f.fr f.to && !(f.fr == f.to) && askB f.mt f.mw && askB f.nt f.nw
def askV (i : Nat) (v : Vn) (f : Ft) : Sn :=
 if strongB f.nt f.nw v.m.tt v.m.tw = true then ⟨304, nowM v, 0, 0, 0, none⟩
 else if (!(f.mt == [] && !f.mw) && !strongB f.mt f.mw v.m.tt v.m.tw) = true then ⟨412, nowM v, 0, 0, 0, none⟩
 else if 0 < f.fr ∧ (v.bytes.length : Int) ≤ f.fr then ⟨416, nowM v, 0, 0, 0, none⟩
 else if f.fr = 0 ∧ (f.to = 4611686018427387904 ∨ v.bytes.length = 0) then ⟨200, nowM v, 0, if (v.m.len == -1) = true then 4611686018427387904 else v.m.len, 0, some i⟩
 else ⟨206, nowM v, f.fr, if (v.m.len == -1) = false ∨ f.to ≠ 4611686018427387904 then min f.to v.bytes.length else f.to, f.fr, some i⟩
def askS (vs : List Vn) (f : Ft) : Sn := match nowI vs f.obj with
 | none => ⟨404, zeroM, 0, 0, 0, none⟩
 | some i => match vs[i]? with
  | none => ⟨404, zeroM, 0, 0, 0, none⟩
  | some v => askV i v f
section
variable {w w' : World} {b B N : Nat} {own own' : Nat → Prop} {vs : List Vn} {ss : List Sn} {sa va : List Nat} {gs : List Vg} {mo mh : Option Nat} {H : Bs → Option Nat} {K : Bs → Bs → Option Bool}
theorem OIx.addS (h : OIx w b B N own vs ss sa gs mo mh H K) (hx : Ext w w') {s : Sn} {sb : Nat} (hs : StrOk w' B (grownOwn own w w') (gs.map (·.b)) s sb) (hsb : w.heap.size ≤ sb) : OIx w' b B N (grownOwn own w w') vs (ss ++ [s]) (sa ++ [sb]) gs mo mh H K := by
 have hlt : ∀ i, grownOwn own w w' i → i < w'.heap.size := fun i hi => by
  rcases hi with hi | hi
  ·exact Nat.lt_of_lt_of_le (h.lt i hi) hx.size
  ·exact hi.2
 have hlow : ∀ i, grownOwn own w w' i → B ≤ i := fun i hi => by
  rcases hi with hi | hi
  ·exact h.low i hi
  ·exact Nat.le_trans h.lowB hi.1
 have h' := h.keep (own' := grownOwn own w w') (w' := w') (fun i hi => hx.block i (h.lt i hi)) hx.size (fun _ hi => .inl hi) hlt hlow
 have hsl := h.strs.len
 refine ⟨h'.blk, h'.ob, h'.vers, ⟨by simp [hsl], fun j u c hu hc => ?_, fun i j c hi hj => ?_⟩, h'.maps, h'.one, hlt, hlow, h'.lowB, h'.objs⟩
 ·by_cases hj : j < ss.length
  ·rw [List.getElem?_append_left hj] at hu
   rw [List.getElem?_append_left (by omega)] at hc
   exact h'.strs.at_ j u c hu hc
  ·have hj1 : j = ss.length := by
    have := (List.getElem?_eq_some_iff.1 hu).1
    simp at this; omega
   subst hj1
   rw [List.getElem?_append_right (Nat.le_refl _)] at hu
   rw [List.getElem?_append_right (by omega)] at hc
   simp at hu
   rw [hsl] at hc
   simp at hc
   subst hu; subst hc
   exact hs
 ·have lowj : ∀ (i : Nat), sa[i]? = some c → c < w.heap.size := fun i hi => by
   have hi' : i < ss.length := by rw [← hsl]; exact (List.getElem?_eq_some_iff.1 hi).1
   obtain ⟨kv, h1, _⟩ := h.strs.at_ i ss[i] c (by simp [hi']) hi
   exact blk_lt h1
  have get : ∀ (i : Nat), (sa ++ [sb])[i]? = some c → sa[i]? = some c ∨ (i = sa.length ∧ c = sb) := fun i hi => by
   by_cases hi' : i < sa.length
   ·rw [List.getElem?_append_left hi'] at hi; exact .inl hi
   ·have := (List.getElem?_eq_some_iff.1 hi).1
    simp at this
    have e : i = sa.length := by omega
    subst e
    simp at hi
    exact .inr ⟨rfl, hi.symm⟩
  rcases get i hi with h1 | ⟨e1, e2⟩ <;> rcases get j hj with h2 | ⟨e3, e4⟩
  ·exact h.strs.nd i j c h1 h2
  ·have := lowj i h1; omega
  ·have := lowj j h2; omega
  ·omega
end
end Go.Proofs.Ytpangoddbfiagaa
namespace Go.Proofs.Ytpangoddbfiagaa
open Go.RowKit Go.Maps Go.ChangeMaps
set_option linter.unusedVariables false
set_option linter.unusedSimpArgs false
def goneV (v : Vn) : Vn := { v with went := true }
def goneA (vs : List Vn) (o : Bs) : Int × List Vn := match nowI vs o with
 | none => (6, vs)
 | some i => match vs[i]? with
  | none => (6, vs)
  | some v => (0, vs.set i (goneV v))
theorem turned_ext {w w' : World} {m : Nat} (h : w.mapTurned w' m) : ExtB [m] w w' := by
 have hg := h.grown
 refine ⟨hg.os, hg.tape, hg.output, hg.size, fun i hi hx => hg.block i hi ?_⟩
 intro e; injection e with e; subst e; exact hx (by simp)
theorem nowI_goneV {vs : List Vn} (h1 : One vs) {o : Bs} {i : Nat} {v : Vn} (hn : nowI vs o = some i) (hv : vs[i]? = some v) (o' : Bs) : nowI (vs.set i (goneV v)) o' = if o' = o then none else nowI vs o' := by
 obtain ⟨v2, hv2, e1, e2⟩ := nowI_some hn
 rw [hv] at hv2
 obtain rfl : v = v2 := Option.some.inj hv2
 by_cases ho : o' = o
 ·rw [if_pos ho]
  unfold nowI
  rw [List.findIdx?_eq_none_iff]
  intro x hx
  obtain ⟨j, hj⟩ := List.mem_iff_getElem?.1 hx
  by_cases hji : j = i
  ·subst hji
   rw [List.getElem?_set_self (List.getElem?_eq_some_iff.1 hv).1] at hj
   obtain rfl := Option.some.inj hj
   simp [goneV]
  ·rw [List.getElem?_set_ne (Ne.symm hji)] at hj
   by_cases hc : x.obj = o' ∧ x.went = false
   ·exact absurd (h1 j i x v hj hv hc.2 e2 (by rw [hc.1, ho, e1])) hji
   ·by_cases a : x.obj = o' <;> simp [a]
    cases hw : x.went
    ·exact absurd ⟨a, hw⟩ hc
    ·rfl
 ·rw [if_neg ho]
  have e : ∀ l : List Vn, nowI l o' = (l.map fun v => v.obj == o' && !v.went).findIdx? id := fun l => by
   rw [List.findIdx?_map]; rfl
  rw [e, e]
  congr 1
  refine map_set_same hv ?_
  have : (v.obj == o') = false := by simp [e1, Ne.symm ho]
  simp [goneV, this]
theorem One.gone {vs : List Vn} (h1 : One vs) {i : Nat} {v : Vn} (hv : vs[i]? = some v) : One (vs.set i (goneV v)) := by
 have get : ∀ (j : Nat) (y : Vn), (vs.set i (goneV v))[j]? = some y → y.went = false → vs[j]? = some y := fun j y e hy => by
  by_cases hj : j = i
  ·subst hj; rw [List.getElem?_set_self (List.getElem?_eq_some_iff.1 hv).1] at e
   obtain rfl := Option.some.inj e
   simp [goneV] at hy
  ·rw [List.getElem?_set_ne (Ne.symm hj)] at e; exact e
 exact fun i j v v' hv hv' hw hw' ho => h1 i j v v' (get _ _ hv hw) (get _ _ hv' hw') hw hw' ho
section
variable {w w' w1 : World} {b B N m : Nat} {own : Nat → Prop} {vs : List Vn} {ss : List Sn} {sa : List Nat} {gs : List Vg} {mo mh : Option Nat} {H : Bs → Option Nat} {K : Bs → Bs → Option Bool}
theorem OMap.some_of {β : Type} {E : ElemK β} {w : World} {mo : Option Nat} {N : Nat} {F : Bs → Option β} (h : OMap E w mo N F) {k : Bs} {x : β} (e : F k = some x) : ∃ m, mo = some m ∧ GMap E w m N F := by
 rcases h with ⟨_, h0⟩ | h
 ·rw [h0] at e; cases e
 ·exact h
theorem OIx.gone (h : OIx w b B N own vs ss sa gs (some m) mh H K) {i : Nat} {v : Vn} {g : Vg} {o : Bs} (hn : nowI vs o = some i) (hv : vs[i]? = some v) (hg : gs[i]? = some g) (hblk : VerAt w1 g.b { v.m with hav := g.h } g.kv g.bv true) (hx : ExtB [g.b] w w1) (hm : GMap ptE w' m N (upd (fun o => (nowI vs o).bind ((gs.map (·.b))[·]?)) o none)) (ht : w1.mapTurned w' m) :
  OIx w' b B N own (vs.set i (goneV v)) ss sa gs (some m) mh H K ∧ ExtP own w w' := by
 have q := h.vers.at_ i v g hv hg
 have x2 := turned_ext ht
 have hmk : ∃ es cl, w.heap[m]? = some (.map es cl) := h.maps.obs.lt
 obtain ⟨es, cl, hes⟩ := hmk
 have hmb : m ≠ g.b := fun e => by rw [e] at hes; rw [q.blk] at hes; cases hes
 have hes1 : w1.heap[m]? = some (.map es cl) := (hx.block m (blk_lt hes) (by simpa using hmb)).trans hes
 have hsz := Nat.le_trans hx.size x2.size
 have hX : ∀ x ∈ [g.b], x = g.b ∨ g.bv.ownBlock = some x := fun x hx => .inl (by simpa using hx)
 have hk90 : ∀ x ∈ [g.b], kindOf w x = 90 := fun x hx => by rw [show x = g.b by simpa using hx]; exact q.kb
 have k1 : ∀ x ∈ [m], kindOf w1 x = 1000 := fun x hx => by rw [show x = m by simpa using hx]; exact kind_map hes1
 have eb : (gs.set i g).map (·.b) = gs.map (·.b) := map_set_same hg rfl
 have egs : gs.set i g = gs := by
  apply List.ext_getElem?; intro j
  by_cases hj : j = i
  ·subst hj; rw [List.getElem?_set_self (List.getElem?_eq_some_iff.1 hg).1, hg]
  ·rw [List.getElem?_set_ne (Ne.symm hj)]
 have hok : VerOk w1 B own (goneV v) g := ⟨hblk, own_extB q.keys hx (fun x hh e => by have := q.kk e; rw [show x = g.b by simpa using hh, q.kb] at this; cases this), own_extB q.row hx (fun x hh e => by have := q.kbv e; rw [show x = g.b by simpa using hh, q.kb] at this; cases this), q.ob, q.ok, q.obv, q.z, q.len⟩
 have v1 := h.vers.set hv hg rfl hok hx hX (fun x e => .inl e) (fun _ hi => hi)
 rw [egs] at v1
 have s1 : SsAt w1 B own (gs.map (·.b)) ss sa := h.strs.extK hx (fun x hh => by rw [hk90 x hh]; decide) (fun _ hi => hi)
 refine ⟨⟨?_, h.ob, v1.extK x2 (fun x hh => by rw [k1 x hh]; decide) (fun _ hi => hi), s1.extK x2 (fun x hh => by rw [k1 x hh]; decide) (fun _ hi => hi), ?_, h.one.gone hv, fun j hj => Nat.lt_of_lt_of_le (h.lt j hj) hsz, h.low, Nat.le_trans h.lowB hsz, ?_⟩, ?_⟩
 ·refine x2.heap (hx.heap h.blk ?_) ?_
  ·intro hh; have e := hk90 _ hh; rw [kind_cells h.blk] at e; cases e
  ·intro hh
   have e : b = m := by simpa using hh
   rw [← e, h.blk] at hes; cases hes
 ·have keep : ∀ (m' : Nat) (es : Array MapEntry) (cl : Nat), w.heap[m']? = some (.map es cl) → m' ≠ m → w'.heap[m']? = w.heap[m']? := fun m' es cl e hne => by
   have h1 : w1.heap[m']? = w.heap[m']? := hx.block m' (blk_lt e) (fun hh => by have := hk90 _ hh; rw [kind_map e] at this; cases this)
   have h2 : w'.heap[m']? = w1.heap[m']? := x2.block m' (Nat.lt_of_lt_of_le (blk_lt e) hx.size) (by simpa using hne)
   exact h2.trans h1
  refine ⟨.inr ⟨m, rfl, ?_⟩, ?_, fun o' g' e => ?_, fun o' t => ?_, h.maps.hinj, h.maps.omo, h.maps.omh, h.maps.oin, h.maps.d1, h.maps.d2⟩
  ·have e : (fun o' => (nowI (vs.set i (goneV v)) o').bind ((gs.map (·.b))[·]?)) = upd (fun o' => (nowI vs o').bind ((gs.map (·.b))[·]?)) o none := by
    funext o'
    rw [nowI_goneV h.one hn hv]
    unfold upd
    by_cases ho : o' = o <;> simp [ho]
   rw [e]; exact hm
  ·refine h.maps.had.same fun m' e => ?_
   subst e
   obtain ⟨es, cl, e⟩ := h.maps.had.lt
   exact keep m' es cl e (fun e2 => h.maps.d1 m rfl (by rw [e2]))
  ·obtain ⟨es, cl, e1⟩ := (h.maps.inn o' g' e).at_
   exact (h.maps.inn o' g' e).same (keep g' es cl e1 (fun e2 => (h.maps.d2 o' g' e).1 (by rw [e2])))
  ·rw [← hadA_view (vs := vs) (vs' := vs.set i (goneV v))]
   ·exact h.maps.tie o' t
   ·exact (map_set_same (f := viewT) (y := goneV v) hv rfl).symm
 ·intro u hu
  rcases List.mem_or_eq_of_mem_set hu with h1 | h1
  ·exact h.objs u h1
  ·subst h1; exact h.objs v (List.mem_of_getElem? hv)
 ·exact (ExtP.ofB hx (fun k hk => .inl (by rw [show k = g.b by simpa using hk]; exact q.ob))).trans (ExtP.ofB (own := own) x2 (fun k hk => .inl (by rw [show k = m by simpa using hk]; exact h.maps.omo m rfl))) (fun i hi => .inl hi)
set_option maxRecDepth 100000 in
set_option maxHeartbeats 1000000 in
theorem gone_any (hI : OI w b B N own vs ss sa) {o : Bs} (ho : o.length ≤ 1000000) : Calls Try.prog 33 #[.pointer (some ⟨b, 0, none⟩), .string ⟨o.toArray⟩] w fun e w' => e = .returned (.int .i64 (goneA vs o).1) ∧ OI w' b B N own (goneA vs o).2 ss sa ∧ ExtP own w w' := by
 obtain ⟨gs, mo, mh, H, K, h⟩ := hI
 have k0 := blk_cell h.blk 0
 simp at k0
 cases hn : nowI vs o with
 | none =>
  have em : goneA vs o = (6, vs) := by simp [goneA, hn]
  rw [em]
  have hl := look_none h ho hn
  have HI := Lh (show OI w b B N own vs ss sa from ⟨gs, mo, mh, H, K, h⟩)
  clear h hn em
  go_enter Try.func33, Try.ntmps33
  go_wp2
  go_ret
  exact ⟨rfl, HI.out, .of (Ext.refl _)⟩
 | some i =>
  obtain ⟨v, hv, _, hw0⟩ := nowI_some hn
  obtain ⟨g, hg, hok⟩ := h.vers.get hv
  have em : goneA vs o = (0, vs.set i (goneV v)) := by simp [goneA, hn, hv]
  rw [em]
  have hl := look_some h ho hn hg
  obtain ⟨m, rfl, hM⟩ := h.maps.obs.some_of (k := o) (x := g.b) (by simp [hn, hg])
  have HI := Lh h; have HV := Lh hv; have HG := Lh hg; have HN := Lh hn; have HBLK := Lh hok.blk
  have HB := Lh h.blk; have HM := Lh hM; have HQ := Lh (show ∀ x, kindOf w x ≠ 90 → x ≠ g.b from fun x hx e => hx (by rw [e]; exact hok.kb))
  clear h hn em hok hv hg hM
  obtain ⟨q, hq⟩ : ∃ q, q = g.b := ⟨_, rfl⟩
  rw [← hq] at hl HBLK HQ
  have HE := Lh hq
  clear hq
  rw [hw0] at HBLK
  go_enter Try.func33, Try.ntmps33
  go_wp2_with (refine wpList_put 4 rfl _ _ rfl _ 12 90 _ (verC { v.m with hav := g.h } g.kv g.bv true) [.bool true] (.bool true) HBLK.out rfl rfl rfl (by simp [verC]) rfl size4 (by simp [putA, verC]) ?_; intro W3 x3 n3 s3; refine stop_of ?_)
  unfold Stop
  have k0 := blk_cell (x3.heap HB.out (by simpa using HQ.out b (by rw [kind_cells HB.out]; decide))) 0
  simp at k0
  have hM3 : GMap ptE W3 m N (fun o => (nowI vs o).bind ((gs.map (·.b))[·]?)) := HM.out.same (by
   obtain ⟨es, cl, e⟩ := HM.out.at_
   exact x3.block m (blk_lt e) (by simpa using HQ.out m (by rw [kind_map e]; decide)))
  obtain ⟨W4, hdel, h4, t4⟩ := hM3.del Try.underlying82 ho 0
  have X3 := Lh x3; have N3 := Lh n3; have H4 := Lh h4; have T4 := Lh t4
  clear x3 n3 h4 t4 hM3 hl
  go_wp2
  go_ret
  rw [HE.out] at X3 N3
  have R := HI.out.gone HN.out HV.out HG.out N3.out X3.out H4.out T4.out
  exact ⟨rfl, ⟨gs, some m, mh, H, K, R.1⟩, R.2⟩
end
end Go.Proofs.Ytpangoddbfiagaa
