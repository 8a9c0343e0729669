import Derived.Test.YtpangoddbfiagaaRG05
namespace Go.Proofs.Ytpangoddbfiagaa
open Go.RowKit Go.Maps Go.ChangeMaps
set_option linter.unusedVariables false
set_option linter.unusedSimpArgs false
def rverC (o : Bs) (m : MetaP) (kv bv : Value) (went : Bool) : Array Value := #[.string ⟨o.toArray⟩, .string ⟨m.tt.toArray⟩, .bool m.tw, .int .i64 m.mod, .int .i64 m.len, .int .i64 m.hav, .int .i64 m.fr, .int .i64 m.wh, .int .i64 m.er, kv, .string ⟨m.ten.toArray⟩, .bool m.keep, bv, .bool went]
def RVerAt (w : World) (b : Nat) (o : Bs) (m : MetaP) (kv bv : Value) (went : Bool) : Prop := w.heap[b]? = some (.cells (rverC o m kv bv went) 110 (0, 0))
def rstrC (st : Int) (m : MetaP) (kv : Value) (fr to : Int) (p : Option Addr) (at_ : Int) : Array Value := #[.int .i64 st, .string ⟨m.tt.toArray⟩, .bool m.tw, .int .i64 m.mod, .int .i64 m.len, .int .i64 m.hav, .int .i64 m.fr, .int .i64 m.wh, .int .i64 m.er, kv, .string ⟨m.ten.toArray⟩, .bool m.keep, .int .i64 fr, .int .i64 to, .int .i64 0, .pointer p, .int .i64 at_]
def RStrAt (w : World) (b : Nat) (st : Int) (m : MetaP) (kv : Value) (fr to : Int) (p : Option Addr) (at_ : Int) : Prop := w.heap[b]? = some (.cells (rstrC st m kv fr to p at_) 77 (0, 0))
structure Rg where
 b : Nat
 kv : Value
 bv : Value
structure RVerOk (w : World) (B : Nat) (own : Nat → Prop) (v : Vn) (g : Rg) : Prop where
 blk : RVerAt w g.b v.obj (nowM v) g.kv g.bv v.went
 keys : SRow w B g.kv v.m.keys
 row : BRow w B g.bv v.bytes
 ob : own g.b
 ok : ∀ x, g.kv.ownBlock = some x → own x
 obv : ∀ x, g.bv.ownBlock = some x → own x
 z : MetaZ v.m
 len : v.bytes.length ≤ 100000
structure RVsAt (w : World) (B : Nat) (own : Nat → Prop) (vs : List Vn) (gs : List Rg) : Prop where
 len : gs.length = vs.length
 at_ : ∀ (i : Nat) (v : Vn) (g : Rg), vs[i]? = some v → gs[i]? = some g → RVerOk w B own v g
 nd : ∀ (i j : Nat) (g g' : Rg), gs[i]? = some g → gs[j]? = some g' → g.b = g'.b → i = j
def RStrOk (w : World) (B : Nat) (own : Nat → Prop) (va : List Nat) (s : Sn) (b : Nat) : Prop :=
 ∃ kv, RStrAt w b s.st s.m kv s.fr s.to (verP va s.v) s.at_ ∧ SRow w B kv s.m.keys ∧ own b ∧ (∀ x, kv.ownBlock = some x → own x) ∧ MetaZ s.m ∧ (∀ i, s.v = some i → i < va.length) ∧ 0 ≤ s.at_ ∧ s.at_ ≤ 4611686018427387904 ∧ 0 ≤ s.to ∧ s.to ≤ 4611686018427387904
structure RSsAt (w : World) (B : Nat) (own : Nat → Prop) (va : List Nat) (ss : List Sn) (sa : List Nat) : Prop where
 len : sa.length = ss.length
 at_ : ∀ (j : Nat) (s : Sn) (b : Nat), ss[j]? = some s → sa[j]? = some b → RStrOk w B own va s b
 nd : ∀ (i j b : Nat), sa[i]? = some b → sa[j]? = some b → i = j
def ptrV (b : Nat) : Value := .pointer (some ⟨b, 0, none⟩)
structure RIx (w : World) (x B : Nat) (own : Nat → Prop) (vs : List Vn) (ss : List Sn) (sa : List Nat) (gs : List Rg) (A : Option Addr) (c : Nat) : Prop where
 blk : w.heap[x]? = some (.cells #[.slice A vs.length c] 102 (0, 0))
 row : w.ownsRow B 75 1 (.slice A vs.length c) vs.length (gs.map fun g => ptrV g.b)
 ox : own x
 orow : ∀ y, (Value.slice A vs.length c).ownBlock = some y → own y
 vers : RVsAt w B own vs gs
 strs : RSsAt w B own (gs.map (·.b)) ss sa
 lt : ∀ i, own i → i < w.heap.size
 low : ∀ i, own i → B ≤ i
 lowB : B ≤ w.heap.size
 objs : ∀ v ∈ vs, v.obj.length ≤ 1000
def RI (w : World) (x B : Nat) (own : Nat → Prop) (vs : List Vn) (ss : List Sn) (sa : List Nat) : Prop := ∃ gs A c, RIx w x B own vs ss sa gs A c
section
variable {w w' : World} {x B : Nat} {own own' : Nat → Prop} {vs : List Vn} {ss : List Sn} {sa va : List Nat} {gs : List Rg} {A : Option Addr} {c : Nat} {X : List Nat}
theorem RVerOk.keep {v : Vn} {g : Rg} (h : RVerOk w B own v g) (hk : ∀ i, own i → w'.heap[i]? = w.heap[i]?) (ho : ∀ i, own i → own' i) : RVerOk w' B own' v g :=
 ⟨(hk _ h.ob).trans h.blk, own_keep h.keys fun x hx => hk x (h.ok x hx), own_keep h.row fun x hx => hk x (h.obv x hx), ho _ h.ob, fun x hx => ho x (h.ok x hx), fun x hx => ho x (h.obv x hx), h.z, h.len⟩
theorem RVsAt.keep (h : RVsAt w B own vs gs) (hk : ∀ i, own i → w'.heap[i]? = w.heap[i]?) (ho : ∀ i, own i → own' i) : RVsAt w' B own' vs gs :=
 ⟨h.len, fun i v g hv hg => (h.at_ i v g hv hg).keep hk ho, h.nd⟩
theorem RStrOk.keep {s : Sn} {b : Nat} (h : RStrOk w B own va s b) (hk : ∀ i, own i → w'.heap[i]? = w.heap[i]?) (ho : ∀ i, own i → own' i) : RStrOk w' B own' va s b := by
 obtain ⟨kv, h1, h2, h3, h4, h5⟩ := h
 exact ⟨kv, (hk _ h3).trans h1, own_keep h2 fun x hx => hk x (h4 x hx), ho _ h3, fun x hx => ho x (h4 x hx), h5⟩
theorem RIx.keep (h : RIx w x B own vs ss sa gs A c) (hk : ∀ i, own i → w'.heap[i]? = w.heap[i]?) (hs : w.heap.size ≤ w'.heap.size) (ho : ∀ i, own i → own' i) (hlt : ∀ i, own' i → i < w'.heap.size) (hlow : ∀ i, own' i → B ≤ i) : RIx w' x B own' vs ss sa gs A c :=
 ⟨(hk _ h.ox).trans h.blk, own_keep h.row fun y hy => hk y (h.orow y hy), ho _ h.ox, fun y hy => ho y (h.orow y hy), h.vers.keep hk ho, ⟨h.strs.len, fun j s b hs hb => (h.strs.at_ j s b hs hb).keep hk ho, h.strs.nd⟩, hlt, hlow, Nat.le_trans h.lowB hs, h.objs⟩
theorem RI.keep (h : RI w x B own vs ss sa) (hk : ∀ i, own i → w'.heap[i]? = w.heap[i]?) (hs : w.heap.size ≤ w'.heap.size) : RI w' x B own vs ss sa := by
 obtain ⟨gs, A, c, h⟩ := h
 exact ⟨gs, A, c, h.keep hk hs (fun _ x => x) (fun i hi => Nat.lt_of_lt_of_le (h.lt i hi) hs) h.low⟩
theorem RIx.ext (h : RIx w x B own vs ss sa gs A c) (hx : Ext w w') : RIx w' x B own vs ss sa gs A c :=
 h.keep (fun i hi => hx.block i (h.lt i hi)) hx.size (fun _ x => x) (fun i hi => Nat.lt_of_lt_of_le (h.lt i hi) hx.size) h.low
theorem RI.ext (h : RI w x B own vs ss sa) (hx : Ext w w') : RI w' x B own vs ss sa := by
 obtain ⟨gs, A, c, h⟩ := h; exact ⟨gs, A, c, h.ext hx⟩
theorem RVsAt.get (h : RVsAt w B own vs gs) {i : Nat} {v : Vn} (hv : vs[i]? = some v) : ∃ g, gs[i]? = some g ∧ RVerOk w B own v g := by
 have hi : i < vs.length := (List.getElem?_eq_some_iff.1 hv).1
 have hi' : i < gs.length := by rw [h.len]; exact hi
 exact ⟨gs[i], by simp [hi'], h.at_ i v _ hv (by simp [hi'])⟩
theorem RVerOk.kb {v : Vn} {g : Rg} (h : RVerOk w B own v g) : kindOf w g.b = 110 := kind_cells h.blk
theorem RVerOk.kk {v : Vn} {g : Rg} (h : RVerOk w B own v g) {x : Nat} (e : g.kv.ownBlock = some x) : kindOf w x = 9 := kind_row h.keys e
theorem RVerOk.kbv {v : Vn} {g : Rg} (h : RVerOk w B own v g) {x : Nat} (e : g.bv.ownBlock = some x) : kindOf w x = 5 := kind_row h.row e
theorem RVerOk.extX {v : Vn} {g : Rg} (h : RVerOk w B own v g) (hx : ExtB X w w') (h1 : g.b ∉ X) (h2 : ∀ x, g.kv.ownBlock = some x → x ∉ X) (h3 : ∀ x, g.bv.ownBlock = some x → x ∉ X) (ho : ∀ i, own i → own' i) : RVerOk w' B own' v g :=
 ⟨hx.heap h.blk h1, own_keep h.keys fun x e => hx.block x (h.keys.lt x e).2 (h2 x e), own_keep h.row fun x e => hx.block x (h.row.lt x e).2 (h3 x e), ho _ h.ob, fun x e => ho x (h.ok x e), fun x e => ho x (h.obv x e), h.z, h.len⟩
theorem RVsAt.extK (h : RVsAt w B own vs gs) (hx : ExtB X w w') (hX : ∀ g ∈ X, kindOf w g ≠ 110 ∧ kindOf w g ≠ 9 ∧ kindOf w g ≠ 5) (ho : ∀ i, own i → own' i) : RVsAt w' B own' vs gs :=
 ⟨h.len, fun i v g hv hg => by
  have q := h.at_ i v g hv hg
  exact q.extX hx (fun hh => (hX _ hh).1 q.kb) (fun x e hh => (hX _ hh).2.1 (q.kk e)) (fun x e hh => (hX _ hh).2.2 (q.kbv e)) ho, h.nd⟩
theorem RSsAt.extK (h : RSsAt w B own va ss sa) (hx : ExtB X w w') (hX : ∀ g ∈ X, kindOf w g ≠ 77 ∧ kindOf w g ≠ 9) (ho : ∀ i, own i → own' i) : RSsAt w' B own' va ss sa :=
 ⟨h.len, fun j s b hs hb => by
  obtain ⟨kv, h1, h2, h3, h4, h5⟩ := h.at_ j s b hs hb
  exact ⟨kv, hx.heap h1 (fun hh => (hX _ hh).1 (kind_cells h1)), own_keep h2 fun x e => hx.block x (h2.lt x e).2 (fun hh => (hX _ hh).2 (kind_row h2 e)), ho _ h3, fun x e => ho x (h4 x e), h5⟩, h.nd⟩
theorem RVsAt.set (h : RVsAt w B own vs gs) {i : Nat} {v v' : Vn} {g g' : Rg} (hv : vs[i]? = some v) (hg : gs[i]? = some g) (hb : g'.b = g.b) (hok : RVerOk w' B own' v' g') (hx : ExtB [g.b] w w') (ho : ∀ i, own i → own' i) : RVsAt w' B own' (vs.set i v') (gs.set i g') := by
 have hi : i < vs.length := (List.getElem?_eq_some_iff.1 hv).1
 have hi' : i < gs.length := (List.getElem?_eq_some_iff.1 hg).1
 have q := h.at_ i v g hv hg
 have get : ∀ (j : Nat) (y : Rg), (gs.set i g')[j]? = some y → (j = i ∧ y = g') ∨ (j ≠ i ∧ gs[j]? = some y) := fun j y e => by
  by_cases hj : j = i
  ·subst hj; rw [List.getElem?_set_self hi'] at e; exact .inl ⟨rfl, (Option.some.inj e).symm⟩
  ·rw [List.getElem?_set_ne (Ne.symm hj)] at e; exact .inr ⟨hj, e⟩
 refine ⟨by simp [h.len], fun j u y hu hy => ?_, fun j k y y' hy hy' e => ?_⟩
 ·rcases get j y hy with ⟨rfl, rfl⟩ | ⟨hj, hy⟩
  ·rw [List.getElem?_set_self hi] at hu
   cases hu; exact hok
  ·rw [List.getElem?_set_ne (Ne.symm hj)] at hu
   have p := h.at_ j u y hu hy
   refine p.extX hx (fun hh => ?_) (fun x e hh => ?_) (fun x e hh => ?_) ho
   ·exact hj (h.nd j i y g hy hg (by simpa using hh))
   ·have := p.kk e; rw [show x = g.b by simpa using hh, q.kb] at this; cases this
   ·have := p.kbv e; rw [show x = g.b by simpa using hh, q.kb] at this; cases this
 ·rcases get j y hy with ⟨e1, e2⟩ | ⟨hj, h1⟩ <;> rcases get k y' hy' with ⟨e3, e4⟩ | ⟨hk, h2⟩
  ·rw [e1, e3]
  ·rw [e1]; rw [e2] at e; exact h.nd _ _ _ _ hg h2 (hb.symm.trans e)
  ·rw [e3]; rw [e4] at e; exact h.nd _ _ _ _ h1 hg (e.trans hb)
  ·exact h.nd _ _ _ _ h1 h2 e
theorem RIx.setV (h : RIx w x B own vs ss sa gs A c) {i : Nat} {v v' : Vn} {g g' : Rg} (hv : vs[i]? = some v) (hg : gs[i]? = some g) (hb : g'.b = g.b) (hok : RVerOk w' B own' v' g') (hx : ExtB [g.b] w w') (ho : ∀ i, own i → own' i)
  (hlt : ∀ i, own' i → i < w'.heap.size) (hlow : ∀ i, own' i → B ≤ i) (hobj : v'.obj.length ≤ 1000) : RIx w' x B own' (vs.set i v') ss sa (gs.set i g') A c := by
 have q := h.vers.at_ i v g hv hg
 have hk : ∀ y ∈ [g.b], kindOf w y = 110 := fun y hy => by rw [show y = g.b by simpa using hy]; exact q.kb
 have eb : (gs.set i g').map (·.b) = gs.map (·.b) := map_set_same hg hb
 have eb2 : (gs.set i g').map (fun g => ptrV g.b) = gs.map fun g => ptrV g.b := map_set_same (f := fun g : Rg => ptrV g.b) hg (by rw [hb])
 refine ⟨?_, ?_, ho _ h.ox, ?_, h.vers.set hv hg hb hok hx ho, ?_, hlt, hlow, Nat.le_trans h.lowB hx.size, fun u hu => ?_⟩
 ·rw [List.length_set]; exact hx.heap h.blk (fun hh => by have := hk _ hh; rw [kind_cells h.blk] at this; cases this)
 ·rw [List.length_set, eb2]; exact own_keep h.row fun y e => hx.block y (h.row.lt y e).2 (fun hh => by have := hk _ hh; rw [kind_row h.row e] at this; cases this)
 ·rw [List.length_set]; exact fun y e => ho y (h.orow y e)
 ·rw [eb]; exact h.strs.extK hx (fun y hy => by rw [hk y hy]; decide) ho
 ·rcases List.mem_or_eq_of_mem_set hu with h1 | h1
  ·exact h.objs u h1
  ·subst h1; exact hobj
theorem RIx.setS (h : RIx w x B own vs ss sa gs A c) {j : Nat} {s s' : Sn} {sb : Nat} (hs : ss[j]? = some s) (hb : sa[j]? = some sb) (hx : ExtB [sb] w w') (hok : RStrOk w' B own (gs.map (·.b)) s' sb) : RIx w' x B own vs (ss.set j s') sa gs A c := by
 obtain ⟨kv, q1, q2, q3, q4, q5⟩ := h.strs.at_ j s sb hs hb
 have hk : ∀ y ∈ [sb], kindOf w y = 77 := fun y hy => by rw [show y = sb by simpa using hy]; exact kind_cells q1
 have hjl : j < ss.length := (List.getElem?_eq_some_iff.1 hs).1
 refine ⟨hx.heap h.blk (fun hh => by have := hk _ hh; rw [kind_cells h.blk] at this; cases this), own_keep h.row fun y e => hx.block y (h.row.lt y e).2 (fun hh => by have := hk _ hh; rw [kind_row h.row e] at this; cases this), h.ox, h.orow, h.vers.extK hx (fun y hy => by rw [hk y hy]; decide) (fun _ hi => hi), ⟨by simp [h.strs.len], fun i u c' hu hc => ?_, h.strs.nd⟩, fun i hi => Nat.lt_of_lt_of_le (h.lt i hi) hx.size, h.low, Nat.le_trans h.lowB hx.size, h.objs⟩
 by_cases hij : i = j
 ·subst hij
  rw [List.getElem?_set_self hjl] at hu
  rw [hb] at hc
  obtain rfl := Option.some.inj hu
  obtain rfl := Option.some.inj hc
  exact hok
 ·rw [List.getElem?_set_ne (Ne.symm hij)] at hu
  obtain ⟨kv2, h1, h2, h3, h4, h5⟩ := h.strs.at_ i u c' hu hc
  exact ⟨kv2, hx.heap h1 (fun hh => hij (h.strs.nd i j c' hc (by rw [show c' = sb by simpa using hh]; exact hb))), own_keep h2 fun y e => hx.block y (h2.lt y e).2 (fun hh => by have := hk _ hh; rw [kind_row h2 e] at this; cases this), h3, h4, h5⟩
theorem RIx.addS (h : RIx w x B own vs ss sa gs A c) (hx : Ext w w') {s : Sn} {sb : Nat} (hs : RStrOk w' B (grownOwn own w w') (gs.map (·.b)) s sb) (hsb : w.heap.size ≤ sb) : RIx w' x B (grownOwn own w w') vs (ss ++ [s]) (sa ++ [sb]) gs A c := by
 have hlt : ∀ i, grownOwn own w w' i → i < w'.heap.size := fun i hi => by
  rcases hi with hi | hi
  ·exact Nat.lt_of_lt_of_le (h.lt i hi) hx.size
  ·exact hi.2
 have hlow : ∀ i, grownOwn own w w' i → B ≤ i := fun i hi => by
  rcases hi with hi | hi
  ·exact h.low i hi
  ·exact Nat.le_trans h.lowB hi.1
 have h' := h.keep (own' := grownOwn own w w') (w' := w') (fun i hi => hx.block i (h.lt i hi)) hx.size (fun _ hi => .inl hi) hlt hlow
 have hsl := h.strs.len
 have lowj : ∀ (i c' : Nat), sa[i]? = some c' → c' < w.heap.size := fun i c' hi => by
  have hi' : i < ss.length := by rw [← hsl]; exact (List.getElem?_eq_some_iff.1 hi).1
  obtain ⟨kv, h1, _⟩ := h.strs.at_ i ss[i] c' (by simp [hi']) hi
  exact blk_lt h1
 refine ⟨h'.blk, h'.row, h'.ox, h'.orow, h'.vers, ⟨by simp [hsl], fun j u c' hu hc => ?_, fun i j c' hi hj => ?_⟩, hlt, hlow, h'.lowB, h'.objs⟩
 ·rcases app_get hu with h1 | ⟨h1, h2⟩ <;> rcases app_get hc with h3 | ⟨h3, h4⟩
  ·exact h'.strs.at_ j u c' h1 h3
  ·have := (List.getElem?_eq_some_iff.1 h1).1; omega
  ·have := (List.getElem?_eq_some_iff.1 h3).1; omega
  ·rw [h2, h4]; exact hs
 ·rcases app_get hi with h1 | ⟨h1, h2⟩ <;> rcases app_get hj with h3 | ⟨h3, h4⟩
  ·exact h.strs.nd i j c' h1 h3
  ·have := lowj i c' h1; omega
  ·have := lowj j c' h3; omega
  ·rw [h1, h3]
end
end Go.Proofs.Ytpangoddbfiagaa
namespace Go.Proofs.Ytpangoddbfiagaa
open Go.RowKit Go.Maps Go.ChangeMaps
set_option linter.unusedVariables false
set_option linter.unusedSimpArgs false
def rp (gs : List Rg) (oi : Option Nat) : Option Addr := oi.bind fun i => (gs[i]?).map fun g => ⟨g.b, 0, none⟩
theorem nowI_at {vs : List Vn} {o : Bs} {j : Nat} {v : Vn} (hv : vs[j]? = some v) (ho : v.obj = o) (hw : v.went = false) (hp : ∀ u ∈ vs.take j, ¬ (u.obj = o ∧ u.went = false)) : nowI vs o = some j := by
 have hj := (List.getElem?_eq_some_iff.1 hv).1
 unfold nowI
 rw [List.findIdx?_eq_some_iff_getElem]
 refine ⟨hj, ?_, fun k hk => ?_⟩
 ·have : vs[j] = v := (List.getElem?_eq_some_iff.1 hv).2
  rw [this]; simp [ho, hw]
 ·have hm : vs[k] ∈ vs.take j := by
   rw [List.mem_take_iff_getElem]
   exact ⟨k, by omega, rfl⟩
  have := hp _ hm
  by_cases a : vs[k].obj = o <;> cases b : vs[k].went <;> simp [a, b]
  exact this ⟨a, b⟩
theorem nowI_no {vs : List Vn} {o : Bs} (hp : ∀ u ∈ vs, ¬ (u.obj = o ∧ u.went = false)) : nowI vs o = none := by
 cases h : nowI vs o with
 | none => rfl
 | some i =>
  obtain ⟨v, hv, h1, h2⟩ := nowI_some h
  exact absurd ⟨h1, h2⟩ (hp v (List.mem_of_getElem? hv))
section
variable {w w' : World} {x B : Nat} {own own' : Nat → Prop} {vs : List Vn} {ss : List Sn} {sa va : List Nat} {gs : List Rg} {A : Option Addr} {c : Nat} {X : List Nat}
theorem RIx.at_ (h : RIx w x B own vs ss sa gs A c) {j : Nat} (hj : j < vs.length) : ∃ ab g, A = some ⟨ab, 0, none⟩ ∧ gs[j]? = some g ∧ w.cell? ⟨ab, j, none⟩ = some (ptrV g.b) ∧ RVerOk w B own vs[j] g := by
 obtain ⟨g, hg, hok⟩ := h.vers.get (i := j) (v := vs[j]) (by simp [hj])
 rcases h.row.2 with ⟨e, h0⟩ | ⟨ab, cap, cur, e, _⟩
 ·omega
 ·have hA : A = some ⟨ab, 0, none⟩ := by injection e
  subst hA
  refine ⟨ab, g, rfl, hg, ?_, hok⟩
  rw [World.ownsRow.cellAt h.row j (by omega)]
  simp [hg]
theorem RIx.many (h : RIx w x B own vs ss sa gs A c) : vs.length ≤ 9223372036854775807 := by
 rcases h.row.2 with ⟨e, h0⟩ | ⟨ab, cap, cur, e, _, _, h1, h2, _⟩
 ·omega
 ·have h3 : maxLen = 9223372036854775807 := rfl
  rw [h3] at h2
  exact Nat.le_trans h1 h2
set_option maxRecDepth 100000 in
set_option maxHeartbeats 2000000 in
theorem rnow_any (h : RIx w x B own vs ss sa gs A c) {o : Bs} (ho : o.length ≤ 1000000) : Calls Try.prog 54 #[.pointer (some ⟨x, 0, none⟩), .string ⟨o.toArray⟩] w fun e w' => e = .returned (.pointer (rp gs (nowI vs o))) ∧ w = w' := by
 obtain ⟨n, hn⟩ : ∃ n, n = vs.length := ⟨_, rfl⟩
 have HI := Lh h; have HN := Lh hn
 have k0 := blk_cell h.blk 0
 simp at k0
 have hnl := h.many
 rw [← hn] at k0 hnl
 clear h hn
 go_enter Try.func54, Try.ntmps54
 go_wp2_with fail
 go_loop [5] (fun i => ∃ j : Nat, j ≤ n ∧ i = .int .i64 j ∧ Hid (∀ u ∈ vs.take j, ¬ (u.obj = o ∧ u.went = false))) (fun i => n - (RowKit.intOf i).toNat)
 case atStart => exact ⟨0, by omega, rfl, Lh (by simp)⟩
 case round =>
  obtain ⟨j, hj, rfl, R⟩ := hrel
  by_cases hlt : j < n
  ·have hjs : j < vs.length := by rw [← HN.out]; exact hlt
   obtain ⟨ab, g, hA, hg, k1, hok⟩ := HI.out.at_ hjs
   have htk : vs.take (j + 1) = vs.take j ++ [vs[j]] := List.take_succ_eq_append_getElem hjs
   have hvj : vs[j]? = some vs[j] := by simp [hjs]
   obtain ⟨v, hv⟩ : ∃ v, v = vs[j] := ⟨_, rfl⟩
   rw [← hv] at hok htk hvj
   have k2 := blk_cell hok.blk 0; have k3 := blk_cell hok.blk 13
   simp [rverC] at k2 k3
   obtain ⟨vo, hvo⟩ : ∃ vo, vo = v.obj := ⟨_, rfl⟩
   obtain ⟨vw, hvw⟩ : ∃ vw, vw = v.went := ⟨_, rfl⟩
   obtain ⟨q, hq⟩ : ∃ q, q = g.b := ⟨_, rfl⟩
   rw [← hq] at k1 k2 k3
   rw [← hvo] at k2
   rw [← hvw] at k3
   unfold ptrV at k1
   have HTK := Lh htk; have HV := Lh hvj; have HVO := Lh hvo; have HVW := Lh hvw; have HG := Lh hg; have HQ := Lh hq
   subst hA
   clear hok htk hvj hv hvo hvw hg hq hjs
   by_cases hob : vo = o
   ·subst hob
    cases vw with
    | false =>
     go_wp2
     go_ret
     have hnow := nowI_at HV.out HVO.out.symm HVW.out.symm R.out
     refine ⟨?_, rfl⟩
     rw [hnow]
     simp [rp, HG.out, HQ.out]
    | true =>
     go_wp2
     go_round
     case rel => exact ⟨j + 1, by omega, by go_num, Lh (by
      rw [HTK.out]
      intro u hu
      rcases List.mem_append.1 hu with h | h
      ·exact R.out u h
      ·rw [List.mem_singleton.1 h, ← HVW.out]; simp)⟩
     case measure => first | (simp [RowKit.intOf]; done) | (simp [RowKit.intOf]; omega)
   ·go_wp2
    go_round
    case rel => exact ⟨j + 1, by omega, by go_num, Lh (by
     rw [HTK.out]
     intro u hu
     rcases List.mem_append.1 hu with h | h
     ·exact R.out u h
     ·rw [List.mem_singleton.1 h, ← HVO.out]; simp [hob])⟩
    case measure => first | (simp [RowKit.intOf]; done) | (simp [RowKit.intOf]; omega)
  ·go_wp2
   go_ret
   have hjn : vs.take j = vs := List.take_of_length_le (by have := HN.out; omega)
   have h := R.out
   rw [hjn] at h
   exact ⟨by rw [nowI_no h]; rfl, rfl⟩
theorem rp_some {i : Nat} {g : Rg} (hg : gs[i]? = some g) : rp gs (some i) = some ⟨g.b, 0, none⟩ := by simp [rp, hg]
theorem rp_none : rp gs none = none := rfl
set_option maxRecDepth 100000 in
set_option maxHeartbeats 2000000 in
theorem rseal_any (hI : RI w x B own vs ss sa) {o : Bs} (ho : o.length ≤ 1000000) : Calls Try.prog 48 #[.pointer (some ⟨x, 0, none⟩), .string ⟨o.toArray⟩] w fun e w' => e = .returned (.int .i64 (sealA vs o).1) ∧ RI w' x B own (sealA vs o).2 ss sa ∧ ExtP own w w' := by
 obtain ⟨gs, A, c, h⟩ := hI
 have hnow := rnow_any h ho
 cases hn : nowI vs o with
 | none =>
  have em : sealA vs o = (6, vs) := by simp [sealA, hn]
  rw [em]
  rw [hn, rp_none] at hnow
  have HNOW := Lh hnow
  have HI := Lh (show RI w x B own vs ss sa from ⟨gs, A, c, h⟩)
  clear h hn em hnow
  go_enter Try.func48, Try.ntmps48
  go_wp2_with (go_at_call 54; refine HNOW.out.mono ?_; rintro e w1 ⟨rfl, rfl⟩)
  go_ret
  exact ⟨rfl, HI.out, .of (Ext.refl _)⟩
 | some i =>
  obtain ⟨v, hv, _, _⟩ := nowI_some hn
  obtain ⟨g, hg, hok⟩ := h.vers.get hv
  rw [hn, rp_some hg] at hnow
  have k4 := blk_cell hok.blk 4
  simp [rverC, nowM] at k4
  have HI := Lh h; have HV := Lh hv; have HG := Lh hg; have OK := Lh hok
  have k5 := blk_cell hok.blk 5
  simp [rverC, nowM] at k5
  have HBLK := Lh hok.blk
  obtain ⟨q, hq⟩ : ∃ q, q = g.b := ⟨_, rfl⟩
  rw [← hq] at hnow k4 k5 HBLK
  have HNOW := Lh hnow; have HQ := Lh hq
  cases hlen : (v.m.len == -1) with
  | false =>
   have em : sealA vs o = (11, vs) := by simp [sealA, hn, hv, hlen]
   rw [em]
   clear h hn em hok hv hg hnow hq
   go_enter Try.func48, Try.ntmps48
   go_wp2_with (go_at_call 54; refine HNOW.out.mono ?_; rintro e w1 ⟨rfl, rfl⟩)
   go_ret
   exact ⟨rfl, ⟨gs, A, c, HI.out⟩, .of (Ext.refl _)⟩
  | true =>
   have em : sealA vs o = (0, vs.set i (sealV v)) := by simp [sealA, hn, hv, hlen]
   rw [em]
   have hl1 : v.m.len = -1 := by simpa using hlen
   rw [hl1] at k4
   clear h hn em hok hv hg hnow hq hlen
   have HL1 := Lh hl1
   clear hl1
   go_enter Try.func48, Try.ntmps48
   go_wp2_with (first | (go_at_call 54; refine HNOW.out.mono ?_; rintro e w1 ⟨rfl, rfl⟩) | (refine wpList_put 2 rfl _ _ rfl _ 4 110 _ (rverC v.obj { v.m with len := v.bytes.length, hav := v.bytes.length } g.kv g.bv v.went) [.int .i64 v.bytes.length] (.int .i64 v.bytes.length) HBLK.out rfl rfl rfl (by simp [rverC]) rfl size2 (by simp [putA, rverC, nowM]) ?_; intro W3 x3 n3 s3; refine stop_of ?_))
   unfold Stop
   have X3 := Lh x3; have N3 := Lh n3
   clear x3 n3 k4 k5
   go_wp2
   go_ret
   rw [HQ.out] at X3 N3
   have ok := OK.out
   refine ⟨rfl, ⟨gs.set i g, A, c, HI.out.setV (v' := sealV v) (g' := g) HV.out HG.out rfl ⟨N3.out, own_extB ok.keys X3.out ?_, own_extB ok.row X3.out ?_, ok.ob, ok.ok, ok.obv, ⟨ok.z.tt, ok.z.keys, ok.z.key, ok.z.ten⟩, ok.len⟩ X3.out (fun _ hi => hi) (fun j hj => Nat.lt_of_lt_of_le (HI.out.lt j hj) X3.out.size) HI.out.low (HI.out.objs v (List.mem_of_getElem? HV.out))⟩, .ofB X3.out (fun k hk => .inl ?_)⟩
   ·intro y hy e
    have := ok.kk e; rw [show y = g.b by simpa using hy, ok.kb] at this; cases this
   ·intro y hy e
    have := ok.kbv e; rw [show y = g.b by simpa using hy, ok.kb] at this; cases this
   ·rw [show k = g.b by simpa using hk]; exact ok.ob
set_option maxRecDepth 100000 in
set_option maxHeartbeats 2000000 in
theorem rgone_any (hI : RI w x B own vs ss sa) {o : Bs} (ho : o.length ≤ 1000000) : Calls Try.prog 49 #[.pointer (some ⟨x, 0, none⟩), .string ⟨o.toArray⟩] w fun e w' => e = .returned (.int .i64 (goneA vs o).1) ∧ RI w' x B own (goneA vs o).2 ss sa ∧ ExtP own w w' := by
 obtain ⟨gs, A, c, h⟩ := hI
 have hnow := rnow_any h ho
 cases hn : nowI vs o with
 | none =>
  have em : goneA vs o = (6, vs) := by simp [goneA, hn]
  rw [em]
  rw [hn, rp_none] at hnow
  have HNOW := Lh hnow
  have HI := Lh (show RI w x B own vs ss sa from ⟨gs, A, c, h⟩)
  clear h hn em hnow
  go_enter Try.func49, Try.ntmps49
  go_wp2_with (go_at_call 54; refine HNOW.out.mono ?_; rintro e w1 ⟨rfl, rfl⟩)
  go_ret
  exact ⟨rfl, HI.out, .of (Ext.refl _)⟩
 | some i =>
  obtain ⟨v, hv, _, _⟩ := nowI_some hn
  obtain ⟨g, hg, hok⟩ := h.vers.get hv
  rw [hn, rp_some hg] at hnow
  have em : goneA vs o = (0, vs.set i (goneV v)) := by simp [goneA, hn, hv]
  rw [em]
  have HI := Lh h; have HV := Lh hv; have HG := Lh hg; have OK := Lh hok
  have HBLK := Lh hok.blk
  obtain ⟨q, hq⟩ : ∃ q, q = g.b := ⟨_, rfl⟩
  rw [← hq] at hnow HBLK
  have HNOW := Lh hnow; have HQ := Lh hq
  clear h hn em hok hv hg hnow hq
  go_enter Try.func49, Try.ntmps49
  go_wp2_with (first | (go_at_call 54; refine HNOW.out.mono ?_; rintro e w1 ⟨rfl, rfl⟩) | (refine wpList_put 4 rfl _ _ rfl _ 13 110 _ (rverC v.obj (nowM v) g.kv g.bv true) [.bool true] (.bool true) HBLK.out rfl rfl rfl (by simp [rverC]) rfl size4 (by simp [putA, rverC]) ?_; intro W3 x3 n3 s3; refine stop_of ?_))
  unfold Stop
  have X3 := Lh x3; have N3 := Lh n3
  clear x3 n3
  go_wp2
  go_ret
  rw [HQ.out] at X3 N3
  have ok := OK.out
  have hgs : gs.set i g = gs := by
   apply List.ext_getElem?; intro j
   by_cases hj : j = i
   ·subst hj; rw [List.getElem?_set_self (List.getElem?_eq_some_iff.1 HG.out).1, HG.out]
   ·rw [List.getElem?_set_ne (Ne.symm hj)]
  refine ⟨rfl, ⟨gs.set i g, A, c, HI.out.setV (v' := goneV v) (g' := g) HV.out HG.out rfl ⟨N3.out, own_extB ok.keys X3.out ?_, own_extB ok.row X3.out ?_, ok.ob, ok.ok, ok.obv, ⟨ok.z.tt, ok.z.keys, ok.z.key, ok.z.ten⟩, ok.len⟩ X3.out (fun _ hi => hi) (fun j hj => Nat.lt_of_lt_of_le (HI.out.lt j hj) X3.out.size) HI.out.low (HI.out.objs v (List.mem_of_getElem? HV.out))⟩, .ofB X3.out (fun k hk => .inl ?_)⟩
  ·intro y hy e
   have := ok.kk e; rw [show y = g.b by simpa using hy, ok.kb] at this; cases this
  ·intro y hy e
   have := ok.kbv e; rw [show y = g.b by simpa using hy, ok.kb] at this; cases this
  ·rw [show k = g.b by simpa using hk]; exact ok.ob
end
end Go.Proofs.Ytpangoddbfiagaa
namespace Go.Proofs.Ytpangoddbfiagaa
open Go.RowKit Go.Maps Go.ChangeMaps
set_option linter.unusedVariables false
set_option linter.unusedSimpArgs false
section
variable {w w' : World} {x B : Nat} {own own' : Nat → Prop} {vs : List Vn} {ss : List Sn} {sa va : List Nat} {gs : List Rg} {A : Option Addr} {c : Nat} {X : List Nat}
theorem RSsAt.more (h : RSsAt w B own va ss sa) (q : Nat) : RSsAt w B own (va ++ [q]) ss sa := by
 refine ⟨h.len, fun j s b hs hb => ?_, h.nd⟩
 obtain ⟨kv, h1, h2, h3, h4, h5, h6, h7⟩ := h.at_ j s b hs hb
 refine ⟨kv, ?_, h2, h3, h4, h5, fun i e => by have := h6 i e; simp; omega, h7⟩
 have e : verP (va ++ [q]) s.v = verP va s.v := by
  unfold verP
  cases e : s.v with
  | none => rfl
  | some i => simp only [Option.bind_some]; rw [List.getElem?_append_left (h6 i e)]
 rw [e]; exact h1
theorem RVsAt.add (h : RVsAt w B own vs gs) {n : Vn} {g : Rg} (hn : RVerOk w B own n g) (hb : ∀ (j : Nat) (y : Rg), gs[j]? = some y → y.b ≠ g.b) : RVsAt w B own (vs ++ [n]) (gs ++ [g]) := by
 refine ⟨by simp [h.len], fun i v y hv hy => ?_, fun i j y y' hy hy' e => ?_⟩
 ·rcases app_get hv with h1 | ⟨h1, h2⟩ <;> rcases app_get hy with h3 | ⟨h3, h4⟩
  ·exact h.at_ i v y h1 h3
  ·have := (List.getElem?_eq_some_iff.1 h1).1; rw [h3, h.len] at this; omega
  ·have := (List.getElem?_eq_some_iff.1 h3).1; rw [h1, h.len] at this; omega
  ·rw [h2, h4]; exact hn
 ·rcases app_get hy with h1 | ⟨h1, h2⟩ <;> rcases app_get hy' with h3 | ⟨h3, h4⟩
  ·exact h.nd i j y y' h1 h3 e
  ·rw [h4] at e; exact absurd e (hb i y h1)
  ·rw [h2] at e; exact absurd e.symm (hb j y' h3)
  ·rw [h1, h3]
theorem RIx.addV (h : RIx w x B own vs ss sa gs A c) {n : Vn} {g : Rg} {A' : Option Addr} {c' : Nat} (hx : ExtB X w w') (hX : ∀ y ∈ X, kindOf w y = 102 ∨ kindOf w y = 75) (ho : ∀ i, own i → own' i) (hlt : ∀ i, own' i → i < w'.heap.size) (hlow : ∀ i, own' i → B ≤ i)
  (hblk : w'.heap[x]? = some (.cells #[.slice A' (vs.length + 1) c'] 102 (0, 0))) (hrow : w'.ownsRow B 75 1 (.slice A' (vs.length + 1) c') (vs.length + 1) ((gs.map fun g => ptrV g.b) ++ [ptrV g.b])) (hor : ∀ y, (Value.slice A' (vs.length + 1) c').ownBlock = some y → own' y)
  (hn : RVerOk w' B own' n g) (hg : w.heap.size ≤ g.b) (hobj : n.obj.length ≤ 1000) : RIx w' x B own' (vs ++ [n]) ss sa (gs ++ [g]) A' c' := by
 have hk : ∀ y ∈ X, kindOf w y ≠ 110 ∧ kindOf w y ≠ 9 ∧ kindOf w y ≠ 5 ∧ kindOf w y ≠ 77 := fun y hy => by
  rcases hX y hy with e | e <;> rw [e] <;> decide
 have hv := h.vers.extK hx (fun y hy => ⟨(hk y hy).1, (hk y hy).2.1, (hk y hy).2.2.1⟩) ho
 have hs := h.strs.extK hx (fun y hy => ⟨(hk y hy).2.2.2, (hk y hy).2.1⟩) ho
 refine ⟨by rw [List.length_append]; exact hblk, by rw [List.length_append, List.map_append]; exact hrow, ho _ h.ox, by rw [List.length_append]; exact hor, hv.add hn (fun j y hy e => ?_), by rw [List.map_append]; exact hs.more g.b, hlt, hlow, Nat.le_trans h.lowB hx.size, fun u hu => ?_⟩
 ·have hj : j < vs.length := by rw [← h.vers.len]; exact (List.getElem?_eq_some_iff.1 hy).1
  have := blk_lt (h.vers.at_ j vs[j] y (by simp [hj]) hy).blk
  omega
 ·rw [List.mem_append, List.mem_singleton] at hu
  rcases hu with hu | hu
  ·exact h.objs u hu
  ·rw [hu]; exact hobj
theorem RIx.gone (h : RIx w x B own vs ss sa gs A c) {i : Nat} {v : Vn} {g : Rg} (hv : vs[i]? = some v) (hg : gs[i]? = some g) (hx : ExtB [g.b] w w') (hn : RVerAt w' g.b v.obj (nowM v) g.kv g.bv true) : RIx w' x B own (vs.set i (goneV v)) ss sa gs A c := by
 have ok := h.vers.at_ i v g hv hg
 have hgs : gs.set i g = gs := by
  apply List.ext_getElem?; intro j
  by_cases hj : j = i
  ·subst hj; rw [List.getElem?_set_self (List.getElem?_eq_some_iff.1 hg).1, hg]
  ·rw [List.getElem?_set_ne (Ne.symm hj)]
 have := h.setV (v' := goneV v) (g' := g) hv hg rfl ⟨hn, own_extB ok.keys hx ?_, own_extB ok.row hx ?_, ok.ob, ok.ok, ok.obv, ⟨ok.z.tt, ok.z.keys, ok.z.key, ok.z.ten⟩, ok.len⟩ hx (fun _ hi => hi) (fun j hj => Nat.lt_of_lt_of_le (h.lt j hj) hx.size) h.low (h.objs v (List.mem_of_getElem? hv))
 ·rw [hgs] at this; exact this
 ·intro y hy e
  have := ok.kk e; rw [show y = g.b by simpa using hy, ok.kb] at this; cases this
 ·intro y hy e
  have := ok.kbv e; rw [show y = g.b by simpa using hy, ok.kb] at this; cases this
end
end Go.Proofs.Ytpangoddbfiagaa
namespace Go.Proofs.Ytpangoddbfiagaa
open Go.RowKit Go.Maps Go.ChangeMaps
set_option linter.unusedVariables false
set_option linter.unusedSimpArgs false
set_option maxRecDepth 100000 in
theorem wpList_push {W : World} {ops : Array Oper} {rest : List Oper} {o : Oper} {a : Act} {Q : Exit → Act → World → Prop} (t e : TypeId) (z : Value) (bytes : Nat) (ht : Try.prog.underlying t = some (.slice e)) (hinfo : (Try.prog.info? e).map (fun i => (i.zero, i.size, i.bytes)) = some (some z, 1, bytes)) (hzs : z.cells.size = 1) (hby : bytes ≤ 16)
  (hgd : o.guard = none) (s x : Operand) (ho : o.op = .call { callee := .builtin .append, args := #[s, x], argTypes := #[t, t] })
  (base : Nat) (v : Value) (ys xs : List Value) (A : Addr) (c : Nat) (hown : W.ownsRow base e 1 v ys.length ys) (hsrc : RowAt W (.slice (some A) xs.length c) xs) (hone : ∀ q ∈ xs, q.oneCell' = true) (hs : a.eval s = v) (hx : a.eval x = .slice (some A) xs.length c)
  (hlen : ys.length + xs.length ≤ 1000000) (hbase : base ≤ W.heap.size)
  (h : ∀ v' w', w'.ownsRow base e 1 v' (ys ++ xs).length (ys ++ xs) → W.grownBy w' v.ownBlock → (∀ x, v'.ownBlock = some x → v.ownBlock = some x ∨ W.heap.size ≤ x) → wpList Try.prog ops Q rest (a.put o.dst v') w') : wpList Try.prog ops Q (o :: rest) a W := by
 obtain ⟨i0, hi, hz0, hz1, hz2⟩ := info_parts hinfo
 obtain ⟨A', c', e', hc0, hc1, hc⟩ := hsrc
 obtain ⟨rfl, rfl⟩ : some A = A' ∧ c = c' := by injection e' with e1 e2 e3; exact ⟨e1, e3⟩
 have hnews : ∀ j u, xs[j]? = some u → W.cell? (A.add j) = some u := by
  intro j q hq
  have hj : j < xs.length := (List.getElem?_eq_some_iff.1 hq).1
  obtain ⟨b, off, e, hcell⟩ := hc j hj
  injection e with e
  subst e
  rw [List.getElem?_eq_getElem hj] at hq
  rw [← hq, add_plain]; exact hcell
 have hb2 : (ys.length + xs.length) * bytes ≤ 16000000 := Nat.le_trans (Nat.mul_le_mul hlen hby) (by decide)
 have hl1 : xs.length = xs.length * 1 := by simp
 obtain ⟨v', w', hr, h2, h3, _⟩ := run_append_own (P := Try.prog) W base t o.type e i0 z 1 bytes ht hi hz0 hz1 hz2 hzs (by decide) v ys.length ys hown A xs.length c xs hl1 hnews hone (by unfold maxLen; omega) (by omega) hbase
 have h4 : ∀ x, v'.ownBlock = some x → v.ownBlock = some x ∨ W.heap.size ≤ x := by
  rcases hown.2 with ⟨rfl, h0⟩ | ⟨g, cap, cur, rfl, hbg, hg, hnc, hcm, hcs, htake⟩
  ·have hx0 : ys = [] := List.eq_nil_of_length_eq_zero h0
   subst hx0
   obtain ⟨v2, w2, hr2, h2, _, _⟩ := run_append_own (P := Try.prog) W W.heap.size t o.type e i0 z 1 bytes ht hi hz0 hz1 hz2 hzs (by decide) (.slice none 0 0) 0 [] (World.ownsRow_nil _ _ _ _) A xs.length c xs hl1 hnews hone (by unfold maxLen; omega) (by simpa using Nat.le_trans hb2 (by decide)) (Nat.le_refl _)
   rw [hr] at hr2
   cases hr2
   exact fun x hx => .inr (h2.lt x hx).1
  ·by_cases hroom : ys.length + xs.length ≤ cap
   ·have hr2 := run_append_room (P := Try.prog) W t o.type e i0 ht hi g ys.length cap cur hg A xs.length c xs (by rw [hz1]; exact hl1) hnews hone hroom (by rw [hz1, hcs]; omega)
    rw [hr] at hr2
    cases hr2
    exact fun x hx => .inl hx
   ·have holds : ∀ j u, ys[j]? = some u → W.cell? ((⟨g, 0, none⟩ : Addr).add j) = some u := hown.cells (g := g) rfl
    have hr2 := run_append_grow (P := Try.prog) W t o.type e i0 z ht hi hz0 ⟨g, 0, none⟩ ys.length cap ys (by rw [hz1]; simp) holds A xs.length c xs (by rw [hz1]; exact hl1) hnews (by omega) (by omega) (growslice_fits (by omega) (by rw [hz2]; omega))
    rw [hr] at hr2
    cases hr2
    exact fun x hx => .inr (by cases hx; exact Nat.le_refl _)
 refine wpList_plain hgd fun K hK => ?_
 unfold Oper.wp execOp
 simp only [ho, resolve, invoke, builtin, Sem.run_bind, Sem.run_pure, Result.andThen_ok, List.map_toArray, List.map_cons, List.map_nil, hs, hx, hr]
 refine hK _ _ (h v' w' ?_ h3 h4)
 rw [List.length_append]
 exact h2
section
variable {w w' : World} {x B : Nat} {own own' : Nat → Prop} {vs : List Vn} {ss : List Sn} {sa va : List Nat} {gs : List Rg} {A : Option Addr} {c : Nat} {X : List Nat}
def RSetR (w : World) (x B : Nat) (own : Nat → Prop) (ss : List Sn) (sa : List Nat) (r : Int × List Vn) (e : Ending) (w' : World) : Prop :=
 e = .returned (.int .i64 r.1) ∧ RI w' x B (grownOwn own w w') r.2 ss sa ∧ ExtP own w w'
theorem rset_fin {W9 W13 : World} {o bs : Bs} {m : MetaP} {us : List Vn} {k8 k10 : Value} {b10 b1 b2 nv : Nat} {A' : Option Addr} {c' : Nat} (hI : RIx w x B own vs ss sa gs A c) (hJ : RIx W9 x B own us ss sa gs A c) (hnv : nv = us.length)
  (hXP : ExtP own w W9) (hXF : ExtB (x :: (Value.slice A nv c).ownBlock.toList) W9 W13) (hblk : W13.heap[x]? = some (.cells #[.slice A' (nv + 1) c'] 102 (0, 0)))
  (hrow : W13.ownsRow B 75 1 (.slice A' (nv + 1) c') (nv + 1) ((gs.map fun g => ptrV g.b) ++ [ptrV b10])) (hor : ∀ y, (Value.slice A' (nv + 1) c').ownBlock = some y → (Value.slice A nv c).ownBlock = some y ∨ W9.heap.size ≤ y)
  (hver : RVerAt W13 b10 o { m with hav := bs.length } k8 k10 false) (hb10 : W9.heap.size ≤ b10) (hkeys : SRow W13 b1 k8 m.keys) (hb1 : w.heap.size ≤ b1) (hbytes : BRow W13 b2 k10 bs) (hb2 : w.heap.size ≤ b2) (hz : MetaZ m) (hbs : bs.length ≤ 1000) (ho : o.length ≤ 1000)
  {r : Int × List Vn} (ES : r = (0, offVs vs o ++ [newV o m bs])) (hoff : offVs vs o = us) : RSetR w x B own ss sa r (.returned (.int .i64 0)) W13 := by
 subst ES
 rw [hoff]
 subst hnv
 have hB9 : B ≤ w.heap.size := hI.lowB
 have hsz : w.heap.size ≤ W9.heap.size := hXP.size
 have hg1 : ∀ y, w.heap.size ≤ y → y < W13.heap.size → grownOwn own w W13 y := fun y h1 h2 => .inr ⟨h1, h2⟩
 have hlow : ∀ i, grownOwn own w W13 i → B ≤ i := fun i hi => by
  rcases hi with hi | hi
  ·exact hI.low i hi
  ·exact Nat.le_trans hB9 hi.1
 have hlt : ∀ i, grownOwn own w W13 i → i < W13.heap.size := fun i hi => by
  rcases hi with hi | hi
  ·exact Nat.lt_of_lt_of_le (hI.lt i hi) (Nat.le_trans hsz hXF.size)
  ·exact hi.2
 have hown : ∀ y ∈ x :: (Value.slice A us.length c).ownBlock.toList, own y := fun y hy => by
  rcases List.mem_cons.1 hy with e | e
  ·rw [e]; exact hJ.ox
  ·exact hJ.orow y (by simpa using e)
 refine ⟨rfl, ⟨_, _, _, hJ.addV (own' := grownOwn own w W13) (n := newV o m bs) (g := ⟨b10, k8, k10⟩) hXF (fun y hy => ?_) (fun i hi => .inl hi) hlt hlow hblk hrow (fun y hy => ?_) ⟨hver, ownsRow_base hkeys (by omega), ownsRow_base hbytes (by omega), hg1 b10 (by omega) (blk_lt hver), fun y e => hg1 y (by have := (hkeys.lt y e).1; omega) (hkeys.lt y e).2, fun y e => hg1 y (by have := (hbytes.lt y e).1; omega) (hbytes.lt y e).2, ⟨hz.tt, hz.keys, hz.key, hz.ten⟩, by simp only [newV]; omega⟩ hb10 ho⟩, hXP.trans (own1 := own) (.ofB hXF fun k hk => .inl (hown k hk)) fun i hi => .inl hi⟩
 ·rcases List.mem_cons.1 hy with e | e
  ·rw [e]; exact .inl (kind_cells hJ.blk)
  ·exact .inr (kind_row hJ.row (by simpa using e))
 ·rcases hor y hy with e | e
  ·exact .inl (hJ.orow y e)
  ·exact hg1 y (by omega) (hrow.lt y hy).2
theorem new_keep {W Wa W12 W13 : World} {L : List Nat} {n y : Nat} (hy : Ext W Wa) (h12 : ExtB L Wa W12) (h13 : ExtB [y] W12 W13) (hL : ∀ q ∈ L, q < n) (hx : y < n) (i : Nat) (h1 : n ≤ i) (h2 : i < W.heap.size) : W13.heap[i]? = W.heap[i]? := by
 have s1 := hy.size; have s2 := h12.size
 exact (h13.block i (by omega) (fun hh => by have : i = y := (by simpa using hh); omega)).trans ((h12.block i (by omega) (fun hh => by have := hL i hh; omega)).trans (hy.block i h2))
theorem rset_end {W9 W10 W11 W12 W13 : World} {q : Obj} {o bs : Bs} {m : MetaP} {us : List Vn} {k8 k10 : Value} {b1 nv : Nat} {A' : Option Addr} {c' : Nat} (hI : RIx w x B own vs ss sa gs A c) (hJ : RIx W9 x B own us ss sa gs A c) (hnv : nv = us.length)
  (hXP : ExtP own w W9) (hX10 : Ext W9 W10) (hX11 : Ext W10 W11) (hG : ExtB (Value.slice A nv c).ownBlock.toList (W11.alloc q) W12) (h13 : ExtB [x] W12 W13) (hblk : W13.heap[x]? = some (.cells #[.slice A' (nv + 1) c'] 102 (0, 0)))
  (hrow : W12.ownsRow B 75 1 (.slice A' (nv + 1) c') (nv + 1) ((gs.map fun g => ptrV g.b) ++ [ptrV W10.heap.size])) (hor : ∀ y, (Value.slice A' (nv + 1) c').ownBlock = some y → (Value.slice A nv c).ownBlock = some y ∨ (W11.alloc q).heap.size ≤ y)
  (hver : RVerAt W11 W10.heap.size o { m with hav := bs.length } k8 k10 false) (hkeys : SRow W9 b1 k8 m.keys) (hb1 : w.heap.size ≤ b1) (hbytes : BRow W10 W9.heap.size k10 bs) (hz : MetaZ m) (hbs : bs.length ≤ 1000) (ho : o.length ≤ 1000)
  {r : Int × List Vn} (ES : r = (0, offVs vs o ++ [newV o m bs])) (hoff : offVs vs o = us) : RSetR w x B own ss sa r (.returned (.int .i64 0)) W13 := by
 subst hnv
 have hxl : x < W9.heap.size := blk_lt hJ.blk
 have hL : ∀ y ∈ (Value.slice A us.length c).ownBlock.toList, y < W9.heap.size ∧ kindOf W9 y = 75 := fun y hy => ⟨(hJ.row.lt y (by simpa using hy)).2, kind_row hJ.row (by simpa using hy)⟩
 have hy : Ext W9 (W11.alloc q) := hX10.trans (hX11.trans (ext_alloc1 _ _))
 have s10 := hX10.size; have s11 := hX11.size
 have XF : ExtB (x :: (Value.slice A us.length c).ownBlock.toList) W9 W13 := ⟨h13.os.trans (hG.os.trans hy.os), h13.tape.trans (hG.tape.trans hy.tape), h13.output.trans (hG.output.trans hy.output), Nat.le_trans hy.size (Nat.le_trans hG.size h13.size), fun k hk hn => (h13.block k (Nat.lt_of_lt_of_le hk (Nat.le_trans hy.size hG.size)) (fun hh => hn (by rw [show k = x by simpa using hh]; exact List.mem_cons_self))).trans ((hG.block k (Nat.lt_of_lt_of_le hk hy.size) (fun hh => hn (List.mem_cons_of_mem _ hh))).trans (hy.block k hk))⟩
 have hkx : kindOf W9 x = 102 := kind_cells hJ.blk
 refine rset_fin hI hJ rfl hXP XF hblk (own_keep hrow fun y e => h13.block y (hrow.lt y e).2 fun hh => ?_) (fun y e => (hor y e).imp id fun h1 => Nat.le_trans hy.size h1) ((new_keep (ext_alloc1 W11 q) hG h13 (fun y e => (hL y e).1) hxl _ s10 (blk_lt hver)).trans hver) s10 (own_extB hkeys XF fun y hy e => ?_) hb1 (b2 := W9.heap.size) (own_keep hbytes fun y e => new_keep (hX11.trans (ext_alloc1 W11 q)) hG h13 (fun y e => (hL y e).1) hxl y (hbytes.lt y e).1 (hbytes.lt y e).2) hXP.size hz hbs ho ES hoff
 ·have e1 : y = x := by simpa using hh
  rcases hor y e with h1 | h1
  ·have := (hL y (by simpa using h1)).2; rw [e1, hkx] at this; cases this
  ·have := hy.size; omega
 ·have h1 := kind_row hkeys e
  rcases List.mem_cons.1 hy with e1 | e1
  ·rw [e1, hkx] at h1; cases h1
  ·rw [(hL y e1).2] at h1; cases h1
end
end Go.Proofs.Ytpangoddbfiagaa
