import Derived.Test.YtpangoddbfiagaaRG06
import Derived.Test.YtpangoddbfiagaaRG07
import Derived.Test.YtpangoddbfiagaaRG08
import Derived.Test.YtpangoddbfiagaaRG10
import Derived.Test.YtpangoddbfiagaaRG11
import Derived.Test.YtpangoddbfiagaaRG12
import Derived.Test.YtpangoddbfiagaaRG13
import Derived.Shelf.SlGeneric
import Derived.Shelf.SlIter.Nil
import Derived.Shelf.SortM.Plain
import Derived.Shelf.SortM.SortNone
import Derived.Ground.GgzProg
import Derived.Ground.SlgmProg
import Derived.Test.YtpangoddbfiagaaProg
import Derived.Sort.OwnSorted
import Derived.Lib.SlBytesConst
import Derived.Laws.BytesArg
namespace Go.Proofs.Ytpangoddbfiagaa
open Go.RowKit Go.Maps Go.ChangeMaps
set_option linter.unusedVariables false
set_option linter.unusedSimpArgs false
theorem set_any {w : World} {b B N : Nat} {own : Nat → Prop} {vs : List Vn} {ss : List Sn} {sa : List Nat} (hI : OI w b B N own vs ss sa) (hN : N ≤ 800000) {o bs : Bs} {m : MetaP} {kv u : Value} (ho : o.length ≤ 1000) (hz : MetaZ m) (hk : TextsAt w kv m.keys) (hu : BytesAt w u bs) (hbs : bs.length ≤ 1000) (hfk : FarV own kv) (hfu : FarV own u) :
  Calls Try.prog 13 #[.pointer (some ⟨b, 0, none⟩), .string ⟨o.toArray⟩, metaV m kv, u] w fun e w' => e = .returned (.int .i64 (setA vs o m bs).1) ∧ OI w' b B (N + 2) (grownOwn own w w') (setA vs o m bs).2 ss sa ∧ ExtP own w w' := by
 obtain ⟨gs, mo, mh, H, K, h⟩ := hI
 obtain ⟨tt, tw, mod, len, hav, fr, wh, er, keys, ten, keep⟩ := m
 by_cases h1 : len = -1
 ·subst h1
  cases hb : setOk o ⟨tt, tw, mod, -1, hav, fr, wh, er, keys, ten, keep⟩ bs with
  | false => exact set_badA h hN ho hz hk hu hbs hfk hfu hb
  | true =>
   cases hnt : noTag ⟨tt, tw, mod, -1, hav, fr, wh, er, keys, ten, keep⟩ with
   | true => exact set_A_none h hN ho hz hk hu hbs hfk hfu hb hnt
   | false =>
    cases hhd : hadF H K o tt with
    | none => exact set_A_new h hN ho hz hk hu hbs hfk hfu hb hnt hhd
    | some x =>
     cases x with
     | true => exact set_A_ref1 h hN ho hz hk hu hbs hfk hfu hb hnt hhd
     | false =>
      cases htw : tw with
      | true => subst htw; exact set_A_weak h hN ho hz hk hu hbs hfk hfu hb hnt hhd rfl
      | false => subst htw; exact set_A_ref2 h hN ho hz hk hu hbs hfk hfu hb hnt hhd rfl
 ·by_cases h2 : len = (bs.length : Int)
  ·subst h2
   cases hb : setOk o ⟨tt, tw, mod, bs.length, hav, fr, wh, er, keys, ten, keep⟩ bs with
   | false => exact set_badB h hN ho hz hk hu hbs hfk hfu hb
   | true =>
    cases hnt : noTag ⟨tt, tw, mod, bs.length, hav, fr, wh, er, keys, ten, keep⟩ with
    | true => exact set_B_none h hN ho hz hk hu hbs hfk hfu hb hnt
    | false =>
     cases hhd : hadF H K o tt with
     | none => exact set_B_new h hN ho hz hk hu hbs hfk hfu hb hnt hhd
     | some x =>
      cases x with
      | true => exact set_B_ref1 h hN ho hz hk hu hbs hfk hfu hb hnt hhd
      | false =>
       cases htw : tw with
       | true => subst htw; exact set_B_weak h hN ho hz hk hu hbs hfk hfu hb hnt hhd rfl
       | false => subst htw; exact set_B_ref2 h hN ho hz hk hu hbs hfk hfu hb hnt hhd rfl
  ·exact set_badC h hN ho hz hk hu hbs hfk hfu h1 h2
end Go.Proofs.Ytpangoddbfiagaa
namespace Go.Proofs.Ytpangoddbfiagaa
open Go.RowKit Go.Maps Go.ChangeMaps
set_option linter.unusedVariables false
set_option linter.unusedSimpArgs false
def hasA (vs : List Vn) (s : Sn) : Int := match s.v with
 | none => 3
 | some i => match vs[i]? with
  | none => 3
  | some v => hasZ s.to s.at_ v.bytes.length (v.m.len == -1) v.went
def takeB (vs : List Vn) (s : Sn) (k : Int) : Bs := match s.v with
 | none => []
 | some i => match vs[i]? with
  | none => []
  | some v => (v.bytes.drop s.at_.toNat).take (takeN s.to s.at_ k v.bytes.length).toNat
def movS (vs : List Vn) (s : Sn) (k : Int) : Sn := { s with at_ := s.at_ + (takeB vs s k).length }
section
variable {w w' : World} {b B N : Nat} {own : Nat → Prop} {vs : List Vn} {ss : List Sn} {sa : List Nat} {gs : List Vg} {mo mh : Option Nat} {H : Bs → Option Nat} {K : Bs → Bs → Option Bool}
theorem OIx.setS (h : OIx w b B N own vs ss sa gs mo mh H K) {j : Nat} {s s' : Sn} {sb : Nat} (hs : ss[j]? = some s) (hb : sa[j]? = some sb) (hx : ExtB [sb] w w') (hok : StrOk w' B own (gs.map (·.b)) s' sb) : OIx w' b B N own vs (ss.set j s') sa gs mo mh H K := by
 obtain ⟨kv, q1, q2, q3, q4, q5⟩ := h.strs.at_ j s sb hs hb
 have hk : ∀ x ∈ [sb], kindOf w x = 94 := fun x hx => by rw [show x = sb by simpa using hx]; exact kind_cells q1
 have hjl : j < ss.length := (List.getElem?_eq_some_iff.1 hs).1
 refine ⟨hx.heap h.blk (fun hh => by have := hk _ hh; rw [kind_cells h.blk] at this; cases this), h.ob, h.vers.extK hx (fun x hh => by rw [hk x hh]; decide) (fun _ hi => hi), ⟨by simp [h.strs.len], fun i u c hu hc => ?_, h.strs.nd⟩, h.maps.extK hx (fun x hh => by rw [hk x hh]; decide) (fun _ hi => hi), h.one, fun i hi => Nat.lt_of_lt_of_le (h.lt i hi) hx.size, h.low, Nat.le_trans h.lowB hx.size, h.objs⟩
 by_cases hij : i = j
 ·subst hij
  rw [List.getElem?_set_self hjl] at hu
  rw [hb] at hc
  obtain rfl := Option.some.inj hu
  obtain rfl := Option.some.inj hc
  exact hok
 ·rw [List.getElem?_set_ne (Ne.symm hij)] at hu
  obtain ⟨kv2, h1, h2, h3, h4, h5⟩ := h.strs.at_ i u c hu hc
  exact ⟨kv2, hx.heap h1 (fun hh => hij (h.strs.nd i j c hc (by rw [show c = sb by simpa using hh]; exact hb))), own_keep h2 fun x e => hx.block x (h2.lt x e).2 (fun hh => by have := hk _ hh; rw [kind_row h2 e] at this; cases this), h3, h4, h5⟩
theorem OIx.verOf (h : OIx w b B N own vs ss sa gs mo mh H K) {s : Sn} {i : Nat} (hi : i < (gs.map (·.b)).length) (hv : s.v = some i) : ∃ v g, vs[i]? = some v ∧ gs[i]? = some g ∧ VerOk w B own v g ∧ verP (gs.map (·.b)) s.v = some ⟨g.b, 0, none⟩ := by
 have hi' : i < gs.length := by simpa using hi
 have hi2 : i < vs.length := by rw [← h.vers.len]; exact hi'
 refine ⟨vs[i], gs[i], by simp [hi2], by simp [hi'], h.vers.at_ i _ _ (by simp [hi2]) (by simp [hi']), ?_⟩
 rw [hv]; simp [verP, hi']
theorem has_o (hI : OI w b B N own vs ss sa) {j : Nat} {s : Sn} {sb : Nat} (hs : ss[j]? = some s) (hb : sa[j]? = some sb) : Calls Try.prog 30 #[.pointer (some ⟨sb, 0, none⟩)] w fun e w' => e = .returned (.int .i64 (hasA vs s)) ∧ Ext w w' := by
 obtain ⟨gs, mo, mh, H, K, h⟩ := hI
 obtain ⟨kv, q1, q2, q3, q4, q5, q6, q7⟩ := h.strs.at_ j s sb hs hb
 cases hv : s.v with
 | none =>
  have e : hasA vs s = 3 := by simp [hasA, hv]
  rw [hv] at q1
  rw [e]
  exact has_none w sb s.st s.m kv s.fr s.to s.at_ q1
 | some i =>
  obtain ⟨v, g, hvi, hgi, hok, hp⟩ := h.verOf (q6 i hv) hv
  have e : hasA vs s = hasZ s.to s.at_ v.bytes.length (v.m.len == -1) v.went := by simp [hasA, hv, hvi]
  obtain ⟨A, c, hbv⟩ := hok.bvs
  have hblk := hok.blk
  rw [hbv] at hblk
  rw [hp] at q1
  rw [e]
  exact has_some w sb g.b s.st s.m { v.m with hav := g.h } kv g.kv A v.bytes.length c v.went s.fr s.to s.at_ q1 hblk (by have := hok.len; omega)
theorem head_o (hI : OI w b B N own vs ss sa) {j : Nat} {s : Sn} {sb : Nat} (hs : ss[j]? = some s) (hb : sa[j]? = some sb) : Calls Try.prog 16 #[.pointer (some ⟨sb, 0, none⟩)] w fun e w' => ∃ kv', e = .returned (.agg (replyC s.st s.m kv' s.fr s.to).toArray) ∧ SRow w' w.heap.size kv' s.m.keys ∧ Ext w w' := by
 obtain ⟨gs, mo, mh, H, K, h⟩ := hI
 obtain ⟨kv, q1, q2, q3, q4, q5, q6, q7⟩ := h.strs.at_ j s sb hs hb
 exact head_any w sb _ s.st s.m kv s.fr s.to s.at_ q1 q2.texts q5
theorem VnAt (hI : OI w b B N own vs ss sa) {v : Vn} (hv : v ∈ vs) : MetaZ v.m ∧ v.bytes.length ≤ 100000 ∧ v.obj.length ≤ 1000 := by
 obtain ⟨gs, mo, mh, H, K, h⟩ := hI
 obtain ⟨i, hi⟩ := List.mem_iff_getElem?.1 hv
 obtain ⟨g, hg, hok⟩ := h.vers.get hi
 exact ⟨hok.z, hok.len, h.objs v hv⟩
theorem take_o (hI : OI w b B N own vs ss sa) {j : Nat} {s : Sn} {sb : Nat} (hs : ss[j]? = some s) (hb : sa[j]? = some sb) (k : Int) : Calls Try.prog 18 #[.pointer (some ⟨sb, 0, none⟩), .int .i64 k] w fun e w' => ∃ v, e = .returned (.tuple #[v, .int .i64 (hasA vs (movS vs s k))]) ∧ BRow w' w.heap.size v (takeB vs s k) ∧ OI w' b B N own vs (ss.set j (movS vs s k)) sa ∧ ExtP own w w' := by
 obtain ⟨gs, mo, mh, H, K, h⟩ := hI
 have hstr := h.strs.at_ j s sb hs hb
 obtain ⟨kv, q1, q2, q3, q4, q5, q6, q7⟩ := hstr
 have same : ∀ {t : Sn} {W : World}, t = s → Ext w W → OI W b B N own vs (ss.set j t) sa := fun {t W} e x => by
  subst e
  have : ss.set j t = ss := by
   apply List.ext_getElem?; intro i
   by_cases hij : i = j
   ·subst hij; rw [List.getElem?_set_self (List.getElem?_eq_some_iff.1 hs).1, hs]
   ·rw [List.getElem?_set_ne (Ne.symm hij)]
  rw [this]
  exact (show OI w b B N own vs ss sa from ⟨gs, mo, mh, H, K, h⟩).ext x
 cases hv : s.v with
 | none =>
  have e1 : takeB vs s k = [] := by simp [takeB, hv]
  have e2 : movS vs s k = s := by simp [movS, e1]
  have e3 : hasA vs s = 3 := by simp [hasA, hv]
  rw [e1, e2, e3]
  rw [hv] at q1
  refine (take_none w sb s.st s.m kv s.fr s.to s.at_ k q1).mono ?_
  rintro e w' ⟨rfl, x⟩
  exact ⟨_, rfl, World.ownsRow_nil _ _ _ _, same rfl x, .of x⟩
 | some i =>
  obtain ⟨v, g, hvi, hgi, hok, hp⟩ := h.verOf (q6 i hv) hv
  have hl := hok.len
  obtain ⟨A, c, hbv⟩ := hok.bvs
  have hblk := hok.blk
  rw [hbv] at hblk
  rw [hp] at q1
  have eh : ∀ t : Sn, t.v = s.v → hasA vs t = hasZ t.to t.at_ v.bytes.length (v.m.len == -1) v.went := fun t ht => by simp [hasA, ht, hv, hvi]
  by_cases hk : takeN s.to s.at_ k v.bytes.length < 1
  ·have e1 : takeB vs s k = [] := by
    simp only [takeB, hv, hvi]
    rw [show (takeN s.to s.at_ k v.bytes.length).toNat = 0 by omega]; rfl
   have e2 : movS vs s k = s := by simp [movS, e1]
   rw [e1, e2, eh s rfl]
   refine (take_low w sb g.b s.st s.m { v.m with hav := g.h } kv g.kv A v.bytes.length c v.went s.fr s.to s.at_ k q1 hblk (by omega) q7.1 q7.2.1 q7.2.2.1 q7.2.2.2 hk).mono ?_
   rintro e w' ⟨rfl, x⟩
   exact ⟨_, rfl, World.ownsRow_nil _ _ _ _, same rfl x, .of x⟩
  ·obtain ⟨kk, hkk⟩ : ∃ kk : Nat, takeN s.to s.at_ k v.bytes.length = kk := ⟨(takeN s.to s.at_ k v.bytes.length).toNat, by omega⟩
   obtain ⟨at_, hat⟩ : ∃ a : Nat, s.at_ = a := ⟨s.at_.toNat, by have := q7.1; omega⟩
   have hak : at_ + kk ≤ v.bytes.length := by unfold takeN at hkk; omega
   have e1 : takeB vs s k = (v.bytes.drop at_).take kk := by
    simp only [takeB, hv, hvi]
    rw [hkk, hat]; rfl
   have e2 : (takeB vs s k).length = kk := by rw [e1]; simp; omega
   have e3 : (movS vs s k).at_ = (at_ : Int) + kk := by simp [movS, e2, hat]
   have e4 : hasA vs (movS vs s k) = hasZ s.to ((at_ : Int) + kk) v.bytes.length (v.m.len == -1) v.went := by rw [eh (movS vs s k) rfl, e3]; rfl
   have hrow := hok.row
   rw [hbv] at hrow
   obtain ⟨g0, rfl⟩ : ∃ g0, A = some ⟨g0, 0, none⟩ := by
    rcases hrow.2 with ⟨e, h0⟩ | ⟨g0, cap, cur, e, _⟩
    ·omega
    ·cases e; exact ⟨g0, rfl⟩
   have ksb : kindOf w sb = 94 := kind_cells q1
   have n1 : sb ≠ g.b := fun e => by rw [e, hok.kb] at ksb; cases ksb
   have n2 : sb ≠ g0 := fun e => by rw [e, kind_row hrow rfl] at ksb; cases ksb
   rw [hat] at q1
   rw [e4, e1]
   refine (take_some w sb g.b g0 B s.st s.m { v.m with hav := g.h } kv g.kv c v.bytes v.went s.fr s.to k at_ kk q1 hblk hrow (by omega) q7.2.2.1 q7.2.2.2 (by rw [← hat]; exact hkk) (by omega) n1 n2).mono ?_
   rintro e w' ⟨rv, rfl, r1, r2, r3⟩
   refine ⟨rv, rfl, r1, ⟨gs, mo, mh, H, K, h.setS hs hb r3 ?_⟩, .ofB r3 (fun x hx => .inl (by rw [show x = sb by simpa using hx]; exact q3))⟩
   refine ⟨kv, ?_, own_keep q2 fun x e => r3.block x (q2.lt x e).2 (fun hh => by rw [← show x = sb by simpa using hh, kind_row q2 e] at ksb; cases ksb), q3, q4, q5, q6, ?_, ?_, q7.2.2⟩
   ·rw [e3, show (movS vs s k).v = s.v from rfl, hp]; exact r2
   ·rw [e3]; omega
   ·rw [e3]; omega
def Wf (vs : List Vn) : Prop := ∀ v ∈ vs, v.m.len = -1 ∨ v.m.len = v.bytes.length
theorem askV_v (i : Nat) (v : Vn) (f : Ft) : (askV i v f).v = none ∨ (askV i v f).v = some i := by
 unfold askV
 repeat' split
 all_goals first | exact .inl rfl | exact .inr rfl
theorem askV_m (i : Nat) (v : Vn) (f : Ft) : (askV i v f).m = nowM v := by
 unfold askV
 repeat' split
 all_goals rfl
theorem askV_at (i : Nat) (v : Vn) (f : Ft) (hf : 0 ≤ f.fr) (hft : f.fr ≤ f.to) (ht : f.to ≤ 4611686018427387904) (hl : v.bytes.length ≤ 100000) (hw : v.m.len = -1 ∨ v.m.len = v.bytes.length) : 0 ≤ (askV i v f).at_ ∧ (askV i v f).at_ ≤ 4611686018427387904 ∧ 0 ≤ (askV i v f).to ∧ (askV i v f).to ≤ 4611686018427387904 := by
 have h200 : 0 ≤ (if (v.m.len == -1) = true then (4611686018427387904 : Int) else v.m.len) ∧ (if (v.m.len == -1) = true then (4611686018427387904 : Int) else v.m.len) ≤ 4611686018427387904 := by
  split
  ·omega
  ·rename_i h; simp at h; omega
 have h206 : 0 ≤ (if (v.m.len == -1) = false ∨ f.to ≠ 4611686018427387904 then min f.to v.bytes.length else f.to) ∧ (if (v.m.len == -1) = false ∨ f.to ≠ 4611686018427387904 then min f.to v.bytes.length else f.to) ≤ 4611686018427387904 := by
  split <;> omega
 unfold askV
 obtain ⟨t2, ht2⟩ : ∃ t, t = (if (v.m.len == -1) = true then (4611686018427387904 : Int) else v.m.len) := ⟨_, rfl⟩
 obtain ⟨t6, ht6⟩ : ∃ t, t = (if (v.m.len == -1) = false ∨ f.to ≠ 4611686018427387904 then min f.to v.bytes.length else f.to) := ⟨_, rfl⟩
 rw [← ht2] at h200 ⊢
 rw [← ht6] at h206 ⊢
 clear ht2 ht6 hw
 repeat' split
 all_goals refine ⟨?_, ?_, ?_, ?_⟩ <;> dsimp only <;> omega
theorem ftB_parts {f : Ft} (h : ftB f = true) : 0 ≤ f.fr ∧ f.fr < f.to ∧ f.to ≤ 4611686018427387904 ∧ (f.mt = [] → f.mw = false) := by
 unfold ftB spanB at h
 simp only [Bool.and_eq_true, decide_eq_true_eq, Bool.not_eq_true', beq_eq_false_iff_ne] at h
 obtain ⟨⟨⟨⟨h1, ⟨h2, h3⟩, h4⟩, h5⟩, h6⟩, h7⟩ := h
 refine ⟨h2, by omega, h4, fun e => ?_⟩
 unfold askB at h6
 rw [e] at h6
 cases hm : f.mw
 ·rfl
 ·rw [hm] at h6; simp [tagB] at h6
theorem ask_v (h : OIx w b B N own vs ss sa gs mo mh H K) (f : Ft) (hz : FtZ f) (hb : ftB f = true) {i : Nat} {v : Vn} {g : Vg} (hn : nowI vs f.obj = some i) (hv : vs[i]? = some v) (hg : gs[i]? = some g) : Calls Try.prog 15 #[.pointer (some ⟨b, 0, none⟩), .agg (ftC f)] w (AskR w g.b v (askV i v f)) := by
 obtain ⟨p1, p2, p3, p4⟩ := ftB_parts hb
 obtain ⟨obj, fr, to, mt, mw, nt, nw⟩ := f
 simp only at p1 p2 p3 p4 hn
 cases mt with
 | nil =>
  obtain rfl := p4 rfl
  by_cases h0 : fr = 0
  ·subst h0
   by_cases ht : to = 4611686018427387904
   ·subst ht; exact ask_v1n h obj nt nw hz hb hn hv hg
   ·exact ask_v2n h obj to nt nw ht hz hb hn hv hg
  ·exact ask_v3n h obj fr to nt nw (by omega) hz hb hn hv hg
 | cons c0 t0 =>
  by_cases h0 : fr = 0
  ·subst h0
   by_cases ht : to = 4611686018427387904
   ·subst ht; exact ask_v1c h obj c0 t0 mw nt nw hz hb hn hv hg
   ·exact ask_v2c h obj to c0 t0 mw nt nw ht hz hb hn hv hg
  ·exact ask_v3c h obj fr to c0 t0 mw nt nw (by omega) hz hb hn hv hg
theorem ask_yes (hI : OI w b B N own vs ss sa) (hw : Wf vs) (f : Ft) (hz : FtZ f) (hb : ftB f = true) : Calls Try.prog 15 #[.pointer (some ⟨b, 0, none⟩), .agg (ftC f)] w fun e w' => ∃ sb, e = .returned (.tuple #[.pointer (some ⟨sb, 0, none⟩), .int .i64 0]) ∧ OI w' b B N (grownOwn own w w') vs (ss ++ [askS vs f]) (sa ++ [sb]) ∧ w.heap.size ≤ sb ∧ Ext w w' := by
 obtain ⟨gs, mo, mh, H, K, h⟩ := hI
 obtain ⟨p1, p2, p3, p4⟩ := ftB_parts hb
 cases hn : nowI vs f.obj with
 | none =>
  refine (ask_404 h f hz hb hn).mono ?_
  rintro e w' ⟨sb, rfl, h1, h2, x⟩
  have e0 : askS vs f = ⟨404, zeroM, 0, 0, 0, none⟩ := by simp [askS, hn]
  rw [e0]
  refine ⟨sb, rfl, ⟨gs, mo, mh, H, K, h.addS x ⟨.slice none 0 0, h1, World.ownsRow_nil _ _ _ _, .inr ⟨h2, blk_lt h1⟩, fun x e => (by cases e), ⟨by simp [zeroM], by simp [zeroM], by simp [zeroM], by simp [zeroM]⟩, fun i e => (by cases e), by simp, by simp, by simp, by simp⟩ h2⟩, h2, x⟩
 | some i =>
  obtain ⟨v, hv, _, _⟩ := nowI_some hn
  obtain ⟨g, hg, hok⟩ := h.vers.get hv
  refine (ask_v h f hz hb hn hv hg).mono ?_
  rintro e w' ⟨sb, kv, rfl, h1, h2, h3, x⟩
  have e0 : askS vs f = askV i v f := by simp [askS, hn, hv]
  rw [e0]
  have hi : i < (gs.map (·.b)).length := by simpa using (List.getElem?_eq_some_iff.1 hg).1
  refine ⟨sb, rfl, ⟨gs, mo, mh, H, K, h.addS x ⟨kv, ?_, ?_, .inr ⟨h3, blk_lt h1⟩, fun y e => ?_, ?_, fun i' e => ?_, askV_at i v f p1 (by omega) p3 hok.len (hw v (List.mem_of_getElem? hv))⟩ h3⟩, h3, x⟩
  ·have e1 : verP (gs.map (·.b)) (askV i v f).v = if (askV i v f).v.isSome = true then some ⟨g.b, 0, none⟩ else none := by
    rcases askV_v i v f with e | e <;> rw [e]
    ·rfl
    ·simp [verP, hg]
   rw [e1]; exact h1
  ·rw [askV_m]; exact ownsRow_base h2 h.lowB
  ·exact .inr ⟨(h2.lt y e).1, (h2.lt y e).2⟩
  ·rw [askV_m]; exact ⟨hok.z.tt, hok.z.keys, hok.z.key, hok.z.ten⟩
  ·rcases askV_v i v f with e1 | e1
   ·rw [e1] at e; cases e
   ·rw [e1] at e; obtain rfl := Option.some.inj e; exact hi
end
end Go.Proofs.Ytpangoddbfiagaa
namespace Go.Proofs
open Go.Shelf
def Try.keys53_ren : Go.Shelf.Ren := ⟨fun | 7 => 53 | 10 => 67 | n => n, fun | 23 => 82 | 26 => 9 | 3 => 88 | 28 => 107 | 0 => 0 | 27 => 106 | 33 => 86 | 4 => 4 | n => n, fun | n => n⟩
theorem Try.keys53 : Go.Proofs.SlLaysZ.n7 Try.prog Try.keys53_ren := {
 mixed := by kernel_rfl
 f7 := ⟨Try.f53.name, by decide, Try.func53.trans (congrArg some (by kernel_rfl))⟩
 f10 := ⟨Try.f67.name, by decide, Try.func67.trans (congrArg some (by kernel_rfl))⟩
 t0 := Try.underlying0
 a0 := Try.isAgg0
 z0 := Try.sizeOf0
 v0 := Try.zeroValue0
 t4 := Try.underlying4
 a4 := Try.isAgg4
 z4 := Try.sizeOf4
 v4 := Try.zeroValue4
 t23 := Try.underlying82
 a23 := Try.isAgg82
 z23 := Try.sizeOf82
 v23 := Try.zeroValue82
 t26 := Try.underlying9
 a26 := Try.isAgg9
 z26 := Try.sizeOf9
 v26 := Try.zeroValue9
 t27 := Try.underlying106
 a27 := Try.isAgg106
 z27 := Try.sizeOf106
 v27 := Try.zeroValue106
 t28 := Try.underlying107
 a28 := Try.isAgg107
 z28 := Try.sizeOf107
 v28 := Try.zeroValue107
 t33 := Try.underlying86
 a33 := Try.isAgg86
 z33 := Try.sizeOf86
 v33 := Try.zeroValue86 }
def Try.sorted52_ren : Go.Shelf.Ren := ⟨fun | 6 => 52 | 8 => 65 | 9 => 66 | 11 => 77 | 13 => 79 | 12 => 78 | 23 => 92 | 24 => 93 | 14 => 83 | 15 => 84 | 16 => 85 | 17 => 86 | 18 => 87 | 19 => 88 | 20 => 89 | 21 => 90 | 22 => 91 | 25 => 94 | 26 => 95 | 27 => 96 | 28 => 97 | 29 => 98 | 30 => 99 | 31 => 100 | n => n, fun | 26 => 9 | 28 => 107 | 24 => 36 | 0 => 0 | 3 => 3 | 37 => 122 | 48 => 132 | 50 => 134 | 4 => 4 | 40 => 125 | 39 => 124 | 45 => 129 | 5 => 5 | 9 => 9 | 51 => 135 | 55 => 139 | 57 => 141 | 58 => 142 | 33 => 86 | n => n, fun | n => n⟩
theorem Try.sorted52 : Go.Proofs.SlLaysZ.n6 Try.prog Try.sorted52_ren := {
 mixed := by kernel_rfl
 f6 := ⟨Try.f52.name, by decide, Try.func52.trans (congrArg some (by kernel_rfl))⟩
 f8 := ⟨Try.f65.name, by decide, Try.func65.trans (congrArg some (by kernel_rfl))⟩
 f11 := ⟨Try.f77.name, by decide, Try.func77.trans (congrArg some (by kernel_rfl))⟩
 t0 := Try.underlying0
 a0 := Try.isAgg0
 z0 := Try.sizeOf0
 v0 := Try.zeroValue0
 t24 := Try.underlying36
 a24 := Try.isAgg36
 z24 := Try.sizeOf36
 v24 := Try.zeroValue36
 t26 := Try.underlying9
 a26 := Try.isAgg9
 z26 := Try.sizeOf9
 v26 := Try.zeroValue9
 t28 := Try.underlying107
 a28 := Try.isAgg107
 z28 := Try.sizeOf107
 v28 := Try.zeroValue107
 i26 := by kernel_rfl }
def Try.sort66_ren : Go.Shelf.Ren := ⟨fun | 6 => 66 | 8 => 79 | 9 => 78 | 19 => 92 | 20 => 93 | 21 => 83 | 22 => 84 | 23 => 85 | 24 => 86 | 25 => 87 | 26 => 88 | 27 => 89 | 28 => 90 | 29 => 91 | 36 => 94 | 31 => 95 | 32 => 96 | 37 => 97 | 38 => 98 | 39 => 99 | 41 => 100 | n => n, fun | 27 => 36 | 29 => 9 | 3 => 3 | 32 => 122 | 26 => 36 | 0 => 0 | 44 => 132 | 46 => 134 | 4 => 4 | 36 => 125 | 35 => 124 | 41 => 129 | 5 => 5 | 9 => 9 | 53 => 135 | 57 => 139 | 63 => 141 | 64 => 142 | n => n, fun | n => n⟩
theorem Try.sort66 : Go.Proofs.SlLaysM.n6 Try.prog Try.sort66_ren := {
 mixed := by kernel_rfl
 f6 := ⟨Try.f66.name, by decide, Try.func66.trans (congrArg some (by kernel_rfl))⟩
 f8 := Try.func79.trans (congrArg some (by kernel_rfl))
 f9 := ⟨Try.f78.name, by decide, Try.func78.trans (congrArg some (by kernel_rfl))⟩
 f19 := Try.func92.trans (congrArg some (by kernel_rfl))
 f20 := Try.func93.trans (congrArg some (by kernel_rfl))
 f21 := ⟨Try.f83.name, by decide, Try.func83.trans (congrArg some (by kernel_rfl))⟩
 f22 := ⟨Try.f84.name, by decide, Try.func84.trans (congrArg some (by kernel_rfl))⟩
 f23 := ⟨Try.f85.name, by decide, Try.func85.trans (congrArg some (by kernel_rfl))⟩
 f24 := ⟨Try.f86.name, by decide, Try.func86.trans (congrArg some (by kernel_rfl))⟩
 f25 := ⟨Try.f87.name, by decide, Try.func87.trans (congrArg some (by kernel_rfl))⟩
 f26 := ⟨Try.f88.name, by decide, Try.func88.trans (congrArg some (by kernel_rfl))⟩
 f27 := ⟨Try.f89.name, by decide, Try.func89.trans (congrArg some (by kernel_rfl))⟩
 f28 := ⟨Try.f90.name, by decide, Try.func90.trans (congrArg some (by kernel_rfl))⟩
 f29 := ⟨Try.f91.name, by decide, Try.func91.trans (congrArg some (by kernel_rfl))⟩
 f31 := Try.func95.trans (congrArg some (by kernel_rfl))
 f32 := Try.func96.trans (congrArg some (by kernel_rfl))
 f36 := ⟨Try.f94.name, by decide, Try.func94.trans (congrArg some (by kernel_rfl))⟩
 f37 := ⟨Try.f97.name, by decide, Try.func97.trans (congrArg some (by kernel_rfl))⟩
 f38 := ⟨Try.f98.name, by decide, Try.func98.trans (congrArg some (by kernel_rfl))⟩
 f39 := ⟨Try.f99.name, by decide, Try.func99.trans (congrArg some (by kernel_rfl))⟩
 f41 := ⟨Try.f100.name, by decide, Try.func100.trans (congrArg some (by kernel_rfl))⟩
 t0 := Try.underlying0
 a0 := Try.isAgg0
 z0 := Try.sizeOf0
 v0 := Try.zeroValue0
 t3 := Try.underlying3
 a3 := Try.isAgg3
 z3 := Try.sizeOf3
 v3 := Try.zeroValue3
 t4 := Try.underlying4
 a4 := Try.isAgg4
 z4 := Try.sizeOf4
 v4 := Try.zeroValue4
 t5 := Try.underlying5
 a5 := Try.isAgg5
 z5 := Try.sizeOf5
 v5 := Try.zeroValue5
 t9 := Try.underlying9
 a9 := Try.isAgg9
 z9 := Try.sizeOf9
 v9 := Try.zeroValue9
 t26 := Try.underlying36
 a26 := Try.isAgg36
 z26 := Try.sizeOf36
 v26 := Try.zeroValue36
 t27 := Try.underlying36
 a27 := Try.isAgg36
 z27 := Try.sizeOf36
 v27 := Try.zeroValue36
 t29 := Try.underlying9
 a29 := Try.isAgg9
 z29 := Try.sizeOf9
 v29 := Try.zeroValue9
 t32 := Try.underlying122
 a32 := Try.isAgg122
 z32 := Try.sizeOf122
 v32 := Try.zeroValue122
 t35 := Try.underlying124
 a35 := Try.isAgg124
 z35 := Try.sizeOf124
 v35 := Try.zeroValue124
 t36 := Try.underlying125
 a36 := Try.isAgg125
 z36 := Try.sizeOf125
 v36 := Try.zeroValue125
 t41 := Try.underlying129
 a41 := Try.isAgg129
 z41 := Try.sizeOf129
 v41 := Try.zeroValue129
 t44 := Try.underlying132
 a44 := Try.isAgg132
 z44 := Try.sizeOf132
 v44 := Try.zeroValue132
 t46 := Try.underlying134
 a46 := Try.isAgg134
 z46 := Try.sizeOf134
 v46 := Try.zeroValue134
 t53 := Try.underlying135
 a53 := Try.isAgg135
 z53 := Try.sizeOf135
 v53 := Try.zeroValue135
 t57 := Try.underlying139
 a57 := Try.isAgg139
 z57 := Try.sizeOf139
 v57 := Try.zeroValue139
 t63 := Try.underlying141
 a63 := Try.isAgg141
 z63 := Try.sizeOf141
 v63 := Try.zeroValue141
 t64 := Try.underlying142
 a64 := Try.isAgg142
 z64 := Try.sizeOf142
 v64 := Try.zeroValue142 }
end Go.Proofs
namespace Go.Proofs.Ytpangoddbfiagaa
open Go.RowKit Go.Sort Go.Shelf Go.Maps Go.ChangeMaps
set_option linter.unusedVariables false
set_option linter.unusedSimpArgs false
def sortS (ss : List Bs) : List Bs := ss.mergeSort fun x y => decide (x ≤ y)
theorem sortS_len (ss : List Bs) : (sortS ss).length = ss.length := by unfold sortS; simp
theorem sortS_mem (ss : List Bs) (k : Bs) : k ∈ sortS ss ↔ k ∈ ss := (List.mergeSort_perm ss _).mem_iff
theorem strKeys_nodup {R : Value → Option (DataW Unit × List MemPlace)} {w : World} {b n : Nat} {D : DataW Unit} (h : w.ownsMap Try.prog 9 R b n D) : (strKeys D).Nodup ∧ ∀ x, x ∈ strKeys D ↔ Maps.has D (.string x) = true := by
 obtain ⟨es, rfl, hp, hlit⟩ := h.canon law9
 obtain ⟨es', he, hkeys⟩ := h.keysOf
 injection he with he
 subst he
 have hk : ∀ p ∈ es, ∃ x, p.1 = .string x := fun p hpm => by
  obtain ⟨v, hv⟩ := hkeys p hpm
  obtain ⟨x, _, hx, _⟩ := Maps.keyOf_str Try.underlying9 hv
  exact ⟨x, hx⟩
 constructor
 ·show (es.map fun p => strOf p.1).Nodup
  refine List.pairwise_map.2 ((apart_of_rising hp).imp_of_mem fun {p q} hp' hq' hne e => hne ?_)
  obtain ⟨a, ha⟩ := hk p hp'
  obtain ⟨b, hb⟩ := hk q hq'
  rw [ha, hb] at e ⊢
  exact congrArg _ e
 ·intro x
  rw [has_eq, List.any_eq_true]
  show x ∈ es.map (fun p => strOf p.1) ↔ _
  rw [List.mem_map]
  constructor
  ·rintro ⟨p, hpm, rfl⟩
   obtain ⟨a, ha⟩ := hk p hpm
   refine ⟨p, hpm, ?_⟩
   rw [ha]; exact WideAt.sameKey_self (isKeyS a)
  ·rintro ⟨p, hpm, hs⟩
   exact ⟨p, hpm, by rw [WideAt.sameKey_eq hs]; rfl⟩
theorem sorts52 (m : Nat) : AnyZ.SortsIn Try.prog Try.sorted52_ren Fence.wide m :=
 ⟨fun blk off cap ss W hH hblk hsz => callsIn_wide.2 (AnyM.slices_Sort_string Try.sort66 blk off cap ss W hH hblk hsz),
  fun p cap W => callsIn_wide.2 (AnyM.slices_Sort_string_none Try.sort66 p cap W)⟩
theorem mkeys_s (mb : Option Nat) (W : World) : Calls Try.prog 53 #[.map mb] W fun e w' => e = .returned (.func (.func 67) #[] #[.pointer (some ⟨W.heap.size, 0, none⟩)]) ∧ w' = W.alloc (.cells #[.map mb] 82) :=
 (callsIn_wide (n := 5)).1 (AnyZ.keys_in Try.keys53 Fence.wide 5 trivial rfl mb W)
set_option maxHeartbeats 1000000 in
theorem sorted_keys_s {H : Type} (b nn : Nat) (D0 : DataW H) (R : Value → Option (DataW H × List MemPlace)) (w : World) (hown : w.ownsMap Try.prog 9 R b nn D0) (hmax : Maps.size D0 ≤ 1000000) :
  Calls Try.prog 52 #[.func (.func 67) #[] #[.pointer (some ⟨w.heap.size, 0, none⟩)]] (w.alloc (.cells #[.map (some b)] 82)) fun e w' => ∃ (v : Value) (ss : List Bs), e = .returned v ∧ ss.Perm (strKeys D0) ∧
   SRow w' w.heap.size v (sortS ss) ∧ Ext w w' := by
 have hbl := hown.lt
 have hseq : SeqGives Fence.wide 2 Try.prog 67 #[.pointer (some ⟨w.heap.size, 0, none⟩)] encStr (fun ss => ss.Perm (strKeys D0)) (Maps.size D0) (w.alloc (.cells #[.map (some b)] 82)) :=
  AnyZ.keys_gives (ρ := Try.keys53_ren) { Try.keys53 with } Fence.wide _ trivial rfl (by omega) w.heap.size b nn D0 _ (by simp) (by simp) (by
   obtain ⟨es, clock, hb, Ft, hs, hD⟩ := hown
   exact ⟨es, clock, (Below.heap_alloc _ _ b hbl).trans hb, Ft, hs, hD⟩)
 refine ((callsIn_wide (n := 5)).1 (AnyZ.sorted_in Try.sorted52 Fence.wide 5 trivial trivial trivial trivial rfl (by omega) (sorts52 _) (enters_of Try.func66 (by kernel_rfl) rfl) 67 #[.pointer (some ⟨w.heap.size, 0, none⟩)] trivial (enters_of Try.func67 (by kernel_rfl) rfl) _ _ (by unfold maxLen; omega) (by omega) _ hseq)).mono ?_
 rintro e w' ⟨v, ss, rfl, h1, h2, _, h4⟩
 refine ⟨v, ss, rfl, h1, ?_, Below.trans (Ext.alloc (Ext.refl w) _) (Below.mono h4 (by simp))⟩
 unfold SRow
 rw [sortS_len]
 exact ownsRow_base h2 (by simp)
set_option maxHeartbeats 1000000 in
theorem sorted_keys_nil_s (w : World) :
  Calls Try.prog 52 #[.func (.func 67) #[] #[.pointer (some ⟨w.heap.size, 0, none⟩)]] (w.alloc (.cells #[.map none] 82)) fun e w' => ∃ (v : Value), e = .returned v ∧ SRow w' w.heap.size v [] ∧ Ext w w' := by
 have hseq : SeqGives Fence.wide 2 Try.prog 67 #[.pointer (some ⟨w.heap.size, 0, none⟩)] encStr (fun ss : List Bs => ss = []) 0 (w.alloc (.cells #[.map none] 82)) :=
  AnyZ.keys_gives_nil (ρ := Try.keys53_ren) { Try.keys53 with } Fence.wide _ trivial rfl w.heap.size _ (by simp) (by simp)
 refine ((callsIn_wide (n := 5)).1 (AnyZ.sorted_in Try.sorted52 Fence.wide 5 trivial trivial trivial trivial rfl (by omega) (sorts52 _) (enters_of Try.func66 (by kernel_rfl) rfl) 67 #[.pointer (some ⟨w.heap.size, 0, none⟩)] trivial (enters_of Try.func67 (by kernel_rfl) rfl) _ 0 (Nat.zero_le _) (by omega) _ hseq)).mono ?_
 rintro e w' ⟨v, ss, rfl, h1, h2, _, h4⟩
 subst h1
 refine ⟨v, rfl, ?_, Below.trans (Ext.alloc (Ext.refl w) _) (Below.mono h4 (by simp))⟩
 have h3 : w'.ownsRow w.heap.size 9 1 v 0 [] := by
  have := ownsRow_base (base' := w.heap.size) h2 (by simp)
  simp at this
  exact this
 exact h3
def liveB (vs : List Vn) (o : Bs) : Prop := ∃ v ∈ vs, v.obj = o ∧ v.went = false
def Names (vs : List Vn) (ss : List Bs) : Prop := ss.Nodup ∧ (ss.Pairwise fun a b => a ≤ b) ∧ ∀ o, o ∈ ss ↔ liveB vs o
theorem nowI_live (vs : List Vn) (o : Bs) : nowI vs o = none ↔ ¬ liveB vs o := by
 constructor
 ·rintro h ⟨v, hv, ho, hw⟩
  have := nowI_none h v hv ho
  rw [this] at hw; cases hw
 ·intro h
  cases hn : nowI vs o with
  | none => rfl
  | some i =>
   obtain ⟨v, hv, h1, h2⟩ := nowI_some hn
   exact absurd ⟨v, List.mem_of_getElem? hv, h1, h2⟩ h
theorem names_sort {vs : List Vn} {ss : List Bs} (h1 : ss.Nodup) (h2 : ∀ o, o ∈ ss ↔ liveB vs o) : Names vs (sortS ss) := by
 refine ⟨(List.mergeSort_perm ss _).nodup_iff.2 h1, ?_, fun o => by rw [sortS_mem]; exact h2 o⟩
 have := List.pairwise_mergeSort (le := fun x y : Bs => decide (x ≤ y)) (fun a b c h1 h2 => by simp at *; exact List.le_trans h1 h2) (fun a b => by simp; exact List.le_total a b) ss
 exact this.imp fun h => by simpa using h
section
variable {w w' : World} {b B N : Nat} {own : Nat → Prop} {vs : List Vn} {ss : List Sn} {sa : List Nat} {gs : List Vg} {mo mh : Option Nat} {H : Bs → Option Nat} {K : Bs → Bs → Option Bool}
set_option maxRecDepth 100000 in
set_option maxHeartbeats 2000000 in
theorem objects_any (hI : OI w b B N own vs ss sa) (hN : N ≤ 900000) : Calls Try.prog 25 #[.pointer (some ⟨b, 0, none⟩)] w fun e w' => ∃ v ns, e = .returned v ∧ SRow w' w.heap.size v ns ∧ Names vs ns ∧ ns.length ≤ N ∧ Ext w w' := by
 obtain ⟨gs, mo, mh, H, K, h⟩ := hI
 have c1 : w.cell? ⟨b, 0, none⟩ = some (.map mo) := blk_cell h.blk 0
 have hF : ∀ o, (nowI vs o).bind ((gs.map (·.b))[·]?) = none ↔ ¬ liveB vs o := fun o => by
  rw [← nowI_live]
  cases hn : nowI vs o with
  | none => simp
  | some i =>
   obtain ⟨v, hv, _⟩ := nowI_some hn
   obtain ⟨g, hg, _⟩ := h.vers.get hv
   simp [hg]
 cases mo with
 | none =>
  have hno : ∀ o, ¬ liveB vs o := fun o => by
   rcases h.maps.obs with ⟨_, h0⟩ | ⟨m, e, _⟩
   ·exact (hF o).1 (h0 o)
   ·cases e
  have HNO := Lh hno
  have HS := Lh (sorted_keys_nil_s w)
  clear h hno hF
  go_enter Try.func25, Try.ntmps25
  go_wp2_with (first | (go_at_call 53; refine (mkeys_s _ _).mono ?_; rintro e w' ⟨rfl, rfl⟩) | (go_at_call 52; refine HS.out.mono ?_; rintro e w' ⟨v, rfl, q1, q2⟩; have Q1 := Lh q1; have Q2 := Lh q2; clear q1 q2))
  go_ret
  exact ⟨v, [], rfl, Q1.out, ⟨List.nodup_nil, List.Pairwise.nil, fun k => by simp; exact HNO.out k⟩, by simp, Q2.out⟩
 | some m =>
  rcases h.maps.obs with ⟨e, _⟩ | ⟨m', e, D, hown, ht⟩
  ·cases e
  ·injection e with e; subst e
   obtain ⟨n1, n2⟩ := strKeys_nodup hown
   have hmem : ∀ k, k ∈ strKeys D ↔ liveB vs k := fun k => by
    rw [n2]
    have hk := ht k
    have hq := hF k
    dsimp only at hk
    revert hk hq
    cases (nowI vs k).bind ((gs.map (·.b))[·]?) with
    | none => intro hk hq; have := hq.1 rfl; exact ⟨fun e => (by rw [hk] at e; cases e), fun e => absurd e this⟩
    | some x => intro hk hq; refine ⟨fun _ => Classical.byContradiction fun hh => ?_, fun _ => hk.1⟩; have := hq.2 hh; cases this
   have hszk : (strKeys D).length ≤ N := by
    have h1 := hown.size_le
    obtain ⟨es, rfl, _⟩ := hown.canon law9
    simpa [Maps.size, strKeys] using h1
   have HS := Lh (sorted_keys_s m N D ptE.R w hown (Nat.le_trans hown.size_le (by omega)))
   have HM := Lh hmem; have HN1 := Lh n1; have HZ := Lh hszk
   clear h hown ht n1 n2 hmem hF hszk
   go_enter Try.func25, Try.ntmps25
   go_wp2_with (first | (go_at_call 53; refine (mkeys_s _ _).mono ?_; rintro e w' ⟨rfl, rfl⟩) | (go_at_call 52; refine HS.out.mono ?_; rintro e w' ⟨v, ss, rfl, q0, q1, q2⟩; have Q0 := Lh q0; have Q1 := Lh q1; have Q2 := Lh q2; clear q0 q1 q2))
   go_ret
   exact ⟨v, sortS ss, rfl, Q1.out, names_sort ((Q0.out.nodup_iff).2 HN1.out) (fun k => by rw [Q0.out.mem_iff]; exact HM.out k), by rw [sortS_len, Q0.out.length_eq]; exact HZ.out, Q2.out⟩
end
end Go.Proofs.Ytpangoddbfiagaa
namespace Go.Proofs.Ytpangoddbfiagaa
open Go.RowKit Go.Maps Go.ChangeMaps
set_option linter.unusedVariables false
set_option linter.unusedSimpArgs false
def HeldB (own : Nat → Prop) (w : World) (v : Value) (bs : Bs) : Prop := BytesAt w v bs ∧ FarV own v ∧ ∀ A n c, v = .slice (some A) n c → A.block < w.heap.size
theorem HeldB.step {own own' : Nat → Prop} {w w' : World} {v : Value} {bs : Bs} (h : HeldB own w v bs) (x : ExtP own w w') (ho : ∀ i, own' i → own i ∨ w.heap.size ≤ i) : HeldB own' w' v bs := by
 obtain ⟨h1, h2, h3⟩ := h
 refine ⟨RowAt.far h1 x h2, fun A n c e hn hh => ?_, fun A n c e => Nat.lt_of_lt_of_le (h3 A n c e) x.size⟩
 rcases ho _ hh with h4 | h4
 ·exact h2 A n c e hn h4
 ·have := h3 A n c e; omega
structure Stt (w0 w : World) (b N : Nat) (own : Nat → Prop) (vs : List Vn) (ss : List Sn) (sa : List Nat) (hl : List (Value × Bs)) (P : Nat → Prop) : Prop where
 oi : OI w b w0.heap.size N own vs ss sa
 ext : Ext w0 w
 held : ∀ p ∈ hl, HeldB (fun i => own i ∨ P i) w p.1 p.2
 priv : ∀ g, P g → ¬ own g ∧ g < w.heap.size ∧ w0.heap.size ≤ g
def St (w0 w : World) (b N : Nat) (vs : List Vn) (ss : List Sn) (sa : List Nat) (hl : List (Value × Bs)) (P : Nat → Prop) : Prop := ∃ own, Stt w0 w b N own vs ss sa hl P
def KeepP (P : Nat → Prop) (w w' : World) : Prop := ∀ g, P g → w'.heap[g]? = w.heap[g]?
theorem KeepP.refl (P : Nat → Prop) (w : World) : KeepP P w w := fun _ _ => rfl
theorem KeepP.trans {P : Nat → Prop} {w w1 w2 : World} (h : KeepP P w w1) (k : KeepP P w1 w2) : KeepP P w w2 := fun g hg => (k g hg).trans (h g hg)
def noP : Nat → Prop := fun _ => False
theorem OI.lt {w : World} {b B N : Nat} {own : Nat → Prop} {vs : List Vn} {ss : List Sn} {sa : List Nat} (h : OI w b B N own vs ss sa) : ∀ i, own i → i < w.heap.size := by
 obtain ⟨_, _, _, _, _, h⟩ := h; exact h.lt
theorem OI.low {w : World} {b B N : Nat} {own : Nat → Prop} {vs : List Vn} {ss : List Sn} {sa : List Nat} (h : OI w b B N own vs ss sa) : ∀ i, own i → B ≤ i := by
 obtain ⟨_, _, _, _, _, h⟩ := h; exact h.low
theorem ExtP.weak {own own' : Nat → Prop} {w w' : World} (h : ExtP own w w') (ho : ∀ i, own i → own' i) : ExtP own' w w' := ⟨h.os, h.tape, h.output, h.size, fun k hk hn => h.block k hk fun hh => hn (ho k hh)⟩
section
variable {w0 w w' : World} {b N : Nat} {own own' P P' : Nat → Prop} {vs vs' : List Vn} {ss ss' : List Sn} {sa sa' : List Nat} {hl : List (Value × Bs)}
theorem Stt.below (h : Stt w0 w b N own vs ss sa hl P) (x : ExtP own w w') : Ext w0 w' :=
 Below.trans h.ext (⟨x.os, x.tape, x.output, x.size, fun i hi => x.block i (Nat.lt_of_lt_of_le hi h.ext.size) (fun hh => by have := h.oi.low i hh; omega)⟩ : Below w0.heap.size w w')
theorem Stt.go {M : Nat} (h : Stt w0 w b N own vs ss sa hl P) (x : ExtP own w w') (ho : ∀ i, own' i → own i ∨ w.heap.size ≤ i) (hI : OI w' b w0.heap.size M own' vs' ss' sa') : Stt w0 w' b M own' vs' ss' sa' hl P :=
 ⟨hI, h.below x, fun p hp => (h.held p hp).step (x.weak fun i hi => .inl hi) (fun i hi => by
  rcases hi with hi | hi
  ·exact (ho i hi).imp .inl id
  ·exact .inl (.inr hi)), fun g hg => ⟨fun hh => by
   rcases ho g hh with h1 | h1
   ·exact (h.priv g hg).1 h1
   ·have := (h.priv g hg).2.1; omega, Nat.lt_of_lt_of_le (h.priv g hg).2.1 x.size, (h.priv g hg).2.2⟩⟩
theorem Stt.kept (h : Stt w0 w b N own vs ss sa hl P) (x : ExtP own w w') : KeepP P w w' := fun g hg => x.block g (h.priv g hg).2.1 (h.priv g hg).1
theorem Stt.ext' (h : Stt w0 w b N own vs ss sa hl P) (x : Ext w w') : Stt w0 w' b N own vs ss sa hl P := h.go (.of x) (fun i hi => .inl hi) (h.oi.ext x)
theorem St.ext (h : St w0 w b N vs ss sa hl P) (x : Ext w w') : St w0 w' b N vs ss sa hl P := by
 obtain ⟨own, h⟩ := h; exact ⟨own, h.ext' x⟩
theorem St.base (h : St w0 w b N vs ss sa hl P) : Ext w0 w := by
 obtain ⟨own, h⟩ := h; exact h.ext
theorem St.plt (h : St w0 w b N vs ss sa hl P) {g : Nat} (hg : P g) : g < w.heap.size := by
 obtain ⟨own, h⟩ := h; exact (h.priv g hg).2.1
theorem St.other (h : St w0 w b N vs ss sa hl P) (x : ExtP P w w') (hP : ∀ g, P' g → P g ∨ (w.heap.size ≤ g ∧ g < w'.heap.size)) : St w0 w' b N vs ss sa hl P' := by
 obtain ⟨own, h⟩ := h
 have hsz := h.ext.size
 refine ⟨own, h.oi.keep (fun i hi => x.block i (h.oi.lt i hi) (fun hh => (h.priv i hh).1 hi)) x.size, Below.trans h.ext (⟨x.os, x.tape, x.output, x.size, fun i hi => x.block i (Nat.lt_of_lt_of_le hi hsz) (fun hh => by have := (h.priv i hh).2.2; omega)⟩ : Below w0.heap.size w w'), fun p hp => (h.held p hp).step (x.weak fun i hi => .inr hi) (fun i hi => ?_), fun g hg => ?_⟩
 ·rcases hi with hi | hi
  ·exact .inl (.inl hi)
  ·exact (hP i hi).imp .inr (·.1)
 ·rcases hP g hg with h1 | h1
  ·exact ⟨(h.priv g h1).1, Nat.lt_of_lt_of_le (h.priv g h1).2.1 x.size, (h.priv g h1).2.2⟩
  ·exact ⟨fun hh => by have := h.oi.lt g hh; omega, h1.2, by omega⟩
theorem row_held {base : Nat} {v : Value} {bs : Bs} (r : BRow w' base v bs) (hb : w.heap.size ≤ base) (hlt : ∀ i, own i → i < w.heap.size) : HeldB own w' v bs := by
 refine ⟨r.at_, fun A n c e hn hh => ?_, fun A n c e => ?_⟩
 all_goals
  have hr := r
  rcases hr.2 with ⟨e2, _⟩ | ⟨g, cap, cur, e2, hb2, hg, _⟩
  ·rw [e] at e2; cases e2
  ·rw [e] at e2
   injection e2 with e2
   have e3 : A = ⟨g, 0, none⟩ := by injection e2
   subst e3
   first
    | exact blk_lt hg
    | (have := hlt _ hh; simp only at this; omega)
theorem Stt.ltA (h : Stt w0 w b N own vs ss sa hl P) : ∀ i, (own i ∨ P i) → i < w.heap.size := fun i hi => by
 rcases hi with hi | hi
 ·exact h.oi.lt i hi
 ·exact (h.priv i hi).2.1
theorem Stt.hold {base : Nat} (h : Stt w0 w b N own vs ss sa hl P) {v : Value} {bs : Bs} (x : Ext w w') (r : BRow w' base v bs) (hb : w.heap.size ≤ base) : Stt w0 w' b N own vs ss sa ((v, bs) :: hl) P := by
 have h' := h.ext' x
 refine ⟨h'.oi, h'.ext, fun p hp => ?_, h'.priv⟩
 rcases List.mem_cons.1 hp with e | hp
 ·rw [e]; exact row_held r hb h.ltA
 ·exact h'.held p hp
theorem St.hold {base : Nat} (h : St w0 w b N vs ss sa hl P) {v : Value} {bs : Bs} (x : Ext w w') (r : BRow w' base v bs) (hb : w.heap.size ≤ base) : St w0 w' b N vs ss sa ((v, bs) :: hl) P := by
 obtain ⟨own, h⟩ := h; exact ⟨own, h.hold x r hb⟩
theorem St.bytes (h : St w0 w b N vs ss sa hl P) {v : Value} {bs : Bs} (hm : (v, bs) ∈ hl) : BytesAt w v bs := by
 obtain ⟨own, h⟩ := h; exact (h.held _ hm).1
theorem St.drop (h : St w0 w b N vs ss sa hl P) {hl' : List (Value × Bs)} (hs : ∀ p ∈ hl', p ∈ hl) : St w0 w b N vs ss sa hl' P := by
 obtain ⟨own, h⟩ := h; exact ⟨own, h.oi, h.ext, fun p hp => h.held p (hs p hp), h.priv⟩
theorem St.more {M : Nat} (h : St w0 w b N vs ss sa hl P) (hM : N ≤ M) : St w0 w b M vs ss sa hl P := by
 obtain ⟨own, h⟩ := h; exact ⟨own, h.oi.moreN hM, h.ext, h.held, h.priv⟩
theorem grown_le (i : Nat) (h : grownOwn own w w' i) : own i ∨ w.heap.size ≤ i := h.imp id (·.1)
theorem st_new (w : World) : Calls Try.prog 10 #[] w fun e w' => e = .returned (.pointer (some ⟨w.heap.size, 0, none⟩)) ∧ St w w' w.heap.size 0 [] [] [] [] noP ∧ Ext w w' :=
 (new_any w).mono fun e w' ⟨h1, h2, h3⟩ => ⟨h1, ⟨_, h2, h3, by simp, fun g hg => hg.elim⟩, h3⟩
def LowV (w0 : World) (v : Value) : Prop := ∀ A n c, v = .slice (some A) n c → 0 < n → A.block < w0.heap.size
theorem st_set (h : St w0 w b N vs ss sa hl P) (hN : N ≤ 800000) {o bs : Bs} {m : MetaP} {kv u : Value} (ho : o.length ≤ 1000) (hz : MetaZ m) (hk : TextsAt w kv m.keys) (hlk : LowV w0 kv) (hu : (u, bs) ∈ hl) (hbs : bs.length ≤ 1000) :
  Calls Try.prog 13 #[.pointer (some ⟨b, 0, none⟩), .string ⟨o.toArray⟩, metaV m kv, u] w fun e w' => e = .returned (.int .i64 (setA vs o m bs).1) ∧ St w0 w' b (N + 2) (setA vs o m bs).2 ss sa hl P ∧ KeepP P w w' := by
 obtain ⟨own, h⟩ := h
 have hp := h.held _ hu
 refine (set_any h.oi hN ho hz hk hp.1 hbs (fun A n c e hn hh => by have := hlk A n c e hn; have := h.oi.low _ hh; omega) (fun A n c e hn hh => hp.2.1 A n c e hn (.inl hh))).mono fun e w' ⟨h1, h2, h3⟩ => ⟨h1, ⟨_, h.go h3 grown_le h2⟩, h.kept h3⟩
theorem st_grow (h : St w0 w b N vs ss sa hl P) {o bs : Bs} {u : Value} (ho : o.length ≤ 1000000) (hu : (u, bs) ∈ hl) (hbs : bs.length ≤ 1000) (hcap : ∀ i v, nowI vs o = some i → vs[i]? = some v → v.bytes.length + bs.length ≤ 100000) :
  Calls Try.prog 17 #[.pointer (some ⟨b, 0, none⟩), .string ⟨o.toArray⟩, u] w fun e w' => e = .returned (.int .i64 (growA vs o bs).1) ∧ St w0 w' b N (growA vs o bs).2 ss sa hl P ∧ KeepP P w w' := by
 obtain ⟨own, h⟩ := h
 have hp := h.held _ hu
 exact (grow_any h.oi ho hp.1 hbs hcap).mono fun e w' ⟨h1, h2, h3⟩ => ⟨h1, ⟨_, h.go h3 grown_le h2⟩, h.kept h3⟩
theorem st_seal (h : St w0 w b N vs ss sa hl P) {o : Bs} (ho : o.length ≤ 1000000) : Calls Try.prog 19 #[.pointer (some ⟨b, 0, none⟩), .string ⟨o.toArray⟩] w fun e w' => e = .returned (.int .i64 (sealA vs o).1) ∧ St w0 w' b N (sealA vs o).2 ss sa hl P ∧ KeepP P w w' := by
 obtain ⟨own, h⟩ := h
 exact (seal_any h.oi ho).mono fun e w' ⟨h1, h2, h3⟩ => ⟨h1, ⟨_, h.go h3 (fun i hi => .inl hi) h2⟩, h.kept h3⟩
theorem st_gone (h : St w0 w b N vs ss sa hl P) {o : Bs} (ho : o.length ≤ 1000000) : Calls Try.prog 33 #[.pointer (some ⟨b, 0, none⟩), .string ⟨o.toArray⟩] w fun e w' => e = .returned (.int .i64 (goneA vs o).1) ∧ St w0 w' b N (goneA vs o).2 ss sa hl P ∧ KeepP P w w' := by
 obtain ⟨own, h⟩ := h
 exact (gone_any h.oi ho).mono fun e w' ⟨h1, h2, h3⟩ => ⟨h1, ⟨_, h.go h3 (fun i hi => .inl hi) h2⟩, h.kept h3⟩
theorem st_meta (h : St w0 w b N vs ss sa hl P) {o : Bs} (ho : o.length ≤ 1000000) : Calls Try.prog 21 #[.pointer (some ⟨b, 0, none⟩), .string ⟨o.toArray⟩] w fun e w' => ∃ kv, e = .returned (.tuple #[metaV (metaA vs o).1 kv, .bool (metaA vs o).2]) ∧ SRow w' w.heap.size kv (metaA vs o).1.keys ∧ St w0 w' b N vs ss sa hl P ∧ Ext w w' := by
 obtain ⟨own, h⟩ := h
 exact (meta_any h.oi ho).mono fun e w' ⟨kv, h1, h2, h3⟩ => ⟨kv, h1, h2, ⟨own, h.ext' h3⟩, h3⟩
def bytesA (vs : List Vn) (o : Bs) : Bs := match nowI vs o with | none => [] | some i => match vs[i]? with | none => [] | some v => v.bytes
theorem st_bytes (h : St w0 w b N vs ss sa hl P) {o : Bs} (ho : o.length ≤ 1000000) : Calls Try.prog 20 #[.pointer (some ⟨b, 0, none⟩), .string ⟨o.toArray⟩] w fun e w' => ∃ v, e = .returned v ∧ BRow w' w.heap.size v (bytesA vs o) ∧ St w0 w' b N vs ss sa ((v, bytesA vs o) :: hl) P ∧ Ext w w' := by
 obtain ⟨own, h⟩ := h
 exact (bytes_any h.oi ho).mono fun e w' ⟨v, h1, h2, h3⟩ => ⟨v, h1, h2, ⟨own, h.hold h3 h2 (Nat.le_refl _)⟩, h3⟩
theorem st_ask_no (h : St w0 w b N vs ss sa hl P) (f : Ft) (hz : FtZ f) (hb : ftB f = false) : Calls Try.prog 15 #[.pointer (some ⟨b, 0, none⟩), .agg (ftC f)] w fun e w' => e = .returned (.tuple #[.pointer none, .int .i64 1]) ∧ St w0 w' b N vs ss sa hl P ∧ Ext w w' := by
 obtain ⟨own, h⟩ := h
 exact (ask_bad w b f hz hb).mono fun e w' ⟨h1, h2⟩ => ⟨h1, ⟨own, h.ext' h2⟩, h2⟩
theorem st_ask (h : St w0 w b N vs ss sa hl P) (hw : Wf vs) (f : Ft) (hz : FtZ f) (hb : ftB f = true) : Calls Try.prog 15 #[.pointer (some ⟨b, 0, none⟩), .agg (ftC f)] w fun e w' => ∃ sb, e = .returned (.tuple #[.pointer (some ⟨sb, 0, none⟩), .int .i64 0]) ∧ St w0 w' b N vs (ss ++ [askS vs f]) (sa ++ [sb]) hl P ∧ Ext w w' := by
 obtain ⟨own, h⟩ := h
 exact (ask_yes h.oi hw f hz hb).mono fun e w' ⟨sb, h1, h2, _, h3⟩ => ⟨sb, h1, ⟨_, h.go (.of h3) grown_le h2⟩, h3⟩
theorem st_has (h : St w0 w b N vs ss sa hl P) {j : Nat} {s : Sn} {sb : Nat} (hs : ss[j]? = some s) (hb : sa[j]? = some sb) : Calls Try.prog 30 #[.pointer (some ⟨sb, 0, none⟩)] w fun e w' => e = .returned (.int .i64 (hasA vs s)) ∧ St w0 w' b N vs ss sa hl P ∧ Ext w w' := by
 obtain ⟨own, h⟩ := h
 exact (has_o h.oi hs hb).mono fun e w' ⟨h1, h2⟩ => ⟨h1, ⟨own, h.ext' h2⟩, h2⟩
theorem st_head (h : St w0 w b N vs ss sa hl P) {j : Nat} {s : Sn} {sb : Nat} (hs : ss[j]? = some s) (hb : sa[j]? = some sb) : Calls Try.prog 16 #[.pointer (some ⟨sb, 0, none⟩)] w fun e w' => ∃ kv', e = .returned (.agg (replyC s.st s.m kv' s.fr s.to).toArray) ∧ SRow w' w.heap.size kv' s.m.keys ∧ St w0 w' b N vs ss sa hl P ∧ Ext w w' := by
 obtain ⟨own, h⟩ := h
 exact (head_o h.oi hs hb).mono fun e w' ⟨kv, h1, h2, h3⟩ => ⟨kv, h1, h2, ⟨own, h.ext' h3⟩, h3⟩
theorem st_take (h : St w0 w b N vs ss sa hl P) {j : Nat} {s : Sn} {sb : Nat} (hs : ss[j]? = some s) (hb : sa[j]? = some sb) (k : Int) : Calls Try.prog 18 #[.pointer (some ⟨sb, 0, none⟩), .int .i64 k] w fun e w' => ∃ v, e = .returned (.tuple #[v, .int .i64 (hasA vs (movS vs s k))]) ∧ BRow w' w.heap.size v (takeB vs s k) ∧ St w0 w' b N vs (ss.set j (movS vs s k)) sa ((v, takeB vs s k) :: hl) P ∧ KeepP P w w' := by
 obtain ⟨own, h⟩ := h
 refine (take_o h.oi hs hb k).mono fun e w' ⟨v, h1, h2, h3, h4⟩ => ⟨v, h1, h2, ⟨own, ?_⟩, h.kept h4⟩
 have h' := h.go h4 (fun i hi => .inl hi) h3
 refine ⟨h'.oi, h'.ext, fun p hp => ?_, h'.priv⟩
 rcases List.mem_cons.1 hp with e | hp
 ·rw [e]; exact row_held h2 (Nat.le_refl _) h.ltA
 ·exact h'.held p hp
theorem st_objs (h : St w0 w b N vs ss sa hl P) (hN : N ≤ 900000) : Calls Try.prog 25 #[.pointer (some ⟨b, 0, none⟩)] w fun e w' => ∃ v ns, e = .returned v ∧ SRow w' w.heap.size v ns ∧ Names vs ns ∧ ns.length ≤ N ∧ St w0 w' b N vs ss sa hl P ∧ Ext w w' := by
 obtain ⟨own, h⟩ := h
 exact (objects_any h.oi hN).mono fun e w' ⟨v, ns, h1, h2, h3, h4, h5⟩ => ⟨v, ns, h1, h2, h3, h4, ⟨own, h.ext' h5⟩, h5⟩
end
end Go.Proofs.Ytpangoddbfiagaa
namespace Go.Proofs.Ytpangoddbfiagaa
open Go.RowKit Go.Maps Go.ChangeMaps
set_option linter.unusedVariables false
set_option linter.unusedSimpArgs false
theorem strOfNums_bytes (bs : Bs) : strOfNums (bs.map fun b => (b.toNat : Int)) = ⟨bs.toArray⟩ := by
 unfold strOfNums
 congr 2
 rw [List.map_map]
 have : ((fun n : Int => UInt8.ofNat n.toNat) ∘ fun b : UInt8 => (b.toNat : Int)) = id := by funext b; simp
 rw [this, List.map_id]
theorem byte_getD (l : Bs) (i : Nat) (h : i < l.length) : some ((l.map byteV)[i]'(by simpa using h)) = some (Value.int .u8 ((l.map fun b => (b.toNat : Int)).getD i 0)) := by
 simp [byteV, List.getD, h]
theorem run_str {W : World} {v : Value} {bs : Bs} (h : BytesAt W v bs) : (convert 22 9 v).run Try.prog W = .ok (.string ⟨bs.toArray⟩) W := by
 obtain ⟨A, c, rfl, h2, h3, h4⟩ := h
 cases A with
 | none =>
  have : bs = [] := by
   cases bs with
   | nil => rfl
   | cons x xs => obtain ⟨b, off, e, _⟩ := h4 0 (by simp); cases e
  subst this
  exact run_convert_bytes_nil W 22 5 Try.underlying22 Try.underlying5 _ _ 9 Try.underlying9
 | some A =>
  obtain ⟨blk, off, fld⟩ := A
  cases bs with
  | nil =>
   have h5 : (convert 22 9 (.slice (some ⟨blk, off, fld⟩) 0 c)).run Try.prog W = .ok (.string ⟨#[]⟩) W := by
    rw [run_convert_bytes_string W 22 9 5 _ 0 c Try.underlying22 Try.underlying5 Try.underlying9]
    kernel_rfl
   have e : (List.map byteV ([] : Bs)).length = 0 := rfl
   rw [e]; exact h5
  | cons x xs =>
   obtain ⟨b, off', e, _⟩ := h4 0 (by simp)
   obtain ⟨rfl, rfl, rfl⟩ : blk = b ∧ off = off' ∧ fld = none := by simpa using e
   have := run_convert_bytes_arg W 22 5 Try.underlying22 Try.underlying5 blk off _ c ((x :: xs).map fun b => (b.toNat : Int)) rfl (fun i hi => ?_) 9 Try.underlying9
   ·rw [strOfNums_bytes] at this
    rw [List.length_map] at this ⊢
    exact this
   ·obtain ⟨b, off', e, hc⟩ := h4 i (by simpa using hi)
    obtain ⟨e1, e2⟩ : blk = b ∧ off = off' := by simpa using e
    rw [e1, e2, hc]
    exact byte_getD (x :: xs) i (by simpa using hi)
theorem lit_bytes (w : World) (bs : Bs) (z : Nat × Nat) : BytesAt (w.alloc (.cells (bs.map byteV).toArray 5 z)) (.slice (some ⟨w.heap.size, 0, none⟩) bs.length bs.length) bs := by
 refine ⟨some ⟨w.heap.size, 0, none⟩, bs.length, by simp, by simp, fun e => (by cases e), fun j hj => ⟨w.heap.size, 0, rfl, ?_⟩⟩
 have h1 : (w.alloc (.cells (bs.map byteV).toArray 5 z)).heap[w.heap.size]? = some (.cells (bs.map byteV).toArray 5 z) := heap_alloc_new w _
 rw [blk_cell h1]
 simp at hj ⊢
 simp [hj]
theorem St.lit {w0 w : World} {b N : Nat} {vs : List Vn} {ss : List Sn} {sa : List Nat} {hl : List (Value × Bs)} {P : Nat → Prop} (h : St w0 w b N vs ss sa hl P) (bs : Bs) (z : Nat × Nat) : St w0 (w.alloc (.cells (bs.map byteV).toArray 5 z)) b N vs ss sa ((.slice (some ⟨w.heap.size, 0, none⟩) bs.length bs.length, bs) :: hl) P := by
 obtain ⟨own, h⟩ := h
 have h' := h.ext' (ext_alloc1 w (.cells (bs.map byteV).toArray 5 z))
 refine ⟨own, h'.oi, h'.ext, fun p hp => ?_, h'.priv⟩
 rcases List.mem_cons.1 hp with e | hp
 ·rw [e]
  refine ⟨lit_bytes w bs z, fun A n c e hn hh => ?_, fun A n c e => ?_⟩
  ·injection e with e; injection e with e; subst e
   have := h.ltA _ hh; simp at this
  ·injection e with e; injection e with e; subst e
   simp
 ·exact h'.held p hp
def exM (n : Int) : MetaP := ⟨[116], false, -1, n, 0, 0, 0, 0, [], [], true⟩
def exU : MetaP := ⟨[117], false, -1, 1, 0, 0, 0, 0, [], [], true⟩
theorem exM_z (n : Int) : MetaZ (exM n) := ⟨by simp [exM], by simp [exM], by simp [exM], by simp [exM]⟩
theorem exU_z : MetaZ exU := ⟨by simp [exU], by simp [exU], by simp [exU], by simp [exU]⟩
theorem texts_nil (w : World) : TextsAt w (.slice none 0 0) [] := ⟨none, 0, rfl, Nat.le_refl _, fun _ => rfl, fun j hj => by simp at hj⟩
theorem low_nil (w0 : World) : LowV w0 (.slice none 0 0) := fun A n c e => by cases e
set_option maxRecDepth 100000 in
theorem lmeta_any (n : Int) (w : World) : Calls Try.prog 14 #[.int .i64 n] w fun e w' => e = .returned (.agg #[.string ⟨#[116]⟩, .bool false, .int .i64 (-1), .int .i64 n, .int .i64 0, .int .i64 0, .int .i64 0, .int .i64 0, .slice none 0 0, .string ⟨#[]⟩, .bool true]) ∧ Ext w w' := by
 go_enter Try.func14, Try.ntmps14
 go_wp2
 exact bodyPost_ret (results_cell_row rfl _ _ w.heap.size 38 _ (0, 0) _ rfl (heap_alloc_new w _) Try.underlying38 rfl size38) rfl ⟨rfl, ext_alloc1 _ _⟩
def exV1 : List Vn := [⟨[47, 97], ⟨[116], false, -1, -1, 3, 0, 0, 0, [], [], true⟩, [97, 98, 99], false⟩]
def exS1 : Sn := ⟨206, ⟨[116], false, -1, -1, 3, 0, 0, 0, [], [], true⟩, 1, 4611686018427387904, 1, some 0⟩
def exS2 : Sn := ⟨206, ⟨[116], false, -1, -1, 3, 0, 0, 0, [], [], true⟩, 1, 4611686018427387904, 3, some 0⟩
def exS3 : Sn := ⟨206, ⟨[116], false, -1, -1, 3, 0, 0, 0, [], [], true⟩, 1, 4611686018427387904, 4, some 0⟩
def exV2 : List Vn := [⟨[47, 97], ⟨[116], false, -1, -1, 3, 0, 0, 0, [], [], true⟩, [97, 98, 99, 100], false⟩]
def exV3 : List Vn := [⟨[47, 97], ⟨[116], false, -1, -1, 3, 0, 0, 0, [], [], true⟩, [97, 98, 99, 100], true⟩, ⟨[47, 97], ⟨[117], false, -1, 1, 1, 0, 0, 0, [], [], true⟩, [120], false⟩]
def exT : Sn := ⟨404, zeroM, 0, 0, 0, none⟩
def exF1 : Ft := ⟨[47, 97], 1, 4611686018427387904, [], false, [], false⟩
def exF2 : Ft := ⟨[47, 98], 0, 1, [], false, [], false⟩
theorem ex_set1 : setA [] [47, 97] (exM (-1)) [97, 98, 99] = (0, exV1) := by kernel_rfl
theorem ex_ft1 : ftB exF1 = true := by kernel_rfl
theorem ex_ft2 : ftB exF2 = true := by kernel_rfl
theorem ex_ask1 : askS exV1 exF1 = exS1 := by kernel_rfl
theorem ex_take1 : takeB exV1 exS1 9 = [98, 99] := by kernel_rfl
theorem ex_mov1 : movS exV1 exS1 9 = exS2 := by kernel_rfl
theorem ex_has1 : hasA exV1 exS2 = 2 := by kernel_rfl
theorem ex_grow : growA exV1 [47, 97] [100] = (0, exV2) := by kernel_rfl
theorem ex_has2 : hasA exV2 exS2 = 1 := by kernel_rfl
theorem ex_set2 : setA exV2 [47, 97] (exM 1) [120] = (12, exV2) := by kernel_rfl
theorem ex_set3 : setA exV2 [47, 97] exU [120] = (0, exV3) := by kernel_rfl
theorem ex_take2 : takeB exV3 exS2 9 = [100] := by kernel_rfl
theorem ex_mov2 : movS exV3 exS2 9 = exS3 := by kernel_rfl
theorem ex_has3 : hasA exV3 exS3 = 4 := by kernel_rfl
theorem ex_ask2 : askS exV3 exF2 = exT := by kernel_rfl
theorem ex_meta : metaA exV3 [47, 97] = (⟨[117], false, -1, 1, 1, 0, 0, 0, [], [], true⟩, true) := by kernel_rfl
theorem ex_bytes : bytesA exV3 [47, 97] = [120] := by kernel_rfl
theorem ex_hasT : hasA exV3 exT = 3 := by kernel_rfl
theorem ex_names {ns : List Bs} (h : Names exV3 ns) : ns.length = 1 := by
 obtain ⟨h1, _, h3⟩ := h
 have hl : ∀ o, o ∈ ns ↔ o = [47, 97] := fun o => by
  rw [h3]
  unfold liveB exV3
  constructor
  ·rintro ⟨v, hv, rfl, hw⟩
   simp at hv
   rcases hv with rfl | rfl <;> rfl
  ·rintro rfl
   exact ⟨_, List.mem_cons_of_mem _ List.mem_cons_self, rfl, rfl⟩
 have : ns = [[47, 97]] := by
  cases ns with
  | nil => have := (hl [47, 97]).2 rfl; cases this
  | cons x xs =>
   have hx := (hl x).1 (by simp)
   cases xs with
   | nil => rw [hx]
   | cons y ys =>
    have hy := (hl y).1 (by simp)
    subst hx; subst hy
    simp at h1
 rw [this]; rfl
theorem wf_ex1 : Wf exV1 := by intro v hv; simp [exV1] at hv; subst hv; exact .inl rfl
theorem wf_ex3 : Wf exV3 := by
 intro v hv; simp [exV3] at hv
 rcases hv with rfl | rfl
 ·exact .inl rfl
 ·exact .inr rfl
end Go.Proofs.Ytpangoddbfiagaa
