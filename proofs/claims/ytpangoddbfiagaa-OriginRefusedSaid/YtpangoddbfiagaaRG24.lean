import Derived.Test.YtpangoddbfiagaaRG17
import Derived.Test.YtpangoddbfiagaaRG18
import Derived.Test.YtpangoddbfiagaaRG14
import Derived.Test.YtpangoddbfiagaaRG23
import Derived.Test.YtpangoddbfiagaaRG21
namespace Go.Proofs.Ytpangoddbfiagaa
open Go.RowKit Go.Maps Go.ChangeMaps
set_option linter.unusedVariables false
set_option linter.unusedSimpArgs false
section
variable {w w' : World} {x B : Nat} {own own' : Nat → Prop} {vs : List Vn} {ss : List Sn} {sa va : List Nat} {gs : List Rg} {A : Option Addr} {c : Nat} {X : List Nat}
theorem RIx.verOf (h : RIx w x B own vs ss sa gs A c) {s : Sn} {i : Nat} (hi : i < (gs.map (·.b)).length) (hv : s.v = some i) : ∃ v g, vs[i]? = some v ∧ gs[i]? = some g ∧ RVerOk w B own v g ∧ verP (gs.map (·.b)) s.v = some ⟨g.b, 0, none⟩ := by
 have hi' : i < gs.length := by simpa using hi
 have hi2 : i < vs.length := by rw [← h.vers.len]; exact hi'
 refine ⟨vs[i], gs[i], by simp [hi2], by simp [hi'], h.vers.at_ i _ _ (by simp [hi2]) (by simp [hi']), ?_⟩
 rw [hv]; simp [verP, hi']
theorem rhas_o (hI : RI w x B own vs ss sa) {j : Nat} {s : Sn} {sb : Nat} (hs : ss[j]? = some s) (hb : sa[j]? = some sb) : Calls Try.prog 31 #[.pointer (some ⟨sb, 0, none⟩)] w fun e w' => e = .returned (.int .i64 (hasA vs s)) ∧ Ext w w' := by
 obtain ⟨gs, A, c, h⟩ := hI
 obtain ⟨kv, q1, q2, q3, q4, q5, q6, q7⟩ := h.strs.at_ j s sb hs hb
 cases hv : s.v with
 | none =>
  have e : hasA vs s = 3 := by simp [hasA, hv]
  rw [hv] at q1
  rw [e]
  exact rhas_none w sb s.st s.m kv s.fr s.to s.at_ q1
 | some i =>
  obtain ⟨v, g, hvi, hgi, hok, hp⟩ := h.verOf (q6 i hv) hv
  have e : hasA vs s = hasZ s.to s.at_ v.bytes.length (v.m.len == -1) v.went := by simp [hasA, hv, hvi]
  obtain ⟨A, c, hbv⟩ := own_slice hok.row
  have hblk := hok.blk
  rw [hbv] at hblk
  rw [hp] at q1
  rw [e]
  have := rhas_some w sb g.b s.st s.m (nowM v) kv g.kv A _ c v.obj v.went s.fr s.to s.at_ q1 hblk
  simpa [nowM] using this
theorem rhead_at (hI : RI w x B own vs ss sa) {j : Nat} {s : Sn} {sb : Nat} (hs : ss[j]? = some s) (hb : sa[j]? = some sb) : ∃ kv p, RStrAt w sb s.st s.m kv s.fr s.to p s.at_ ∧ TextsAt w kv s.m.keys ∧ own sb ∧ MetaZ s.m := by
 obtain ⟨gs, A, c, h⟩ := hI
 obtain ⟨kv, q1, q2, q3, q4, q5, q6, q7⟩ := h.strs.at_ j s sb hs hb
 exact ⟨kv, _, q1, q2.texts, q3, q5⟩
theorem rtake_o (hI : RI w x B own vs ss sa) {j : Nat} {s : Sn} {sb : Nat} (hs : ss[j]? = some s) (hb : sa[j]? = some sb) (ha : s.at_ ≤ 1000000) (k : Int) : Calls Try.prog 51 #[.pointer (some ⟨sb, 0, none⟩), .int .i64 k] w fun e w' => ∃ v, e = .returned (.tuple #[v, .int .i64 (hasA vs (movS vs s k))]) ∧ BRow w' w.heap.size v (takeB vs s k) ∧ RI w' x B own vs (ss.set j (movS vs s k)) sa ∧ ExtP own w w' := by
 obtain ⟨gs, A, c, h⟩ := hI
 have hstr := h.strs.at_ j s sb hs hb
 obtain ⟨kv, q1, q2, q3, q4, q5, q6, q7⟩ := hstr
 have same : ∀ {t : Sn} {W : World}, t = s → Ext w W → RI W x B own vs (ss.set j t) sa := fun {t W} e xx => by
  subst e
  have : ss.set j t = ss := by
   apply List.ext_getElem?; intro i
   by_cases hij : i = j
   ·subst hij; rw [List.getElem?_set_self (List.getElem?_eq_some_iff.1 hs).1, hs]
   ·rw [List.getElem?_set_ne (Ne.symm hij)]
  rw [this]
  exact (show RI w x B own vs ss sa from ⟨gs, A, c, h⟩).ext xx
 cases hv : s.v with
 | none =>
  have e1 : takeB vs s k = [] := by simp [takeB, hv]
  have e2 : movS vs s k = s := by simp [movS, e1]
  have e3 : hasA vs s = 3 := by simp [hasA, hv]
  rw [e1, e2, e3]
  rw [hv] at q1
  refine (rtake_none w sb s.st s.m kv s.fr s.to s.at_ k q1).mono ?_
  rintro e w' ⟨v, rfl, r, xx⟩
  exact ⟨v, rfl, r, same rfl xx, .of xx⟩
 | some i =>
  obtain ⟨v, g, hvi, hgi, hok, hp⟩ := h.verOf (q6 i hv) hv
  have hl := hok.len
  have hblk := hok.blk
  rw [hp] at q1
  have eh : ∀ t : Sn, t.v = s.v → hasA vs t = hasZ t.to t.at_ v.bytes.length (v.m.len == -1) v.went := fun t ht => by simp [hasA, ht, hv, hvi]
  obtain ⟨kk, hkk⟩ : ∃ kk : Nat, (takeN s.to s.at_ k v.bytes.length).toNat = kk := ⟨_, rfl⟩
  obtain ⟨at_, hat⟩ : ∃ a : Nat, s.at_ = a := ⟨s.at_.toNat, by have := q7.1; omega⟩
  have e1 : takeB vs s k = (v.bytes.drop at_).take kk := by
   simp only [takeB, hv, hvi]
   rw [hkk, hat]; rfl
  have e2 : (takeB vs s k).length = kk := by
   rw [e1]
   unfold takeN at hkk
   simp; omega
  have hkl : kk ≤ 100000 := by rw [← e2, e1]; simp; omega
  have e3 : (movS vs s k).at_ = (at_ : Int) + kk := by simp [movS, e2, hat]
  have e4 : hasA vs (movS vs s k) = hasZ s.to ((at_ : Int) + kk) v.bytes.length (v.m.len == -1) v.went := by rw [eh (movS vs s k) rfl, e3]; rfl
  have ksb : kindOf w sb = 77 := kind_cells q1
  have n1 : sb ≠ g.b := fun e => by rw [e, hok.kb] at ksb; cases ksb
  have n2 : ∀ y, g.bv.ownBlock = some y → y ≠ sb := fun y e e5 => by rw [← e5, hok.kbv e] at ksb; cases ksb
  rw [hat] at q1
  rw [e4, e1]
  refine (rtake_some w sb g.b s.st s.m (nowM v) kv g.kv g.bv v.bytes v.obj v.went s.fr s.to k at_ kk q1 hblk (ownsRow_base hok.row (by omega)) (by omega) (by omega) q7.2.2.1 (by rw [← hat]; exact hkk) n1 n2).mono ?_
  rintro e w' ⟨rv, rfl, r1, r2, r3⟩
  refine ⟨rv, rfl, r1, ⟨gs, A, c, h.setS hs hb r3 ?_⟩, .ofB r3 (fun y hy => .inl (by rw [show y = sb by simpa using hy]; exact q3))⟩
  refine ⟨kv, ?_, own_keep q2 fun y e => r3.block y (q2.lt y e).2 (fun hh => by rw [← show y = sb by simpa using hh, kind_row q2 e] at ksb; cases ksb), q3, q4, q5, q6, ?_, ?_, q7.2.2⟩
  ·rw [e3, show (movS vs s k).v = s.v from rfl, hp]; exact r2
  ·rw [e3]; omega
  ·rw [e3]; omega
theorem rask_o (hI : RI w x B own vs ss sa) (hw : Wf vs) (f : Ft) (hz : FtZ f) (hb : ftB f = true) : Calls Try.prog 50 #[.pointer (some ⟨x, 0, none⟩), .agg (ftC f)] w fun e w' => ∃ sb, e = .returned (.tuple #[.pointer (some ⟨sb, 0, none⟩), .int .i64 0]) ∧ RI w' x B (grownOwn own w w') vs (ss ++ [askS vs f]) (sa ++ [sb]) ∧ Ext w w' := by
 obtain ⟨gs, A, c, h⟩ := hI
 obtain ⟨p1, p2, p3, p4⟩ := ftB_parts hb
 cases hn : nowI vs f.obj with
 | none =>
  refine (rask_404 h f hz hb hn).mono ?_
  rintro e w' ⟨sb, rfl, h1, h2, xx⟩
  have e0 : askS vs f = ⟨404, zeroM, 0, 0, 0, none⟩ := by simp [askS, hn]
  rw [e0]
  refine ⟨sb, rfl, ⟨gs, A, c, h.addS xx ⟨.slice none 0 0, h1, World.ownsRow_nil _ _ _ _, .inr ⟨h2, blk_lt h1⟩, fun x e => (by cases e), ⟨by simp [zeroM], by simp [zeroM], by simp [zeroM], by simp [zeroM]⟩, fun i e => (by cases e), by simp, by simp, by simp, by simp⟩ h2⟩, xx⟩
 | some i =>
  obtain ⟨v, hv, _, _⟩ := nowI_some hn
  obtain ⟨g, hg, hok⟩ := h.vers.get hv
  have hwv := hw v (List.mem_of_getElem? hv)
  refine (rask_v h f hz hb hn hv hg (fun hl => by
   rcases hwv with e | e
   ·rw [e] at hl; cases hl
   ·exact e)).mono ?_
  rintro e w' ⟨sb, rfl, h1, h2, xx⟩
  have e0 : askS vs f = askV i v f := by simp [askS, hn, hv]
  rw [e0]
  have hi : i < (gs.map (·.b)).length := by simpa using (List.getElem?_eq_some_iff.1 hg).1
  refine ⟨sb, rfl, ⟨gs, A, c, h.addS xx ⟨g.kv, ?_, ?_, .inr ⟨h2, blk_lt h1⟩, fun y e => .inl (hok.ok y e), ?_, fun i' e => ?_, askV_at i v f p1 (by omega) p3 hok.len hwv⟩ h2⟩, xx⟩
  ·have e1 : verP (gs.map (·.b)) (askV i v f).v = (askV i v f).v.map fun _ => ⟨g.b, 0, none⟩ := by
    rcases askV_v i v f with e | e <;> rw [e]
    ·rfl
    ·simp [verP, hg]
   rw [e1]; exact h1
  ·rw [askV_m]; exact own_keep hok.keys fun y e => xx.block y (hok.keys.lt y e).2
  ·rw [askV_m]; exact ⟨hok.z.tt, hok.z.keys, hok.z.key, hok.z.ten⟩
  ·rcases askV_v i v f with e1 | e1
   ·rw [e1] at e; cases e
   ·rw [e1] at e; obtain rfl := Option.some.inj e; exact hi
end
end Go.Proofs.Ytpangoddbfiagaa
namespace Go.Proofs.Ytpangoddbfiagaa
open Go.RowKit Go.Maps Go.ChangeMaps
set_option linter.unusedVariables false
set_option linter.unusedSimpArgs false
theorem RI.lt {w : World} {x B : Nat} {own : Nat → Prop} {vs : List Vn} {ss : List Sn} {sa : List Nat} (h : RI w x B own vs ss sa) : ∀ i, own i → i < w.heap.size := by
 obtain ⟨_, _, _, h⟩ := h; exact h.lt
theorem RI.low {w : World} {x B : Nat} {own : Nat → Prop} {vs : List Vn} {ss : List Sn} {sa : List Nat} (h : RI w x B own vs ss sa) : ∀ i, own i → B ≤ i := by
 obtain ⟨_, _, _, h⟩ := h; exact h.low
theorem RI.lowB {w : World} {x B : Nat} {own : Nat → Prop} {vs : List Vn} {ss : List Sn} {sa : List Nat} (h : RI w x B own vs ss sa) : B ≤ w.heap.size := by
 obtain ⟨_, _, _, h⟩ := h; exact h.lowB
theorem RI.ox {w : World} {x B : Nat} {own : Nat → Prop} {vs : List Vn} {ss : List Sn} {sa : List Nat} (h : RI w x B own vs ss sa) : own x := by
 obtain ⟨_, _, _, h⟩ := h; exact h.ox
def orP (rown L : Nat → Prop) : Nat → Prop := fun g => rown g ∨ L g
def Pl2 (w0 w : World) (b x N : Nat) (L : Nat → Prop) (vs : List Vn) (ss : List Sn) (sa : List Nat) (us : List Vn) (ts : List Sn) (ra : List Nat) (hl : List (Value × Bs)) : Prop :=
 ∃ rown, St w0 w b N vs ss sa hl (orP rown L) ∧ RI w x w0.heap.size rown us ts ra ∧ ∀ g, L g → ¬ rown g
section
variable {w0 w w' : World} {b x N : Nat} {L L' : Nat → Prop} {vs us : List Vn} {ss ts : List Sn} {sa ra : List Nat} {hl : List (Value × Bs)}
theorem KeepP.ri {rown P : Nat → Prop} {B : Nat} (h : RI w x B rown us ts ra) (k : KeepP P w w') (hP : ∀ g, rown g → P g) : RI w' x B rown us ts ra := by
 obtain ⟨gs, A, c, h⟩ := h
 have hlt : ∀ i, rown i → i < w'.heap.size := fun i hi => by
  have h1 := k i (hP i hi)
  rw [Array.getElem?_eq_getElem (h.lt i hi)] at h1
  exact (Array.getElem?_eq_some_iff.1 h1).1
 have hb := hlt x h.ox
 have hB := h.low x h.ox
 refine ⟨gs, A, c, ⟨(k _ (hP _ h.ox)).trans h.blk, own_keep h.row fun y hy => k y (hP _ (h.orow y hy)), h.ox, h.orow, h.vers.keep (fun i hi => k i (hP i hi)) (fun _ e => e), ⟨h.strs.len, fun j s b hs hb => (h.strs.at_ j s b hs hb).keep (fun i hi => k i (hP i hi)) (fun _ e => e), h.strs.nd⟩, hlt, h.low, by omega, h.objs⟩⟩
theorem KeepP.sub {P P' : Nat → Prop} (k : KeepP P w w') (h : ∀ g, P' g → P g) : KeepP P' w w' := fun g hg => k g (h g hg)
theorem KeepP.row {P : Nat → Prop} (k : KeepP P w w') {base : Nat} {e : TypeId} {v : Value} {n : Nat} {xs : List Value} (h : w.ownsRow base e 1 v n xs) (hP : ∀ g, v.ownBlock = some g → P g) : w'.ownsRow base e 1 v n xs := own_keep h fun g e => k g (hP g e)
theorem Pl2.prog {M : Nat} {vs' : List Vn} {ss' : List Sn} {sa' : List Nat} {hl' : List (Value × Bs)} {rown : Nat → Prop} (hr : RI w x w0.heap.size rown us ts ra) (hd : ∀ g, L g → ¬ rown g) (h' : St w0 w' b M vs' ss' sa' hl' (orP rown L)) (k : KeepP (orP rown L) w w') : Pl2 w0 w' b x M L vs' ss' sa' us ts ra hl' ∧ KeepP L w w' :=
 ⟨⟨rown, h', k.ri hr (fun _ => .inl), hd⟩, k.sub fun _ => .inr⟩
theorem Pl2.refE {us' : List Vn} {ts' : List Sn} {ra' : List Nat} {rown rown' : Nat → Prop} (h : St w0 w b N vs ss sa hl (orP rown L)) (hd : ∀ g, L g → ¬ rown g) (hr : RI w' x w0.heap.size rown' us' ts' ra') (hg : ∀ g, rown' g → rown g ∨ w.heap.size ≤ g) (xp : ExtP rown w w') : Pl2 w0 w' b x N L vs ss sa us' ts' ra' hl ∧ KeepP L w w' := by
 have hlt : ∀ g, L g → g < w.heap.size := fun g hg => h.plt (.inr hg)
 refine ⟨⟨rown', h.other (P' := orP rown' L) (xp.weak fun _ => .inl) (fun g hg2 => ?_), hr, fun g hL hh => ?_⟩, fun g hL => xp.block g (hlt g hL) (hd g hL)⟩
 ·rcases hg2 with h1 | h1
  ·rcases hg g h1 with h2 | h2
   ·exact .inl (.inl h2)
   ·exact .inr ⟨h2, hr.lt g h1⟩
  ·exact .inl (.inr h1)
 ·rcases hg g hh with h2 | h2
  ·exact hd g hL h2
  ·have := hlt g hL; omega
theorem Pl2.ext (h : Pl2 w0 w b x N L vs ss sa us ts ra hl) (xx : Ext w w') : Pl2 w0 w' b x N L vs ss sa us ts ra hl := by
 obtain ⟨rown, h1, h2, h3⟩ := h
 exact ⟨rown, h1.ext xx, h2.ext xx, h3⟩
theorem Pl2.base (h : Pl2 w0 w b x N L vs ss sa us ts ra hl) : Ext w0 w := by
 obtain ⟨rown, h1, h2, h3⟩ := h
 exact h1.base
theorem Pl2.plt (h : Pl2 w0 w b x N L vs ss sa us ts ra hl) {g : Nat} (hg : L g) : g < w.heap.size := by
 obtain ⟨rown, h1, h2, h3⟩ := h
 exact h1.plt (.inr hg)
theorem Pl2.other (h : Pl2 w0 w b x N L vs ss sa us ts ra hl) (xp : ExtP L w w') (hP : ∀ g, L' g → L g ∨ (w.heap.size ≤ g ∧ g < w'.heap.size)) : Pl2 w0 w' b x N L' vs ss sa us ts ra hl := by
 obtain ⟨rown, h1, h2, h3⟩ := h
 refine ⟨rown, h1.other (P' := orP rown L') (xp.weak fun _ => .inr) (fun g hg => ?_), h2.keep (fun i hi => xp.block i (h2.lt i hi) fun hh => h3 i hh hi) xp.size, fun g hg hh => ?_⟩
 ·rcases hg with hg | hg
  ·exact .inl (.inl hg)
  ·exact (hP g hg).imp .inr id
 ·rcases hP g hg with h4 | h4
  ·exact h3 g h4 hh
  ·have := h2.lt g hh; omega
theorem Pl2.hold {base : Nat} (h : Pl2 w0 w b x N L vs ss sa us ts ra hl) {v : Value} {bs : Bs} (xx : Ext w w') (r : BRow w' base v bs) (hb : w.heap.size ≤ base) : Pl2 w0 w' b x N L vs ss sa us ts ra ((v, bs) :: hl) := by
 obtain ⟨rown, h1, h2, h3⟩ := h
 exact ⟨rown, h1.hold xx r hb, h2.ext xx, h3⟩
theorem Pl2.bytes (h : Pl2 w0 w b x N L vs ss sa us ts ra hl) {v : Value} {bs : Bs} (hm : (v, bs) ∈ hl) : BytesAt w v bs := by
 obtain ⟨rown, h1, h2, h3⟩ := h
 exact h1.bytes hm
theorem Pl2.drop (h : Pl2 w0 w b x N L vs ss sa us ts ra hl) {hl' : List (Value × Bs)} (hs : ∀ p ∈ hl', p ∈ hl) : Pl2 w0 w b x N L vs ss sa us ts ra hl' := by
 obtain ⟨rown, h1, h2, h3⟩ := h
 exact ⟨rown, h1.drop hs, h2, h3⟩
theorem Pl2.more {M : Nat} (h : Pl2 w0 w b x N L vs ss sa us ts ra hl) (hM : N ≤ M) : Pl2 w0 w b x M L vs ss sa us ts ra hl := by
 obtain ⟨rown, h1, h2, h3⟩ := h
 exact ⟨rown, h1.more hM, h2, h3⟩
theorem low_far {rown : Nat → Prop} (hr : RI w x w0.heap.size rown us ts ra) {v : Value} (h : LowV w0 v) : FarV rown v := fun A n c e hn hh => by
 have := h A n c e hn; have := hr.low _ hh; omega
theorem p_set (h : Pl2 w0 w b x N L vs ss sa us ts ra hl) (hN : N ≤ 800000) {o bs : Bs} {m : MetaP} {kv u : Value} (ho : o.length ≤ 1000) (hz : MetaZ m) (hk : TextsAt w kv m.keys) (hlk : LowV w0 kv) (hu : (u, bs) ∈ hl) (hbs : bs.length ≤ 1000) :
  Calls Try.prog 13 #[.pointer (some ⟨b, 0, none⟩), .string ⟨o.toArray⟩, metaV m kv, u] w fun e w' => e = .returned (.int .i64 (setA vs o m bs).1) ∧ Pl2 w0 w' b x (N + 2) L (setA vs o m bs).2 ss sa us ts ra hl ∧ KeepP L w w' := by
 obtain ⟨rown, h1, h2, h3⟩ := h
 exact (st_set h1 hN ho hz hk hlk hu hbs).mono fun e w' ⟨q1, q2, q3⟩ => ⟨q1, Pl2.prog h2 h3 q2 q3⟩
theorem p_grow (h : Pl2 w0 w b x N L vs ss sa us ts ra hl) {o bs : Bs} {u : Value} (ho : o.length ≤ 1000000) (hu : (u, bs) ∈ hl) (hbs : bs.length ≤ 1000) (hcap : ∀ i v, nowI vs o = some i → vs[i]? = some v → v.bytes.length + bs.length ≤ 100000) :
  Calls Try.prog 17 #[.pointer (some ⟨b, 0, none⟩), .string ⟨o.toArray⟩, u] w fun e w' => e = .returned (.int .i64 (growA vs o bs).1) ∧ Pl2 w0 w' b x N L (growA vs o bs).2 ss sa us ts ra hl ∧ KeepP L w w' := by
 obtain ⟨rown, h1, h2, h3⟩ := h
 exact (st_grow h1 ho hu hbs hcap).mono fun e w' ⟨q1, q2, q3⟩ => ⟨q1, Pl2.prog h2 h3 q2 q3⟩
theorem p_seal (h : Pl2 w0 w b x N L vs ss sa us ts ra hl) {o : Bs} (ho : o.length ≤ 1000000) : Calls Try.prog 19 #[.pointer (some ⟨b, 0, none⟩), .string ⟨o.toArray⟩] w fun e w' => e = .returned (.int .i64 (sealA vs o).1) ∧ Pl2 w0 w' b x N L (sealA vs o).2 ss sa us ts ra hl ∧ KeepP L w w' := by
 obtain ⟨rown, h1, h2, h3⟩ := h
 exact (st_seal h1 ho).mono fun e w' ⟨q1, q2, q3⟩ => ⟨q1, Pl2.prog h2 h3 q2 q3⟩
theorem p_gone (h : Pl2 w0 w b x N L vs ss sa us ts ra hl) {o : Bs} (ho : o.length ≤ 1000000) : Calls Try.prog 33 #[.pointer (some ⟨b, 0, none⟩), .string ⟨o.toArray⟩] w fun e w' => e = .returned (.int .i64 (goneA vs o).1) ∧ Pl2 w0 w' b x N L (goneA vs o).2 ss sa us ts ra hl ∧ KeepP L w w' := by
 obtain ⟨rown, h1, h2, h3⟩ := h
 exact (st_gone h1 ho).mono fun e w' ⟨q1, q2, q3⟩ => ⟨q1, Pl2.prog h2 h3 q2 q3⟩
theorem p_meta (h : Pl2 w0 w b x N L vs ss sa us ts ra hl) {o : Bs} (ho : o.length ≤ 1000000) : Calls Try.prog 21 #[.pointer (some ⟨b, 0, none⟩), .string ⟨o.toArray⟩] w fun e w' => ∃ kv, e = .returned (.tuple #[metaV (metaA vs o).1 kv, .bool (metaA vs o).2]) ∧ SRow w' w.heap.size kv (metaA vs o).1.keys ∧ Pl2 w0 w' b x N L vs ss sa us ts ra hl ∧ Ext w w' := by
 have h0 := h
 obtain ⟨rown, h1, h2, h3⟩ := h
 exact (st_meta h1 ho).mono fun e w' ⟨kv, q1, q2, q3, q4⟩ => ⟨kv, q1, q2, h0.ext q4, q4⟩
theorem p_bytes (h : Pl2 w0 w b x N L vs ss sa us ts ra hl) {o : Bs} (ho : o.length ≤ 1000000) : Calls Try.prog 20 #[.pointer (some ⟨b, 0, none⟩), .string ⟨o.toArray⟩] w fun e w' => ∃ v, e = .returned v ∧ BRow w' w.heap.size v (bytesA vs o) ∧ Pl2 w0 w' b x N L vs ss sa us ts ra ((v, bytesA vs o) :: hl) ∧ Ext w w' := by
 have h0 := h
 obtain ⟨rown, h1, h2, h3⟩ := h
 exact (st_bytes h1 ho).mono fun e w' ⟨v, q1, q2, q3, q4⟩ => ⟨v, q1, q2, ⟨rown, q3, h2.ext q4, h3⟩, q4⟩
theorem p_ask_no (h : Pl2 w0 w b x N L vs ss sa us ts ra hl) (f : Ft) (hz : FtZ f) (hb : ftB f = false) : Calls Try.prog 15 #[.pointer (some ⟨b, 0, none⟩), .agg (ftC f)] w fun e w' => e = .returned (.tuple #[.pointer none, .int .i64 1]) ∧ Pl2 w0 w' b x N L vs ss sa us ts ra hl ∧ Ext w w' := by
 have h0 := h
 obtain ⟨rown, h1, h2, h3⟩ := h
 exact (st_ask_no h1 f hz hb).mono fun e w' ⟨q1, q2, q3⟩ => ⟨q1, h0.ext q3, q3⟩
theorem p_ask (h : Pl2 w0 w b x N L vs ss sa us ts ra hl) (hw : Wf vs) (f : Ft) (hz : FtZ f) (hb : ftB f = true) : Calls Try.prog 15 #[.pointer (some ⟨b, 0, none⟩), .agg (ftC f)] w fun e w' => ∃ sb, e = .returned (.tuple #[.pointer (some ⟨sb, 0, none⟩), .int .i64 0]) ∧ Pl2 w0 w' b x N L vs (ss ++ [askS vs f]) (sa ++ [sb]) us ts ra hl ∧ Ext w w' := by
 obtain ⟨rown, h1, h2, h3⟩ := h
 exact (st_ask h1 hw f hz hb).mono fun e w' ⟨sb, q1, q2, q3⟩ => ⟨sb, q1, ⟨rown, q2, h2.ext q3, h3⟩, q3⟩
theorem p_has (h : Pl2 w0 w b x N L vs ss sa us ts ra hl) {j : Nat} {s : Sn} {sb : Nat} (hs : ss[j]? = some s) (hb : sa[j]? = some sb) : Calls Try.prog 30 #[.pointer (some ⟨sb, 0, none⟩)] w fun e w' => e = .returned (.int .i64 (hasA vs s)) ∧ Pl2 w0 w' b x N L vs ss sa us ts ra hl ∧ Ext w w' := by
 have h0 := h
 obtain ⟨rown, h1, h2, h3⟩ := h
 exact (st_has h1 hs hb).mono fun e w' ⟨q1, q2, q3⟩ => ⟨q1, h0.ext q3, q3⟩
theorem p_head (h : Pl2 w0 w b x N L vs ss sa us ts ra hl) {j : Nat} {s : Sn} {sb : Nat} (hs : ss[j]? = some s) (hb : sa[j]? = some sb) : Calls Try.prog 16 #[.pointer (some ⟨sb, 0, none⟩)] w fun e w' => ∃ kv', e = .returned (.agg (replyC s.st s.m kv' s.fr s.to).toArray) ∧ SRow w' w.heap.size kv' s.m.keys ∧ Pl2 w0 w' b x N L vs ss sa us ts ra hl ∧ Ext w w' := by
 have h0 := h
 obtain ⟨rown, h1, h2, h3⟩ := h
 exact (st_head h1 hs hb).mono fun e w' ⟨kv, q1, q2, q3, q4⟩ => ⟨kv, q1, q2, h0.ext q4, q4⟩
theorem p_take (h : Pl2 w0 w b x N L vs ss sa us ts ra hl) {j : Nat} {s : Sn} {sb : Nat} (hs : ss[j]? = some s) (hb : sa[j]? = some sb) (k : Int) : Calls Try.prog 18 #[.pointer (some ⟨sb, 0, none⟩), .int .i64 k] w fun e w' => ∃ v, e = .returned (.tuple #[v, .int .i64 (hasA vs (movS vs s k))]) ∧ BRow w' w.heap.size v (takeB vs s k) ∧ Pl2 w0 w' b x N L vs (ss.set j (movS vs s k)) sa us ts ra ((v, takeB vs s k) :: hl) ∧ KeepP L w w' := by
 obtain ⟨rown, h1, h2, h3⟩ := h
 exact (st_take h1 hs hb k).mono fun e w' ⟨v, q1, q2, q3, q4⟩ => ⟨v, q1, q2, Pl2.prog h2 h3 q3 q4⟩
theorem p_objs (h : Pl2 w0 w b x N L vs ss sa us ts ra hl) (hN : N ≤ 900000) : Calls Try.prog 25 #[.pointer (some ⟨b, 0, none⟩)] w fun e w' => ∃ v ns, e = .returned v ∧ SRow w' w.heap.size v ns ∧ Names vs ns ∧ ns.length ≤ N ∧ Pl2 w0 w' b x N L vs ss sa us ts ra hl ∧ Ext w w' := by
 have h0 := h
 obtain ⟨rown, h1, h2, h3⟩ := h
 exact (st_objs h1 hN).mono fun e w' ⟨v, ns, q1, q2, q3, q4, q5, q6⟩ => ⟨v, ns, q1, q2, q3, q4, h0.ext q6, q6⟩
theorem d_set (h : Pl2 w0 w b x N L vs ss sa us ts ra hl) {o bs : Bs} {m : MetaP} {kv u : Value} (ho : o.length ≤ 1000) (hz : MetaZ m) (hk : TextsAt w kv m.keys) (hlk : LowV w0 kv) (hu : BytesAt w u bs) (hlu : LowV w0 u) (hbs : bs.length ≤ 1000) (hvl : us.length ≤ 900000) :
  Calls Try.prog 46 #[.pointer (some ⟨x, 0, none⟩), .string ⟨o.toArray⟩, metaV m kv, u] w fun e w' => e = .returned (.int .i64 (setA us o m bs).1) ∧ Pl2 w0 w' b x N L vs ss sa (setA us o m bs).2 ts ra hl ∧ KeepP L w w' := by
 obtain ⟨rown, h1, h2, h3⟩ := h
 exact (rset_any h2 ho hz hk hu hbs hvl (low_far h2 hlk) (low_far h2 hlu)).mono fun e w' ⟨q1, q2, q3⟩ => ⟨q1, Pl2.refE h1 h3 q2 grown_le q3⟩
theorem d_grow (h : Pl2 w0 w b x N L vs ss sa us ts ra hl) {o bs : Bs} {u : Value} (ho : o.length ≤ 1000000) (hu : BytesAt w u bs) (hbs : bs.length ≤ 1000) (hcap : ∀ i v, nowI us o = some i → us[i]? = some v → v.bytes.length + bs.length ≤ 100000) :
  Calls Try.prog 47 #[.pointer (some ⟨x, 0, none⟩), .string ⟨o.toArray⟩, u] w fun e w' => e = .returned (.int .i64 (growA us o bs).1) ∧ Pl2 w0 w' b x N L vs ss sa (growA us o bs).2 ts ra hl ∧ KeepP L w w' := by
 obtain ⟨rown, h1, h2, h3⟩ := h
 exact (rgrow_any h2 ho hu hbs hcap).mono fun e w' ⟨q1, q2, q3⟩ => ⟨q1, Pl2.refE h1 h3 q2 grown_le q3⟩
theorem d_seal (h : Pl2 w0 w b x N L vs ss sa us ts ra hl) {o : Bs} (ho : o.length ≤ 1000000) : Calls Try.prog 48 #[.pointer (some ⟨x, 0, none⟩), .string ⟨o.toArray⟩] w fun e w' => e = .returned (.int .i64 (sealA us o).1) ∧ Pl2 w0 w' b x N L vs ss sa (sealA us o).2 ts ra hl ∧ KeepP L w w' := by
 obtain ⟨rown, h1, h2, h3⟩ := h
 exact (rseal_any h2 ho).mono fun e w' ⟨q1, q2, q3⟩ => ⟨q1, Pl2.refE h1 h3 q2 (fun _ => .inl) q3⟩
theorem d_gone (h : Pl2 w0 w b x N L vs ss sa us ts ra hl) {o : Bs} (ho : o.length ≤ 1000000) : Calls Try.prog 49 #[.pointer (some ⟨x, 0, none⟩), .string ⟨o.toArray⟩] w fun e w' => e = .returned (.int .i64 (goneA us o).1) ∧ Pl2 w0 w' b x N L vs ss sa (goneA us o).2 ts ra hl ∧ KeepP L w w' := by
 obtain ⟨rown, h1, h2, h3⟩ := h
 exact (rgone_any h2 ho).mono fun e w' ⟨q1, q2, q3⟩ => ⟨q1, Pl2.refE h1 h3 q2 (fun _ => .inl) q3⟩
theorem d_ask_no (h : Pl2 w0 w b x N L vs ss sa us ts ra hl) (f : Ft) (hz : FtZ f) (hb : ftB f = false) : Calls Try.prog 50 #[.pointer (some ⟨x, 0, none⟩), .agg (ftC f)] w fun e w' => e = .returned (.tuple #[.pointer none, .int .i64 1]) ∧ Pl2 w0 w' b x N L vs ss sa us ts ra hl ∧ Ext w w' :=
 (rask_bad w x f hz hb).mono fun e w' ⟨q1, q2⟩ => ⟨q1, h.ext q2, q2⟩
theorem d_ask (h : Pl2 w0 w b x N L vs ss sa us ts ra hl) (hw : Wf us) (f : Ft) (hz : FtZ f) (hb : ftB f = true) : Calls Try.prog 50 #[.pointer (some ⟨x, 0, none⟩), .agg (ftC f)] w fun e w' => ∃ sb, e = .returned (.tuple #[.pointer (some ⟨sb, 0, none⟩), .int .i64 0]) ∧ Pl2 w0 w' b x N L vs ss sa us (ts ++ [askS us f]) (ra ++ [sb]) hl ∧ Ext w w' := by
 obtain ⟨rown, h1, h2, h3⟩ := h
 exact (rask_o h2 hw f hz hb).mono fun e w' ⟨sb, q1, q2, q3⟩ => ⟨sb, q1, (Pl2.refE h1 h3 q2 grown_le (.of q3)).1, q3⟩
theorem d_has (h : Pl2 w0 w b x N L vs ss sa us ts ra hl) {j : Nat} {s : Sn} {sb : Nat} (hs : ts[j]? = some s) (hb : ra[j]? = some sb) : Calls Try.prog 31 #[.pointer (some ⟨sb, 0, none⟩)] w fun e w' => e = .returned (.int .i64 (hasA us s)) ∧ Pl2 w0 w' b x N L vs ss sa us ts ra hl ∧ Ext w w' := by
 have h0 := h
 obtain ⟨rown, h1, h2, h3⟩ := h
 exact (rhas_o h2 hs hb).mono fun e w' ⟨q1, q3⟩ => ⟨q1, h0.ext q3, q3⟩
theorem d_head (h : Pl2 w0 w b x N L vs ss sa us ts ra hl) {j : Nat} {s : Sn} {sb : Nat} (hs : ts[j]? = some s) (hb : ra[j]? = some sb) : ∃ kv p, RStrAt w sb s.st s.m kv s.fr s.to p s.at_ ∧ TextsAt w kv s.m.keys ∧ MetaZ s.m := by
 obtain ⟨rown, h1, h2, h3⟩ := h
 obtain ⟨kv, p, q1, q2, q3, q4⟩ := rhead_at h2 hs hb
 exact ⟨kv, p, q1, q2, q4⟩
theorem d_take (h : Pl2 w0 w b x N L vs ss sa us ts ra hl) {j : Nat} {s : Sn} {sb : Nat} (hs : ts[j]? = some s) (hb : ra[j]? = some sb) (ha : s.at_ ≤ 1000000) (k : Int) : Calls Try.prog 51 #[.pointer (some ⟨sb, 0, none⟩), .int .i64 k] w fun e w' => ∃ v, e = .returned (.tuple #[v, .int .i64 (hasA us (movS us s k))]) ∧ BRow w' w.heap.size v (takeB us s k) ∧ Pl2 w0 w' b x N L vs ss sa us (ts.set j (movS us s k)) ra hl ∧ KeepP L w w' := by
 obtain ⟨rown, h1, h2, h3⟩ := h
 exact (rtake_o h2 hs hb ha k).mono fun e w' ⟨v, q1, q2, q3, q4⟩ => ⟨v, q1, q2, Pl2.refE h1 h3 q3 (fun _ => .inl) q4⟩
theorem Pl2.lens (h : Pl2 w0 w b x N L vs ss sa us ts ra hl) : sa.length = ss.length ∧ ra.length = ts.length := by
 obtain ⟨rown, ⟨own, h1⟩, ⟨gs, A, c, h2⟩, h3⟩ := h
 obtain ⟨gs', mo, mh, H, K, h1⟩ := h1.oi
 exact ⟨h1.strs.len, h2.strs.len⟩
theorem Pl2.at (h : Pl2 w0 w b x N L vs ss sa us ts ra hl) {j : Nat} {s : Sn} (hs : ss[j]? = some s) : ∃ sb, sa[j]? = some sb := by
 have := h.lens.1
 have hj := (List.getElem?_eq_some_iff.1 hs).1
 exact ⟨sa[j], by simp [show j < sa.length by omega]⟩
theorem Pl2.rat (h : Pl2 w0 w b x N L vs ss sa us ts ra hl) {j : Nat} {s : Sn} (hs : ts[j]? = some s) : ∃ sb, ra[j]? = some sb := by
 have := h.lens.2
 have hj := (List.getElem?_eq_some_iff.1 hs).1
 exact ⟨ra[j], by simp [show j < ra.length by omega]⟩
theorem Pl2.verZ (h : Pl2 w0 w b x N L vs ss sa us ts ra hl) {v : Vn} (hv : v ∈ vs) : MetaZ v.m ∧ v.bytes.length ≤ 100000 ∧ v.obj.length ≤ 1000 := by
 obtain ⟨rown, ⟨own, h1⟩, h2, h3⟩ := h
 exact VnAt h1.oi hv
end
end Go.Proofs.Ytpangoddbfiagaa
namespace Go.Proofs.Ytpangoddbfiagaa
open Go.RowKit Go.Maps Go.ChangeMaps
set_option linter.unusedVariables false
set_option linter.unusedSimpArgs false
def doV (vs : List Vn) (a : ActP) : List Vn :=
 if a.kind = 1 then (setA vs a.obj a.m a.bytes).2 else if a.kind = 2 then (growA vs a.obj a.bytes).2 else if a.kind = 3 then (sealA vs a.obj).2 else if a.kind = 4 then (goneA vs a.obj).2 else vs
def doS (vs : List Vn) (ss : List Sn) (a : ActP) : List Sn :=
 if a.kind = 5 then (if ftB a.f = true then ss ++ [askS vs a.f] else ss)
 else if a.kind = 6 then (match ss[a.st % ss.length]? with
  | none => ss
  | some s => ss.set (a.st % ss.length) (movS vs s a.n))
 else ss
structure GoodA (k : Nat) (vs : List Vn) (ss : List Sn) : Prop where
 wf : Wf vs
 nv : vs.length ≤ k
 ns : ss.length ≤ k
 bytes : ∀ v ∈ vs, v.bytes.length ≤ 60 * k
 at_ : ∀ s ∈ ss, s.at_ ≤ 100000
section
variable {k : Nat} {vs : List Vn} {ss : List Sn}
theorem good_more (h : GoodA k vs ss) : GoodA (k + 1) vs ss :=
 ⟨h.wf, by have := h.nv; omega, by have := h.ns; omega, fun v hv => by have := h.bytes v hv; omega, h.at_⟩
theorem good_put (h : GoodA k vs ss) {i : Nat} {v v' : Vn} (hv : vs[i]? = some v) (hb : v'.bytes.length ≤ v.bytes.length + 60) (hw : v'.m.len = -1 ∨ v'.m.len = v'.bytes.length) : GoodA (k + 1) (vs.set i v') ss := by
 have hm := List.mem_of_getElem? hv
 refine ⟨fun u hu => ?_, by rw [List.length_set]; have := h.nv; omega, by have := h.ns; omega, fun u hu => ?_, h.at_⟩
 ·rcases List.mem_or_eq_of_mem_set hu with e | e
  ·exact h.wf u e
  ·rw [e]; exact hw
 ·rcases List.mem_or_eq_of_mem_set hu with e | e
  ·have := h.bytes u e; omega
  ·rw [e]; have := h.bytes v hm; omega
theorem good_grow (h : GoodA k vs ss) {o bs : Bs} (hb : bs.length ≤ 60) : GoodA (k + 1) (growA vs o bs).2 ss := by
 unfold growA
 split
 ·exact good_more h
 ·split
  ·exact good_more h
  ·split
   ·rename_i i hn v hv hl
    exact good_put h hv (by simp [growV]; omega) (.inl (by simpa [growV] using hl))
   ·exact good_more h
theorem good_seal (h : GoodA k vs ss) {o : Bs} : GoodA (k + 1) (sealA vs o).2 ss := by
 unfold sealA
 split
 ·exact good_more h
 ·split
  ·exact good_more h
  ·split
   ·rename_i i hn v hv hl
    exact good_put h hv (by simp [sealV]) (.inr rfl)
   ·exact good_more h
theorem good_gone (h : GoodA k vs ss) {o : Bs} : GoodA (k + 1) (goneA vs o).2 ss := by
 unfold goneA
 split
 ·exact good_more h
 ·split
  ·exact good_more h
  ·rename_i i hn v hv
   exact good_put h hv (by simp [goneV]) (h.wf v (List.mem_of_getElem? hv))
theorem offVs_good (h : GoodA k vs ss) (o : Bs) : Wf (offVs vs o) ∧ (offVs vs o).length = vs.length ∧ ∀ v ∈ offVs vs o, v.bytes.length ≤ 60 * k := by
 unfold offVs
 split
 ·exact ⟨h.wf, rfl, h.bytes⟩
 ·split
  ·exact ⟨h.wf, rfl, h.bytes⟩
  ·rename_i i hn v hv
   have hm := List.mem_of_getElem? hv
   refine ⟨fun u hu => ?_, List.length_set, fun u hu => ?_⟩
   ·rcases List.mem_or_eq_of_mem_set hu with e | e
    ·exact h.wf u e
    ·rw [e]; exact h.wf v hm
   ·rcases List.mem_or_eq_of_mem_set hu with e | e
    ·exact h.bytes u e
    ·rw [e]; exact h.bytes v hm
theorem good_set (h : GoodA k vs ss) {o bs : Bs} {m : MetaP} (hb : bs.length ≤ 60) : GoodA (k + 1) (setA vs o m bs).2 ss := by
 unfold setA
 split
 ·exact good_more h
 ·split
  ·exact good_more h
  ·rename_i hok _
   obtain ⟨q1, q2, q3⟩ := offVs_good h o
   refine ⟨fun u hu => ?_, by have := h.nv; simp [q2]; omega, by have := h.ns; omega, fun u hu => ?_, h.at_⟩
   ·rcases List.mem_append.1 hu with e | e
    ·exact q1 u e
    ·rw [List.mem_singleton.1 e]
     simp only [setOk, Bool.not_eq_false, Bool.and_eq_true, Bool.or_eq_true, beq_iff_eq] at hok
     exact hok.1.2
   ·rcases List.mem_append.1 hu with e | e
    ·have := q3 u e; omega
    ·rw [List.mem_singleton.1 e]; simp only [newV]; omega
theorem askS_at (h : GoodA k vs ss) (hk : k ≤ 1000) (f : Ft) : (askS vs f).at_ ≤ 100000 := by
 unfold askS
 split
 ·decide
 ·split
  ·decide
  ·rename_i i hn v hv
   have hb := h.bytes v (List.mem_of_getElem? hv)
   unfold askV
   repeat' split
   all_goals first | decide | (simp only; omega)
theorem takeB_at (h : GoodA k vs ss) (hk : k ≤ 1000) {s : Sn} (hs : s.at_ ≤ 100000) (n : Int) : (movS vs s n).at_ ≤ 100000 := by
 unfold movS takeB
 simp only
 split
 ·simpa using hs
 ·split
  ·simpa using hs
  ·rename_i i hn v hv
   have hb := h.bytes v (List.mem_of_getElem? hv)
   rw [List.length_take, List.length_drop]
   omega
theorem good_do (h : GoodA k vs ss) (hk : k ≤ 1000) {a : ActP} (ha : a.bytes.length ≤ 60) : GoodA (k + 1) (doV vs a) (doS vs ss a) := by
 have hS : (a.kind = 1 ∨ a.kind = 2 ∨ a.kind = 3 ∨ a.kind = 4) → doS vs ss a = ss := fun e => by
  unfold doS
  rw [if_neg (by omega), if_neg (by omega)]
 by_cases e1 : a.kind = 1
 ·rw [hS (.inl e1)]; unfold doV; rw [if_pos e1]; exact good_set h ha
 by_cases e2 : a.kind = 2
 ·rw [hS (.inr (.inl e2))]; unfold doV; rw [if_neg e1, if_pos e2]; exact good_grow h ha
 by_cases e3 : a.kind = 3
 ·rw [hS (.inr (.inr (.inl e3)))]; unfold doV; rw [if_neg e1, if_neg e2, if_pos e3]; exact good_seal h
 by_cases e4 : a.kind = 4
 ·rw [hS (.inr (.inr (.inr e4)))]; unfold doV; rw [if_neg e1, if_neg e2, if_neg e3, if_pos e4]; exact good_gone h
 have eV : doV vs a = vs := by unfold doV; rw [if_neg e1, if_neg e2, if_neg e3, if_neg e4]
 rw [eV]
 unfold doS
 have h' := good_more h
 split
 ·split
  ·refine ⟨h'.wf, h'.nv, by have := h.ns; simp; omega, h'.bytes, fun s hs => ?_⟩
   rcases List.mem_append.1 hs with e | e
   ·exact h.at_ s e
   ·rw [List.mem_singleton.1 e]; exact askS_at h hk _
  ·exact h'
 ·split
  ·split
   ·exact h'
   ·rename_i s hs
    refine ⟨h'.wf, h'.nv, by rw [List.length_set]; exact h'.ns, h'.bytes, fun u hu => ?_⟩
    rcases List.mem_or_eq_of_mem_set hu with e | e
    ·exact h.at_ u e
    ·rw [e]; exact takeB_at h hk (h.at_ s (List.mem_of_getElem? hs)) _
  ·exact h'
end
def playL (pb : Nat) (sv rv : Value) (Lx : Nat → Prop) : Nat → Prop := fun g => g = pb ∨ sv.ownBlock = some g ∨ rv.ownBlock = some g ∨ Lx g
structure PlayX (w0 w : World) (pb b x k N : Nat) (vs : List Vn) (ss : List Sn) (sa ra : List Nat) (SA : Option Addr) (sc : Nat) (RA : Option Addr) (rc : Nat) (hl : List (Value × Bs)) (Lx : Nat → Prop) : Prop where
 hN : N ≤ 2 * k
 st : Pl2 w0 w b x N (playL pb (.slice SA ss.length sc) (.slice RA ss.length rc) Lx) vs ss sa vs ss ra hl
 blk : w.heap[pb]? = some (.cells #[ptrV b, ptrV x, .slice SA ss.length sc, .slice RA ss.length rc] 68 (0, 0))
 srow : w.ownsRow w0.heap.size 45 1 (.slice SA ss.length sc) ss.length (sa.map ptrV)
 rrow : w.ownsRow w0.heap.size 73 1 (.slice RA ss.length rc) ss.length (ra.map ptrV)
 nb : ¬ Lx pb
 ns : ∀ g, (Value.slice SA ss.length sc).ownBlock = some g → ¬ Lx g
 nr : ∀ g, (Value.slice RA ss.length rc).ownBlock = some g → ¬ Lx g
 good : GoodA k vs ss
def Play (w0 w : World) (pb b x k : Nat) (vs : List Vn) (ss : List Sn) (hl : List (Value × Bs)) (Lx : Nat → Prop) : Prop := ∃ N sa ra SA sc RA rc, PlayX w0 w pb b x k N vs ss sa ra SA sc RA rc hl Lx
end Go.Proofs.Ytpangoddbfiagaa
namespace Go.Proofs.Ytpangoddbfiagaa
open Go.RowKit Go.Maps Go.ChangeMaps
set_option linter.unusedVariables false
set_option linter.unusedSimpArgs false
section
variable {w0 w w' W : World} {pb b x k N : Nat} {L Lx Lx' : Nat → Prop} {vs us : List Vn} {ss ts : List Sn} {sa ra : List Nat} {hl hl' : List (Value × Bs)} {SA RA : Option Addr} {sc rc : Nat}
theorem ExtP.refl (P : Nat → Prop) (w : World) : ExtP P w w := .of (Ext.refl w)
theorem KeepP.ext {P : Nat → Prop} (xx : Ext w w') (hlt : ∀ g, P g → g < w.heap.size) : KeepP P w w' := fun g hg => xx.block g (hlt g hg)
theorem PlayX.lt (h : PlayX w0 w pb b x k N vs ss sa ra SA sc RA rc hl Lx) : ∀ g, Lx g → g < w.heap.size := fun g hg => h.st.plt (.inr (.inr (.inr hg)))
theorem PlayX.other (h : PlayX w0 w pb b x k N vs ss sa ra SA sc RA rc hl Lx) (xp : ExtP Lx w w') (hP : ∀ g, Lx' g → Lx g ∨ (w.heap.size ≤ g ∧ g < w'.heap.size)) : PlayX w0 w' pb b x k N vs ss sa ra SA sc RA rc hl Lx' := by
 have hpl : pb < w.heap.size := blk_lt h.blk
 refine ⟨h.hN, h.st.other (xp.weak fun g hg => .inr (.inr (.inr hg))) (fun g hg => ?_), (xp.block pb hpl h.nb).trans h.blk, own_keep h.srow fun g e => xp.block g (h.srow.lt g e).2 (h.ns g e), own_keep h.rrow fun g e => xp.block g (h.rrow.lt g e).2 (h.nr g e), fun hh => ?_, fun g e hh => ?_, fun g e hh => ?_, h.good⟩
 ·rcases hg with hg | hg | hg | hg
  ·exact .inl (.inl hg)
  ·exact .inl (.inr (.inl hg))
  ·exact .inl (.inr (.inr (.inl hg)))
  ·exact (hP g hg).imp (fun e => .inr (.inr (.inr e))) id
 ·rcases hP _ hh with e | e
  ·exact h.nb e
  ·omega
 ·rcases hP _ hh with e1 | e1
  ·exact h.ns g e e1
  ·have := (h.srow.lt g e).2; omega
 ·rcases hP _ hh with e1 | e1
  ·exact h.nr g e e1
  ·have := (h.rrow.lt g e).2; omega
theorem PlayX.box (h : PlayX w0 w pb b x k N vs ss sa ra SA sc RA rc hl Lx) (xx : Ext w w') {ab : Nat} (h1 : w.heap.size ≤ ab) (h2 : ab < w'.heap.size) : PlayX w0 w' pb b x k N vs ss sa ra SA sc RA rc hl (fun g => g = ab ∨ Lx g) :=
 h.other (.of xx) fun g hg => by
  rcases hg with e | e
  ·rw [e]; exact .inr ⟨h1, h2⟩
  ·exact .inl e
theorem PlayX.ext (h : PlayX w0 w pb b x k N vs ss sa ra SA sc RA rc hl Lx) (xx : Ext w w') : PlayX w0 w' pb b x k N vs ss sa ra SA sc RA rc hl Lx := h.other (.of xx) fun g hg => .inl hg
theorem PlayX.fin {N' : Nat} (h : PlayX w0 w pb b x k N vs ss sa ra SA sc RA rc hl Lx) (hP : Pl2 w0 w' b x N' (playL pb (.slice SA ss.length sc) (.slice RA ss.length rc) Lx) us ts sa us ts ra hl') (hK : KeepP (playL pb (.slice SA ss.length sc) (.slice RA ss.length rc) Lx) w w') (hh : ∀ p ∈ hl, p ∈ hl') (hN : N' ≤ 2 * (k + 1)) (hlen : ts.length = ss.length) (hg : GoodA (k + 1) us ts) : PlayX w0 w' pb b x (k + 1) N' us ts sa ra SA sc RA rc hl Lx :=
 ⟨hN, by rw [hlen]; exact hP.drop hh, by rw [hlen]; exact (hK pb (.inl rfl)).trans h.blk, by rw [hlen]; exact hK.row h.srow fun g e => .inr (.inl e), by rw [hlen]; exact hK.row h.rrow fun g e => .inr (.inr (.inl e)), h.nb, by rw [hlen]; exact h.ns, by rw [hlen]; exact h.nr, hg⟩
theorem PlayX.less (h : PlayX w0 w pb b x k N vs ss sa ra SA sc RA rc hl Lx) (hs : ∀ g, Lx' g → Lx g) : PlayX w0 w pb b x k N vs ss sa ra SA sc RA rc hl Lx' := h.other (ExtP.refl _ _) fun g hg => .inl (hs g hg)
theorem Play.other (h : Play w0 w pb b x k vs ss hl Lx) (xp : ExtP Lx w w') (hP : ∀ g, Lx' g → Lx g ∨ (w.heap.size ≤ g ∧ g < w'.heap.size)) : Play w0 w' pb b x k vs ss hl Lx' := by
 obtain ⟨N, sa, ra, SA, sc, RA, rc, h⟩ := h
 exact ⟨N, sa, ra, SA, sc, RA, rc, h.other xp hP⟩
theorem Play.ext (h : Play w0 w pb b x k vs ss hl Lx) (xx : Ext w w') : Play w0 w' pb b x k vs ss hl Lx := h.other (.of xx) fun g hg => .inl hg
theorem Play.lt (h : Play w0 w pb b x k vs ss hl Lx) : ∀ g, Lx g → g < w.heap.size := by
 obtain ⟨N, sa, ra, SA, sc, RA, rc, h⟩ := h
 exact h.lt
theorem Play.base (h : Play w0 w pb b x k vs ss hl Lx) : Ext w0 w := by
 obtain ⟨N, sa, ra, SA, sc, RA, rc, h⟩ := h
 exact h.st.base
theorem Play.good (h : Play w0 w pb b x k vs ss hl Lx) : GoodA k vs ss := by
 obtain ⟨N, sa, ra, SA, sc, RA, rc, h⟩ := h
 exact h.good
theorem Play.drop (h : Play w0 w pb b x k vs ss hl Lx) (hs : ∀ p ∈ hl', p ∈ hl) : Play w0 w pb b x k vs ss hl' Lx := by
 obtain ⟨N, sa, ra, SA, sc, RA, rc, h⟩ := h
 exact ⟨N, sa, ra, SA, sc, RA, rc, h.hN, h.st.drop hs, h.blk, h.srow, h.rrow, h.nb, h.ns, h.nr, h.good⟩
theorem Play.more (h : Play w0 w pb b x k vs ss hl Lx) : Play w0 w pb b x (k + 1) vs ss hl Lx := by
 obtain ⟨N, sa, ra, SA, sc, RA, rc, h⟩ := h
 exact ⟨N, sa, ra, SA, sc, RA, rc, by have := h.hN; omega, h.st, h.blk, h.srow, h.rrow, h.nb, h.ns, h.nr, good_more h.good⟩
def DoR (w0 w : World) (pb b x k : Nat) (vs : List Vn) (ss : List Sn) (hl : List (Value × Bs)) (Lx : Nat → Prop) (e : Ending) (w' : World) : Prop :=
 e = .returned (.bool true) ∧ Play w0 w' pb b x k vs ss hl Lx ∧ KeepP Lx w w'
theorem RI.zero (w : World) (B : Nat) (hB : B ≤ w.heap.size) : RI (w.alloc (.cells #[.slice none 0 0] 102)) w.heap.size B (fun i => i = w.heap.size) [] [] [] :=
 ⟨[], none, 0, heap_alloc_new w _, World.ownsRow_nil _ _ _ _, rfl, fun y e => (by cases e), ⟨rfl, fun i v g h => (by simp at h), fun i j g g' h => (by simp at h)⟩, ⟨rfl, fun j s b h => (by simp at h), fun i j b h => (by simp at h)⟩, fun i hi => by rw [hi]; simp, fun i hi => by omega, by simp; omega, by simp⟩
theorem good_0 : GoodA 0 [] [] := ⟨fun v hv => by simp at hv, Nat.le_refl _, Nat.le_refl _, by simp, by simp⟩
end
set_option maxRecDepth 100000 in
theorem begin_any (w : World) : Calls Try.prog 22 #[] w fun e w' => ∃ pb b x, e = .returned (.pointer (some ⟨pb, 0, none⟩)) ∧ Play w w' pb b x 0 [] [] [] noP := by
 go_enter Try.func22, Try.ntmps22
 go_wp2_with (go_at_call 10; refine (st_new _).mono ?_; rintro e w1 ⟨rfl, h1, x1⟩; refine stop_of ?_)
 unfold Stop
 obtain ⟨b, hb⟩ : ∃ b, b = w.heap.size := ⟨_, rfl⟩
 rw [← hb] at h1 ⊢
 have H1 := Lh h1; have HB := Lh hb
 clear h1 x1 hb
 go_wp2
 go_ret
 have hlow := H1.out.base.size
 refine ⟨_, b, w1.heap.size, rfl, 0, [], [], none, 0, none, 0, Nat.le_refl _, ⟨fun i => i = w1.heap.size, H1.out.other (.of ((ext_alloc1 _ _).trans (ext_alloc1 _ _))) (fun g hg => ?_), (RI.zero w1 _ hlow).ext (ext_alloc1 _ _), fun g hg => ?_⟩, ?_, World.ownsRow_nil _ _ _ _, World.ownsRow_nil _ _ _ _, id, fun g e => (by cases e), fun g e => (by cases e), good_0⟩
 ·rcases hg with hg | hg | hg | hg | hg
  ·right; rw [hg]; simp; omega
  ·right; rw [hg]; simp
  ·cases hg
  ·cases hg
  ·exact hg.elim
 ·rcases hg with hg | hg | hg | hg
  ·rw [hg]; simp
  ·cases hg
  ·cases hg
  ·exact hg.elim
 ·have := heap_alloc_new (w1.alloc (.cells #[.slice none 0 0] 102)) (.cells #[ptrV b, ptrV w1.heap.size, .slice none 0 0, .slice none 0 0] 68)
  simpa [ptrV] using this
end Go.Proofs.Ytpangoddbfiagaa
