/- The streams' methods, and Ask, over the state. -/
import Derived.Test.YtpangoddbfiagaaSet
import Derived.Test.YtpangoddbfiagaaAskA
import Derived.Test.YtpangoddbfiagaaAskB
import Derived.Test.YtpangoddbfiagaaAskC
import Derived.Test.YtpangoddbfiagaaAskE
namespace Go.Proofs.Ytpangoddbfiagaa
open Go.RowKit Go.Maps Go.ChangeMaps
set_option linter.unusedVariables false
set_option linter.unusedSimpArgs false

/-- What a stream has. -/
def hasA (vs : List Vn) (s : Sn) : Int := match s.v with
  | none => 3
  | some i => match vs[i]? with
    | none => 3
    | some v => hasZ s.to s.at_ v.bytes.length (v.m.len == -1) v.went
/-- What a taking tells. -/
def takeB (vs : List Vn) (s : Sn) (k : Int) : Bs := match s.v with
  | none => []
  | some i => match vs[i]? with
    | none => []
    | some v => (v.bytes.drop s.at_.toNat).take (takeN s.to s.at_ k v.bytes.length).toNat
def movS (vs : List Vn) (s : Sn) (k : Int) : Sn := { s with at_ := s.at_ + (takeB vs s k).length }
section
variable {w w' : World} {b B N : Nat} {own : Nat → Prop} {vs : List Vn} {ss : List Sn} {sa : List Nat} {gs : List Vg} {mo mh : Option Nat} {H : Bs → Option Nat} {K : Bs → Bs → Option Bool}
theorem OIx.setS (h : OIx w b B N own vs ss sa gs mo mh H K) {j : Nat} {s s' : Sn} {sb : Nat} (hs : ss[j]? = some s) (hb : sa[j]? = some sb) (hx : ExtB [sb] w w') (hok : StrOk w' B own (gs.map (·.b)) s' sb) : OIx w' b B N own vs (ss.set j s') sa gs mo mh H K := by
  obtain ⟨kv, q1, q2, q3, q4, q5⟩ := h.strs.at_ j s sb hs hb
  have hk : ∀ x ∈ [sb], kindOf w x = 94 := fun x hx => by rw [show x = sb by simpa using hx]; exact kind_cells q1
  have hjl : j < ss.length := (List.getElem?_eq_some_iff.1 hs).1
  refine ⟨hx.heap h.blk (fun hh => by have := hk _ hh; rw [kind_cells h.blk] at this; cases this), h.ob, h.vers.extK hx (fun x hh => by rw [hk x hh]; decide) (fun _ hi => hi), ⟨by simp [h.strs.len], fun i u c hu hc => ?_, h.strs.nd⟩, h.maps.extK hx (fun x hh => by rw [hk x hh]; decide) (fun _ hi => hi), h.one, fun i hi => Nat.lt_of_lt_of_le (h.lt i hi) hx.size, h.low, Nat.le_trans h.lowB hx.size, h.objs⟩
  by_cases hij : i = j
  · subst hij
    rw [List.getElem?_set_self hjl] at hu
    rw [hb] at hc
    obtain rfl := Option.some.inj hu
    obtain rfl := Option.some.inj hc
    exact hok
  · rw [List.getElem?_set_ne (Ne.symm hij)] at hu
    obtain ⟨kv2, h1, h2, h3, h4, h5⟩ := h.strs.at_ i u c hu hc
    exact ⟨kv2, hx.heap h1 (fun hh => hij (h.strs.nd i j c hc (by rw [show c = sb by simpa using hh]; exact hb))), own_keep h2 fun x e => hx.block x (h2.lt x e).2 (fun hh => by have := hk _ hh; rw [kind_row h2 e] at this; cases this), h3, h4, h5⟩
theorem OIx.verOf (h : OIx w b B N own vs ss sa gs mo mh H K) {s : Sn} {i : Nat} (hi : i < (gs.map (·.b)).length) (hv : s.v = some i) : ∃ v g, vs[i]? = some v ∧ gs[i]? = some g ∧ VerOk w B own v g ∧ verP (gs.map (·.b)) s.v = some ⟨g.b, 0, none⟩ := by
  have hi' : i < gs.length := by simpa using hi
  have hi2 : i < vs.length := by rw [← h.vers.len]; exact hi'
  refine ⟨vs[i], gs[i], by simp [hi2], by simp [hi'], h.vers.at_ i _ _ (by simp [hi2]) (by simp [hi']), ?_⟩
  rw [hv]; simp [verP, hi']
theorem has_o (hI : OI w b B N own vs ss sa) {j : Nat} {s : Sn} {sb : Nat} (hs : ss[j]? = some s) (hb : sa[j]? = some sb) : Calls Try.prog 30 #[.pointer (some ⟨sb, 0, none⟩)] w fun e w' => e = .returned (.int .i64 (hasA vs s)) ∧ Ext w w' := by
  obtain ⟨gs, mo, mh, H, K, h⟩ := hI
  obtain ⟨kv, q1, q2, q3, q4, q5, q6, q7⟩ := h.strs.at_ j s sb hs hb
  cases hv : s.v with
  | none =>
    have e : hasA vs s = 3 := by simp [hasA, hv]
    rw [hv] at q1
    rw [e]
    exact has_none w sb s.st s.m kv s.fr s.to s.at_ q1
  | some i =>
    obtain ⟨v, g, hvi, hgi, hok, hp⟩ := h.verOf (q6 i hv) hv
    have e : hasA vs s = hasZ s.to s.at_ v.bytes.length (v.m.len == -1) v.went := by simp [hasA, hv, hvi]
    obtain ⟨A, c, hbv⟩ := hok.bvs
    have hblk := hok.blk
    rw [hbv] at hblk
    rw [hp] at q1
    rw [e]
    exact has_some w sb g.b s.st s.m { v.m with hav := g.h } kv g.kv A v.bytes.length c v.went s.fr s.to s.at_ q1 hblk (by have := hok.len; omega)
theorem head_o (hI : OI w b B N own vs ss sa) {j : Nat} {s : Sn} {sb : Nat} (hs : ss[j]? = some s) (hb : sa[j]? = some sb) : Calls Try.prog 16 #[.pointer (some ⟨sb, 0, none⟩)] w fun e w' => ∃ kv', e = .returned (.agg (replyC s.st s.m kv' s.fr s.to).toArray) ∧ SRow w' w.heap.size kv' s.m.keys ∧ Ext w w' := by
  obtain ⟨gs, mo, mh, H, K, h⟩ := hI
  obtain ⟨kv, q1, q2, q3, q4, q5, q6, q7⟩ := h.strs.at_ j s sb hs hb
  exact head_any w sb _ s.st s.m kv s.fr s.to s.at_ q1 q2.texts q5
theorem SnAt (hI : OI w b B N own vs ss sa) {j : Nat} {s : Sn} (hs : ss[j]? = some s) : ∃ sb, sa[j]? = some sb ∧ 0 ≤ s.at_ ∧ s.at_ ≤ 4611686018427387904 ∧ 0 ≤ s.to ∧ s.to ≤ 4611686018427387904 ∧ MetaZ s.m := by
  obtain ⟨gs, mo, mh, H, K, h⟩ := hI
  have hj : j < sa.length := by rw [h.strs.len]; exact (List.getElem?_eq_some_iff.1 hs).1
  obtain ⟨kv, q1, q2, q3, q4, q5, q6, q7⟩ := h.strs.at_ j s sa[j] hs (by simp [hj])
  exact ⟨sa[j], by simp [hj], q7.1, q7.2.1, q7.2.2.1, q7.2.2.2, q5⟩
theorem VnAt (hI : OI w b B N own vs ss sa) {v : Vn} (hv : v ∈ vs) : MetaZ v.m ∧ v.bytes.length ≤ 100000 ∧ v.obj.length ≤ 1000 := by
  obtain ⟨gs, mo, mh, H, K, h⟩ := hI
  obtain ⟨i, hi⟩ := List.mem_iff_getElem?.1 hv
  obtain ⟨g, hg, hok⟩ := h.vers.get hi
  exact ⟨hok.z, hok.len, h.objs v hv⟩
theorem take_o (hI : OI w b B N own vs ss sa) {j : Nat} {s : Sn} {sb : Nat} (hs : ss[j]? = some s) (hb : sa[j]? = some sb) (k : Int) : Calls Try.prog 18 #[.pointer (some ⟨sb, 0, none⟩), .int .i64 k] w fun e w' => ∃ v, e = .returned (.tuple #[v, .int .i64 (hasA vs (movS vs s k))]) ∧ BRow w' w.heap.size v (takeB vs s k) ∧ OI w' b B N own vs (ss.set j (movS vs s k)) sa ∧ ExtP own w w' := by
  obtain ⟨gs, mo, mh, H, K, h⟩ := hI
  have hstr := h.strs.at_ j s sb hs hb
  obtain ⟨kv, q1, q2, q3, q4, q5, q6, q7⟩ := hstr
  have same : ∀ {t : Sn} {W : World}, t = s → Ext w W → OI W b B N own vs (ss.set j t) sa := fun {t W} e x => by
    subst e
    have : ss.set j t = ss := by
      apply List.ext_getElem?; intro i
      by_cases hij : i = j
      · subst hij; rw [List.getElem?_set_self (List.getElem?_eq_some_iff.1 hs).1, hs]
      · rw [List.getElem?_set_ne (Ne.symm hij)]
    rw [this]
    exact (show OI w b B N own vs ss sa from ⟨gs, mo, mh, H, K, h⟩).ext x
  cases hv : s.v with
  | none =>
    have e1 : takeB vs s k = [] := by simp [takeB, hv]
    have e2 : movS vs s k = s := by simp [movS, e1]
    have e3 : hasA vs s = 3 := by simp [hasA, hv]
    rw [e1, e2, e3]
    rw [hv] at q1
    refine (take_none w sb s.st s.m kv s.fr s.to s.at_ k q1).mono ?_
    rintro e w' ⟨rfl, x⟩
    exact ⟨_, rfl, World.ownsRow_nil _ _ _ _, same rfl x, .of x⟩
  | some i =>
    obtain ⟨v, g, hvi, hgi, hok, hp⟩ := h.verOf (q6 i hv) hv
    have hl := hok.len
    obtain ⟨A, c, hbv⟩ := hok.bvs
    have hblk := hok.blk
    rw [hbv] at hblk
    rw [hp] at q1
    have eh : ∀ t : Sn, t.v = s.v → hasA vs t = hasZ t.to t.at_ v.bytes.length (v.m.len == -1) v.went := fun t ht => by simp [hasA, ht, hv, hvi]
    by_cases hk : takeN s.to s.at_ k v.bytes.length < 1
    · have e1 : takeB vs s k = [] := by
        simp only [takeB, hv, hvi]
        rw [show (takeN s.to s.at_ k v.bytes.length).toNat = 0 by omega]; rfl
      have e2 : movS vs s k = s := by simp [movS, e1]
      rw [e1, e2, eh s rfl]
      refine (take_low w sb g.b s.st s.m { v.m with hav := g.h } kv g.kv A v.bytes.length c v.went s.fr s.to s.at_ k q1 hblk (by omega) q7.1 q7.2.1 q7.2.2.1 q7.2.2.2 hk).mono ?_
      rintro e w' ⟨rfl, x⟩
      exact ⟨_, rfl, World.ownsRow_nil _ _ _ _, same rfl x, .of x⟩
    · obtain ⟨kk, hkk⟩ : ∃ kk : Nat, takeN s.to s.at_ k v.bytes.length = kk := ⟨(takeN s.to s.at_ k v.bytes.length).toNat, by omega⟩
      obtain ⟨at_, hat⟩ : ∃ a : Nat, s.at_ = a := ⟨s.at_.toNat, by have := q7.1; omega⟩
      have hak : at_ + kk ≤ v.bytes.length := by unfold takeN at hkk; omega
      have e1 : takeB vs s k = (v.bytes.drop at_).take kk := by
        simp only [takeB, hv, hvi]
        rw [hkk, hat]; rfl
      have e2 : (takeB vs s k).length = kk := by rw [e1]; simp; omega
      have e3 : (movS vs s k).at_ = (at_ : Int) + kk := by simp [movS, e2, hat]
      have e4 : hasA vs (movS vs s k) = hasZ s.to ((at_ : Int) + kk) v.bytes.length (v.m.len == -1) v.went := by rw [eh (movS vs s k) rfl, e3]; rfl
      have hrow := hok.row
      rw [hbv] at hrow
      obtain ⟨g0, rfl⟩ : ∃ g0, A = some ⟨g0, 0, none⟩ := by
        rcases hrow.2 with ⟨e, h0⟩ | ⟨g0, cap, cur, e, _⟩
        · omega
        · cases e; exact ⟨g0, rfl⟩
      have ksb : kindOf w sb = 94 := kind_cells q1
      have n1 : sb ≠ g.b := fun e => by rw [e, hok.kb] at ksb; cases ksb
      have n2 : sb ≠ g0 := fun e => by rw [e, kind_row hrow rfl] at ksb; cases ksb
      rw [hat] at q1
      rw [e4, e1]
      refine (take_some w sb g.b g0 B s.st s.m { v.m with hav := g.h } kv g.kv c v.bytes v.went s.fr s.to k at_ kk q1 hblk hrow (by omega) q7.2.2.1 q7.2.2.2 (by rw [← hat]; exact hkk) (by omega) n1 n2).mono ?_
      rintro e w' ⟨rv, rfl, r1, r2, r3⟩
      refine ⟨rv, rfl, r1, ⟨gs, mo, mh, H, K, h.setS hs hb r3 ?_⟩, .ofB r3 (fun x hx => .inl (by rw [show x = sb by simpa using hx]; exact q3))⟩
      refine ⟨kv, ?_, own_keep q2 fun x e => r3.block x (q2.lt x e).2 (fun hh => by rw [← show x = sb by simpa using hh, kind_row q2 e] at ksb; cases ksb), q3, q4, q5, q6, ?_, ?_, q7.2.2⟩
      · rw [e3, show (movS vs s k).v = s.v from rfl, hp]; exact r2
      · rw [e3]; omega
      · rw [e3]; omega
/-- Lengths are told, or are the bytes'. -/
def Wf (vs : List Vn) : Prop := ∀ v ∈ vs, v.m.len = -1 ∨ v.m.len = v.bytes.length
theorem askV_v (i : Nat) (v : Vn) (f : Ft) : (askV i v f).v = none ∨ (askV i v f).v = some i := by
  unfold askV
  repeat' split
  all_goals first | exact .inl rfl | exact .inr rfl
theorem askV_m (i : Nat) (v : Vn) (f : Ft) : (askV i v f).m = nowM v := by
  unfold askV
  repeat' split
  all_goals rfl
theorem askV_at (i : Nat) (v : Vn) (f : Ft) (hf : 0 ≤ f.fr) (hft : f.fr ≤ f.to) (ht : f.to ≤ 4611686018427387904) (hl : v.bytes.length ≤ 100000) (hw : v.m.len = -1 ∨ v.m.len = v.bytes.length) : 0 ≤ (askV i v f).at_ ∧ (askV i v f).at_ ≤ 4611686018427387904 ∧ 0 ≤ (askV i v f).to ∧ (askV i v f).to ≤ 4611686018427387904 := by
  have h200 : 0 ≤ (if (v.m.len == -1) = true then (4611686018427387904 : Int) else v.m.len) ∧ (if (v.m.len == -1) = true then (4611686018427387904 : Int) else v.m.len) ≤ 4611686018427387904 := by
    split
    · omega
    · rename_i h; simp at h; omega
  have h206 : 0 ≤ (if (v.m.len == -1) = false ∨ f.to ≠ 4611686018427387904 then min f.to v.bytes.length else f.to) ∧ (if (v.m.len == -1) = false ∨ f.to ≠ 4611686018427387904 then min f.to v.bytes.length else f.to) ≤ 4611686018427387904 := by
    split <;> omega
  unfold askV
  obtain ⟨t2, ht2⟩ : ∃ t, t = (if (v.m.len == -1) = true then (4611686018427387904 : Int) else v.m.len) := ⟨_, rfl⟩
  obtain ⟨t6, ht6⟩ : ∃ t, t = (if (v.m.len == -1) = false ∨ f.to ≠ 4611686018427387904 then min f.to v.bytes.length else f.to) := ⟨_, rfl⟩
  rw [← ht2] at h200 ⊢
  rw [← ht6] at h206 ⊢
  clear ht2 ht6 hw
  repeat' split
  all_goals refine ⟨?_, ?_, ?_, ?_⟩ <;> dsimp only <;> omega
theorem ftB_parts {f : Ft} (h : ftB f = true) : 0 ≤ f.fr ∧ f.fr < f.to ∧ f.to ≤ 4611686018427387904 ∧ (f.mt = [] → f.mw = false) := by
  unfold ftB spanB at h
  simp only [Bool.and_eq_true, decide_eq_true_eq, Bool.not_eq_true', beq_eq_false_iff_ne] at h
  obtain ⟨⟨⟨⟨h1, ⟨h2, h3⟩, h4⟩, h5⟩, h6⟩, h7⟩ := h
  refine ⟨h2, by omega, h4, fun e => ?_⟩
  unfold askB at h6
  rw [e] at h6
  cases hm : f.mw
  · rfl
  · rw [hm] at h6; simp [tagB] at h6
theorem ask_v (h : OIx w b B N own vs ss sa gs mo mh H K) (f : Ft) (hz : FtZ f) (hb : ftB f = true) {i : Nat} {v : Vn} {g : Vg} (hn : nowI vs f.obj = some i) (hv : vs[i]? = some v) (hg : gs[i]? = some g) : Calls Try.prog 15 #[.pointer (some ⟨b, 0, none⟩), .agg (ftC f)] w (AskR w g.b v (askV i v f)) := by
  obtain ⟨p1, p2, p3, p4⟩ := ftB_parts hb
  obtain ⟨obj, fr, to, mt, mw, nt, nw⟩ := f
  simp only at p1 p2 p3 p4 hn
  cases mt with
  | nil =>
    obtain rfl := p4 rfl
    by_cases h0 : fr = 0
    · subst h0
      by_cases ht : to = 4611686018427387904
      · subst ht; exact ask_v1n h obj nt nw hz hb hn hv hg
      · exact ask_v2n h obj to nt nw ht hz hb hn hv hg
    · exact ask_v3n h obj fr to nt nw (by omega) hz hb hn hv hg
  | cons c0 t0 =>
    by_cases h0 : fr = 0
    · subst h0
      by_cases ht : to = 4611686018427387904
      · subst ht; exact ask_v1c h obj c0 t0 mw nt nw hz hb hn hv hg
      · exact ask_v2c h obj to c0 t0 mw nt nw ht hz hb hn hv hg
    · exact ask_v3c h obj fr to c0 t0 mw nt nw (by omega) hz hb hn hv hg
theorem ask_yes (hI : OI w b B N own vs ss sa) (hw : Wf vs) (f : Ft) (hz : FtZ f) (hb : ftB f = true) : Calls Try.prog 15 #[.pointer (some ⟨b, 0, none⟩), .agg (ftC f)] w fun e w' => ∃ sb, e = .returned (.tuple #[.pointer (some ⟨sb, 0, none⟩), .int .i64 0]) ∧ OI w' b B N (grownOwn own w w') vs (ss ++ [askS vs f]) (sa ++ [sb]) ∧ w.heap.size ≤ sb ∧ Ext w w' := by
  obtain ⟨gs, mo, mh, H, K, h⟩ := hI
  obtain ⟨p1, p2, p3, p4⟩ := ftB_parts hb
  cases hn : nowI vs f.obj with
  | none =>
    refine (ask_404 h f hz hb hn).mono ?_
    rintro e w' ⟨sb, rfl, h1, h2, x⟩
    have e0 : askS vs f = ⟨404, zeroM, 0, 0, 0, none⟩ := by simp [askS, hn]
    rw [e0]
    refine ⟨sb, rfl, ⟨gs, mo, mh, H, K, h.addS x ⟨.slice none 0 0, h1, World.ownsRow_nil _ _ _ _, .inr ⟨h2, blk_lt h1⟩, fun x e => (by cases e), ⟨by simp [zeroM], by simp [zeroM], by simp [zeroM], by simp [zeroM]⟩, fun i e => (by cases e), by simp, by simp, by simp, by simp⟩ h2⟩, h2, x⟩
  | some i =>
    obtain ⟨v, hv, _, _⟩ := nowI_some hn
    obtain ⟨g, hg, hok⟩ := h.vers.get hv
    refine (ask_v h f hz hb hn hv hg).mono ?_
    rintro e w' ⟨sb, kv, rfl, h1, h2, h3, x⟩
    have e0 : askS vs f = askV i v f := by simp [askS, hn, hv]
    rw [e0]
    have hi : i < (gs.map (·.b)).length := by simpa using (List.getElem?_eq_some_iff.1 hg).1
    refine ⟨sb, rfl, ⟨gs, mo, mh, H, K, h.addS x ⟨kv, ?_, ?_, .inr ⟨h3, blk_lt h1⟩, fun y e => ?_, ?_, fun i' e => ?_, askV_at i v f p1 (by omega) p3 hok.len (hw v (List.mem_of_getElem? hv))⟩ h3⟩, h3, x⟩
    · have e1 : verP (gs.map (·.b)) (askV i v f).v = if (askV i v f).v.isSome = true then some ⟨g.b, 0, none⟩ else none := by
        rcases askV_v i v f with e | e <;> rw [e]
        · rfl
        · simp [verP, hg]
      rw [e1]; exact h1
    · rw [askV_m]; exact ownsRow_base h2 h.lowB
    · exact .inr ⟨(h2.lt y e).1, (h2.lt y e).2⟩
    · rw [askV_m]; exact ⟨hok.z.tt, hok.z.keys, hok.z.key, hok.z.ten⟩
    · rcases askV_v i v f with e1 | e1
      · rw [e1] at e; cases e
      · rw [e1] at e; obtain rfl := Option.some.inj e; exact hi
end
end Go.Proofs.Ytpangoddbfiagaa
