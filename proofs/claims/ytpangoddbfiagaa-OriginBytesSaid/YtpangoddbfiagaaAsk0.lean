/- Ask: its checks, and what a new stream leaves of the state. -/
import Derived.Test.YtpangoddbfiagaaGrow
namespace Go.Proofs.Ytpangoddbfiagaa
open Go.RowKit Go.Maps Go.ChangeMaps
set_option linter.unusedVariables false
set_option linter.unusedSimpArgs false

def askB (t : Bs) (b : Bool) : Bool := (t == [] && !b) || tagB t
set_option maxRecDepth 100000 in
theorem asks_any (t : Bs) (b : Bool) (w : World) (ht : t.length ≤ 1000000) : Calls Try.prog 38 #[tagV t b] w fun e w' => e = .returned (.bool (askB t b)) ∧ Ext w w' := by
  have HT := Lib.hid fun W => tag_any t W b ht
  unfold tagV
  obtain ⟨x, hx⟩ : ∃ x, x = askB t b := ⟨_, rfl⟩
  rw [← hx]
  have HX := Lib.hid hx
  clear hx
  cases t with
  | nil =>
    cases b with
    | false =>
      go_enter Try.func38, Try.ntmps38
      go_wp2
      go_ret
      exact ⟨ret_bool (by rw [HX.out]; rfl), ext_alloc1 _ _⟩
    | true =>
      go_enter Try.func38, Try.ntmps38
      go_wp2_with (go_at_call 39; refine (HT.out _).mono ?_; rintro e w1 ⟨rfl, x1⟩; refine stop_of ?_)
      unfold Stop
      have X1 := Lib.hid ((ext_alloc1 w _).trans x1)
      clear x1
      go_wp2
      go_ret
      exact ⟨ret_bool (by rw [HX.out]; simp [askB]), X1.out⟩
  | cons c0 t0 =>
    obtain ⟨yt, hyt⟩ : ∃ y, y = tagB (c0 :: t0) := ⟨_, rfl⟩
    rw [← hyt] at HT
    have YT := Lib.hid hyt
    clear hyt
    go_enter Try.func38, Try.ntmps38
    go_wp2_with (go_at_call 39; refine (HT.out _).mono ?_; rintro e w1 ⟨rfl, x1⟩; refine stop_of ?_)
    unfold Stop
    have X1 := Lib.hid ((ext_alloc1 w _).trans x1)
    clear x1
    go_wp2
    go_ret
    exact ⟨ret_bool (by rw [HX.out, YT.out]; simp [askB]), X1.out⟩
/-- What is fetched. -/
structure Ft where
  obj : Bs
  fr : Int
  to : Int
  mt : Bs
  mw : Bool
  nt : Bs
  nw : Bool
def ftC (f : Ft) : Array Value := #[.string ⟨f.obj.toArray⟩, .int .i64 f.fr, .int .i64 f.to, .string ⟨f.mt.toArray⟩, .bool f.mw, .string ⟨f.nt.toArray⟩, .bool f.nw]
structure FtZ (f : Ft) : Prop where
  obj : f.obj.length ≤ 1000
  mt : f.mt.length ≤ 1000
  nt : f.nt.length ≤ 1000
def ftB (f : Ft) : Bool := objB f.obj && spanB f.fr f.to && !(f.fr == f.to) && askB f.mt f.mw && askB f.nt f.nw
/-- The stream of a fetch. -/
def askV (i : Nat) (v : Vn) (f : Ft) : Sn :=
  if strongB f.nt f.nw v.m.tt v.m.tw = true then ⟨304, nowM v, 0, 0, 0, none⟩
  else if (!(f.mt == [] && !f.mw) && !strongB f.mt f.mw v.m.tt v.m.tw) = true then ⟨412, nowM v, 0, 0, 0, none⟩
  else if 0 < f.fr ∧ (v.bytes.length : Int) ≤ f.fr then ⟨416, nowM v, 0, 0, 0, none⟩
  else if f.fr = 0 ∧ (f.to = 4611686018427387904 ∨ v.bytes.length = 0) then ⟨200, nowM v, 0, if (v.m.len == -1) = true then 4611686018427387904 else v.m.len, 0, some i⟩
  else ⟨206, nowM v, f.fr, if (v.m.len == -1) = false ∨ f.to ≠ 4611686018427387904 then min f.to v.bytes.length else f.to, f.fr, some i⟩
def askS (vs : List Vn) (f : Ft) : Sn := match nowI vs f.obj with
  | none => ⟨404, zeroM, 0, 0, 0, none⟩
  | some i => match vs[i]? with
    | none => ⟨404, zeroM, 0, 0, 0, none⟩
    | some v => askV i v f
section
variable {w w' : World} {b B N : Nat} {own own' : Nat → Prop} {vs : List Vn} {ss : List Sn} {sa va : List Nat} {gs : List Vg} {mo mh : Option Nat} {H : Bs → Option Nat} {K : Bs → Bs → Option Bool}
/-- A stream more. -/
theorem OIx.addS (h : OIx w b B N own vs ss sa gs mo mh H K) (hx : Ext w w') {s : Sn} {sb : Nat} (hs : StrOk w' B (grownOwn own w w') (gs.map (·.b)) s sb) (hsb : w.heap.size ≤ sb) : OIx w' b B N (grownOwn own w w') vs (ss ++ [s]) (sa ++ [sb]) gs mo mh H K := by
  have hlt : ∀ i, grownOwn own w w' i → i < w'.heap.size := fun i hi => by
    rcases hi with hi | hi
    · exact Nat.lt_of_lt_of_le (h.lt i hi) hx.size
    · exact hi.2
  have hlow : ∀ i, grownOwn own w w' i → B ≤ i := fun i hi => by
    rcases hi with hi | hi
    · exact h.low i hi
    · exact Nat.le_trans h.lowB hi.1
  have h' := h.keep (own' := grownOwn own w w') (w' := w') (fun i hi => hx.block i (h.lt i hi)) hx.size (fun _ hi => .inl hi) hlt hlow
  have hsl := h.strs.len
  refine ⟨h'.blk, h'.ob, h'.vers, ⟨by simp [hsl], fun j u c hu hc => ?_, fun i j c hi hj => ?_⟩, h'.maps, h'.one, hlt, hlow, h'.lowB, h'.objs⟩
  · by_cases hj : j < ss.length
    · rw [List.getElem?_append_left hj] at hu
      rw [List.getElem?_append_left (by omega)] at hc
      exact h'.strs.at_ j u c hu hc
    · have hj1 : j = ss.length := by
        have := (List.getElem?_eq_some_iff.1 hu).1
        simp at this; omega
      subst hj1
      rw [List.getElem?_append_right (Nat.le_refl _)] at hu
      rw [List.getElem?_append_right (by omega)] at hc
      simp at hu
      rw [hsl] at hc
      simp at hc
      subst hu; subst hc
      exact hs
  · have lowj : ∀ (i : Nat), sa[i]? = some c → c < w.heap.size := fun i hi => by
      have hi' : i < ss.length := by rw [← hsl]; exact (List.getElem?_eq_some_iff.1 hi).1
      obtain ⟨kv, h1, _⟩ := h.strs.at_ i ss[i] c (by simp [hi']) hi
      exact blk_lt h1
    have get : ∀ (i : Nat), (sa ++ [sb])[i]? = some c → sa[i]? = some c ∨ (i = sa.length ∧ c = sb) := fun i hi => by
      by_cases hi' : i < sa.length
      · rw [List.getElem?_append_left hi'] at hi; exact .inl hi
      · have := (List.getElem?_eq_some_iff.1 hi).1
        simp at this
        have e : i = sa.length := by omega
        subst e
        simp at hi
        exact .inr ⟨rfl, hi.symm⟩
    rcases get i hi with h1 | ⟨e1, e2⟩ <;> rcases get j hj with h2 | ⟨e3, e4⟩
    · exact h.strs.nd i j c h1 h2
    · have := lowj i h1; omega
    · have := lowj j h2; omega
    · omega
end
end Go.Proofs.Ytpangoddbfiagaa
