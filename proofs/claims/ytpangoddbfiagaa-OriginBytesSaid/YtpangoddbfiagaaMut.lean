/- What writes leave of the state. -/
import Derived.Test.YtpangoddbfiagaaMeth
namespace Go.Proofs.Ytpangoddbfiagaa
open Go.RowKit Go.Maps Go.ChangeMaps
set_option linter.unusedVariables false
set_option linter.unusedSimpArgs false

/-- The kind of a block: the type of its cells, or a map. -/
def kindOf (w : World) (g : Nat) : Nat := match w.heap[g]? with
  | some (.cells _ t _) => t
  | some (.map _ _) => 1000
  | _ => 2000
theorem kind_cells {w : World} {g : Nat} {cs : Array Value} {t : TypeId} {z : Nat × Nat} (h : w.heap[g]? = some (.cells cs t z)) : kindOf w g = t := by simp [kindOf, h]
theorem kind_map {w : World} {g : Nat} {es : Array MapEntry} {c : Nat} (h : w.heap[g]? = some (.map es c)) : kindOf w g = 1000 := by simp [kindOf, h]
theorem kind_row {w : World} {base : Nat} {e : TypeId} {size : Nat} {v : Value} {n : Nat} {xs : List Value} (h : w.ownsRow base e size v n xs) {x : Nat} (hx : v.ownBlock = some x) : kindOf w x = e := by
  rcases h.2 with ⟨rfl, _⟩ | ⟨g, cap, cur, rfl, hb, hgg, r⟩
  · cases hx
  · cases hx; exact kind_cells hgg
section
variable {w w' : World} {b B N : Nat} {own own' : Nat → Prop} {vs : List Vn} {ss : List Sn} {sa va : List Nat} {gs : List Vg} {mo mh : Option Nat} {H : Bs → Option Nat} {K : Bs → Bs → Option Bool} {X : List Nat}
theorem VerOk.extX {v : Vn} {g : Vg} (h : VerOk w B own v g) (hx : ExtB X w w') (h1 : g.b ∉ X) (h2 : ∀ x, g.kv.ownBlock = some x → x ∉ X) (h3 : ∀ x, g.bv.ownBlock = some x → x ∉ X) (ho : ∀ i, own i → own' i) : VerOk w' B own' v g :=
  ⟨hx.heap h.blk h1, own_keep h.keys fun x e => hx.block x (h.keys.lt x e).2 (h2 x e), own_keep h.row fun x e => hx.block x (h.row.lt x e).2 (h3 x e), ho _ h.ob, fun x e => ho x (h.ok x e), fun x e => ho x (h.obv x e), h.z, h.len⟩
theorem VerOk.kb {v : Vn} {g : Vg} (h : VerOk w B own v g) : kindOf w g.b = 90 := kind_cells h.blk
theorem VerOk.kk {v : Vn} {g : Vg} (h : VerOk w B own v g) {x : Nat} (e : g.kv.ownBlock = some x) : kindOf w x = 9 := kind_row h.keys e
theorem VerOk.kbv {v : Vn} {g : Vg} (h : VerOk w B own v g) {x : Nat} (e : g.bv.ownBlock = some x) : kindOf w x = 5 := kind_row h.row e
theorem VsAt.extK (h : VsAt w B own vs gs) (hx : ExtB X w w') (hX : ∀ g ∈ X, kindOf w g ≠ 90 ∧ kindOf w g ≠ 9 ∧ kindOf w g ≠ 5) (ho : ∀ i, own i → own' i) : VsAt w' B own' vs gs :=
  ⟨h.len, fun i v g hv hg => by
    have q := h.at_ i v g hv hg
    exact q.extX hx (fun hh => (hX _ hh).1 q.kb) (fun x e hh => (hX _ hh).2.1 (q.kk e)) (fun x e hh => (hX _ hh).2.2 (q.kbv e)) ho, h.nd, h.bnd⟩
theorem SsAt.extK (h : SsAt w B own va ss sa) (hx : ExtB X w w') (hX : ∀ g ∈ X, kindOf w g ≠ 94 ∧ kindOf w g ≠ 9) (ho : ∀ i, own i → own' i) : SsAt w' B own' va ss sa :=
  ⟨h.len, fun j s b hs hb => by
    obtain ⟨kv, h1, h2, h3, h4, h5⟩ := h.at_ j s b hs hb
    exact ⟨kv, hx.heap h1 (fun hh => (hX _ hh).1 (kind_cells h1)), own_keep h2 fun x e => hx.block x (h2.lt x e).2 (fun hh => (hX _ hh).2 (kind_row h2 e)), ho _ h3, fun x e => ho x (h4 x e), h5⟩, h.nd⟩
theorem MpAt.extK (h : MpAt w N own vs va mo mh H K) (hx : ExtB X w w') (hX : ∀ g ∈ X, kindOf w g ≠ 1000) (ho : ∀ i, own i → own' i) : MpAt w' N own' vs va mo mh H K := by
  have key : ∀ (m : Nat) (es : Array MapEntry) (cl : Nat), w.heap[m]? = some (.map es cl) → w'.heap[m]? = w.heap[m]? := fun m es cl e => hx.block m (blk_lt e) (fun hh => hX _ hh (kind_map e))
  refine ⟨?_, ?_, fun o g e => ?_, h.tie, h.hinj, fun m e => ho m (h.omo m e), fun m e => ho m (h.omh m e), fun o g e => ho g (h.oin o g e), h.d1, h.d2⟩
  · refine h.obs.same fun m e => ?_
    subst e
    obtain ⟨es, cl, e⟩ := h.obs.lt
    exact key m es cl e
  · refine h.had.same fun m e => ?_
    subst e
    obtain ⟨es, cl, e⟩ := h.had.lt
    exact key m es cl e
  · obtain ⟨es, cl, e1⟩ := (h.inn o g e).at_
    exact (h.inn o g e).same (key g es cl e1)
/-- One version turns. -/
theorem VsAt.set (h : VsAt w B own vs gs) {i : Nat} {v v' : Vn} {g g' : Vg} (hv : vs[i]? = some v) (hg : gs[i]? = some g) (hb : g'.b = g.b) (hok : VerOk w' B own' v' g') (hx : ExtB X w w') (hX : ∀ x ∈ X, x = g.b ∨ g.bv.ownBlock = some x) (hbv : ∀ x, g'.bv.ownBlock = some x → g.bv.ownBlock = some x ∨ w.heap.size ≤ x) (ho : ∀ i, own i → own' i) : VsAt w' B own' (vs.set i v') (gs.set i g') := by
  have hi : i < vs.length := (List.getElem?_eq_some_iff.1 hv).1
  have hi' : i < gs.length := (List.getElem?_eq_some_iff.1 hg).1
  have q := h.at_ i v g hv hg
  have get : ∀ (j : Nat) (y : Vg), (gs.set i g')[j]? = some y → (j = i ∧ y = g') ∨ (j ≠ i ∧ gs[j]? = some y) := fun j y e => by
    by_cases hj : j = i
    · subst hj; rw [List.getElem?_set_self hi'] at e; exact .inl ⟨rfl, (Option.some.inj e).symm⟩
    · rw [List.getElem?_set_ne (Ne.symm hj)] at e; exact .inr ⟨hj, e⟩
  have vget : ∀ (j : Nat), j < gs.length → ∃ u, vs[j]? = some u := fun j hj => ⟨vs[j]'(by rw [← h.len]; exact hj), by simp [← h.len, hj]⟩
  refine ⟨by simp [h.len], fun j u y hu hy => ?_, fun j k y y' hy hy' e => ?_, fun j k y y' x hy hy' e e' => ?_⟩
  · rcases get j y hy with ⟨rfl, rfl⟩ | ⟨hj, hy⟩
    · rw [List.getElem?_set_self hi] at hu
      cases hu; exact hok
    · rw [List.getElem?_set_ne (Ne.symm hj)] at hu
      have p := h.at_ j u y hu hy
      refine p.extX hx (fun hh => ?_) (fun x e hh => ?_) (fun x e hh => ?_) ho
      · rcases hX _ hh with h1 | h1
        · exact hj (h.nd j i y g hy hg h1)
        · have := p.kb; rw [q.kbv h1] at this; cases this
      · rcases hX _ hh with h1 | h1
        · subst h1; have := p.kk e; rw [q.kb] at this; cases this
        · have := p.kk e; rw [q.kbv h1] at this; cases this
      · rcases hX _ hh with h1 | h1
        · subst h1; have := p.kbv e; rw [q.kb] at this; cases this
        · exact hj (h.bnd j i y g x hy hg e h1)
  · rcases get j y hy with ⟨e1, e2⟩ | ⟨hj, h1⟩ <;> rcases get k y' hy' with ⟨e3, e4⟩ | ⟨hk, h2⟩
    · rw [e1, e3]
    · rw [e1]; rw [e2] at e; exact h.nd _ _ _ _ hg h2 (hb.symm.trans e)
    · rw [e3]; rw [e4] at e; exact h.nd _ _ _ _ h1 hg (e.trans hb)
    · exact h.nd _ _ _ _ h1 h2 e
  · have low : ∀ (k : Nat) (y : Vg), gs[k]? = some y → y.bv.ownBlock = some x → x < w.heap.size := fun k y hy e => by
      obtain ⟨u, hu⟩ := vget k (List.getElem?_eq_some_iff.1 hy).1
      exact ((h.at_ k u y hu hy).row.lt x e).2
    rcases get j y hy with ⟨e1, e2⟩ | ⟨hj, h1⟩ <;> rcases get k y' hy' with ⟨e3, e4⟩ | ⟨hk, h2⟩
    · rw [e1, e3]
    · rw [e2] at e
      rcases hbv x e with h3 | h3
      · rw [e1]; exact h.bnd _ _ _ _ x hg h2 h3 e'
      · have := low k y' h2 e'; omega
    · rw [e4] at e'
      rcases hbv x e' with h3 | h3
      · rw [e3]; exact h.bnd _ _ _ _ x h1 hg e h3
      · have := low j y h1 e; omega
    · exact h.bnd _ _ _ _ x h1 h2 e e'
theorem map_set_same {α β : Type} {l : List α} {f : α → β} {i : Nat} {x y : α} (hx : l[i]? = some x) (hf : f y = f x) : (l.set i y).map f = l.map f := by
  rw [List.map_set, hf]
  apply List.ext_getElem?
  intro j
  by_cases hj : j = i
  · subst hj
    have hi : j < l.length := (List.getElem?_eq_some_iff.1 hx).1
    rw [List.getElem?_set_self (by simpa using hi)]
    simp [hx]
  · rw [List.getElem?_set_ne (Ne.symm hj)]
def viewN (v : Vn) : Bs × Bool := (v.obj, v.went)
def viewT (v : Vn) : Bs × Bs × Bool := (v.obj, v.m.tt, v.m.tw)
theorem nowI_view {vs vs' : List Vn} (h : vs.map viewN = vs'.map viewN) (o : Bs) : nowI vs o = nowI vs' o := by
  have e : ∀ l : List Vn, nowI l o = (l.map viewN).findIdx? (fun p => p.1 == o && !p.2) := fun l => by
    rw [List.findIdx?_map]; rfl
  rw [e, e, h]
theorem hadA_view {vs vs' : List Vn} (h : vs.map viewT = vs'.map viewT) (o t : Bs) : hadA vs o t = hadA vs' o t := by
  have e : ∀ (l : List Vn), hadA l o t = if (l.map viewT).any (fun p => p.1 == o && !(p.2.1 == [] && !p.2.2) && p.2.1 == t) = true then some ((l.map viewT).any fun p => p.1 == o && !(p.2.1 == [] && !p.2.2) && p.2.1 == t && !p.2.2) else none := fun l => by
    rw [List.any_map, List.any_map]; rfl
  rw [e, e, h]
theorem One.view {vs vs' : List Vn} (h1 : One vs) (h : vs.map viewN = vs'.map viewN) : One vs' := by
  have key : ∀ (i : Nat) (v : Vn), vs'[i]? = some v → ∃ u, vs[i]? = some u ∧ u.obj = v.obj ∧ u.went = v.went := fun i v hv => by
    have e : (vs'.map viewN)[i]? = some (viewN v) := by simp [hv]
    rw [← h, List.getElem?_map] at e
    cases hu : vs[i]? with
    | none => rw [hu] at e; cases e
    | some u =>
      rw [hu] at e
      have e' : viewN u = viewN v := by simpa using e
      exact ⟨u, rfl, congrArg Prod.fst e', congrArg Prod.snd e'⟩
  intro i j v v' hv hv' hw hw' ho
  obtain ⟨u, hu, e1, e2⟩ := key i v hv
  obtain ⟨u', hu', e3, e4⟩ := key j v' hv'
  exact h1 i j u u' hu hu' (e2.trans hw) (e4.trans hw') (e1.trans (ho.trans e3.symm))
theorem MpAt.view {vs' : List Vn} (h : MpAt w N own vs va mo mh H K) (h1 : vs.map viewN = vs'.map viewN) (h2 : vs.map viewT = vs'.map viewT) : MpAt w N own vs' va mo mh H K := by
  refine ⟨?_, h.had, h.inn, fun o t => by rw [← hadA_view h2]; exact h.tie o t, h.hinj, h.omo, h.omh, h.oin, h.d1, h.d2⟩
  have : (fun o => (nowI vs' o).bind (va[·]?)) = (fun o => (nowI vs o).bind (va[·]?)) := by funext o; rw [nowI_view h1]
  rw [this]; exact h.obs
/-- A version turns, and stays what it is to the maps. -/
theorem OIx.setV (h : OIx w b B N own vs ss sa gs mo mh H K) {i : Nat} {v v' : Vn} {g g' : Vg} (hv : vs[i]? = some v) (hg : gs[i]? = some g) (hb : g'.b = g.b) (hok : VerOk w' B own' v' g') (hx : ExtB X w w') (hX : ∀ x ∈ X, x = g.b ∨ g.bv.ownBlock = some x) (hbv : ∀ x, g'.bv.ownBlock = some x → g.bv.ownBlock = some x ∨ w.heap.size ≤ x) (ho : ∀ i, own i → own' i)
    (hlt : ∀ i, own' i → i < w'.heap.size) (hlow : ∀ i, own' i → B ≤ i) (hobj : v'.obj = v.obj) (hwent : v'.went = v.went) (htt : v'.m.tt = v.m.tt) (htw : v'.m.tw = v.m.tw) : OIx w' b B N own' (vs.set i v') ss sa (gs.set i g') mo mh H K := by
  have q := h.vers.at_ i v g hv hg
  have hne : ∀ x ∈ X, ∀ t, t ≠ 90 → t ≠ 5 → kindOf w x ≠ t := fun x hx t h1 h2 e => by
    rcases hX x hx with h3 | h3
    · subst h3; exact h1 (e.symm.trans q.kb)
    · exact h2 (e.symm.trans (q.kbv h3))
  have eb : (gs.set i g').map (·.b) = gs.map (·.b) := map_set_same hg hb
  have e1 : (vs.set i v').map viewN = vs.map viewN := map_set_same hv (by unfold viewN; rw [hobj, hwent])
  have e2 : (vs.set i v').map viewT = vs.map viewT := map_set_same hv (by unfold viewT; rw [hobj, htt, htw])
  refine ⟨hx.heap h.blk (fun hh => hne _ hh 84 (by decide) (by decide) (kind_cells h.blk)), ho _ h.ob, h.vers.set hv hg hb hok hx hX hbv ho, ?_, ?_, h.one.view e1.symm, hlt, hlow, Nat.le_trans h.lowB hx.size, fun u hu => ?_⟩
  · rw [eb]; exact h.strs.extK hx (fun x hx => ⟨hne x hx 94 (by decide) (by decide), hne x hx 9 (by decide) (by decide)⟩) ho
  · rw [eb]; exact (h.maps.extK hx (fun x hx => hne x hx 1000 (by decide) (by decide)) ho).view e1.symm e2.symm
  · rcases List.mem_or_eq_of_mem_set hu with h1 | h1
    · exact h.objs u h1
    · subst h1; rw [hobj]; exact h.objs v (List.mem_of_getElem? hv)
end
end Go.Proofs.Ytpangoddbfiagaa
