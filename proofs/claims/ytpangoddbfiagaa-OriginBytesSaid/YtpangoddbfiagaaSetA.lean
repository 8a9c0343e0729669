/- The state in the midst of Set. -/
import Derived.Test.YtpangoddbfiagaaTell
namespace Go.Proofs.Ytpangoddbfiagaa
open Go.RowKit Go.Maps Go.ChangeMaps
set_option linter.unusedVariables false
set_option linter.unusedSimpArgs false

def nowF (vs : List Vn) (gs : List Vg) : Bs → Option Nat := fun o => (nowI vs o).bind ((gs.map (·.b))[·]?)
structure Mid (w0 : World) (own0 : Nat → Prop) (W : World) (b B N : Nat) (vs : List Vn) (gs : List Vg) (ss : List Sn) (sa : List Nat) (mo mh : Option Nat) (H : Bs → Option Nat) (K : Bs → Bs → Option Bool) (F : Bs → Option Nat) : Prop where
  blk : W.heap[b]? = some (.cells #[.map mo, .map mh] 84 (0, 0))
  vers : VsAt W B (grownOwn own0 w0 W) vs gs
  strs : SsAt W B (grownOwn own0 w0 W) (gs.map (·.b)) ss sa
  obs : OMap ptE W mo N F
  had : HadAt W N (grownOwn own0 w0 W) mh H K
  omo : ∀ m, mo = some m → grownOwn own0 w0 W m
  d1 : ∀ m, mo = some m → mh ≠ some m
  d2 : ∀ o g, H o = some g → mo ≠ some g
  size : w0.heap.size ≤ W.heap.size
  xp : ExtP own0 w0 W
  ob : own0 b
theorem HadAt.ownTo {w : World} {N : Nat} {own own' : Nat → Prop} {mh : Option Nat} {H : Bs → Option Nat} {K : Bs → Bs → Option Bool} (h : HadAt w N own mh H K) (ho : ∀ i, own i → own' i) : HadAt w N own' mh H K :=
  ⟨h.had, h.inn, h.hinj, fun m e => ho m (h.omh m e), fun o g e => ho g (h.oin o g e), h.d2⟩
theorem HadAt.extK {w w' : World} {N : Nat} {own own' : Nat → Prop} {mh : Option Nat} {H : Bs → Option Nat} {K : Bs → Bs → Option Bool} {X : List Nat} (h : HadAt w N own mh H K) (hx : ExtB X w w') (hX : ∀ g ∈ X, kindOf w g ≠ 1000) (ho : ∀ i, own i → own' i) : HadAt w' N own' mh H K := by
  have key : ∀ (m : Nat) (es : Array MapEntry) (cl : Nat), w.heap[m]? = some (.map es cl) → w'.heap[m]? = w.heap[m]? := fun m es cl e => hx.block m (blk_lt e) (fun hh => hX _ hh (kind_map e))
  refine ⟨h.had.same fun m e => ?_, fun o g e => ?_, h.hinj, fun m e => ho m (h.omh m e), fun o g e => ho g (h.oin o g e), h.d2⟩
  · subst e
    obtain ⟨es, cl, e⟩ := h.had.lt
    exact key m es cl e
  · obtain ⟨es, cl, e1⟩ := (h.inn o g e).at_
    exact (h.inn o g e).same (key g es cl e1)
theorem OMap.extK {β : Type} {E : ElemK β} {w w' : World} {mo : Option Nat} {N : Nat} {F : Bs → Option β} {X : List Nat} (h : OMap E w mo N F) (hx : ExtB X w w') (hX : ∀ m, mo = some m → m ∉ X) : OMap E w' mo N F := by
  refine h.same fun m e => ?_
  subst e
  obtain ⟨es, cl, e⟩ := h.lt
  exact hx.block m (blk_lt e) (hX m rfl)
theorem ExtP.step {own0 : Nat → Prop} {w0 W W1 : World} {X : List Nat} (h : ExtP own0 w0 W) (hx : ExtB X W W1) (hX : ∀ g ∈ X, grownOwn own0 w0 W g) : ExtP own0 w0 W1 :=
  h.trans (own1 := fun i => own0 i ∨ w0.heap.size ≤ i) (.ofB hx fun k hk => .inl ((hX k hk).imp id (·.1))) fun i hi => hi
section
variable {w w0 W W1 W' : World} {own own0 : Nat → Prop} {b B N : Nat} {vs : List Vn} {ss : List Sn} {sa : List Nat} {gs : List Vg} {mo mh : Option Nat} {H F : Bs → Option Nat} {K : Bs → Bs → Option Bool} {X : List Nat}
theorem grown_mono (h : W.heap.size ≤ W1.heap.size) (i : Nat) (hi : grownOwn own0 w0 W i) : grownOwn own0 w0 W1 i := hi.imp id fun h2 => ⟨h2.1, by omega⟩
theorem OIx.mid (h : OIx w b B N own vs ss sa gs mo mh H K) : Mid w own w b B N vs gs ss sa mo mh H K (nowF vs gs) := by
  have ho : ∀ i, own i → grownOwn own w w i := fun i hi => .inl hi
  exact ⟨h.blk, h.vers.keep (fun _ _ => rfl) ho, h.strs.keep (fun _ _ => rfl) ho, h.maps.obs, h.maps.hadAt.ownTo ho, fun m e => ho m (h.maps.omo m e), h.maps.d1, fun o g e => (h.maps.d2 o g e).1, Nat.le_refl _, .of (Ext.refl _), h.ob⟩
theorem Mid.extK (h : Mid w0 own0 W b B N vs gs ss sa mo mh H K F) (hx : ExtB X W W1) (hX : ∀ g ∈ X, kindOf W g ≠ 84 ∧ kindOf W g ≠ 90 ∧ kindOf W g ≠ 9 ∧ kindOf W g ≠ 5 ∧ kindOf W g ≠ 94 ∧ kindOf W g ≠ 1000) (hX2 : ∀ g ∈ X, grownOwn own0 w0 W g) : Mid w0 own0 W1 b B N vs gs ss sa mo mh H K F := by
  have ho := grown_mono (own0 := own0) (w0 := w0) hx.size
  refine ⟨hx.heap h.blk (fun hh => (hX _ hh).1 (kind_cells h.blk)), h.vers.extK hx (fun x hh => ⟨(hX x hh).2.1, (hX x hh).2.2.1, (hX x hh).2.2.2.1⟩) ho, h.strs.extK hx (fun x hh => ⟨(hX x hh).2.2.2.2.1, (hX x hh).2.2.1⟩) ho, h.obs.extK hx ?_, h.had.extK hx (fun x hh => (hX x hh).2.2.2.2.2) ho, fun m e => ho m (h.omo m e), h.d1, h.d2, Nat.le_trans h.size hx.size, h.xp.step hx hX2, h.ob⟩
  intro m e hh
  subst e
  obtain ⟨es, cl, e⟩ := h.obs.lt
  exact (hX _ hh).2.2.2.2.2 (kind_map e)
theorem Mid.ext (h : Mid w0 own0 W b B N vs gs ss sa mo mh H K F) (hx : Ext W W1) : Mid w0 own0 W1 b B N vs gs ss sa mo mh H K F := h.extK (.of hx []) (by simp) (by simp)
theorem Mid.lt (h : Mid w0 own0 W b B N vs gs ss sa mo mh H K F) (hlt : ∀ i, own0 i → i < w0.heap.size) : ∀ i, grownOwn own0 w0 W i → i < W.heap.size := fun i hi => by
  rcases hi with hi | hi
  · exact Nat.lt_of_lt_of_le (hlt i hi) h.size
  · exact hi.2
theorem Mid.moreN {M : Nat} (h : Mid w0 own0 W b B N vs gs ss sa mo mh H K F) (hM : N ≤ M) : Mid w0 own0 W b B M vs gs ss sa mo mh H K F :=
  ⟨h.blk, h.vers, h.strs, h.obs.more hM, ⟨h.had.had.more hM, fun o g e => (h.had.inn o g e).more hM, h.had.hinj, h.had.omh, h.had.oin, h.had.d2⟩, h.omo, h.d1, h.d2, h.size, h.xp, h.ob⟩
theorem Mid.tell (h : Mid w0 own0 W b B N vs gs ss sa mo mh H K F) (hlt : ∀ i, own0 i → i < w0.heap.size) {o t : Bs} {x : Bool} (hT : TellR W b N (grownOwn own0 w0 W) mo mh H K o t x W1) :
    ∃ mh' H' K', Mid w0 own0 W1 b B (N + 1) vs gs ss sa mo mh' H' K' F ∧ ∀ o' t', hadF H' K' o' t' = if o' = o ∧ t' = t then some x else hadF H K o' t' := by
  obtain ⟨⟨mh', H', K', hH, hF, hb, hm1, hm2⟩, hx⟩ := hT
  have ho := grown_mono (own0 := own0) (w0 := w0) hx.size
  have hX : ∀ g ∈ b :: (mh.toList ++ (H o).toList), g = b ∨ mh = some g ∨ H o = some g := fun g hg => by simpa [eq_comm] using hg
  have hk : ∀ g ∈ b :: (mh.toList ++ (H o).toList), kindOf W g = 84 ∨ kindOf W g = 1000 := fun g hg => by
    rcases hX g hg with e | e | e
    · rw [e]; exact .inl (kind_cells h.blk)
    · subst e
      obtain ⟨es, cl, e⟩ := h.had.had.lt
      exact .inr (kind_map e)
    · obtain ⟨es, cl, e⟩ := (h.had.inn o g e).at_
      exact .inr (kind_map e)
  have ltm : ∀ m, mo = some m → m < W.heap.size := fun m e => h.lt hlt m (h.omo m e)
  refine ⟨mh', H', K', ⟨hb, h.vers.extK hx (fun g hg => ?_) ho, h.strs.extK hx (fun g hg => ?_) ho, (h.obs.extK hx ?_).more (Nat.le_succ _), hH.ownTo ?_, fun m e => ho m (h.omo m e), fun m e e2 => ?_, fun o' g e e2 => ?_, Nat.le_trans h.size hx.size, h.xp.step hx ?_, h.ob⟩, hF⟩
  · rcases hk g hg with e | e <;> rw [e] <;> decide
  · rcases hk g hg with e | e <;> rw [e] <;> decide
  · intro m e hh
    rcases hX m hh with e2 | e2 | e2
    · subst e
      obtain ⟨es, cl, e⟩ := h.obs.lt
      rw [e2, h.blk] at e; cases e
    · exact h.d1 m e e2
    · exact h.d2 o m e2 e
  · intro i hi
    rcases hi with hi | hi
    · exact ho i hi
    · exact .inr ⟨Nat.le_trans h.size hi.1, hi.2⟩
  · rcases hm1 m e2 with e3 | e3
    · exact h.d1 m e e3
    · have := ltm m e; omega
  · rcases hm2 o' g e with e3 | e3
    · exact h.d2 o' g e3 e2
    · have := ltm g e2; omega
  · intro g hg
    rcases hX g hg with e | e | e
    · rw [e]; exact .inl h.ob
    · exact h.had.omh g e
    · exact h.had.oin o g e
theorem Mid.made (h : Mid w0 own0 W b B N vs gs ss sa none mh H K F) (hlt : ∀ i, own0 i → i < w0.heap.size) (hx : ExtB [b] (W.alloc (.map #[] 0)) W1) (hb : W1.heap[b]? = some (.cells #[.map (some W.heap.size), .map mh] 84 (0, 0))) : Mid w0 own0 W1 b B N vs gs ss sa (some W.heap.size) mh H K F := by
  have hx2 : ExtB [b] W W1 := (ExtB.of (ext_alloc1 W _) _).trans hx
  have ho := grown_mono (own0 := own0) (w0 := w0) hx2.size
  have hk : ∀ g ∈ [b], kindOf W g = 84 := fun g hg => by rw [show g = b by simpa using hg]; exact kind_cells h.blk
  have hF : F = fun _ => none := by
    rcases h.obs with ⟨_, h0⟩ | ⟨m, e, _⟩
    · exact funext h0
    · cases e
  have hbl := blk_lt h.blk
  have hlts := h.lt hlt
  have hs1 : W.heap.size + 1 ≤ W1.heap.size := by have := hx.size; simpa using this
  refine ⟨hb, h.vers.extK hx2 (fun g hg => by rw [hk g hg]; decide) ho, h.strs.extK hx2 (fun g hg => by rw [hk g hg]; decide) ho, .inr ⟨_, rfl, ?_⟩, h.had.extK hx2 (fun g hg => by rw [hk g hg]; decide) ho, fun m e => ?_, fun m e e2 => ?_, fun o g e e2 => ?_, Nat.le_trans h.size hx2.size, h.xp.step hx2 (fun g hg => by rw [show g = b by simpa using hg]; exact .inl h.ob), h.ob⟩
  · rw [hF]
    exact ((GMap.made ptE W).same (hx.block _ (by simp) (by simp; omega))).more (Nat.zero_le _)
  · obtain rfl := Option.some.inj e
    exact .inr ⟨h.size, hs1⟩
  · obtain rfl := Option.some.inj e
    have := hlts _ (h.had.omh _ e2); omega
  · obtain rfl := Option.some.inj e2
    have := hlts _ (h.had.oin _ _ e); omega
theorem Mid.went (h : Mid w0 own0 W b B N vs gs ss sa mo mh H K F) {i : Nat} {v : Vn} {g : Vg} (hv : vs[i]? = some v) (hg : gs[i]? = some g) (hblk : VerAt W1 g.b { v.m with hav := g.h } g.kv g.bv true) (hx : ExtB [g.b] W W1) : Mid w0 own0 W1 b B N (vs.set i (goneV v)) gs ss sa mo mh H K F := by
  have q := h.vers.at_ i v g hv hg
  have ho := grown_mono (own0 := own0) (w0 := w0) hx.size
  have hX : ∀ x ∈ [g.b], x = g.b ∨ g.bv.ownBlock = some x := fun x hx => .inl (by simpa using hx)
  have hk90 : ∀ x ∈ [g.b], kindOf W x = 90 := fun x hx => by rw [show x = g.b by simpa using hx]; exact q.kb
  have egs : gs.set i g = gs := by
    apply List.ext_getElem?; intro j
    by_cases hj : j = i
    · subst hj; rw [List.getElem?_set_self (List.getElem?_eq_some_iff.1 hg).1, hg]
    · rw [List.getElem?_set_ne (Ne.symm hj)]
  have hok : VerOk W1 B (grownOwn own0 w0 W1) (goneV v) g := ⟨hblk, own_extB q.keys hx (fun x hh e => by have := q.kk e; rw [show x = g.b by simpa using hh, q.kb] at this; cases this), own_extB q.row hx (fun x hh e => by have := q.kbv e; rw [show x = g.b by simpa using hh, q.kb] at this; cases this), ho _ q.ob, fun x e => ho _ (q.ok x e), fun x e => ho _ (q.obv x e), q.z, q.len⟩
  have v1 := h.vers.set hv hg rfl hok hx hX (fun x e => .inl e) ho
  rw [egs] at v1
  refine ⟨hx.heap h.blk (fun hh => by have := hk90 _ hh; rw [kind_cells h.blk] at this; cases this), v1, h.strs.extK hx (fun x hh => by rw [hk90 x hh]; decide) ho, h.obs.extK hx ?_, h.had.extK hx (fun x hh => by rw [hk90 x hh]; decide) ho, fun m e => ho m (h.omo m e), h.d1, h.d2, Nat.le_trans h.size hx.size, h.xp.step hx (fun x hh => by rw [show x = g.b by simpa using hh]; exact q.ob), h.ob⟩
  intro m e hh
  subst e
  obtain ⟨es, cl, e⟩ := h.obs.lt
  have := hk90 _ hh; rw [kind_map e] at this; cases this
theorem app_get {α : Type} {l : List α} {y x : α} {j : Nat} (h : (l ++ [y])[j]? = some x) : l[j]? = some x ∨ (j = l.length ∧ x = y) := by
  by_cases hj : j < l.length
  · rw [List.getElem?_append_left hj] at h; exact .inl h
  · have := (List.getElem?_eq_some_iff.1 h).1
    simp at this
    have e : j = l.length := by omega
    subst e
    simp at h
    exact .inr ⟨rfl, h.symm⟩
theorem VsAt.add (h : VsAt W B own vs gs) {n : Vn} {g : Vg} (hn : VerOk W B own n g) (hb : ∀ (j : Nat) (y : Vg), gs[j]? = some y → y.b ≠ g.b) (hbv : ∀ (j : Nat) (y : Vg) (x : Nat), gs[j]? = some y → y.bv.ownBlock = some x → g.bv.ownBlock ≠ some x) : VsAt W B own (vs ++ [n]) (gs ++ [g]) := by
  refine ⟨by simp [h.len], fun i v y hv hy => ?_, fun i j y y' hy hy' e => ?_, fun i j y y' x hy hy' e e' => ?_⟩
  · rcases app_get hv with h1 | ⟨h1, h2⟩ <;> rcases app_get hy with h3 | ⟨h3, h4⟩
    · exact h.at_ i v y h1 h3
    · have := (List.getElem?_eq_some_iff.1 h1).1; rw [h3, h.len] at this; omega
    · have := (List.getElem?_eq_some_iff.1 h3).1; rw [h1, h.len] at this; omega
    · rw [h2, h4]; exact hn
  · rcases app_get hy with h1 | ⟨h1, h2⟩ <;> rcases app_get hy' with h3 | ⟨h3, h4⟩
    · exact h.nd i j y y' h1 h3 e
    · rw [h4] at e; exact absurd e (hb i y h1)
    · rw [h2] at e; exact absurd e.symm (hb j y' h3)
    · rw [h1, h3]
  · rcases app_get hy with h1 | ⟨h1, h2⟩ <;> rcases app_get hy' with h3 | ⟨h3, h4⟩
    · exact h.bnd i j y y' x h1 h3 e e'
    · rw [h4] at e'; exact absurd e' (hbv i y x h1 e)
    · rw [h2] at e; exact absurd e (hbv j y' x h3 e')
    · rw [h1, h3]
theorem SsAt.more {va : List Nat} (h : SsAt W B own va ss sa) (q : Nat) : SsAt W B own (va ++ [q]) ss sa := by
  refine ⟨h.len, fun j s b hs hb => ?_, h.nd⟩
  obtain ⟨kv, h1, h2, h3, h4, h5, h6, h7⟩ := h.at_ j s b hs hb
  refine ⟨kv, ?_, h2, h3, h4, h5, fun i e => by have := h6 i e; simp; omega, h7⟩
  have e : verP (va ++ [q]) s.v = verP va s.v := by
    unfold verP
    cases e : s.v with
    | none => rfl
    | some i => simp only [Option.bind_some]; rw [List.getElem?_append_left (h6 i e)]
  rw [e]; exact h1
def offVs (vs : List Vn) (o : Bs) : List Vn := match nowI vs o with
  | none => vs
  | some i => match vs[i]? with
    | none => vs
    | some v => vs.set i (goneV v)
theorem offVs_now (h1 : One vs) (o o' : Bs) : nowI (offVs vs o) o' = if o' = o then none else nowI vs o' := by
  unfold offVs
  cases hn : nowI vs o with
  | none =>
    simp only
    by_cases ho : o' = o
    · rw [if_pos ho, ho, hn]
    · rw [if_neg ho]
  | some i =>
    obtain ⟨v, hv, _⟩ := nowI_some hn
    simp only [hv]
    exact nowI_goneV h1 hn hv o'
theorem offVs_one (h1 : One vs) (o : Bs) : One (offVs vs o) := by
  unfold offVs
  cases hn : nowI vs o with
  | none => exact h1
  | some i =>
    obtain ⟨v, hv, _⟩ := nowI_some hn
    simp only [hv]
    exact h1.gone hv
theorem offVs_view (vs : List Vn) (o : Bs) : (offVs vs o).map viewT = vs.map viewT := by
  unfold offVs
  cases hn : nowI vs o with
  | none => rfl
  | some i =>
    obtain ⟨v, hv, _⟩ := nowI_some hn
    simp only [hv]
    exact map_set_same (f := viewT) (y := goneV v) hv rfl
theorem offVs_len (vs : List Vn) (o : Bs) : (offVs vs o).length = vs.length := by
  have := congrArg List.length (offVs_view vs o)
  simpa using this
theorem hadA_off (vs : List Vn) (o o' t : Bs) : hadA (offVs vs o) o' t = hadA vs o' t := hadA_view (offVs_view vs o) o' t
theorem nowI_add {vs1 : List Vn} {n : Vn} (hw : n.went = false) (h0 : nowI vs1 n.obj = none) (o : Bs) : nowI (vs1 ++ [n]) o = if o = n.obj then some vs1.length else nowI vs1 o := by
  unfold nowI at h0 ⊢
  rw [List.findIdx?_append]
  by_cases ho : o = n.obj
  · subst ho
    rw [h0]
    simp [hw]
  · rw [if_neg ho]
    have : (n.obj == o) = false := by simp [Ne.symm ho]
    simp [this]
theorem One.add {vs1 : List Vn} {n : Vn} (h : One vs1) (hw : n.went = false) (h0 : nowI vs1 n.obj = none) : One (vs1 ++ [n]) := by
  intro i j v v' hv hv' hw1 hw2 ho
  rcases app_get hv with h1 | ⟨h1, h2⟩ <;> rcases app_get hv' with h3 | ⟨h3, h4⟩
  · exact h i j v v' h1 h3 hw1 hw2 ho
  · have := nowI_none h0 v (List.mem_of_getElem? h1) (by rw [ho, h4]); rw [this] at hw1; cases hw1
  · have := nowI_none h0 v' (List.mem_of_getElem? h3) (by rw [← ho, h2]); rw [this] at hw2; cases hw2
  · rw [h1, h3]
theorem hadA_add (vs : List Vn) (n : Vn) (o t : Bs) : hadA (vs ++ [n]) o t = if tagsB n o t = true then some ((vs.any fun v => tagsB v o t && !v.m.tw) || !n.m.tw) else hadA vs o t := by
  unfold hadA
  simp only [List.any_append, List.any_cons, List.any_nil, Bool.or_false]
  by_cases h : tagsB n o t = true
  · simp [h]
  · simp [h]
/-- A new version stands in the map. -/
theorem Mid.add {m : Nat} {n : Vn} {g : Vg} (h : Mid w0 own0 W b B N vs gs ss sa (some m) mh H K F) (hlt : ∀ i, own0 i → i < w0.heap.size) (hlow : ∀ i, own0 i → B ≤ i) (hB : B ≤ w0.heap.size) (hok : VerOk W B (grownOwn own0 w0 W) n g)
    (hf : ∀ (j : Nat) (y : Vg), gs[j]? = some y → y.b ≠ g.b) (hfb : ∀ (j : Nat) (y : Vg) (x : Nat), gs[j]? = some y → y.bv.ownBlock = some x → g.bv.ownBlock ≠ some x) (hm : GMap ptE W' m (N + 1) (upd F n.obj (some g.b))) (ht : W.mapTurned W' m)
    (hF : ∀ o, upd F n.obj (some g.b) o = nowF (vs ++ [n]) (gs ++ [g]) o) (htie : ∀ o t, hadF H K o t = hadA (vs ++ [n]) o t) (hone : One (vs ++ [n])) (hobj : ∀ v ∈ vs ++ [n], v.obj.length ≤ 1000) :
    OIx W' b B (N + 1) (grownOwn own0 w0 W') (vs ++ [n]) ss sa (gs ++ [g]) (some m) mh H K ∧ ExtP own0 w0 W' := by
  have x2 := turned_ext ht
  have ho := grown_mono (own0 := own0) (w0 := w0) x2.size
  obtain ⟨es, cl, hes⟩ : ∃ es cl, W.heap[m]? = some (.map es cl) := h.obs.lt
  have hk : ∀ x ∈ [m], kindOf W x = 1000 := fun x hx => by rw [show x = m by simpa using hx]; exact kind_map hes
  have v1 := (h.vers.add hok hf hfb).extK x2 (fun x hh => by rw [hk x hh]; decide) ho
  have s1 : SsAt W B (grownOwn own0 w0 W) ((gs ++ [g]).map (·.b)) ss sa := by rw [List.map_append]; exact h.strs.more g.b
  have keep : ∀ (m' : Nat) (es : Array MapEntry) (cl : Nat), W.heap[m']? = some (.map es cl) → m' ≠ m → W'.heap[m']? = W.heap[m']? := fun m' es cl e hne => x2.block m' (blk_lt e) (by simpa using hne)
  refine ⟨⟨x2.heap h.blk (fun hh => by have := hk _ hh; rw [kind_cells h.blk] at this; cases this), .inl h.ob, v1, s1.extK x2 (fun x hh => by rw [hk x hh]; decide) ho, ⟨.inr ⟨m, rfl, ?_⟩, ?_, fun o g' e => ?_, htie, h.had.hinj, fun m' e => ho m' (h.omo m' e), fun m' e => ho m' (h.had.omh m' e), fun o g' e => ho g' (h.had.oin o g' e), h.d1, fun o g' e => ⟨h.d2 o g' e, h.had.d2 o g' e⟩⟩, hone, fun i hi => ?_, fun i hi => ?_, Nat.le_trans hB (Nat.le_trans h.size x2.size), hobj⟩, h.xp.step x2 (fun x hx => by rw [show x = m by simpa using hx]; exact h.omo m rfl)⟩
  · have e : (fun o => (nowI (vs ++ [n]) o).bind (((gs ++ [g]).map (·.b))[·]?)) = upd F n.obj (some g.b) := by funext o; exact (hF o).symm
    rw [e]; exact hm
  · refine (h.had.had.same fun m' e => ?_).more (Nat.le_succ _)
    subst e
    obtain ⟨es, cl, e⟩ := h.had.had.lt
    exact keep m' es cl e (fun e2 => h.d1 m rfl (by rw [e2]))
  · obtain ⟨es, cl, e1⟩ := (h.had.inn o g' e).at_
    exact ((h.had.inn o g' e).same (keep g' es cl e1 (fun e2 => h.d2 o g' e (by rw [e2])))).more (Nat.le_succ _)
  · rcases hi with hi | hi
    · exact Nat.lt_of_lt_of_le (hlt i hi) (Nat.le_trans h.size x2.size)
    · exact hi.2
  · rcases hi with hi | hi
    · exact hlow i hi
    · exact Nat.le_trans hB hi.1
def noTagV (m : MetaP) : Bool := noTag m
/-- Set, as the state sees it. -/
def newV (o : Bs) (m : MetaP) (bs : Bs) : Vn := ⟨o, { m with hav := bs.length }, bs, false⟩
def setOk (o : Bs) (m : MetaP) (bs : Bs) : Bool := objB o && (m.len == -1 || m.len == (bs.length : Int)) && metaB { m with hav := bs.length }
def refused (vs : List Vn) (o : Bs) (m : MetaP) : Bool := !noTag m && (match hadA vs o m.tt with | none => false | some x => x || !m.tw)
def setA (vs : List Vn) (o : Bs) (m : MetaP) (bs : Bs) : Int × List Vn :=
  if setOk o m bs = false then (1, vs) else if refused vs o m = true then (12, vs) else (0, offVs vs o ++ [newV o m bs])
theorem nowF_add (h1 : One vs) {n : Vn} {g : Vg} (hw : n.went = false) (hlen : gs.length = vs.length) (o : Bs) : upd (nowF vs gs) n.obj (some g.b) o = nowF (offVs vs n.obj ++ [n]) (gs ++ [g]) o := by
  have hoff := offVs_now h1 n.obj
  unfold nowF
  rw [nowI_add hw (by rw [hoff]; simp)]
  unfold upd
  by_cases ho : o = n.obj
  · rw [if_pos ho, if_pos ho, offVs_len]
    simp [hlen]
  · rw [if_neg ho, if_neg ho, hoff, if_neg ho]
    show (nowI vs o).bind _ = _
    cases hn : nowI vs o with
    | none => rfl
    | some i =>
      obtain ⟨v, hv, _⟩ := nowI_some hn
      have hi := (List.getElem?_eq_some_iff.1 hv).1
      simp only [Option.bind_some, List.map_append]
      rw [List.getElem?_append_left (by simp [hlen]; exact hi)]
theorem tie_none (o : Bs) (m : MetaP) (bs : Bs) (h : noTag m = true) (o' t : Bs) : hadA (offVs vs o ++ [newV o m bs]) o' t = hadA vs o' t := by
  rw [hadA_add, hadA_off]
  have : tagsB (newV o m bs) o' t = false := by
    have e : noTag (newV o m bs).m = true := h
    simp [tagsB, e]
  rw [this]; simp
theorem tie_some (o : Bs) (m : MetaP) (bs : Bs) (h : noTag m = false) (hr : refused vs o m = false) (o' t : Bs) : hadA (offVs vs o ++ [newV o m bs]) o' t = if o' = o ∧ t = m.tt then some (!m.tw) else hadA vs o' t := by
  rw [hadA_add, hadA_off]
  have e : noTag (newV o m bs).m = false := h
  have e2 : tagsB (newV o m bs) o' t = decide (o' = o ∧ t = m.tt) := by
    unfold tagsB
    rw [e]
    show (o == o' && !false && m.tt == t) = _
    rw [Bool.eq_iff_iff]
    simp only [Bool.not_false, Bool.and_true, Bool.and_eq_true, beq_iff_eq, decide_eq_true_eq]
    exact ⟨fun hh => ⟨hh.1.symm, hh.2.symm⟩, fun hh => ⟨hh.1.symm, hh.2.symm⟩⟩
  rw [e2]
  by_cases hc : o' = o ∧ t = m.tt
  · obtain ⟨rfl, rfl⟩ := hc
    simp only [and_self, decide_true, if_true]
    have e3 : (newV o' m bs).m.tw = m.tw := rfl
    rw [e3]
    unfold refused at hr
    rw [h] at hr
    have e4 : ((offVs vs o').any fun v => tagsB v o' m.tt && !v.m.tw) = (vs.any fun v => tagsB v o' m.tt && !v.m.tw) := by
      have key : ∀ l : List Vn, (l.any fun v => tagsB v o' m.tt && !v.m.tw) = (l.map viewT).any fun p => p.1 == o' && !(p.2.1 == [] && !p.2.2) && p.2.1 == m.tt && !p.2.2 := fun l => by
        rw [List.any_map]; rfl
      rw [key, key, offVs_view]
    rw [e4]
    unfold hadA at hr
    by_cases ha : (vs.any fun v => tagsB v o' m.tt) = true
    · rw [if_pos ha] at hr
      simp at hr
      have hb : (vs.any fun v => tagsB v o' m.tt && !v.m.tw) = false := by simpa using hr.1
      rw [hb]; simp
    · have hb : (vs.any fun v => tagsB v o' m.tt && !v.m.tw) = false := by
        rw [List.any_eq_false]
        intro x hx hh
        refine ha (List.any_eq_true.2 ⟨x, hx, ?_⟩)
        simp at hh; exact hh.1
      rw [hb]; simp
  · simp [hc]
end
end Go.Proofs.Ytpangoddbfiagaa
