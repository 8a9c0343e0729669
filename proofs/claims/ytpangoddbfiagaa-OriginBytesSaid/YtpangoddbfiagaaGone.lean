/- Gone, walked over the state; what becomes of the lists of versions. -/
import Derived.Test.YtpangoddbfiagaaAsk0
namespace Go.Proofs.Ytpangoddbfiagaa
open Go.RowKit Go.Maps Go.ChangeMaps
set_option linter.unusedVariables false
set_option linter.unusedSimpArgs false

def goneV (v : Vn) : Vn := { v with went := true }
def goneA (vs : List Vn) (o : Bs) : Int × List Vn := match nowI vs o with
  | none => (6, vs)
  | some i => match vs[i]? with
    | none => (6, vs)
    | some v => (0, vs.set i (goneV v))
theorem turned_ext {w w' : World} {m : Nat} (h : w.mapTurned w' m) : ExtB [m] w w' := by
  have hg := h.grown
  refine ⟨hg.os, hg.tape, hg.output, hg.size, fun i hi hx => hg.block i hi ?_⟩
  intro e; injection e with e; subst e; exact hx (by simp)
theorem nowI_goneV {vs : List Vn} (h1 : One vs) {o : Bs} {i : Nat} {v : Vn} (hn : nowI vs o = some i) (hv : vs[i]? = some v) (o' : Bs) : nowI (vs.set i (goneV v)) o' = if o' = o then none else nowI vs o' := by
  obtain ⟨v2, hv2, e1, e2⟩ := nowI_some hn
  rw [hv] at hv2
  obtain rfl : v = v2 := Option.some.inj hv2
  by_cases ho : o' = o
  · rw [if_pos ho]
    unfold nowI
    rw [List.findIdx?_eq_none_iff]
    intro x hx
    obtain ⟨j, hj⟩ := List.mem_iff_getElem?.1 hx
    by_cases hji : j = i
    · subst hji
      rw [List.getElem?_set_self (List.getElem?_eq_some_iff.1 hv).1] at hj
      obtain rfl := Option.some.inj hj
      simp [goneV]
    · rw [List.getElem?_set_ne (Ne.symm hji)] at hj
      by_cases hc : x.obj = o' ∧ x.went = false
      · exact absurd (h1 j i x v hj hv hc.2 e2 (by rw [hc.1, ho, e1])) hji
      · by_cases a : x.obj = o' <;> simp [a]
        cases hw : x.went
        · exact absurd ⟨a, hw⟩ hc
        · rfl
  · rw [if_neg ho]
    have e : ∀ l : List Vn, nowI l o' = (l.map fun v => v.obj == o' && !v.went).findIdx? id := fun l => by
      rw [List.findIdx?_map]; rfl
    rw [e, e]
    congr 1
    refine map_set_same hv ?_
    have : (v.obj == o') = false := by simp [e1, Ne.symm ho]
    simp [goneV, this]
theorem One.gone {vs : List Vn} (h1 : One vs) {i : Nat} {v : Vn} (hv : vs[i]? = some v) : One (vs.set i (goneV v)) := by
  have get : ∀ (j : Nat) (y : Vn), (vs.set i (goneV v))[j]? = some y → y.went = false → vs[j]? = some y := fun j y e hy => by
    by_cases hj : j = i
    · subst hj; rw [List.getElem?_set_self (List.getElem?_eq_some_iff.1 hv).1] at e
      obtain rfl := Option.some.inj e
      simp [goneV] at hy
    · rw [List.getElem?_set_ne (Ne.symm hj)] at e; exact e
  exact fun i j v v' hv hv' hw hw' ho => h1 i j v v' (get _ _ hv hw) (get _ _ hv' hw') hw hw' ho
section
variable {w w' w1 : World} {b B N m : Nat} {own : Nat → Prop} {vs : List Vn} {ss : List Sn} {sa : List Nat} {gs : List Vg} {mo mh : Option Nat} {H : Bs → Option Nat} {K : Bs → Bs → Option Bool}
theorem OMap.some_of {β : Type} {E : ElemK β} {w : World} {mo : Option Nat} {N : Nat} {F : Bs → Option β} (h : OMap E w mo N F) {k : Bs} {x : β} (e : F k = some x) : ∃ m, mo = some m ∧ GMap E w m N F := by
  rcases h with ⟨_, h0⟩ | h
  · rw [h0] at e; cases e
  · exact h
/-- A version goes, and leaves the map. -/
theorem OIx.gone (h : OIx w b B N own vs ss sa gs (some m) mh H K) {i : Nat} {v : Vn} {g : Vg} {o : Bs} (hn : nowI vs o = some i) (hv : vs[i]? = some v) (hg : gs[i]? = some g) (hblk : VerAt w1 g.b { v.m with hav := g.h } g.kv g.bv true) (hx : ExtB [g.b] w w1) (hm : GMap ptE w' m N (upd (fun o => (nowI vs o).bind ((gs.map (·.b))[·]?)) o none)) (ht : w1.mapTurned w' m) :
    OIx w' b B N own (vs.set i (goneV v)) ss sa gs (some m) mh H K ∧ ExtP own w w' := by
  have q := h.vers.at_ i v g hv hg
  have x2 := turned_ext ht
  have hmk : ∃ es cl, w.heap[m]? = some (.map es cl) := h.maps.obs.lt
  obtain ⟨es, cl, hes⟩ := hmk
  have hmb : m ≠ g.b := fun e => by rw [e] at hes; rw [q.blk] at hes; cases hes
  have hes1 : w1.heap[m]? = some (.map es cl) := (hx.block m (blk_lt hes) (by simpa using hmb)).trans hes
  have hsz := Nat.le_trans hx.size x2.size
  have hX : ∀ x ∈ [g.b], x = g.b ∨ g.bv.ownBlock = some x := fun x hx => .inl (by simpa using hx)
  have hk90 : ∀ x ∈ [g.b], kindOf w x = 90 := fun x hx => by rw [show x = g.b by simpa using hx]; exact q.kb
  have k1 : ∀ x ∈ [m], kindOf w1 x = 1000 := fun x hx => by rw [show x = m by simpa using hx]; exact kind_map hes1
  have eb : (gs.set i g).map (·.b) = gs.map (·.b) := map_set_same hg rfl
  have egs : gs.set i g = gs := by
    apply List.ext_getElem?; intro j
    by_cases hj : j = i
    · subst hj; rw [List.getElem?_set_self (List.getElem?_eq_some_iff.1 hg).1, hg]
    · rw [List.getElem?_set_ne (Ne.symm hj)]
  have hok : VerOk w1 B own (goneV v) g := ⟨hblk, own_extB q.keys hx (fun x hh e => by have := q.kk e; rw [show x = g.b by simpa using hh, q.kb] at this; cases this), own_extB q.row hx (fun x hh e => by have := q.kbv e; rw [show x = g.b by simpa using hh, q.kb] at this; cases this), q.ob, q.ok, q.obv, q.z, q.len⟩
  have v1 := h.vers.set hv hg rfl hok hx hX (fun x e => .inl e) (fun _ hi => hi)
  rw [egs] at v1
  have s1 : SsAt w1 B own (gs.map (·.b)) ss sa := h.strs.extK hx (fun x hh => by rw [hk90 x hh]; decide) (fun _ hi => hi)
  refine ⟨⟨?_, h.ob, v1.extK x2 (fun x hh => by rw [k1 x hh]; decide) (fun _ hi => hi), s1.extK x2 (fun x hh => by rw [k1 x hh]; decide) (fun _ hi => hi), ?_, h.one.gone hv, fun j hj => Nat.lt_of_lt_of_le (h.lt j hj) hsz, h.low, Nat.le_trans h.lowB hsz, ?_⟩, ?_⟩
  · refine x2.heap (hx.heap h.blk ?_) ?_
    · intro hh; have e := hk90 _ hh; rw [kind_cells h.blk] at e; cases e
    · intro hh
      have e : b = m := by simpa using hh
      rw [← e, h.blk] at hes; cases hes
  · have keep : ∀ (m' : Nat) (es : Array MapEntry) (cl : Nat), w.heap[m']? = some (.map es cl) → m' ≠ m → w'.heap[m']? = w.heap[m']? := fun m' es cl e hne => by
      have h1 : w1.heap[m']? = w.heap[m']? := hx.block m' (blk_lt e) (fun hh => by have := hk90 _ hh; rw [kind_map e] at this; cases this)
      have h2 : w'.heap[m']? = w1.heap[m']? := x2.block m' (Nat.lt_of_lt_of_le (blk_lt e) hx.size) (by simpa using hne)
      exact h2.trans h1
    refine ⟨.inr ⟨m, rfl, ?_⟩, ?_, fun o' g' e => ?_, fun o' t => ?_, h.maps.hinj, h.maps.omo, h.maps.omh, h.maps.oin, h.maps.d1, h.maps.d2⟩
    · have e : (fun o' => (nowI (vs.set i (goneV v)) o').bind ((gs.map (·.b))[·]?)) = upd (fun o' => (nowI vs o').bind ((gs.map (·.b))[·]?)) o none := by
        funext o'
        rw [nowI_goneV h.one hn hv]
        unfold upd
        by_cases ho : o' = o <;> simp [ho]
      rw [e]; exact hm
    · refine h.maps.had.same fun m' e => ?_
      subst e
      obtain ⟨es, cl, e⟩ := h.maps.had.lt
      exact keep m' es cl e (fun e2 => h.maps.d1 m rfl (by rw [e2]))
    · obtain ⟨es, cl, e1⟩ := (h.maps.inn o' g' e).at_
      exact (h.maps.inn o' g' e).same (keep g' es cl e1 (fun e2 => (h.maps.d2 o' g' e).1 (by rw [e2])))
    · rw [← hadA_view (vs := vs) (vs' := vs.set i (goneV v))]
      · exact h.maps.tie o' t
      · exact (map_set_same (f := viewT) (y := goneV v) hv rfl).symm
  · intro u hu
    rcases List.mem_or_eq_of_mem_set hu with h1 | h1
    · exact h.objs u h1
    · subst h1; exact h.objs v (List.mem_of_getElem? hv)
  · exact (ExtP.ofB hx (fun k hk => .inl (by rw [show k = g.b by simpa using hk]; exact q.ob))).trans (ExtP.ofB (own := own) x2 (fun k hk => .inl (by rw [show k = m by simpa using hk]; exact h.maps.omo m rfl))) (fun i hi => .inl hi)
set_option maxRecDepth 100000 in
set_option maxHeartbeats 1000000 in
theorem gone_any (hI : OI w b B N own vs ss sa) {o : Bs} (ho : o.length ≤ 1000000) : Calls Try.prog 33 #[.pointer (some ⟨b, 0, none⟩), .string ⟨o.toArray⟩] w fun e w' => e = .returned (.int .i64 (goneA vs o).1) ∧ OI w' b B N own (goneA vs o).2 ss sa ∧ ExtP own w w' := by
  obtain ⟨gs, mo, mh, H, K, h⟩ := hI
  have k0 := blk_cell h.blk 0
  simp at k0
  cases hn : nowI vs o with
  | none =>
    have em : goneA vs o = (6, vs) := by simp [goneA, hn]
    rw [em]
    have hl := look_none h ho hn
    have HI := Lib.hid (show OI w b B N own vs ss sa from ⟨gs, mo, mh, H, K, h⟩)
    clear h hn em
    go_enter Try.func33, Try.ntmps33
    go_wp2
    go_ret
    exact ⟨rfl, HI.out, .of (Ext.refl _)⟩
  | some i =>
    obtain ⟨v, hv, _, hw0⟩ := nowI_some hn
    obtain ⟨g, hg, hok⟩ := h.vers.get hv
    have em : goneA vs o = (0, vs.set i (goneV v)) := by simp [goneA, hn, hv]
    rw [em]
    have hl := look_some h ho hn hg
    obtain ⟨m, rfl, hM⟩ := h.maps.obs.some_of (k := o) (x := g.b) (by simp [hn, hg])
    have HI := Lib.hid h; have HV := Lib.hid hv; have HG := Lib.hid hg; have HN := Lib.hid hn; have HBLK := Lib.hid hok.blk
    have HB := Lib.hid h.blk; have HM := Lib.hid hM; have HQ := Lib.hid (show ∀ x, kindOf w x ≠ 90 → x ≠ g.b from fun x hx e => hx (by rw [e]; exact hok.kb))
    clear h hn em hok hv hg hM
    obtain ⟨q, hq⟩ : ∃ q, q = g.b := ⟨_, rfl⟩
    rw [← hq] at hl HBLK HQ
    have HE := Lib.hid hq
    clear hq
    rw [hw0] at HBLK
    go_enter Try.func33, Try.ntmps33
    go_wp2_with (refine wpList_put 4 rfl _ _ rfl _ 12 90 _ (verC { v.m with hav := g.h } g.kv g.bv true) [.bool true] (.bool true) HBLK.out rfl rfl rfl (by simp [verC]) rfl size4 (by simp [putA, verC]) ?_; intro W3 x3 n3 s3; refine stop_of ?_)
    unfold Stop
    have k0 := blk_cell (x3.heap HB.out (by simpa using HQ.out b (by rw [kind_cells HB.out]; decide))) 0
    simp at k0
    have hM3 : GMap ptE W3 m N (fun o => (nowI vs o).bind ((gs.map (·.b))[·]?)) := HM.out.same (by
      obtain ⟨es, cl, e⟩ := HM.out.at_
      exact x3.block m (blk_lt e) (by simpa using HQ.out m (by rw [kind_map e]; decide)))
    obtain ⟨W4, hdel, h4, t4⟩ := hM3.del Try.underlying82 ho 0
    have X3 := Lib.hid x3; have N3 := Lib.hid n3; have H4 := Lib.hid h4; have T4 := Lib.hid t4
    clear x3 n3 h4 t4 hM3 hl
    go_wp2
    go_ret
    rw [HE.out] at X3 N3
    have R := HI.out.gone HN.out HV.out HG.out N3.out X3.out H4.out T4.out
    exact ⟨rfl, ⟨gs, some m, mh, H, K, R.1⟩, R.2⟩
end
end Go.Proofs.Ytpangoddbfiagaa
