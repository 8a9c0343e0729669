/- Set, walked over the state: what all its ways need (printed by gen_set.py). -/
import Derived.Test.YtpangoddbfiagaaSetA
namespace Go.Proofs.Ytpangoddbfiagaa
open Go.RowKit Go.Maps Go.ChangeMaps
set_option linter.unusedVariables false
set_option linter.unusedSimpArgs false

theorem q27 (W : World) (t : Bs) (b : Bool) : (binOp .neq 27 (.agg #[.string ⟨t.toArray⟩, .bool b]) (.agg #[.string ⟨#[]⟩, .bool false])).run Try.prog W = .ok (.bool (!(t == [] && !b))) W := by
  cases t with
  | nil => cases b <;> kernel_rfl
  | cons c t => kernel_rfl
theorem q82 (w : World) (r : Option Nat) : (binOp .eql 82 (.map r) (.map none)).run Try.prog w = .ok (.bool r.isNone) w := run_eql_map_nil w _ _ _ r Try.underlying82
theorem size82 : (Try.prog.info? 82).map (·.size) = some 1 := by kernel_rfl
/-- In a region that draws its order: a struct, read. -/
theorem wpQuiet_get {ops : Array Oper} {C : World → Prop} {Q : Act → Prop} {a : Act} {o : Oper} {rest : List Oper} (ty : TypeId) (d : TypeDesc) (hw : Region.wanted o (yielded ops a.tmps) = true) (x : Operand) (ho : o.op = .load ty x)
    (g off : Nat) (e : TypeId) (cur : Array Value) (cs : List Value) (hx : a.eval x = .pointer (some ⟨g, off, none⟩)) (hg : ∀ W, C W → W.heap[g]? = some (.cells cur e (0, 0))) (hc : (cur.toList.drop off).take cs.length = cs) (hu : Try.prog.underlying ty = some d) (hd : d.isRow = true) (hi : (Try.prog.info? ty).map (·.size) = some cs.length)
    (h : wpQuiet Try.prog ops C Q rest (a.put o.dst (.agg cs.toArray))) : wpQuiet Try.prog ops C Q (o :: rest) a :=
  BigFrame.wpQuiet_want hw fun K hK => ⟨.agg cs.toArray, fun W hW => by
    unfold Oper.quietAt execOp
    simp only [ho, hx, Instr.loadAt, Instr.sureAddr, Sem.run_bind, Sem.run_pure, Result.andThen_ok, run_loadVar_mid W g off ty cs d (range_of (hg W hW) hc) hu hd hi]
    exact ⟨rfl, rfl⟩, hK _ h⟩
/-- A slice whose block is none of these. -/
def FarV (own : Nat → Prop) (v : Value) : Prop := ∀ A n c, v = .slice (some A) n c → 0 < n → ¬ own A.block
theorem RowAt.far {w w' : World} {own : Nat → Prop} {v : Value} {xs : List Value} (h : RowAt w v xs) (x : ExtP own w w') (hf : FarV own v) : RowAt w' v xs := by
  obtain ⟨A, c, h1, h2, h3, h4⟩ := h
  refine ⟨A, c, h1, h2, h3, fun j hj => ?_⟩
  obtain ⟨b, off, e1, e2⟩ := h4 j hj
  refine ⟨b, off, e1, ?_⟩
  have hb : w'.heap[b]? = w.heap[b]? := by
    refine x.block b ?_ ?_
    · unfold World.cell? at e2
      split at e2
      · exact blk_lt (by assumption)
      · cases e2
    · exact hf ⟨b, off, none⟩ _ _ (by rw [h1, e1]) (by omega)
  unfold World.cell? at e2 ⊢
  simp only [hb]
  exact e2
theorem OI.moreN {w : World} {b B N M : Nat} {own : Nat → Prop} {vs : List Vn} {ss : List Sn} {sa : List Nat} (h : OI w b B N own vs ss sa) (hM : N ≤ M) : OI w b B M own vs ss sa := by
  obtain ⟨gs, mo, mh, H, K, h⟩ := h
  exact ⟨gs, mo, mh, H, K, h.blk, h.ob, h.vers, h.strs, ⟨h.maps.obs.more hM, h.maps.had.more hM, fun o g e => (h.maps.inn o g e).more hM, h.maps.tie, h.maps.hinj, h.maps.omo, h.maps.omh, h.maps.oin, h.maps.d1, h.maps.d2⟩, h.one, h.lt, h.low, h.lowB, h.objs⟩
theorem OI.grown {w w' : World} {b B N : Nat} {own : Nat → Prop} {vs : List Vn} {ss : List Sn} {sa : List Nat} (h : OI w b B N own vs ss sa) (x : Ext w w') : OI w' b B N (grownOwn own w w') vs ss sa := by
  obtain ⟨gs, mo, mh, H, K, h⟩ := h
  refine ⟨gs, mo, mh, H, K, h.keep (fun i hi => x.block i (h.lt i hi)) x.size (fun i hi => .inl hi) (fun i hi => ?_) (fun i hi => ?_)⟩
  · rcases hi with hi | hi
    · exact Nat.lt_of_lt_of_le (h.lt i hi) x.size
    · exact hi.2
  · rcases hi with hi | hi
    · exact h.low i hi
    · exact Nat.le_trans h.lowB hi.1
section
variable {w w' : World} {b B N : Nat} {own : Nat → Prop} {vs : List Vn} {ss : List Sn} {sa : List Nat} {gs : List Vg} {mo mh : Option Nat} {H : Bs → Option Nat} {K : Bs → Bs → Option Bool}
theorem fin_same (hI : OIx w b B N own vs ss sa gs mo mh H K) (x : Ext w w') {r : Int × List Vn} {k : Int} (hr : r = (k, vs)) : Ending.returned (.int .i64 k) = .returned (.int .i64 r.1) ∧ OI w' b B (N + 2) (grownOwn own w w') r.2 ss sa ∧ ExtP own w w' := by
  subst hr
  exact ⟨rfl, ((show OI w b B N own vs ss sa from ⟨gs, mo, mh, H, K, hI⟩).grown x).moreN (by omega), .of x⟩
theorem TextsAt.far {W : World} {v : Value} {ks : List Bs} (h : TextsAt w v ks) (x : ExtP own w W) (hf : FarV own v) : TextsAt W v ks := (h.row.far x hf).texts
/-- The end of Set. -/
theorem fin_set (hI : OIx w b B N own vs ss sa gs mo mh H K) {W W' : World} {m : Nat} {mh' : Option Nat} {H' : Bs → Option Nat} {K' : Bs → Bs → Option Bool} {o bs : Bs} {mp : MetaP} {g : Vg} {base : Nat} (hbase : B ≤ base) (hbase2 : w.heap.size ≤ base) (hM : Mid w own W b B (N + 1) (offVs vs o) gs ss sa (some m) mh' H' K' (nowF vs gs)) (ho : o.length ≤ 1000)
    (hblk : VerAt W g.b { mp with hav := g.h } g.kv g.bv false) (hkeys : SRow W base g.kv mp.keys) (hrow : BRow W base g.bv bs) (hgb : base ≤ g.b) (hz : MetaZ mp) (hbs : bs.length ≤ 1000)
    (hfr : ∀ (j : Nat) (y : Vg), gs[j]? = some y → y.b < base ∧ ∀ x, y.bv.ownBlock = some x → x < base)
    (hm : GMap ptE W' m (N + 2) (upd (nowF vs gs) o (some g.b))) (ht : W.mapTurned W' m) (htie : ∀ o' t, hadF H' K' o' t = hadA (offVs vs o ++ [⟨o, mp, bs, false⟩]) o' t) {r : Int × List Vn} (hr : r = (0, offVs vs o ++ [⟨o, mp, bs, false⟩])) :
    Ending.returned (.int .i64 0) = .returned (.int .i64 r.1) ∧ OI W' b B (N + 2) (grownOwn own w W') r.2 ss sa ∧ ExtP own w W' := by
  subst hr
  have hg1 : ∀ x, base ≤ x → x < W.heap.size → grownOwn own w W x := fun x h1 h2 => .inr ⟨by omega, h2⟩
  have hok : VerOk W B (grownOwn own w W) ⟨o, mp, bs, false⟩ g := ⟨hblk, ownsRow_base hkeys hbase, ownsRow_base hrow hbase, hg1 _ hgb (blk_lt hblk), fun x e => hg1 x (hkeys.lt x e).1 (hkeys.lt x e).2, fun x e => hg1 x (hrow.lt x e).1 (hrow.lt x e).2, hz, by simp only; omega⟩
  have R := hM.add hI.lt hI.low hI.lowB hok (fun j y e => by have := (hfr j y e).1; omega) (fun j y x e e2 e3 => by have h1 := (hfr j y e).2 x e2; have h2 := (hrow.lt x e3).1; omega) hm ht (nowF_add hI.one rfl hI.vers.len) htie ((offVs_one hI.one o).add rfl (by rw [offVs_now hI.one]; simp)) (fun v hv => ?_)
  · exact ⟨rfl, ⟨_, _, _, _, _, R.1⟩, R.2⟩
  · rcases List.mem_append.1 hv with h1 | h1
    · have hvw : viewT v ∈ (offVs vs o).map viewT := List.mem_map_of_mem h1
      rw [offVs_view] at hvw
      obtain ⟨u, hu, e⟩ := List.mem_map.1 hvw
      have := hI.objs u hu
      rw [show u.obj = v.obj from congrArg Prod.fst e] at this
      exact this
    · rw [List.mem_singleton.1 h1]; exact ho
theorem tellX {w0 W : World} {own0 : Nat → Prop} {F : Bs → Option Nat} {o : Bs} (h : Mid w0 own0 W b B N vs gs ss sa mo mh H K F) {x : Nat} (hx : x ∈ b :: (mh.toList ++ (H o).toList)) : kindOf W x = 84 ∨ kindOf W x = 1000 := by
  have hX : x = b ∨ mh = some x ∨ H o = some x := by simpa [eq_comm] using hx
  rcases hX with e | e | e
  · rw [e]; exact .inl (kind_cells h.blk)
  · subst e
    obtain ⟨es, cl, e⟩ := h.had.had.lt
    exact .inr (kind_map e)
  · obtain ⟨es, cl, e⟩ := (h.had.inn o x e).at_
    exact .inr (kind_map e)
theorem frs_of (hI : OIx w b B N own vs ss sa gs mo mh H K) {base : Nat} (hb : w.heap.size ≤ base) (j : Nat) (y : Vg) (e : gs[j]? = some y) : y.b < base ∧ ∀ x, y.bv.ownBlock = some x → x < base := by
  have hj : j < vs.length := by rw [← hI.vers.len]; exact (List.getElem?_eq_some_iff.1 e).1
  have q := hI.vers.at_ j vs[j] y (by simp [hj]) e
  exact ⟨by have := blk_lt q.blk; omega, fun x hx => by have := (q.row.lt x hx).2; omega⟩
end
end Go.Proofs.Ytpangoddbfiagaa
