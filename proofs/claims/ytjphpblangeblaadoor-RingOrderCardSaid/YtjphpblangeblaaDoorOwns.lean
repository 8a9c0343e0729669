/- The program's Owners, walked. -/
import Derived.Test.YtjphpblangeblaaDoorRem
namespace Go.Proofs.YtjphpblangeblaaDoor
open Go.RowKit Go.Maps Go.ChangeMaps
set_option linter.unusedVariables false
set_option linter.unusedSimpArgs false
theorem wpQuiet_range {ops : Array Oper} {C : World → Prop} {Q : Act → Prop} {a : Act} {o : Oper} {rest : List Oper} (ty : TypeId) (d : TypeDesc) (hw : Region.wanted o (yielded ops a.tmps) = true) (x : Operand) (ho : o.op = .load ty x)
    (g off : Nat) (cs : List Value) (hx : a.eval x = .pointer (some ⟨g, off, none⟩)) (hg : ∀ W, C W → W.rangeAt g off cs) (hu : Tryd.prog.underlying ty = some d) (hd : d.isRow = true) (hi : (Tryd.prog.info? ty).map (·.size) = some cs.length)
    (h : wpQuiet Tryd.prog ops C Q rest (a.put o.dst (.agg cs.toArray))) : wpQuiet Tryd.prog ops C Q (o :: rest) a :=
  BigFrame.wpQuiet_want hw fun K hK => ⟨.agg cs.toArray, fun W hW => by
    unfold Oper.quietAt execOp
    simp only [ho, hx, Instr.loadAt, Instr.sureAddr, Sem.run_bind, Sem.run_pure, Result.andThen_ok, run_loadVar_mid W g off ty cs d (hg W hW) hu hd hi]
    exact ⟨rfl, rfl⟩, hK _ h⟩
/-- The points as seen from an object. -/
def rotP (P : List Pt) (f : Nat) : List Pt := P.drop f ++ P.take f
theorem rotP_len (P : List Pt) (f : Nat) : (rotP P f).length = P.length := by unfold rotP; simp; omega
/-- Owners are being told. -/
structure OwS (w wr : World) (m : Nat) (P : List Pt) (f : Nat) (K : Int) (i : Nat) (v : Value) (out : List Nm) : Prop where
  out_ : out = firsts [] (((rotP P f).take i).map Pt.nm)
  le : (out.length : Int) ≤ max K 0
  row : SRow wr w.heap.size v out
  seen : GMap boE wr m i (fun s => if s ∈ out then some true else none)
  far : v.ownBlock ≠ some m
  mlow : w.heap.size ≤ m
  x : Ext w wr
theorem upd_seen (out : List Nm) (n : Nm) : upd (fun s => if s ∈ out then some true else none) n (some true) = fun s => if s ∈ out ++ [n] then some true else (none : Option Bool) := by
  funext s
  unfold upd
  by_cases e : s = n
  · simp [e]
  · by_cases h : s ∈ out <;> simp [e, h]
theorem rot_step {P : List Pt} {f i : Nat} {p : Pt} (hg : (rotP P f)[i]? = some p) : firsts [] (((rotP P f).take (i + 1)).map Pt.nm) = if (firsts [] (((rotP P f).take i).map Pt.nm)).contains p.nm then firsts [] (((rotP P f).take i).map Pt.nm) else firsts [] (((rotP P f).take i).map Pt.nm) ++ [p.nm] := by
  rw [List.take_add_one, hg, List.map_append, firsts_app]
  rfl
theorem OwS.skip {w wr W4 : World} {m f i : Nat} {P : List Pt} {K : Int} {v : Value} {out : List Nm} {p : Pt} (h : OwS w wr m P f K i v out) (hg : (rotP P f)[i]? = some p) (hn : p.nm ∈ out) (hx : Ext wr W4) : OwS w W4 m P f K (i + 1) v out := by
  obtain ⟨es, cl, e2⟩ := h.seen.at_
  refine ⟨?_, h.le, ownsRow_below h.row hx, (h.seen.same (hx.block m (blk_lt e2))).more (Nat.le_succ _), h.far, h.mlow, h.x.trans hx⟩
  rw [rot_step hg, ← h.out_, if_pos (by simpa using hn)]
theorem OwS.more {w wr W4 W5 W6 : World} {m f i : Nat} {P : List Pt} {K : Int} {v v' : Value} {out : List Nm} {p : Pt} (h : OwS w wr m P f K i v out) (hg : (rotP P f)[i]? = some p) (hn : p.nm ∉ out) (hK : (out.length : Int) < K) (hx : Ext wr W4) (hr : SRow W5 w.heap.size v' (out ++ [p.nm])) (hgr : W4.grownBy W5 v.ownBlock)
    (hm : GMap boE W6 m (i + 1) (upd (fun s => if s ∈ out then some true else none) p.nm (some true))) (ht : W5.mapTurned W6 m) : OwS w W6 m P f K (i + 1) v' (out ++ [p.nm]) := by
  obtain ⟨es, cl, e2⟩ := h.seen.at_
  have hml := blk_lt e2
  have x6 := turned_ext ht
  have m5 : W5.heap[m]? = some (.map es cl) := ((hgr.block m (Nat.lt_of_lt_of_le hml hx.size) (fun e => h.far e.symm)).trans (hx.block m hml)).trans e2
  have hfar : v'.ownBlock ≠ some m := fun e => by
    rcases hr.2 with ⟨rfl, _⟩ | ⟨g', cap, cur, rfl, _, hgg, _⟩
    · cases e
    · cases e; rw [hgg] at m5; cases m5
  refine ⟨?_, by have := h.le; simp; omega, own_extB hr x6 (fun k hk e => hfar (by rw [e]; simpa using hk)), by rw [← upd_seen]; exact hm, hfar, h.mlow, ?_⟩
  · rw [rot_step hg, ← h.out_, if_neg (by simpa using hn)]
  · have b1 : Below w.heap.size W4 W5 := own_below (ownsRow_below h.row hx) hgr (Nat.le_trans h.x.size hx.size)
    have b2 : Below w.heap.size W5 W6 := x6.below (by have := h.x.size; have := hx.size; have := hgr.size; omega) (by intro k hk; rw [show k = m by simpa using hk]; exact h.mlow)
    exact RowKit.Below.trans (RowKit.Below.trans (h.x.trans hx) b1) b2
theorem srow_k {w : World} {B : Nat} {v : Value} {ss : List Bs} : KRow (fun t : Bs => [strV t]) 1 9 w B v ss ↔ SRow w B v ss := by
  unfold KRow SRow
  have : (ss.flatMap fun t => [strV t]) = ss.map strV := by induction ss <;> simp_all
  rw [this]
/-- 'append(l, t)'. -/
theorem wpList_appendS {W : World} {ops : Array Oper} {rest : List Oper} {o : Oper} {a : Act} {Q : Exit → Act → World → Prop} (hgd : o.guard = none) (s x : Operand) (ho : o.op = .call { callee := .builtin .append, args := #[s, x], argTypes := #[31, 31] }) {B : Nat} {v : Value} {ss : List Bs} (t : Bs) (hown : SRow W B v ss) (hs : a.eval s = v)
    (gN : Nat) (hx : a.eval x = .slice (some ⟨gN, 0, none⟩) 1 1) (hgN : W.heap[gN]? = some (.cells #[.string ⟨t.toArray⟩] 9 (0, 0))) (hlen : ss.length ≤ 1000000) (hbase : B ≤ W.heap.size)
    (h : ∀ v' w', SRow w' B v' (ss ++ [t]) → W.grownBy w' v.ownBlock → wpList Tryd.prog ops Q rest (a.put o.dst v') w') : wpList Tryd.prog ops Q (o :: rest) a W :=
  wpList_appendK (enc := fun t : Bs => [strV t]) (k := 1) (e := 9) 31 _ 16 Tryd.underlying31 info9 rfl (by decide) (by decide) hgd s x ho t rfl (by intro u hu; rw [show u = strV t by simpa using hu]; rfl) (srow_k.2 hown) hs #[.string ⟨t.toArray⟩] gN hx hgN rfl hlen hbase fun v' w' h1 h2 _ => h v' w' (srow_k.1 h1) h2
theorem OwS.fin {w wr : World} {m f i each : Nat} {P : List Pt} {K H : Int} {v : Value} {out : List Nm} {L : NL} (h : OwS w wr m P f K i v out) (hf : FirstP P H f) (hk : LOk L) (he : 1 ≤ each) (hp : PtsOf pd each L P) (hr : Rise P) (hH : 0 ≤ H ∧ H < 18446744073709551616) (hend : K ≤ out.length ∨ P.length ≤ i) (hK : K ≤ L.length) :
    SRow wr w.heap.size v ((ordL pd each H L).take K.toNat) := by
  have hown := own_eq (pd := pd) (H := H) (f := f) hk.nd (fun x hx => Nat.mul_pos (by omega) (by have := hk.wts x hx; omega)) hp pd_range hH hr hf.2.1 hf.2.2
  have hlen := ordL_len (pd := pd) each H hk.nd
  have e : (ordL pd each H L).take K.toNat = out := by
    have hsplit : (rotP P f).map Pt.nm = ((rotP P f).take i).map Pt.nm ++ ((rotP P f).drop i).map Pt.nm := by rw [← List.map_append, List.take_append_drop]
    have hall : firsts out (((rotP P f).drop i).map Pt.nm) = ordL pd each H L := by
      rw [h.out_, ← firsts_app, ← hsplit]; exact hown
    have hle := h.le
    rcases hend with h1 | h1
    · obtain ⟨t, ht⟩ := firsts_prefix (((rotP P f).drop i).map Pt.nm) out
      rw [← hall, ht]
      by_cases hK0 : K ≤ 0
      · have : out.length = 0 := by omega
        rw [List.length_eq_zero_iff] at this
        rw [this, show K.toNat = 0 by omega]; simp
      · exact List.take_left' (by omega)
    · have h2 : ((rotP P f).drop i).map Pt.nm = [] := by rw [List.drop_of_length_le (by rw [rotP_len]; exact h1)]; rfl
      rw [h2] at hall
      have h3 : out = ordL pd each H L := hall
      rw [← h3]
      exact List.take_of_length_le (by rw [h3, hlen]; rw [h3, hlen] at hle; omega)
  rw [e]
  exact h.row
section
variable {w : World} {B b N each : Nat} {own : Nat → Prop} {L : NL} {ob : Bs}
set_option maxRecDepth 100000 in
set_option maxHeartbeats 4000000 in
theorem owners_any (hI : RgI w B b N own each L) (ho : ob.length ≤ 1000000) (k : Int) : Calls Tryd.prog 12 #[.pointer (some ⟨b, 0, none⟩), .string ⟨ob.toArray⟩, .int .i64 k] w fun e w' => ∃ v, e = .returned v ∧ SRow w' w.heap.size v ((ordL pd each (hashL ob) L).take (min k L.length).toNat) ∧ Ext w w' := by
  obtain ⟨P, mo, sv, h⟩ := hI
  obtain ⟨A, c, rfl⟩ := h.row.slice
  have hPl : P.length ≤ 1000000 := by have := h.many; have := h.nb; omega
  have hll := h.ok.len
  have k1 := blk_cell h.blk 1
  have k2 := blk_cell h.blk 2
  simp at k1 k2
  have HBS := Lib.hid (fun w1 (x : Ext w w1) => bs_any (h.row.ext x) h.srt hPl (hashL ob))
  have HH := Lib.hid (fun W => hash_any ob W ho)
  have HR := Lib.hid (hashL_range ob)
  obtain ⟨H, hH⟩ : ∃ H, H = hashL ob := ⟨_, rfl⟩
  rw [← hH] at HBS HH HR ⊢
  have HLEN := Lib.hid (fun w1 (x : Ext w w1) ty => names_len (h.ext x).names h.e1.1 h.ok ty)
  obtain ⟨ln, hln⟩ : ∃ ln, ln = L.length := ⟨_, rfl⟩
  rw [← hln] at HLEN hll ⊢
  obtain ⟨pl, hpl⟩ : ∃ pl, pl = P.length := ⟨_, rfl⟩
  rw [← hpl] at k2 HBS hPl
  have HI := Lib.hid h; have HLN := Lib.hid hln; have HPL := Lib.hid hpl
  clear h hH hln hpl ho
  go_enter Tryd.func12, Tryd.ntmps12
  go_wp2_with fail
  refine wp_region_segs [] [.inl [0, 1, 2, 3, 4], .inr (.inl 5), .inr (.inl 6), .inl [7, 8, 9, 10, 11]] (by kernel_rfl) (by kernel_rfl) (fun c a d v w h => by cases d <;> exact h) ?_
  have G0 : ∀ y : Grow [] w.drew, y.v.cell? ⟨b, 2, none⟩ = some (.slice A pl c) := fun y => y.ext.ext.cell k2
  (rw [wpSegs_inl]; simp only [pickOps, List.map_cons, List.map_nil, List.getD_cons_succ, List.getD_cons_zero]; (repeat (go_big_quiet_step (fail))); refine wpQuiet_nil ?_)
  clear G0
  (rw [wpSegs_grow]; simp only [pickOps, List.map_cons, List.map_nil, List.getD_cons_succ, List.getD_cons_zero]; go_wp2_with ((go_at_call 27; refine (HH.out _).mono ?_; rintro e w1 ⟨rfl, rfl⟩)))
  refine ⟨ExtB.refl _ _, ?_⟩
  (rw [wpSegs_grow]; simp only [pickOps, List.map_cons, List.map_nil, List.getD_cons_succ, List.getD_cons_zero]; go_wp2_with ((go_at_call 26; refine (HBS.out _ (Ext.refl w).drew).mono ?_; rintro e w1 ⟨f, fb, rfl, hf, hx1⟩)))
  refine ⟨.of hx1 _, ?_⟩
  have HF := Lib.hid hf; have X1 := Lib.hid ((Ext.refl w).drew.trans hx1)
  clear hf hx1 HBS
  (rw [wpSegs_inl]; simp only [pickOps, List.map_cons, List.map_nil, List.getD_cons_succ, List.getD_cons_zero]; (repeat (go_big_quiet_step (fail))); refine wpQuiet_nil ?_)
  rw [wpSegs_nil]
  have hmm := @run_makeMap Tryd.prog
  have xa := ext_alloc1 w1 (.map #[] 0)
  have hk2 : (w1.alloc (.map #[] 0)).cell? ⟨b, 2, none⟩ = some (.slice A pl c) := xa.cell (X1.out.cell k2)
  have hg0 : GMap boE (w1.alloc (.map #[] 0)) w1.heap.size 0 (fun _ => none) := GMap.made boE w1
  obtain ⟨W2, hW2⟩ : ∃ W2, W2 = w1.alloc (.map #[] 0) := ⟨_, rfl⟩
  obtain ⟨m, hm⟩ : ∃ m, m = w1.heap.size := ⟨_, rfl⟩
  have HW2 := Lib.hid hW2; have HM := Lib.hid hm
  have hS : OwS w W2 m P f (min k ln) 0 (.slice none 0 0) [] := by
    refine ⟨rfl, by simp; omega, World.ownsRow_nil _ _ _ _, ?_, (by intro e; cases e), by rw [hm]; exact X1.out.size, by rw [hW2]; exact X1.out.trans xa⟩
    rw [hW2, hm]; simpa using hg0
  have HS := Lib.hid hS
  have HL2 := Lib.hid (fun wr (x : Ext w wr) => HLEN.out wr x)
  have HK2 := Lib.hid k2
  clear hg0 hW2 hm hS xa k2
  go_wp2_with fail
  rw [← HW2.out, ← HM.out]
  clear hk2
  go_loopw [29, 9, 12] (fun s29 s9 _ wr => ∃ (i : Nat) (out : List Nm), s29 = .int .i64 i ∧ i ≤ pl ∧ Hid (OwS w wr m P f (min k ln) i s9 out)) (fun s29 _ _ _ => pl - (RowKit.intOf s29).toNat)
  case atStart => exact ⟨0, [], rfl, by omega, HS⟩
  case round =>
    obtain ⟨i, out, rfl, hi, hO⟩ := hrel
    obtain ⟨Ao, co, rfl⟩ := own_slice hO.out.row
    have hlen := HL2.out wr hO.out.x
    have k1r := hO.out.x.cell k1
    obtain ⟨ol, hol⟩ : ∃ ol, ol = out.length := ⟨_, rfl⟩
    rw [← hol] at hO ⊢
    have HOL := Lib.hid hol
    clear hol
    by_cases hlt : i < pl
    · by_cases hge : min k (ln : Int) ≤ (ol : Int)
      · go_wp2
        go_ret
        exact ⟨_, rfl, hO.out.fin HF.out HI.out.ok HI.out.e1.1 HI.out.pts HI.out.srt HR.out (.inl (by rw [← HOL.out]; exact hge)) (by rw [HLN.out]; omega), hO.out.x⟩
      · obtain ⟨id, hid⟩ : ∃ id, id = (f + i) % pl := ⟨_, rfl⟩
        have hidl : id < P.length := by rw [hid, ← HPL.out]; exact Nat.mod_lt _ (by omega)
        have hfp : f ≤ pl := by have := HF.out.1; have := HPL.out; omega
        have hmod : ((f : Int) + (i : Int)) % (pl : Int) = (id : Int) := by rw [hid]; push_cast; rfl
        have hmod2 : ((f : Int) + (i : Int)).tmod (pl : Int) = (id : Int) := by rw [Int.tmod_eq_emod_of_nonneg (by omega)]; exact hmod
        obtain ⟨g, rfl⟩ : ∃ g, A = some ⟨g, 0, none⟩ := by
          obtain ⟨g, hA, _⟩ := (HI.out.row.ext hO.out.x).at_ encPt_len hidl
          exact ⟨g, hA⟩
        have hrg := (HI.out.row.ext hO.out.x).range encPt_len hidl
        have hget : (rotP P f)[i]? = some P[id] := by
          unfold rotP
          rw [rot_get P f i (by rw [← HPL.out]; exact hfp) (by rw [← HPL.out]; exact hlt), ← HPL.out, ← hid]; simp [hidl]
        obtain ⟨p, hp⟩ : ∃ p, p = P[id] := ⟨_, rfl⟩
        rw [← hp] at hrg hget
        have HRG := Lib.hid hrg; have HGET := Lib.hid hget
        have hidp : id < pl := by rw [HPL.out]; exact hidl
        clear hid hidl hrg hget hp
        have k2r : wr.cell? ⟨b, 2, none⟩ = some (.slice (some ⟨g, 0, none⟩) pl c) := hO.out.x.cell HK2.out
        obtain ⟨pa, pn⟩ := p
        go_wp2_with fail
        clear hmm
        refine wp_region_segs [] [.inl [0, 1, 2, 3, 4, 5, 6, 7, 8, 9, 10, 11, 12, 13, 14], .inr (.inl 15), .inr (.inr 16)] (by kernel_rfl) (by kernel_rfl) (fun c a d v w h => by cases d <;> exact h) ?_
        have G0 : ∀ y : Grow [] wr.drew, y.v.cell? ⟨b, 2, none⟩ = some (.slice (some ⟨g, 0, none⟩) pl c) := fun y => y.ext.ext.cell k2r
        (rw [wpSegs_inl]; simp only [pickOps, List.map_cons, List.map_nil, List.getD_cons_succ, List.getD_cons_zero]; (repeat (go_big_quiet_step (fail))); (refine wpQuiet_range 59 _ rfl _ rfl g (id * 2) (encPt ⟨pa, pn⟩) rfl (fun W hW => by obtain ⟨y, rfl⟩ := hW; intro j u hu; exact (y.ext.ext (a := wr.drew)).cell (HRG.out j u hu)) Tryd.underlying59 rfl size59 ?_; simp only [Act.put, List.setIfInBounds_toArray, List.set_cons_succ, List.set_cons_zero]); refine wpQuiet_nil ?_)
        clear G0
        obtain ⟨vb, hvb⟩ : ∃ vb, vb = wr.drew.heap.size := ⟨_, rfl⟩
        have HVB := Lib.hid (show wr.heap.size ≤ vb by rw [hvb]; exact Nat.le_refl _)
        (rw [wpSegs_grow]; simp only [pickOps, List.map_cons, List.map_nil, List.getD_cons_succ, List.getD_cons_zero])
        (refine wpList_new 59 #[.int .u64 0, .string ⟨#[]⟩] zero59 rfl rfl ?_; intro W3 x3 n3 s3)
        rw [← hvb] at n3 ⊢
        clear hvb
        go_wp2_with fail
        refine ⟨.of x3 _, ?_⟩
        simp only [Act.put, List.setIfInBounds_toArray, List.set_cons_succ, List.set_cons_zero]
        have X3 := Lib.hid ((Ext.refl wr).drew.trans x3); have N3 := Lib.hid n3
        clear x3 n3 s3
        (rw [wpSegs_last]; simp only [pickOps, List.map_cons, List.map_nil, List.getD_cons_succ, List.getD_cons_zero])
        (refine wpList_put 59 rfl _ _ rfl vb 0 59 _ (encPt ⟨pa, pn⟩).toArray (encPt ⟨pa, pn⟩) (.agg (encPt ⟨pa, pn⟩).toArray) N3.out rfl rfl rfl (by simp [encPt]) rfl size59 (by simp [putA, encPt]) ?_; intro W4 x4 n4 s4)
        go_wp2_with fail
        simp only [Act.put, List.setIfInBounds_toArray, List.set_cons_succ, List.set_cons_zero]
        have X4 := Lib.hid (show Ext wr W4 from X3.out.thenB x4 (by intro y hy; rw [show y = vb by simpa using hy]; exact HVB.out))
        have kp := blk_cell n4 1
        simp [encPt] at kp
        clear x4 n4 s4 X3 N3 k2r hidp
        rw [wpSegs_nil]
        have hg4 : GMap boE W4 m i (fun s => if s ∈ out then some true else none) := by
          obtain ⟨es, cl, e2⟩ := hO.out.seen.at_
          exact hO.out.seen.same (X4.out.block m (blk_lt e2))
        have hpl4 : pn.length ≤ 1000000 := by
          have hm : (⟨pa, pn⟩ : Pt) ∈ P := by
            have := List.mem_of_getElem? HGET.out
            unfold rotP at this
            rcases List.mem_append.1 this with h | h
            · exact List.mem_of_mem_drop h
            · exact List.mem_of_mem_take h
          obtain ⟨x, hx, _, _, e⟩ := (HI.out.pts _).1 hm
          have hr := HI.out.ok.right x hx
          have e2 : pn = x.1 := by injection e
          rw [e2]
          unfold rightN at hr; simp at hr; omega
        have hlk := hg4.look Tryd.underlying66 (zeroB W4) hpl4
        have HG4 := Lib.hid hg4; have HPL4 := Lib.hid hpl4
        by_cases hin : pn ∈ out
        · have hl4 : (Instr.lookup 66 (.map (some m)) (.string ⟨pn.toArray⟩) false).run Tryd.prog W4 = .ok (.bool true) W4 := by
            rw [if_pos hin] at hlk; exact hlk
          have HST := Lib.hid (hO.out.skip HGET.out hin X4.out)
          clear hlk hg4 hpl4 hin
          go_wp2_with fail
          go_roundw
          case rel => exact ⟨i + 1, out, by go_num, by omega, HST⟩
          case measure => simp [RowKit.intOf]; omega
        · have hl4 : (Instr.lookup 66 (.map (some m)) (.string ⟨pn.toArray⟩) false).run Tryd.prog W4 = .ok (.bool false) W4 := by
            rw [if_neg hin] at hlk; exact hlk
          have HIN := Lib.hid hin
          have HKK : Hid ((out.length : Int) < min k ln) := Lib.hid (by rw [← HOL.out]; exact hge)
          have hol3 : out.length ≤ 1000 := by have := HKK.out; omega
          have HOL3 := Lib.hid hol3
          clear hlk hg4 hpl4 hin hol3
          have R4 := Lib.hid (show SRow (W4.alloc (.cells #[.string ⟨pn.toArray⟩] 9)) w.heap.size (.slice Ao ol co) out from ownsRow_below hO.out.row (X4.out.trans (ext_alloc1 W4 _)))
          have XA := Lib.hid (X4.out.trans (ext_alloc1 W4 (.cells #[.string ⟨pn.toArray⟩] 9)))
          go_wp2_with (refine wpList_appendS rfl _ _ rfl pn R4.out rfl W4.heap.size rfl (heap_alloc_new W4 _) (by have := HOL3.out; omega) (Nat.le_trans hO.out.x.size XA.out.size) ?_; intro v5 W5 r5 g5; refine stop_of ?_)
          unfold Stop
          have kp5 : W5.cell? ⟨vb, 1, none⟩ = some (.string ⟨pn.toArray⟩) := by
            have ka : (W4.alloc (.cells #[.string ⟨pn.toArray⟩] 9)).cell? ⟨vb, 1, none⟩ = some (.string ⟨pn.toArray⟩) := (ext_alloc1 W4 _).cell kp
            refine (World.cell?_of_block (g5.block vb (World.block_lt_of_cell? _ ⟨vb, 1, none⟩ ka) (fun e => ?_))).trans ka
            have := (hO.out.row.lt vb e.symm).2
            have := HVB.out; omega
          have hg5 : GMap boE W5 m i (fun s => if s ∈ out then some true else none) := by
            obtain ⟨es, cl, e2⟩ := HG4.out.at_
            refine HG4.out.same ((g5.block m ?_ (fun e => hO.out.far e.symm)).trans ((ext_alloc1 W4 _).block m (blk_lt e2)))
            have := blk_lt e2; simp; omega
          obtain ⟨W6, hrun, h6, t6⟩ := hg5.put (by omega) Tryd.underlying66 HPL4.out true
          replace hrun : (Instr.mapUpdate 66 (.map (some m)) (.string ⟨pn.toArray⟩) (.bool true)).run Tryd.prog W5 = .ok () W6 := hrun
          obtain ⟨A5, c5, rfl⟩ := own_slice r5
          have HST := Lib.hid (hO.out.more (p := ⟨pa, pn⟩) HGET.out HIN.out HKK.out XA.out r5 g5 h6 t6)
          obtain ⟨ol5, hol5⟩ : ∃ q, q = (out ++ [pn]).length := ⟨_, rfl⟩
          rw [← hol5] at HST ⊢
          clear r5 g5 hg5 h6 t6 hol5 kp hl4
          go_wp2_with fail
          go_roundw
          case rel => exact ⟨i + 1, _, by go_num, by omega, HST⟩
          case measure => simp [RowKit.intOf]; omega
    · go_wp2
      go_ret
      exact ⟨_, rfl, hO.out.fin HF.out HI.out.ok HI.out.e1.1 HI.out.pts HI.out.srt HR.out (.inr (by rw [← HPL.out]; omega)) (by rw [HLN.out]; omega), hO.out.x⟩
end
end Go.Proofs.YtjphpblangeblaaDoor
