/- The program's methods, walked over the state: New, growing, Meta, Bytes. -/
import Derived.Test.YtpangoddbfiagaaState
import Derived.Laws.ResultCell
namespace Go.Proofs.Ytpangoddbfiagaa
open Go.RowKit Go.Maps Go.ChangeMaps
set_option linter.unusedVariables false
set_option linter.unusedSimpArgs false

/-- Nothing of w has turned in w' but what is owned; new blocks may lie behind it. -/
structure ExtP (own : Nat → Prop) (w w' : World) : Prop where
  os : w'.os = w.os
  tape : w'.tape = w.tape
  output : w'.output = w.output
  size : w.heap.size ≤ w'.heap.size
  block : ∀ k, k < w.heap.size → ¬ own k → w'.heap[k]? = w.heap[k]?
theorem ExtP.of {own : Nat → Prop} {w w' : World} (h : Ext w w') : ExtP own w w' := ⟨h.os, h.tape, h.output, h.size, fun k hk _ => h.block k hk⟩
theorem ExtP.ofB {own : Nat → Prop} {w w' : World} {X : List Nat} (h : ExtB X w w') (hX : ∀ k ∈ X, own k ∨ w.heap.size ≤ k) : ExtP own w w' := ⟨h.os, h.tape, h.output, h.size, fun k hk hn => h.block k hk fun hh => by
  rcases hX k hh with h1 | h1
  · exact hn h1
  · omega⟩
theorem ExtP.trans {own own1 : Nat → Prop} {w w1 w2 : World} (h : ExtP own w w1) (k : ExtP own1 w1 w2) (ho : ∀ i, own1 i → own i ∨ w.heap.size ≤ i) : ExtP own w w2 :=
  ⟨k.os.trans h.os, k.tape.trans h.tape, k.output.trans h.output, Nat.le_trans h.size k.size, fun i hi hn => (k.block i (Nat.lt_of_lt_of_le hi h.size) (fun h1 => by
    rcases ho i h1 with h2 | h2
    · exact hn h2
    · omega)).trans (h.block i hi hn)⟩
theorem ExtP.below {own : Nat → Prop} {w w' : World} {B : Nat} (h : ExtP own w w') (hB : B ≤ w.heap.size) (hX : ∀ k, own k → B ≤ k) : Below B w w' :=
  ⟨h.os, h.tape, h.output, h.size, fun k hk => h.block k (Nat.lt_of_lt_of_le hk hB) (fun hh => by have := hX k hh; omega)⟩
/-- What is owned, and what is new. -/
def grownOwn (own : Nat → Prop) (w w' : World) : Nat → Prop := fun i => own i ∨ (w.heap.size ≤ i ∧ i < w'.heap.size)
set_option maxRecDepth 100000 in
theorem new_any (w : World) : Calls Try.prog 10 #[] w fun e w' => e = .returned (.pointer (some ⟨w.heap.size, 0, none⟩)) ∧ OI w' w.heap.size w.heap.size 0 (fun i => i = w.heap.size) [] [] [] ∧ Ext w w' := by
  go_enter Try.func10, Try.ntmps10
  go_wp2
  go_ret
  refine ⟨rfl, ⟨[], none, none, fun _ => none, fun _ _ => none, heap_alloc_new w _, rfl, ⟨rfl, fun i v g h => (by simp at h), fun i j g g' h => (by simp at h), fun i j g g' x h => (by simp at h)⟩, ⟨rfl, fun j s b h => (by simp at h), fun i j b h => (by simp at h)⟩, ⟨.inl ⟨rfl, fun k => rfl⟩, .inl ⟨rfl, fun k => rfl⟩, fun o g h => (by cases h), fun o t => rfl, fun o o' g h => (by cases h), fun m h => (by cases h), fun m h => (by cases h), fun o g h => (by cases h), fun m h => (by cases h), fun o g h => (by cases h)⟩, fun i j v v' h => (by simp at h), fun i hi => ?_, fun i hi => ?_, ?_, by simp⟩, ext_alloc1 _ _⟩
  · rw [hi]; simp
  · omega
  · simp
section
variable {w : World} {b B N : Nat} {own : Nat → Prop} {vs : List Vn} {ss : List Sn} {sa : List Nat} {gs : List Vg} {mo mh : Option Nat} {H : Bs → Option Nat} {K : Bs → Bs → Option Bool}
theorem look_none (h : OIx w b B N own vs ss sa gs mo mh H K) {o : Bs} (ho : o.length ≤ 1000000) (hn : nowI vs o = none) : (Instr.lookup 82 (.map mo) (.string ⟨o.toArray⟩) false).run Try.prog w = .ok (.pointer none) w := by
  rw [h.look ho, hn]; rfl
theorem look_some (h : OIx w b B N own vs ss sa gs mo mh H K) {o : Bs} (ho : o.length ≤ 1000000) {i : Nat} {g : Vg} (hn : nowI vs o = some i) (hg : gs[i]? = some g) : (Instr.lookup 82 (.map mo) (.string ⟨o.toArray⟩) false).run Try.prog w = .ok (.pointer (some ⟨g.b, 0, none⟩)) w := by
  rw [h.look ho, hn]; simp [hg]
set_option maxRecDepth 100000 in
theorem growing_none (h : OIx w b B N own vs ss sa gs mo mh H K) {o : Bs} (ho : o.length ≤ 1000000) (hn : nowI vs o = none) : Calls Try.prog 44 #[.pointer (some ⟨b, 0, none⟩), .string ⟨o.toArray⟩] w fun e w' => e = .returned (.tuple #[.pointer none, .int .i64 6]) ∧ w = w' := by
  have k0 := blk_cell h.blk 0
  simp at k0
  have hl := look_none h ho hn
  clear h hn
  go_enter Try.func44, Try.ntmps44
  go_wp2
  go_ret2
  exact ⟨rfl, rfl⟩
set_option maxRecDepth 100000 in
theorem growing_not (h : OIx w b B N own vs ss sa gs mo mh H K) {o : Bs} (ho : o.length ≤ 1000000) {i : Nat} {v : Vn} {g : Vg} (hn : nowI vs o = some i) (hv : vs[i]? = some v) (hg : gs[i]? = some g) (hlen : (v.m.len == -1) = false) : Calls Try.prog 44 #[.pointer (some ⟨b, 0, none⟩), .string ⟨o.toArray⟩] w fun e w' => e = .returned (.tuple #[.pointer none, .int .i64 11]) ∧ w = w' := by
  have k0 := blk_cell h.blk 0
  simp at k0
  have hl := look_some h ho hn hg
  have hgr := grows_any w g.b _ _ _ _ (h.vers.at_ i v g hv hg).blk
  simp only at hgr
  rw [hlen] at hgr
  have HGR := Lib.hid hgr
  clear h hn hv hg hlen hgr
  obtain ⟨q, hq⟩ : ∃ q, q = g.b := ⟨_, rfl⟩
  rw [← hq] at hl HGR
  clear hq
  go_enter Try.func44, Try.ntmps44
  go_wp2_with (go_at_call 43; refine HGR.out.mono ?_; rintro e w1 ⟨rfl, rfl⟩)
  go_ret2
  exact ⟨rfl, rfl⟩
set_option maxRecDepth 100000 in
theorem growing_ok (h : OIx w b B N own vs ss sa gs mo mh H K) {o : Bs} (ho : o.length ≤ 1000000) {i : Nat} {v : Vn} {g : Vg} (hn : nowI vs o = some i) (hv : vs[i]? = some v) (hg : gs[i]? = some g) (hlen : (v.m.len == -1) = true) : Calls Try.prog 44 #[.pointer (some ⟨b, 0, none⟩), .string ⟨o.toArray⟩] w fun e w' => e = .returned (.tuple #[.pointer (some ⟨g.b, 0, none⟩), .int .i64 0]) ∧ w = w' := by
  have k0 := blk_cell h.blk 0
  simp at k0
  have hl := look_some h ho hn hg
  have hgr := grows_any w g.b _ _ _ _ (h.vers.at_ i v g hv hg).blk
  simp only at hgr
  rw [hlen] at hgr
  have HGR := Lib.hid hgr
  clear h hn hv hg hlen hgr
  obtain ⟨q, hq⟩ : ∃ q, q = g.b := ⟨_, rfl⟩
  rw [← hq] at hl HGR ⊢
  clear hq
  go_enter Try.func44, Try.ntmps44
  go_wp2_with (go_at_call 43; refine HGR.out.mono ?_; rintro e w1 ⟨rfl, rfl⟩)
  go_ret2
  exact ⟨rfl, rfl⟩
/-- What is known of a version now. -/
def nowM (v : Vn) : MetaP := { v.m with hav := v.bytes.length }
def zeroM : MetaP := ⟨[], false, 0, 0, 0, 0, 0, 0, [], [], false⟩
/-- What Meta tells. -/
def metaA (vs : List Vn) (o : Bs) : MetaP × Bool := match nowI vs o with
  | none => (zeroM, false)
  | some i => match vs[i]? with
    | none => (zeroM, false)
    | some v => (nowM v, true)
theorem VerOk.bvs {v : Vn} {g : Vg} (h : VerOk w B own v g) : ∃ A c, g.bv = .slice A v.bytes.length c := own_slice h.row
set_option maxRecDepth 100000 in
set_option maxHeartbeats 1000000 in
theorem bytes_any (hI : OI w b B N own vs ss sa) {o : Bs} (ho : o.length ≤ 1000000) : Calls Try.prog 20 #[.pointer (some ⟨b, 0, none⟩), .string ⟨o.toArray⟩] w fun e w' => ∃ v, e = .returned v ∧ BRow w' w.heap.size v (match nowI vs o with | none => [] | some i => match vs[i]? with | none => [] | some v => v.bytes) ∧ Ext w w' := by
  obtain ⟨gs, mo, mh, H, K, h⟩ := hI
  have k0 := blk_cell h.blk 0
  simp at k0
  cases hn : nowI vs o with
  | none =>
    have hl := look_none h ho hn
    clear h hn
    go_enter Try.func20, Try.ntmps20
    go_wp2
    go_ret
    exact ⟨_, rfl, World.ownsRow_nil _ _ _ _, Ext.refl _⟩
  | some i =>
    obtain ⟨v, hv, _, _⟩ := nowI_some hn
    obtain ⟨g, hg, hok⟩ := h.vers.get hv
    have hl := look_some h ho hn hg
    obtain ⟨A, c, hbv⟩ := hok.bvs
    have k11 := blk_cell hok.blk 11
    simp [verC, hbv] at k11
    have hrow := hok.row.at_
    rw [hbv] at hrow
    have HR := Lib.hid hrow; have HLN := Lib.hid hok.len
    simp only [hv]
    clear h hn hg hok hrow hbv hv
    obtain ⟨q, hq⟩ : ∃ q, q = g.b := ⟨_, rfl⟩
    rw [← hq] at hl k11
    clear hq
    obtain ⟨bs, hbs⟩ : ∃ bs, bs = v.bytes := ⟨_, rfl⟩
    rw [← hbs] at HR HLN k11 ⊢
    clear hbs
    go_enter Try.func20, Try.ntmps20
    go_wp2_with (at_builtin; refine wpList_copyB rfl _ _ rfl _ bs HR.out rfl rfl (by have := HLN.out; omega) ?_; intro v' W2 r2 x2; refine stop_of ?_)
    unfold Stop
    have R2 := Lib.hid r2; have X2 := Lib.hid x2
    clear r2 x2
    go_wp2
    go_ret
    exact ⟨_, rfl, R2.out, X2.out⟩
theorem results_row_tmp {fn : Func} {p u : Tmp} {ty : TypeId} (h : fn.results = #[.cell p ty, .tmp u]) (tmps : Array Value) (w : World) (g : Nat) (t : TypeId) (cs : Array Value) (fr : Nat × Nat) (d : TypeDesc) (x : Value)
    (hd : (match d with | .struct _ | .array _ _ => true | _ => false) = true) (hp : tmps.getD p undef = .pointer (some ⟨g, 0, none⟩)) (hg : w.heap[g]? = some (.cells cs t fr)) (hx : tmps.getD u undef = x)
    (hu : Try.prog.underlying ty = some d) (hi : (Try.prog.info? ty).map (·.size) = some cs.size) :
    (results fn tmps).run Try.prog w = .ok (.tuple #[.agg cs, x]) w := by
  rw [results_cell_tmp h, hp, hx]
  simp [asAddr, run_loadVar_row w g t ty cs fr d hg hu (by cases d <;> simp_all) hi]
set_option maxRecDepth 100000 in
set_option maxHeartbeats 1000000 in
theorem meta_any (hI : OI w b B N own vs ss sa) {o : Bs} (ho : o.length ≤ 1000000) : Calls Try.prog 21 #[.pointer (some ⟨b, 0, none⟩), .string ⟨o.toArray⟩] w fun e w' => ∃ kv, e = .returned (.tuple #[metaV (metaA vs o).1 kv, .bool (metaA vs o).2]) ∧ SRow w' w.heap.size kv (metaA vs o).1.keys ∧ Ext w w' := by
  obtain ⟨gs, mo, mh, H, K, h⟩ := hI
  cases hn : nowI vs o with
  | none =>
    have em : metaA vs o = (zeroM, false) := by simp [metaA, hn]
    rw [em]
    have hl := Lib.hid fun W (x : Ext w W) => look_none (h.ext x) ho hn
    have HB := Lib.hid h.blk
    clear h hn em
    go_enter Try.func21, Try.ntmps21
    go_wp2_with (refine wpList_new 38 _ zero38 rfl rfl ?_; intro W1 x1 n1 s1; refine stop_of ?_)
    unfold Stop
    have hl1 := hl.out _ x1
    have k0 := blk_cell (x1.heap HB.out) 0
    simp at k0
    have X1 := Lib.hid x1; have N1 := Lib.hid n1
    clear x1 n1 hl
    go_wp2_with (refine wpList_put 38 rfl _ _ rfl _ 0 38 _ (metaC zeroM (.slice none 0 0)).toArray (metaC zeroM (.slice none 0 0)) _ N1.out rfl rfl rfl (by simp [metaC]) rfl size38 (by kernel_rfl) ?_; intro W3 x3 n3 s3; refine stop_of ?_)
    unfold Stop
    have X3 := Lib.hid (X1.out.thenB x3 (by simp)); have N3 := Lib.hid n3
    clear x3 n3 k0 hl1
    go_wp2
    exact bodyPost_ret (results_row_tmp rfl _ _ w.heap.size 38 _ (0, 0) _ _ rfl rfl N3.out rfl Try.underlying38 size38) rfl ⟨.slice none 0 0, rfl, World.ownsRow_nil _ _ _ _, X3.out⟩
  | some i =>
    obtain ⟨v, hv, _, _⟩ := nowI_some hn
    obtain ⟨g, hg, hok⟩ := h.vers.get hv
    obtain ⟨A, c, hbv⟩ := hok.bvs
    have em : metaA vs o = (nowM v, true) := by simp [metaA, hn, hv]
    rw [em]
    have hl := Lib.hid fun W (x : Ext w W) => look_some (h.ext x) ho hn hg
    have HNOW := Lib.hid fun W (x : Ext w W) => now_any W g.b { v.m with hav := g.h } g.kv A v.bytes.length c v.went (by rw [← hbv]; exact x.heap hok.blk) (hok.keys.texts.ext x) ⟨hok.z.tt, hok.z.keys, hok.z.key, hok.z.ten⟩ (by have := hok.len; omega)
    have HB := Lib.hid h.blk
    obtain ⟨q, hq⟩ : ∃ q, q = g.b := ⟨_, rfl⟩
    rw [← hq] at hl HNOW
    clear h hn hg hok hbv hv em hq
    go_enter Try.func21, Try.ntmps21
    go_wp2_with (refine wpList_new 38 _ zero38 rfl rfl ?_; intro W1 x1 n1 s1; refine stop_of ?_)
    unfold Stop
    have hl1 := hl.out _ x1
    have k0 := blk_cell (x1.heap HB.out) 0
    simp at k0
    have X1 := Lib.hid x1; have N1 := Lib.hid n1
    clear x1 n1 hl
    go_wp2_with (go_at_call 41; refine (HNOW.out _ X1.out).mono ?_; rintro e W2 ⟨kv, rfl, t2, x2⟩; refine stop_of ?_)
    unfold Stop
    obtain ⟨KA, KC, rfl, _, _, _⟩ := t2.texts
    have X2 := Lib.hid (X1.out.trans x2); have N2 := Lib.hid (x2.heap N1.out); have T2 := Lib.hid t2
    clear x2 t2 X1 N1 k0 hl1
    unfold metaV
    go_wp2_with (refine wpList_put 38 rfl _ _ rfl _ 0 38 _ (metaC (nowM v) (.slice KA v.m.keys.length KC)).toArray (metaC (nowM v) (.slice KA v.m.keys.length KC)) _ N2.out rfl rfl rfl (by simp [metaC]) rfl size38 (by kernel_rfl) ?_; intro W3 x3 n3 s3; refine stop_of ?_)
    unfold Stop
    have X3 := Lib.hid (X2.out.thenB x3 (by simp)); have N3 := Lib.hid n3
    have T3 : Hid (SRow W3 w.heap.size (.slice KA v.m.keys.length KC) v.m.keys) := Lib.hid (ownsRow_base (own_extB T2.out x3 (by
      intro y hy
      have : y = w.heap.size := by simpa using hy
      exact own_low T2.out (by omega))) (by omega))
    clear x3 n3
    go_wp2
    exact bodyPost_ret (results_row_tmp rfl _ _ w.heap.size 38 _ (0, 0) _ _ rfl rfl N3.out rfl Try.underlying38 size38) rfl ⟨.slice KA v.m.keys.length KC, rfl, T3.out, X3.out⟩
end
end Go.Proofs.Ytpangoddbfiagaa
