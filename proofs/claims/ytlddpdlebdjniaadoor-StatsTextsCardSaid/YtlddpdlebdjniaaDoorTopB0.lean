/- The loop of stats.Top, in plain words and walked. -/
import Derived.Test.YtlddpdlebdjniaaDoorTopA
namespace Go.Proofs.YtlddpdlebdjniaaDoor
set_option linter.unusedSimpArgs false
open Go.RowKit Go.Maps Go.ChangeMaps
set_option linter.unusedVariables false

structure TopS where
  O : Int → Int → Option Bs
  M : Bs → Int
def topO (s : TopS) (e : Ev) : Int → Int → Option Bs := if e.kind = 6 then (fun a b => if a = e.node ∧ b = e.who then some e.obj else s.O a b) else s.O
def topM (M : Bs → Int) (o : Option Bs) (n : Nat) : Bs → Int := match o with
  | some ob => if 0 < n then (fun u => if u = ob then M ob + n else M u) else M
  | none => M
def topStep (s : TopS) (e : Ev) : TopS := ⟨topO s e, topM s.M (topO s e e.node e.who) (toldN e)⟩
def topF (l : List Ev) : TopS := l.foldl topStep ⟨fun _ _ => none, fun _ => 0⟩
theorem topF_snoc (l : List Ev) (e : Ev) : topF (l ++ [e]) = topStep (topF l) e := by simp [topF]
def heftE (l : List Ev) : Nat := (l.map fun x => 1 + x.nb).sum
structure TopOk (s : TopS) (c : Nat) : Prop where
  lens : ∀ a b ob, s.O a b = some ob → ob.length ≤ 1000000
  nums : ∀ t, 0 ≤ s.M t ∧ s.M t ≤ c
  keys : ∀ t, s.M t ≠ 0 → t.length ≤ 1000000
theorem TopOk.step {s : TopS} {c : Nat} (h : TopOk s c) (e : Ev) (he : e.obj.length ≤ 1000000) : TopOk (topStep s e) (c + 1 + e.nb) := by
  have h1 : ∀ a b ob, topO s e a b = some ob → ob.length ≤ 1000000 := by
    intro a b ob hob
    unfold topO at hob
    by_cases hk : e.kind = 6
    · rw [if_pos hk] at hob
      by_cases hp : a = e.node ∧ b = e.who
      · simp only [hp, and_self, if_true] at hob
        injection hob with hob; subst hob; exact he
      · simp only [hp, if_false] at hob
        exact h.lens a b ob hob
    · rw [if_neg hk] at hob
      exact h.lens a b ob hob
  refine ⟨h1, fun t => ?_, fun t hne => ?_⟩
  rotate_left
  · have hne' : topM s.M (topO s e e.node e.who) (toldN e) t ≠ 0 := hne
    cases ho : topO s e e.node e.who with
    | none => rw [ho] at hne'; exact h.keys t hne'
    | some ob =>
      rw [ho] at hne'
      simp only [topM] at hne'
      by_cases ht' : t = ob
      · subst ht'; exact h1 _ _ _ ho
      · refine h.keys t ?_
        by_cases hp : 0 < toldN e
        · rw [if_pos hp] at hne'; simpa [ht'] using hne'
        · rw [if_neg hp] at hne'; exact hne'
  have ht := h.nums t
  have hn : toldN e ≤ e.nb := by unfold toldN; split <;> omega
  show 0 ≤ topM s.M (topO s e e.node e.who) (toldN e) t ∧ topM s.M (topO s e e.node e.who) (toldN e) t ≤ ((c + 1 + e.nb : Nat) : Int)
  generalize topO s e e.node e.who = o
  cases o with
  | none => simp only [topM]; omega
  | some ob =>
    have ho := h.nums ob
    simp only [topM]
    by_cases hp : 0 < toldN e
    · rw [if_pos hp]
      by_cases ht' : t = ob
      · simp only [ht', if_true]; omega
      · simp only [ht', if_false]; omega
    · rw [if_neg hp]; omega
theorem topF_ok : ∀ (l : List Ev) (s : TopS) (c : Nat), TopOk s c → (∀ e ∈ l, e.obj.length ≤ 1000000) → TopOk (l.foldl topStep s) (c + heftE l)
  | [], s, c, h, _ => by simpa [heftE] using h
  | e :: l, s, c, h, hl => by
    have h1 := topF_ok l (topStep s e) (c + 1 + e.nb) (h.step e (hl e (by simp))) (fun x hx => hl x (by simp [hx]))
    have e1 : c + heftE (e :: l) = c + 1 + e.nb + heftE l := by simp [heftE]; omega
    rw [List.foldl_cons, e1]; exact h1
theorem heftE_append (a b : List Ev) : heftE (a ++ b) = heftE a + heftE b := by simp [heftE]
theorem heftE_take (l : List Ev) (k : Nat) : heftE (l.take k) ≤ heftE l := by
  have : heftE l = heftE (l.take k) + heftE (l.drop k) := by rw [← heftE_append, List.take_append_drop]
  omega
structure TpRel (w : World) (xs : List Ev) (k : Nat) (wr : World) : Prop where
  var : wr.heap[w.heap.size + 1]? = some (.cells #[.map (some w.heap.size)] 70 (0, 0))
  byt : ByAt wr w.heap.size k (topF (xs.take k)).M
  obj : ObjAt wr (w.heap.size + 2) k (topF (xs.take k)).O
  ext : Ext w wr
theorem TpRel.ext' {w wr w' : World} {xs : List Ev} {k : Nat} (h : TpRel w xs k wr) (hx : Ext wr w') : TpRel w xs k w' := ⟨hx.heap h.var, h.byt.ext hx, h.obj.ext hx, h.ext.trans hx⟩
set_option maxRecDepth 100000 in
theorem plainElem_string_inv {v : Value} {z : DataW Unit × List MemPlace} (h : plainElem Tryd.prog 9 v = some z) : ∃ t : Bs, v = .string ⟨t.toArray⟩ ∧ z = (.lit (.string t), []) := by
  unfold plainElem at h
  rw [Tryd.underlying9] at h
  cases v <;> simp at h
  rename_i s
  exact ⟨s.data.toList, by simp, h.2.symm⟩
set_option maxRecDepth 100000 in
theorem ObjAt.look {w : World} {m N : Nat} {O : Int → Int → Option Bs} (h : ObjAt w m N O) {n wh : Int} (hn : (Lit.int .i64 n).wf = true) (hw : (Lit.int .i64 wh).wf = true) :
    (Instr.lookup 71 (.map (some m)) (.agg #[.int .i64 n, .int .i64 wh]) true).run Tryd.prog w = .ok (.tuple #[.string ⟨((O n wh).getD []).toArray⟩, .bool (O n wh).isSome]) w := by
  obtain ⟨D, hown, hD⟩ := h
  obtain ⟨v, ps, hrun, hv⟩ := hown.look_ok law71 Tryd.underlying71 (zero9 w) (zd := .lit (.string [])) (zp := []) (plainElem_string (s := ⟨#[]⟩) Tryd.underlying9 (by simp [ByteArray.size])) (key71 hn hw)
  rw [(hD n wh hn hw).1] at hv
  rw [(hD n wh hn hw).2] at hrun
  obtain ⟨t, rfl, e⟩ := plainElem_string_inv hv
  simp at e
  rw [e.1]
  exact hrun
theorem load57 {W : World} {g : Nat} {cs : Array Value} (h : W.heap[g]? = some (.cells cs 53 (0, 0))) (hs : cs.size = 57) : (loadCellsFrom ⟨g, 0, none⟩ 0 57 #[]).run Tryd.prog W = .ok cs W := by
  have := run_loadCells_list (P := Tryd.prog) W ⟨g, 0, none⟩ cs.toList (fun j v hv => by rw [add_plain, Nat.zero_add, blk_cell h]; simpa using hv)
  rw [Array.length_toList, hs] at this
  simpa [loadCells] using this
theorem run_exec_load46 {W : World} {o : Oper} {a : Act} {x : Operand} (ho : o.op = .load 53 x) {g : Nat} (hx : a.eval x = .pointer (some ⟨g, 0, none⟩)) {cs : Array Value} (h : W.heap[g]? = some (.cells cs 53 (0, 0))) (hs : cs.size = 57) : (execOp a.eval o).run Tryd.prog W = .ok (.value (.agg cs)) W := by
  unfold execOp
  simp only [ho, hx, Instr.loadAt, Instr.sureAddr, Sem.run_bind, Sem.run_pure, Result.andThen_ok, run_loadVar_row W g 53 53 cs (0, 0) _ h Tryd.underlying53 rfl (by rw [size46, hs])]
theorem wpList_load_want {ops : Array Oper} {rest : List Oper} {o : Oper} {a : Act} {w : World} {Q : Exit → Act → World → Prop} (hw : Region.wanted o (yielded ops a.tmps) = true) (x : Operand) (ho : o.op = .load 53 x)
    (g : Nat) (hx : a.eval x = .pointer (some ⟨g, 0, none⟩)) (cs : Array Value) (hg : w.heap[g]? = some (.cells cs 53 (0, 0))) (hs : cs.size = 57)
    (h : wpList Tryd.prog ops Q rest (a.put o.dst (.agg cs)) w) : wpList Tryd.prog ops Q (o :: rest) a w :=
  BigFrame.wpList_want hw fun K hK => by
    unfold Oper.wp
    rw [run_exec_load46 ho hx hg hs]
    exact hK _ _ h
theorem wpQuiet_load46 {ops : Array Oper} {C : World → Prop} {Q : Act → Prop} {a : Act} {o : Oper} {rest : List Oper} (hw : Region.wanted o (yielded ops a.tmps) = true) (x : Operand) (ho : o.op = .load 53 x)
    (g : Nat) (hx : a.eval x = .pointer (some ⟨g, 0, none⟩)) (cs : Array Value) (hg : ∀ W, C W → W.heap[g]? = some (.cells cs 53 (0, 0))) (hs : cs.size = 57)
    (h : wpQuiet Tryd.prog ops C Q rest (a.put o.dst (.agg cs))) : wpQuiet Tryd.prog ops C Q (o :: rest) a :=
  BigFrame.wpQuiet_want hw fun K hK => ⟨.agg cs, fun W hW => by unfold Oper.quietAt; rw [run_exec_load46 ho hx (hg W hW) hs]; exact ⟨rfl, rfl⟩, hK _ h⟩
theorem TpRel.of {w W4 w' : World} {xs : List Ev} {k g : Nat} {st st' : TopS} (h : TpRel w xs k W4) (hg : W4.grownBy w' (some g)) (h1 : w.heap.size ≤ g) (h2 : g ≠ w.heap.size + 1) (hst : topF (xs.take (k + 1)) = st') (hb : ByAt w' w.heap.size (k + 1) st'.M) (ho : ObjAt w' (w.heap.size + 2) (k + 1) st'.O) : TpRel w xs (k + 1) w' :=
  ⟨(hg.block _ (blk_lt h.var) (by simpa using fun e => h2 e.symm)).trans h.var, by rw [hst]; exact hb, by rw [hst]; exact ho,
    ⟨hg.os.trans h.ext.os, hg.tape.trans h.ext.tape, hg.output.trans h.ext.output, Nat.le_trans h.ext.size hg.size, fun i hi => (hg.block i (Nat.lt_of_lt_of_le hi h.ext.size) (by simp; omega)).trans (h.ext.block i hi)⟩⟩
theorem ByAt.more {w : World} {m N N' : Nat} {M : Bs → Int} (h : ByAt w m N M) (hN : N ≤ N') : ByAt w m N' M := by
  obtain ⟨D, h1, h2⟩ := h
  exact ⟨D, h1.mono hN, h2⟩
theorem ObjAt.more {w : World} {m N N' : Nat} {O : Int → Int → Option Bs} (h : ObjAt w m N O) (hN : N ≤ N') : ObjAt w m N' O := by
  obtain ⟨D, h1, h2⟩ := h
  exact ⟨D, h1.mono hN, h2⟩
end Go.Proofs.YtlddpdlebdjniaaDoor
