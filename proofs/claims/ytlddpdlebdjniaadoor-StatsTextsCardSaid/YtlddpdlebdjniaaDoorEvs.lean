/- An event in memory: fifty-seven cells, read and laid as one. -/
import Derived.Test.YtlddpdlebdjniaaDoorSums
import Derived.Deep.WholeRow
namespace Go.Proofs.YtlddpdlebdjniaaDoor
set_option linter.unusedSimpArgs false
open Go.RowKit
set_option linter.unusedVariables false
abbrev Bs := List UInt8

theorem add_plain (b off n : Nat) : (⟨b, off, none⟩ : Addr).add n = ⟨b, off + n, none⟩ := by unfold Addr.add; split <;> simp_all
theorem size46 : (Tryd.prog.info? 53).map (·.size) = some 57 := by kernel_rfl
/-- A struct read out of the middle of a row. -/
theorem run_loadVar_at {P : Program} (w : World) (A : Addr) (ty : TypeId) (cs : Array Value) (d : TypeDesc) (hc : ∀ j u, cs[j]? = some u → w.cell? (A.add j) = some u)
    (hu : P.underlying ty = some d) (hd : (match d with | .struct _ | .array _ _ => true | _ => false) = true) (hi : (P.info? ty).map (·.size) = some cs.size) :
    (loadVar ty A).run P w = .ok (.agg cs) w := by
  have hl : (loadCells A cs.toList.length).run P w = .ok cs.toList.toArray w :=
    run_loadCells_list (P := P) w A cs.toList (fun j v hv => hc j v (by simpa using hv))
  cases hq : P.info? ty with
  | none => simp [hq] at hi
  | some i =>
    have hs : i.size = cs.size := by simpa [hq] using hi
    have hagg : (isAgg ty).run P w = .ok true w := by
      unfold isAgg
      rw [Sem.run_bind, run_underlying hu w]
      cases d <;> simp_all
    simp only [Array.length_toList, Array.toArray_toList] at hl
    simp [loadVar, Sem.run_bind, hagg, sizeOf, typeInfo, hq, hs, hl]
theorem wpList_load_at {P : Program} {ops : Array Oper} {rest : List Oper} {o : Oper} {a : Act} {w : World} {Q : Exit → Act → World → Prop} (hgd : o.guard = none) (ty : TypeId) (x : Operand) (ho : o.op = .load ty x)
    (A : Addr) (hx : a.eval x = .pointer (some A)) (cs : Array Value) (d : TypeDesc) (hc : ∀ j u, cs[j]? = some u → w.cell? (A.add j) = some u)
    (hu : P.underlying ty = some d) (hd : (match d with | .struct _ | .array _ _ => true | _ => false) = true) (hi : (P.info? ty).map (·.size) = some cs.size)
    (h : wpList P ops Q rest (a.put o.dst (.agg cs)) w) : wpList P ops Q (o :: rest) a w :=
  wpList_plain hgd fun K hK => by
    unfold Oper.wp execOp
    simp only [ho, hx, Instr.loadAt, Instr.sureAddr, Sem.run_bind, Sem.run_pure, Result.andThen_ok, run_loadVar_at w A ty cs d hc hu hd hi]
    exact hK _ _ h
/-- An event. -/
structure Ev where
  kind : Int
  node : Int
  who : Int
  whole : Bool
  nb : Nat
  obj : Bs
structure EvC (cs : Array Value) (e : Ev) : Prop where
  size : cs.size = 57
  one : cs.all (·.oneCell') = true
  kind : cs[0]? = some (.int .i64 e.kind)
  node : cs[2]? = some (.int .i64 e.node)
  who : cs[3]? = some (.int .i64 e.who)
  obj : cs[6]? = some (.string ⟨e.obj.toArray⟩)
  bytes : ∃ A c, cs[53]? = some (.slice A e.nb c)
  whole : cs[56]? = some (.bool e.whole)
  wk : (Lit.int .i64 e.kind).wf = true
  wn : (Lit.int .i64 e.node).wf = true
  ww : (Lit.int .i64 e.who).wf = true
  nbl : e.nb ≤ 140737488351232
  objl : e.obj.length ≤ 140737488351232
end Go.Proofs.YtlddpdlebdjniaaDoor
