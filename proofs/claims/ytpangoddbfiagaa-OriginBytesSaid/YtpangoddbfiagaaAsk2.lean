/- Ask of an object that is there, walked over the state (printed by gen_ask2.py). -/
import Derived.Test.YtpangoddbfiagaaAsk
namespace Go.Proofs.Ytpangoddbfiagaa
open Go.RowKit Go.Maps Go.ChangeMaps
set_option linter.unusedVariables false
set_option linter.unusedSimpArgs false

section
variable {w w' : World} {b B N : Nat} {own own' : Nat → Prop} {vs : List Vn} {ss : List Sn} {sa va : List Nat} {gs : List Vg} {mo mh : Option Nat} {H : Bs → Option Nat} {K : Bs → Bs → Option Bool}
theorem size3 : (Try.prog.info? 3).map (·.size) = some 1 := by kernel_rfl
/-- What Ask leaves. -/
def AskR (w : World) (q : Nat) (v : Vn) (s : Sn) (e : Ending) (w' : World) : Prop := ∃ sb kv, e = .returned (.tuple #[.pointer (some ⟨sb, 0, none⟩), .int .i64 0]) ∧ StrAt w' sb (if s.v.isSome = true then some ⟨q, 0, none⟩ else none) s.st s.m kv s.fr s.to s.at_ ∧ SRow w' w.heap.size kv v.m.keys ∧ w.heap.size ≤ sb ∧ Ext w w'
theorem askR_mk {w : World} {q : Nat} {v : Vn} {s : Sn} {w' : World} {sb : Nat} {p : Option Addr} {st fr to at_ : Int} {sv : Option Nat} {kv : Value} {m : MetaP} (hs : s = ⟨st, m, fr, to, at_, sv⟩) (hp : (if sv.isSome = true then some (⟨q, 0, none⟩ : Addr) else none) = p) (h1 : StrAt w' sb p st m kv fr to at_) (h2 : SRow w' w.heap.size kv v.m.keys) (h3 : w.heap.size ≤ sb) (h4 : Ext w w') : AskR w q v s (.returned (.tuple #[.pointer (some ⟨sb, 0, none⟩), .int .i64 0])) w' := by
  subst hs
  exact ⟨sb, kv, rfl, by rw [hp]; exact h1, h2, h3, h4⟩
end
end Go.Proofs.Ytpangoddbfiagaa
