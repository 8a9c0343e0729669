/- Texts put together: SegZR, RObjA, RObj, LawB. -/
import Derived.Test.YtpangoddbfiagaaTG01
import Derived.Test.YtpangoddbfiagaaTG14
import Derived.Sort.Walk0
import Derived.Test.YtpangoddbfiagaaTG22
import Derived.Test.YtpangoddbfiagaaTG26
namespace Go.Proofs.Ytpangoddbfiagaa
open Go.RowKit
section
variable {P : Program} {ops : Array Oper} {Q : Exit → Act → World → Prop} {R : Keep} {zs ks : List Nat} {a : Act} {w : World} {k k1 k2 : Nat} {t t1 t2 : Tz}
end
end Go.Proofs.Ytpangoddbfiagaa
namespace Go.Proofs.Ytpangoddbfiagaa
open Go.RowKit Go.Maps Go.ChangeMaps
set_option linter.unusedVariables false
set_option linter.unusedSimpArgs false

end Go.Proofs.Ytpangoddbfiagaa
namespace Go.Proofs.Ytpangoddbfiagaa
open Go.RowKit Go.Maps Go.ChangeMaps
set_option linter.unusedVariables false
set_option linter.unusedSimpArgs false

/-- What lay there stays. -/
def keepLow (B : Nat) : Keep := ⟨fun a b => Below B a b, fun w => Below.refl _ _, fun _ _ _ h k => Below.trans h k⟩
theorem GrowR.low {B : Nat} {W : World} (y : GrowR (keepLow B) W) (hB : B = W.heap.size) : Ext W y.v := by
  subst hB; exact y.ext
section
variable {w w' : World} {x B : Nat} {own own' : Nat → Prop} {vs : List Vn} {ss : List Sn} {sa va : List Nat} {gs : List Rg} {A : Option Addr} {c : Nat} {X : List Nat}
end
end Go.Proofs.Ytpangoddbfiagaa
namespace Go.Proofs.Ytpangoddbfiagaa
open Go.RowKit Go.Maps Go.ChangeMaps
set_option linter.unusedVariables false
set_option linter.unusedSimpArgs false

section
variable {w w' : World} {x B : Nat} {own own' : Nat → Prop} {vs : List Vn} {ss : List Sn} {sa va : List Nat} {gs : List Rg} {A : Option Addr} {c : Nat} {X : List Nat}
end
section
variable {w0 w w' : World} {pb b x k N : Nat} {Lx L : Nat → Prop} {vs us : List Vn} {ss ts : List Sn} {sa ra : List Nat} {hl : List (Value × Bs)} {SA RA : Option Addr} {sc rc : Nat}
theorem Pl2.one (h : Pl2 w0 w b x N L vs ss sa us ts ra hl) : One vs := by
  obtain ⟨rown, ⟨own, h1⟩, h2, h3⟩ := h
  obtain ⟨gs, mo, mh, H, K, h1⟩ := h1.oi
  exact h1.one
end
end Go.Proofs.Ytpangoddbfiagaa
