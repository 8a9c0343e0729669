/- Texts put together: RefLx. -/
import Derived.Test.YtpangoddbfiagaaTG22
import Derived.Test.YtpangoddbfiagaaTG16
namespace Go.Proofs.Ytpangoddbfiagaa
open Go.RowKit Go.Maps Go.ChangeMaps
set_option linter.unusedVariables false
set_option linter.unusedSimpArgs false

section
variable {w w' : World} {x B : Nat} {own own' : Nat → Prop} {vs : List Vn} {ss : List Sn} {sa va : List Nat} {gs : List Rg} {A : Option Addr} {c : Nat} {X : List Nat}
end
end Go.Proofs.Ytpangoddbfiagaa
