/- Texts put together: DoB, DoC, LawA. -/
import Derived.Test.YtpangoddbfiagaaTG25
import Derived.Test.YtpangoddbfiagaaTG21
namespace Go.Proofs.Ytpangoddbfiagaa
open Go.RowKit Go.Maps Go.ChangeMaps
set_option linter.unusedVariables false
set_option linter.unusedSimpArgs false

section
variable {w0 w : World} {pb b x k : Nat} {Lx : Nat → Prop} {vs : List Vn} {ss : List Sn} {hl : List (Value × Bs)}
end
end Go.Proofs.Ytpangoddbfiagaa
namespace Go.Proofs.Ytpangoddbfiagaa
open Go.RowKit Go.Maps Go.ChangeMaps
set_option linter.unusedVariables false
set_option linter.unusedSimpArgs false

def keepP (L : Nat → Prop) : Keep := ⟨KeepP L, KeepP.refl L, fun _ _ _ h k => h.trans k⟩
theorem row_ptr {w : World} {base : Nat} {e : TypeId} {A : Option Addr} {n c : Nat} {bs : List Nat} (h : w.ownsRow base e 1 (.slice A n c) n (bs.map ptrV)) {j q : Nat} (hq : bs[j]? = some q) (hj : j < n) : ∃ g, A = some ⟨g, 0, none⟩ ∧ w.cell? ⟨g, j, none⟩ = some (ptrV q) ∧ g < w.heap.size := by
  have hl : (bs.map ptrV).length = n := by have := h.1; simpa using this
  rcases h.2 with ⟨e, h0⟩ | ⟨ab, cap, cur, e, _⟩
  · omega
  · have hA : A = some ⟨ab, 0, none⟩ := by injection e
    subst hA
    refine ⟨ab, rfl, ?_, (h.lt ab rfl).2⟩
    rw [World.ownsRow.cellAt h j (by omega)]
    simp [hq]
section
variable {w0 w : World} {pb b x k : Nat} {Lx : Nat → Prop} {vs : List Vn} {ss : List Sn} {hl : List (Value × Bs)}
end
end Go.Proofs.Ytpangoddbfiagaa
namespace Go.Proofs.Ytpangoddbfiagaa
open Go.RowKit Go.Maps Go.ChangeMaps
set_option linter.unusedVariables false
set_option linter.unusedSimpArgs false

theorem RAct.ext {w w' : World} {a : ActP} {cs : List Value} (h : RAct w a cs) (x : Ext w w') : RAct w' a cs := by
  obtain ⟨h1, h2, h3, h4, h5, h6⟩ := h
  exact ⟨h1, h2.ext x, fun A n c e hn => Nat.lt_of_lt_of_le (h3 A n c e hn) x.size, BytesAt.ext h4 x, fun A n c e hn => Nat.lt_of_lt_of_le (h5 A n c e hn) x.size, h6⟩
theorem RAct.at_ {w : World} {a : ActP} {cs : List Value} (h : RAct w a cs) (hz : ActZ a) : ActAt w a := by
  obtain ⟨h1, h2, h3, h4, h5, h6⟩ := h
  exact ⟨hz, h2, h3, h4, h5, h6⟩
theorem acts_ext {w w' : World} {v : Value} {xs : List ActP} (h : RowsG w 23 (RAct w) v xs) (x : Ext w w') : RowsG w' 23 (RAct w') v xs := (h.ext x).mono fun a cs q => q.ext x
theorem act_one {w : World} {a : ActP} {cs : List Value} (h : RAct w a cs) : (actC a).all (·.oneCell') = true := by
  obtain ⟨h1, ⟨A, c, e1, _⟩, h3, ⟨A2, c2, e2, _⟩, h5, h6⟩ := h
  unfold actC
  rw [e1, e2]
  rfl
/-- One of the acts, where it lies. -/
theorem acts_at {w w' : World} {A : Option Addr} {n c : Nat} {xs : List ActP} (h : RowsG w 23 (RAct w) (.slice A n c) xs) (x : Ext w w') {k : Nat} {a : ActP} (hk : xs[k]? = some a) : ∃ b off, A = some ⟨b, off, none⟩ ∧ w'.rangeAt b (off + k * 23) (actC a) ∧ RAct w a (actC a) := by
  obtain ⟨hk', rfl⟩ := List.getElem?_eq_some_iff.1 hk
  obtain ⟨b, off, cs, e, hr, hb, hc⟩ := RowsG.at h hk'
  have e2 : cs = actC xs[k] := hr.1
  subst e2
  exact ⟨b, off, e, fun q u hq => x.cell (hc q u hq), hr⟩
section
variable {w0 w w' : World} {pb b x k N : Nat} {Lx : Nat → Prop} {vs : List Vn} {ss : List Sn} {sa ra : List Nat} {hl : List (Value × Bs)} {SA RA : Option Addr} {sc rc : Nat}
end
end Go.Proofs.Ytpangoddbfiagaa
