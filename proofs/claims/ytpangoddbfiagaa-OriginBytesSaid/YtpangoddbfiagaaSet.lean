/- Set, walked over the state. -/
import Derived.Test.YtpangoddbfiagaaSetX
import Derived.Test.YtpangoddbfiagaaSetY
import Derived.Test.YtpangoddbfiagaaSetY2
import Derived.Test.YtpangoddbfiagaaSetZ
import Derived.Test.YtpangoddbfiagaaSetZ2
import Derived.Test.YtpangoddbfiagaaSetZ3
import Derived.Test.YtpangoddbfiagaaSetZ4
namespace Go.Proofs.Ytpangoddbfiagaa
open Go.RowKit Go.Maps Go.ChangeMaps
set_option linter.unusedVariables false
set_option linter.unusedSimpArgs false

theorem set_any {w : World} {b B N : Nat} {own : Nat → Prop} {vs : List Vn} {ss : List Sn} {sa : List Nat} (hI : OI w b B N own vs ss sa) (hN : N ≤ 800000) {o bs : Bs} {m : MetaP} {kv u : Value} (ho : o.length ≤ 1000) (hz : MetaZ m) (hk : TextsAt w kv m.keys) (hu : BytesAt w u bs) (hbs : bs.length ≤ 1000) (hfk : FarV own kv) (hfu : FarV own u) :
    Calls Try.prog 13 #[.pointer (some ⟨b, 0, none⟩), .string ⟨o.toArray⟩, metaV m kv, u] w fun e w' => e = .returned (.int .i64 (setA vs o m bs).1) ∧ OI w' b B (N + 2) (grownOwn own w w') (setA vs o m bs).2 ss sa ∧ ExtP own w w' := by
  obtain ⟨gs, mo, mh, H, K, h⟩ := hI
  obtain ⟨tt, tw, mod, len, hav, fr, wh, er, keys, ten, keep⟩ := m
  by_cases h1 : len = -1
  · subst h1
    cases hb : setOk o ⟨tt, tw, mod, -1, hav, fr, wh, er, keys, ten, keep⟩ bs with
    | false => exact set_badA h hN ho hz hk hu hbs hfk hfu hb
    | true =>
      cases hnt : noTag ⟨tt, tw, mod, -1, hav, fr, wh, er, keys, ten, keep⟩ with
      | true => exact set_A_none h hN ho hz hk hu hbs hfk hfu hb hnt
      | false =>
        cases hhd : hadF H K o tt with
        | none => exact set_A_new h hN ho hz hk hu hbs hfk hfu hb hnt hhd
        | some x =>
          cases x with
          | true => exact set_A_ref1 h hN ho hz hk hu hbs hfk hfu hb hnt hhd
          | false =>
            cases htw : tw with
            | true => subst htw; exact set_A_weak h hN ho hz hk hu hbs hfk hfu hb hnt hhd rfl
            | false => subst htw; exact set_A_ref2 h hN ho hz hk hu hbs hfk hfu hb hnt hhd rfl
  · by_cases h2 : len = (bs.length : Int)
    · subst h2
      cases hb : setOk o ⟨tt, tw, mod, bs.length, hav, fr, wh, er, keys, ten, keep⟩ bs with
      | false => exact set_badB h hN ho hz hk hu hbs hfk hfu hb
      | true =>
        cases hnt : noTag ⟨tt, tw, mod, bs.length, hav, fr, wh, er, keys, ten, keep⟩ with
        | true => exact set_B_none h hN ho hz hk hu hbs hfk hfu hb hnt
        | false =>
          cases hhd : hadF H K o tt with
          | none => exact set_B_new h hN ho hz hk hu hbs hfk hfu hb hnt hhd
          | some x =>
            cases x with
            | true => exact set_B_ref1 h hN ho hz hk hu hbs hfk hfu hb hnt hhd
            | false =>
              cases htw : tw with
              | true => subst htw; exact set_B_weak h hN ho hz hk hu hbs hfk hfu hb hnt hhd rfl
              | false => subst htw; exact set_B_ref2 h hN ho hz hk hu hbs hfk hfu hb hnt hhd rfl
    · exact set_badC h hN ho hz hk hu hbs hfk hfu h1 h2
end Go.Proofs.Ytpangoddbfiagaa
