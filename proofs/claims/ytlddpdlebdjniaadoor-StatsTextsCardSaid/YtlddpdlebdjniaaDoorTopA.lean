/- stats.told, walked; the maps of Top: objects by place, bytes by object. -/
import Derived.Test.YtlddpdlebdjniaaDoorOfW
namespace Go.Proofs.YtlddpdlebdjniaaDoor
set_option linter.unusedSimpArgs false
open Go.RowKit Go.Maps Go.ChangeMaps
set_option linter.unusedVariables false

def toldN (e : Ev) : Nat := if e.kind = 9 ∧ e.who < 1000 then e.nb else 0
set_option maxRecDepth 100000 in
set_option maxHeartbeats 2000000 in
theorem told_any (w : World) (cs : Array Value) (e : Ev) (hE : EvC cs e) : Calls Tryd.prog 15 #[.agg cs] w fun x w' => x = .returned (.int .i64 (toldN e)) ∧ w' = w.alloc (.cells cs 53) := by
  obtain ⟨kd, nd, wh, wl, nb, ob⟩ := e
  have h0 : cs[0]? = some (.int .i64 kd) := hE.kind
  have h3 : cs[3]? = some (.int .i64 wh) := hE.who
  obtain ⟨Ab, cb, h53⟩ := hE.bytes
  dsimp only at h53
  clear hE
  by_cases hk : kd = 9
  · subst hk
    by_cases hw : wh < 1000
    · have et : toldN ⟨9, nd, wh, wl, nb, ob⟩ = nb := by simp [toldN, hw]
      rw [et]
      have ew : decide (1000 ≤ wh) = false := decide_eq_false (by omega)
      go_enter Tryd.func15, Tryd.ntmps15
      go_wp2
      go_ret
      exact ⟨rfl, rfl⟩
    · have et : toldN ⟨9, nd, wh, wl, nb, ob⟩ = 0 := by simp [toldN, hw]
      rw [et]
      have ew : decide (1000 ≤ wh) = true := decide_eq_true (by omega)
      go_enter Tryd.func15, Tryd.ntmps15
      go_wp2
      go_ret
      exact ⟨rfl, rfl⟩
  · have et : toldN ⟨kd, nd, wh, wl, nb, ob⟩ = 0 := by simp [toldN, hk]
    rw [et]
    have ek : (kd != 9) = true := by simpa using hk
    go_enter Tryd.func15, Tryd.ntmps15
    go_wp2
    go_ret
    exact ⟨rfl, rfl⟩
theorem law9 : Keyed Tryd.prog 9 := string_keyed Tryd.underlying9
theorem zero2 (w : World) : (zeroValue 2).run Tryd.prog w = .ok (.int .i64 0) w := by kernel_rfl
theorem zero9 (w : World) : (zeroValue 9).run Tryd.prog w = .ok (.string ⟨#[]⟩) w := by kernel_rfl
theorem key9 {t : Bs} (h : t.length ≤ 1000000) : keyOf Tryd.prog 9 (.string ⟨t.toArray⟩) = some (.string t) := by
  have := Go.WideMaps.keyOf_string_mk (P := Tryd.prog) Tryd.underlying9 (s := ⟨t.toArray⟩) (by simp [ByteArray.size, maxLen]; omega)
  simpa using this
theorem isKey9 (t : Bs) : WideAt.IsKeyLit (.string t) := by trivial
/-- Objects by place. -/
def TO (D : DataW Unit) (O : Int → Int → Option Bs) : Prop := ∀ n w, (Lit.int .i64 n).wf = true → (Lit.int .i64 w).wf = true → D.atKey (pkey n w) (.lit (.string [])) = .lit (.string ((O n w).getD [])) ∧ Maps.has D (pkey n w) = (O n w).isSome
def ObjAt (w : World) (m N : Nat) (O : Int → Int → Option Bs) : Prop := ∃ D : DataW Unit, w.ownsMap Tryd.prog 73 (plainElem Tryd.prog 9) m N D ∧ TO D O
/-- Bytes by object. -/
def TB (D : DataW Unit) (M : Bs → Int) : Prop := ∀ t : Bs, D.atKey (.string t) (.lit (.int .i64 0)) = .lit (.int .i64 (M t)) ∧ Maps.has D (.string t) = decide (M t ≠ 0)
def ByAt (w : World) (m N : Nat) (M : Bs → Int) : Prop := ∃ D : DataW Unit, w.ownsMap Tryd.prog 9 (plainElem Tryd.prog 2) m N D ∧ TB D M
set_option maxRecDepth 100000 in
theorem ByAt.look {w : World} {m N : Nat} {M : Bs → Int} (h : ByAt w m N M) {t : Bs} (ht : t.length ≤ 1000000) :
    (Instr.lookup 70 (.map (some m)) (.string ⟨t.toArray⟩) false).run Tryd.prog w = .ok (.int .i64 (M t)) w := by
  obtain ⟨D, hown, hti⟩ := h
  obtain ⟨c, hrun, hat, _⟩ := hown.lookup_int law9 Tryd.underlying70 Tryd.underlying2 (zero2 _) (key9 ht)
  rw [(hti t).1] at hat
  injection hat with hat
  injection hat with _ hat
  rw [hrun, hat]
theorem ByAt.ext {w w' : World} {m N : Nat} {M : Bs → Int} (h : ByAt w m N M) (hx : Ext w w') : ByAt w' m N M := by
  obtain ⟨D, ⟨es, clock, hb, r⟩, hD⟩ := h
  exact ⟨D, ⟨es, clock, hx.heap hb, r⟩, hD⟩
theorem ObjAt.ext {w w' : World} {m N : Nat} {O : Int → Int → Option Bs} (h : ObjAt w m N O) (hx : Ext w w') : ObjAt w' m N O := by
  obtain ⟨D, ⟨es, clock, hb, r⟩, hD⟩ := h
  exact ⟨D, ⟨es, clock, hx.heap hb, r⟩, hD⟩
theorem ByAt.grown {w w' : World} {m N g : Nat} {M : Bs → Int} (h : ByAt w m N M) (hx : w.grownBy w' (some g)) (hg : g ≠ m) : ByAt w' m N M := by
  obtain ⟨D, h1, hD⟩ := h
  exact ⟨D, h1.kept hx (by simpa using fun e => hg e.symm), hD⟩
theorem ObjAt.grown {w w' : World} {m N g : Nat} {O : Int → Int → Option Bs} (h : ObjAt w m N O) (hx : w.grownBy w' (some g)) (hg : g ≠ m) : ObjAt w' m N O := by
  obtain ⟨D, h1, hD⟩ := h
  exact ⟨D, h1.kept hx (by simpa using fun e => hg e.symm), hD⟩
theorem TO.put {D : DataW Unit} {O : Int → Int → Option Bs} (h : TO D O) (hD : IsMap D) {n wh : Int} (hn : (Lit.int .i64 n).wf = true) (hw : (Lit.int .i64 wh).wf = true) (x : Bs) : TO (D.put (pkey n wh) (.lit (.string x))) (fun a b => if a = n ∧ b = wh then some x else O a b) := by
  intro a b ha hb
  by_cases e : a = n ∧ b = wh
  · obtain ⟨rfl, rfl⟩ := e
    rw [atKey_put_same hD (pkey_isKey _ _), has_put_same hD (pkey_isKey _ _)]; simp
  · have hne : pkey a b ≠ pkey n wh := fun hk => e (pkey_inj ha hb hn hw hk)
    rw [atKey_put_other hne, has_put_other hne, (h a b ha hb).1, (h a b ha hb).2]
    simp [e]
theorem TB.put {D : DataW Unit} {M : Bs → Int} (h : TB D M) (hD : IsMap D) (t : Bs) {n : Int} (hn : n ≠ 0) : TB (D.put (.string t) (.lit (.int .i64 n))) (fun u => if u = t then n else M u) := by
  intro u
  by_cases e : u = t
  · subst e
    rw [atKey_put_same hD (isKey9 _), has_put_same hD (isKey9 _)]; simp [hn]
  · have hne : (Lit.string u) ≠ .string t := by simpa using e
    rw [atKey_put_other hne, has_put_other hne, (h u).1, (h u).2]
    simp [e]
end Go.Proofs.YtlddpdlebdjniaaDoor
