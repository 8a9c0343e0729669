/- The reference's Great and Small, walked: what Small makes sure of. -/
import Derived.Test.YtlddpdlebdjniaaOpen
namespace Go.Proofs.Ytlddpdlebdjniaa
open Go.RowKit Go.Maps Go.ChangeMaps
set_option linter.unusedVariables false

def bytesF (fs : List Fld) : Nat := (fs.map fun f => f.name.length + f.val.length).sum
theorem bytesF_append (a b : List Fld) : bytesF (a ++ b) = bytesF a + bytesF b := by simp [bytesF]
theorem bytesF_mem {fs : List Fld} {f : Fld} (h : f ∈ fs) : f.name.length + f.val.length ≤ bytesF fs := by
  obtain ⟨a, b, rfl⟩ := List.append_of_mem h
  rw [bytesF_append]; simp [bytesF]; omega
theorem bytesF_le : ∀ (fs : List Fld), (∀ f ∈ fs, f.name.length ≤ 140737488351232 ∧ f.val.length ≤ 140737488351232) → bytesF fs ≤ fs.length * 281474976702464
  | [], _ => by simp [bytesF]
  | f :: fs, h => by
    have h1 := h f (by simp)
    have h2 := bytesF_le fs (fun g hg => h g (by simp [hg]))
    have h3 : bytesF (f :: fs) = f.name.length + f.val.length + bytesF fs := by simp [bytesF]
    rw [h3, List.length_cons, Nat.add_mul]; omega
theorem bytesF_take (fs : List Fld) (k : Nat) : bytesF (fs.take k) ≤ bytesF fs := by
  conv => rhs; rw [← List.take_append_drop k fs]
  rw [bytesF_append]; omega

def GreatR (w : World) (fs : List Fld) (e : Ending) (w' : World) : Prop := ∃ r : Bool, e = .returned (.bool r) ∧ (r = false → fs.length ≤ 130 ∧ bytesF fs ≤ 12000) ∧ Ext w w'
set_option maxRecDepth 100000 in
set_option maxHeartbeats 2000000 in
theorem great_any (w : World) (A : Option Addr) (fs : List Fld) (c : Nat) (hF : FldsAt w A fs) (hl : fs.length ≤ 140737488351232) (ht : ∀ f ∈ fs, f.name.length ≤ 140737488351232 ∧ f.val.length ≤ 140737488351232) :
    Calls Try.prog 16 #[.slice A fs.length c] w (GreatR w fs) := by
  obtain ⟨m, hm⟩ : ∃ m, m = fs.length := ⟨_, rfl⟩
  have hall : fs.length ≤ 130 → bytesF fs ≤ 40000000000000000 := fun h => by
    have h1 := bytesF_le fs ht
    have h2 : fs.length * 281474976702464 ≤ 130 * 281474976702464 := Nat.mul_le_mul_right _ h
    omega
  rw [← hm] at hl ⊢
  have HF := Lib.hid hF; have HM := Lib.hid hm; have HT := Lib.hid ht; have HA := Lib.hid hall
  clear hF hm ht hall
  go_enter Try.func16, Try.ntmps16
  go_wp2
  go_loopw [8, 3, 5] (fun i s _ wr => ∃ j : Nat, ∃ s' : Int, j ≤ m ∧ i = .int .i64 j ∧ s = .int .i64 s' ∧ Hid (fs.length ≤ 130 → s' = bytesF (fs.take j)) ∧ Ext w wr) (fun i _ _ _ => m - (intOf i).toNat)
  case atStart => exact ⟨0, 0, by omega, rfl, rfl, Lib.hid (by simp [bytesF]), Ext.refl _⟩
  case round =>
    obtain ⟨j, s', hj, rfl, rfl, HS, hx⟩ := hrel
    by_cases hlt : j < m
    · have hjs : j < fs.length := by rw [← HM.out]; exact hlt
      obtain ⟨b, off, rfl, hb, k0, k1⟩ := (HF.out.ext hx) j hjs
      have htk : fs.take (j + 1) = fs.take j ++ [fs[j]] := List.take_succ_eq_append_getElem hjs
      have hkl := HT.out fs[j] (by simp)
      obtain ⟨f, hf⟩ : ∃ f, f = fs[j] := ⟨_, rfl⟩
      rw [← hf] at k0 k1 htk hkl
      obtain ⟨nm, vl⟩ := f
      dsimp only at k0 k1 hkl
      have HB1 : Hid (bytesF (fs.take (j + 1)) = bytesF (fs.take j) + nm.length + vl.length) := Lib.hid (by rw [htk, bytesF_append]; simp [bytesF]; omega)
      have HT1 := Lib.hid (bytesF_take fs (j + 1))
      have HX := Lib.hid hx
      obtain ⟨hk1, hk2⟩ := hkl
      clear htk hf hjs hx
      go_wp2
      go_roundw
      case rel =>
        refine ⟨j + 1, _, by omega, by go_num, rfl, Lib.hid (fun h => ?_), HX.out.trans (alloc_ext _ _)⟩
        have e1 := HS.out h; have e2 := HB1.out; have e3 := HT1.out; have e4 := HA.out h
        rw [IntWalk.wrap64_in (s' + _) (by omega), IntWalk.wrap64_in _ (by omega)]
        omega
      case measure => first | (simp [intOf]; done) | (simp [intOf]; omega)
    · have hjn : fs.take j = fs := List.take_of_length_le (by have := HM.out; omega)
      rw [hjn] at HS
      have HX := Lib.hid hx
      clear hx
      by_cases hg : (m : Int) > 130
      · go_wp2
        go_ret
        exact ⟨true, rfl, by simp, HX.out⟩
      · have hm130 : m ≤ 130 := by omega
        go_wp2
        go_ret
        refine ⟨_, rfl, fun h => ?_, HX.out⟩
        have hl130 : fs.length ≤ 130 := by have := HM.out; omega
        have h' := HS.out hl130
        exact ⟨hl130, by simp at h; omega⟩

def nbF (xs : List EvF) : Nat := (xs.map fun x => x.ev.nb + x.fs.length).sum
theorem nbF_append (a b : List EvF) : nbF (a ++ b) = nbF a + nbF b := by simp [nbF]
structure SmallF (xs : List EvF) : Prop where
  len : xs.length ≤ 150
  nb : nbF xs ≤ 4000
  obj : ∀ x ∈ xs, x.ev.obj.length ≤ 300
  fld : ∀ x ∈ xs, x.fs.length ≤ 130 ∧ bytesF x.fs ≤ 12000

def SmallR (w : World) (xs : List EvF) (e : Ending) (w' : World) : Prop := ∃ r : Bool, e = .returned (.bool r) ∧ (r = true → SmallF xs) ∧ Ext w w'
set_option maxRecDepth 100000 in
set_option maxHeartbeats 4000000 in
theorem small_any (w : World) (A : Option Addr) (xs : List EvF) (c : Nat) (hO : EvFAt w A xs) (hl : xs.length ≤ 140737488351232) :
    Calls Try.prog 8 #[.slice A xs.length c] w (SmallR w xs) := by
  obtain ⟨m, hm⟩ : ∃ m, m = xs.length := ⟨_, rfl⟩
  rw [← hm] at hl ⊢
  have HO := Lib.hid hO; have HM := Lib.hid hm
  clear hO hm
  go_enter Try.func8, Try.ntmps8
  go_wp2
  go_loopw [4, 3] (fun i s wr => ∃ j : Nat, ∃ s' : Int, j ≤ m ∧ i = .int .i64 j ∧ s = .int .i64 s' ∧ Hid (s' = nbF (xs.take j)) ∧ 0 ≤ s' ∧ s' ≤ 4000 ∧ Hid (∀ x ∈ xs.take j, x.ev.obj.length ≤ 300 ∧ x.fs.length ≤ 130 ∧ bytesF x.fs ≤ 12000) ∧ Ext w wr) (fun i _ _ => m - (intOf i).toNat)
  case atStart => exact ⟨0, 0, by omega, rfl, rfl, Lib.hid (by simp [nbF]), by omega, by omega, Lib.hid (by simp), Ext.refl _⟩
  case round =>
    obtain ⟨j, s', hj, rfl, rfl, HS, hs0, hs1, HQ, hx⟩ := hrel
    by_cases hlt : j < m
    · have hjs : j < xs.length := by rw [← HM.out]; exact hlt
      obtain ⟨b, off, cs, rfl, hb, hE, hF, hcs⟩ := (HO.out.ext hx) j hjs
      have htk : xs.take (j + 1) = xs.take j ++ [xs[j]] := List.take_succ_eq_append_getElem hjs
      obtain ⟨e, he⟩ : ∃ e, e = xs[j] := ⟨_, rfl⟩
      rw [← he] at hE hF htk
      obtain ⟨⟨kd, nd, wh, wl, nb, ob⟩, fs⟩ := e
      dsimp only at hE hF
      obtain ⟨Ab, cb, h53⟩ := hE.bytes
      obtain ⟨Af, cf, h28, hfl⟩ := hF.at'
      have hob := hE.obj
      have hnb := hE.nbl
      have hobl := hE.objl
      dsimp only at h53 hob hnb hobl
      obtain ⟨nf, hnf⟩ : ∃ nf, nf = fs.length := ⟨_, rfl⟩
      have hgr := fun W' (x : Ext wr W') => great_any W' Af fs cf (hfl.ext x) hF.len hF.txt
      have hnfl := hF.len
      rw [← hnf] at h28 hgr hnfl
      have k53 := hcs 53 _ h53
      have k28 := hcs 28 _ h28
      have k6 := hcs 6 _ hob
      have HN1 : Hid (nbF (xs.take (j + 1)) = nbF (xs.take j) + nb + nf) := Lib.hid (by rw [htk, nbF_append]; simp [nbF, hnf]; omega)
      have HTK := Lib.hid htk; have HNF := Lib.hid hnf; have HGR := Lib.hid hgr; have HX := Lib.hid hx
      clear hE hF hcs htk he hnf hgr hfl h53 h28 hob hjs hx
      have G53 : ∀ x : Grow [] wr, x.v.cell? ⟨b, off + j * 57 + 53, none⟩ = some (.slice Ab nb cb) := fun x => x.ext.cell (a := wr) k53 (by simp)
      have G28 : ∀ x : Grow [] wr, x.v.cell? ⟨b, off + j * 57 + 28, none⟩ = some (.slice Af nf cf) := fun x => x.ext.cell (a := wr) k28 (by simp)
      go_wp2_with fail
      (refine wp_region_grow (by kernel_rfl) (by kernel_rfl) ?_; (repeat (go_big_quiet_step (fail))); refine wpQuiet_nil ?_)
      intro w1 x1
      have k6' := Ext.cell x1 k6
      have k28' := Ext.cell x1 k28
      have X1 := Lib.hid x1
      clear G53 G28 x1 k53 k28 k6
      by_cases ho : ob.length > 300
      · go_wp2
        go_ret
        exact ⟨false, rfl, by simp, HX.out.trans X1.out⟩
      · by_cases hn : s' + nb + nf > 4000
        · go_wp2
          go_ret
          exact ⟨false, rfl, by simp, HX.out.trans X1.out⟩
        · go_wp2_with (go_at_call 16; refine (HGR.out _ X1.out).mono ?_; rintro e w2 ⟨r, rfl, hr, x2⟩; refine stop_of ?_)
          unfold Stop
          have X2 := Lib.hid (X1.out.trans x2)
          have HR := Lib.hid hr
          clear x2 hr HGR
          cases r with
          | true =>
            go_wp2
            go_ret
            exact ⟨false, rfl, by simp, HX.out.trans X2.out⟩
          | false =>
            have hr2 := HR.out rfl
            have HQ2 : Hid (∀ x ∈ xs.take (j + 1), x.ev.obj.length ≤ 300 ∧ x.fs.length ≤ 130 ∧ bytesF x.fs ≤ 12000) := Lib.hid (by
              rw [HTK.out]
              intro x hx
              rcases List.mem_append.mp hx with h | h
              · exact HQ.out x h
              · simp at h; subst h; exact ⟨by simp; omega, by have := HNF.out; have := hr2.1; simp; omega, hr2.2⟩)
            clear hr2 HR
            go_wp2
            go_roundw
            case rel => exact ⟨j + 1, s' + nb + nf, by omega, by go_num, by go_num, Lib.hid (by have := HS.out; have := HN1.out; omega), by omega, by omega, HQ2, HX.out.trans X2.out⟩
            case measure => first | (simp [intOf]; done) | (simp [intOf]; omega)
    · have hjn : xs.take j = xs := List.take_of_length_le (by have := HM.out; omega)
      rw [hjn] at HS HQ
      have HX := Lib.hid hx
      clear hx
      go_wp2
      go_ret
      exact ⟨decide ((m : Int) ≤ 150), rfl, fun h => ⟨by have := of_decide_eq_true h; have := HM.out; omega, by have := HS.out; omega, fun x hx => (HQ.out x hx).1, fun x hx => (HQ.out x hx).2⟩, HX.out⟩
end Go.Proofs.Ytlddpdlebdjniaa
