/- Seal, Grow, Gone, walked over the state. -/
import Derived.Test.YtpangoddbfiagaaMut
namespace Go.Proofs.Ytpangoddbfiagaa
open Go.RowKit Go.Maps Go.ChangeMaps
set_option linter.unusedVariables false
set_option linter.unusedSimpArgs false

def sealV (v : Vn) : Vn := { v with m := { v.m with len := v.bytes.length } }
def sealA (vs : List Vn) (o : Bs) : Int × List Vn := match nowI vs o with
  | none => (6, vs)
  | some i => match vs[i]? with
    | none => (6, vs)
    | some v => if (v.m.len == -1) = true then (0, vs.set i (sealV v)) else (11, vs)
def growV (v : Vn) (bs : Bs) : Vn := { v with bytes := v.bytes ++ bs }
def growA (vs : List Vn) (o bs : Bs) : Int × List Vn := match nowI vs o with
  | none => (6, vs)
  | some i => match vs[i]? with
    | none => (6, vs)
    | some v => if (v.m.len == -1) = true then (0, vs.set i (growV v bs)) else (11, vs)
section
variable {w : World} {b B N : Nat} {own : Nat → Prop} {vs : List Vn} {ss : List Sn} {sa : List Nat}
set_option maxRecDepth 100000 in
set_option maxHeartbeats 1000000 in
theorem seal_any (hI : OI w b B N own vs ss sa) {o : Bs} (ho : o.length ≤ 1000000) : Calls Try.prog 19 #[.pointer (some ⟨b, 0, none⟩), .string ⟨o.toArray⟩] w fun e w' => e = .returned (.int .i64 (sealA vs o).1) ∧ OI w' b B N own (sealA vs o).2 ss sa ∧ ExtP own w w' := by
  obtain ⟨gs, mo, mh, H, K, h⟩ := hI
  cases hn : nowI vs o with
  | none =>
    have em : sealA vs o = (6, vs) := by simp [sealA, hn]
    rw [em]
    have hg := Lib.hid (growing_none h ho hn)
    have HI := Lib.hid (show OI w b B N own vs ss sa from ⟨gs, mo, mh, H, K, h⟩)
    clear h hn em
    go_enter Try.func19, Try.ntmps19
    go_wp2_with (go_at_call 44; refine hg.out.mono ?_; rintro e w1 ⟨rfl, rfl⟩)
    go_ret
    exact ⟨rfl, HI.out, .of (Ext.refl _)⟩
  | some i =>
    obtain ⟨v, hv, _, _⟩ := nowI_some hn
    obtain ⟨g, hg, hok⟩ := h.vers.get hv
    obtain ⟨A, c, hbv⟩ := hok.bvs
    cases hlen : (v.m.len == -1) with
    | false =>
      have em : sealA vs o = (11, vs) := by simp [sealA, hn, hv, hlen]
      rw [em]
      have hg := Lib.hid (growing_not h ho hn hv hg hlen)
      have HI := Lib.hid (show OI w b B N own vs ss sa from ⟨gs, mo, mh, H, K, h⟩)
      clear h hn em hok hlen hbv
      go_enter Try.func19, Try.ntmps19
      go_wp2_with (go_at_call 44; refine hg.out.mono ?_; rintro e w1 ⟨rfl, rfl⟩)
      go_ret
      exact ⟨rfl, HI.out, .of (Ext.refl _)⟩
    | true =>
      have em : sealA vs o = (0, vs.set i (sealV v)) := by simp [sealA, hn, hv, hlen]
      rw [em]
      have hgr := Lib.hid (growing_ok h ho hn hv hg hlen)
      have HI := Lib.hid h; have HV := Lib.hid hv; have HG := Lib.hid hg; have OK := Lib.hid hok; have HBV := Lib.hid hbv
      have k11 := blk_cell hok.blk 11
      simp [verC, hbv] at k11
      have HBLK := Lib.hid hok.blk
      have hlb : v.bytes.length ≤ 100000 := hok.len
      obtain ⟨q, hq⟩ : ∃ q, q = g.b := ⟨_, rfl⟩
      rw [← hq] at hgr k11 HBLK
      have HQ := Lib.hid hq
      clear h hn em hok hlen hbv hv hg hq
      go_enter Try.func19, Try.ntmps19
      go_wp2_with (first | (go_at_call 44; refine hgr.out.mono ?_; rintro e w1 ⟨rfl, rfl⟩) | (refine wpList_put 2 rfl _ _ rfl _ 3 90 _ (verC { v.m with hav := g.h, len := v.bytes.length } g.kv g.bv v.went) [.int .i64 v.bytes.length] (.int .i64 v.bytes.length) HBLK.out rfl rfl rfl (by simp [verC]) rfl size2 (by simp [putA, verC]) ?_; intro W3 x3 n3 s3; refine stop_of ?_))
      unfold Stop
      have X3 := Lib.hid x3; have N3 := Lib.hid n3
      clear x3 n3 k11
      go_wp2
      go_ret
      rw [HQ.out] at X3 N3
      refine ⟨rfl, ⟨gs.set i g, mo, mh, H, K, ?_⟩, .ofB X3.out (fun k hk => .inl ?_)⟩
      · have ok := OK.out
        refine HI.out.setV (v' := sealV v) (g' := g) HV.out HG.out rfl ⟨N3.out, own_extB ok.keys X3.out ?_, own_extB ok.row X3.out ?_, ok.ob, ok.ok, ok.obv, ⟨ok.z.tt, ok.z.keys, ok.z.key, ok.z.ten⟩, ok.len⟩ X3.out (fun x hx => .inl (by simpa using hx)) (fun x hx => .inl hx) (fun _ hi => hi) (fun j hj => Nat.lt_of_lt_of_le (HI.out.lt j hj) X3.out.size) HI.out.low rfl rfl rfl rfl
        · intro x hx e
          have hx' : x = g.b := by simpa using hx
          subst hx'
          have := ok.kk e; rw [ok.kb] at this; cases this
        · intro x hx e
          have hx' : x = g.b := by simpa using hx
          subst hx'
          have := ok.kbv e; rw [ok.kb] at this; cases this
      · have hk' : k = g.b := by simpa using hk
        rw [hk']; exact OK.out.ob
end
end Go.Proofs.Ytpangoddbfiagaa
