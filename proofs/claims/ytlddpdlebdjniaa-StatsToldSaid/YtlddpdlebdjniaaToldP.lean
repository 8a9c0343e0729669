/- Proved: StatsTold, for every input: all bytes that were told to clients are the tenants', together; of objects that were asked for, none is left out where all are told. -/
import Derived.Test.YtlddpdlebdjniaaTen2
namespace Go.Proofs.Ytlddpdlebdjniaa
open Go.ChangeShapes Go.WideShapes Go.ChangeAt Go.RowKit Go.Deep Go.Joins
open Go.Maps Go.ChangeMaps
set_option linter.unusedVariables false

theorem heftE_small {xs : List EvF} (h : SmallF xs) : heftE (evs xs) ≤ 4150 := by
  have key : ∀ l : List EvF, heftE (evs l) ≤ l.length + nbF l := by
    intro l
    induction l with
    | nil => simp [heftE, evs]
    | cons x l ih =>
      have h3 : heftE (evs (x :: l)) = 1 + x.ev.nb + heftE (evs l) := by simp [heftE, evs]
      have h4 : nbF (x :: l) = x.ev.nb + x.fs.length + nbF l := by simp [nbF]
      rw [h3, h4, List.length_cons]; omega
  have := key xs; have := h.len; have := h.nb; omega
theorem len_le_sum : ∀ zs : List Int, (∀ z ∈ zs, 0 < z) → (zs.length : Int) ≤ zs.sum
  | [], _ => by simp
  | z :: zs, h => by
    have h1 := len_le_sum zs (fun y hy => h y (by simp [hy])); have h2 := h z (by simp)
    simp only [List.length_cons, List.sum_cons]; omega
theorem sum_take_snoc (zs : List Int) (j : Nat) (hj : j < zs.length) : (zs.take (j + 1)).sum = (zs.take j).sum + zs[j] := by
  rw [List.take_succ_eq_append_getElem hj, List.sum_append, List.sum_cons, List.sum_nil, Int.add_zero]
/-- What Top tells, as a list of numbers. -/
structure TopL (all : Int) (zs : List Int) : Prop where
  pos : ∀ z ∈ zs, 0 < z
  ord : zs.Pairwise fun a b => b ≤ a
  sum : zs.sum ≤ all
  len : zs.length ≤ 1000000
theorem irow_cell {w : World} {B : Nat} {v : Value} {zs : List Int} (h : IRow w B v zs) : ∃ A c, v = .slice A zs.length c ∧ ∀ j (hj : j < zs.length), ∃ g, A = some ⟨g, 0, none⟩ ∧ w.cell? ⟨g, j, none⟩ = some (.int .i64 zs[j]) := by
  have h' := h
  rcases h.2 with ⟨rfl, h0⟩ | ⟨g, cap, cur, rfl, _, hg, _⟩
  · exact ⟨none, 0, by rw [h0], fun j hj => by omega⟩
  · refine ⟨_, _, rfl, fun j hj => ⟨g, rfl, ?_⟩⟩
    rw [World.ownsRow.cellAt h' j (by omega)]
    simp [hj]
def ToR (w : World) (all : Int) (e : Ending) (w' : World) : Prop := ∃ (v1 : Value) (A : Option Addr) (c : Nat) (zs : List Int), e = .returned (.tuple #[v1, .slice A zs.length c]) ∧ TopL all zs ∧ (∀ j (hj : j < zs.length), ∃ g, A = some ⟨g, 0, none⟩ ∧ w'.cell? ⟨g, j, none⟩ = some (.int .i64 zs[j])) ∧ Ext w w'
theorem top_told (w : World) (A : Option Addr) (xs : List EvF) (c : Nat) (n : Int) (hO : EvFAt w A xs) (hS : SmallF xs) : Calls Try.prog 15 #[.slice A xs.length c, .int .i64 n] w (ToR w (toldS (evs xs))) := by
  have h := top_any w A (evs xs) c n hO.evs (by rw [evs_len]; have := hS.len; omega) (by have := heftE_small hS; omega) (fun e he => by
    obtain ⟨y, hy, rfl⟩ := List.mem_map.1 he
    have := hS.obj y hy; omega)
  rw [evs_len] at h
  refine h.mono ?_
  rintro e w' ⟨v1, v2, ts, rfl, ⟨q1, q2, q3⟩, q4, q5, q6⟩
  obtain ⟨v, hv, hle⟩ := top_adds (evs xs)
  obtain ⟨M, hM⟩ : ∃ M, M = (topF (evs xs)).M := ⟨_, rfl⟩
  rw [← hM] at q2 q3 q5 hv
  obtain ⟨kk, hkk⟩ : ∃ kk, kk = (min (max n 0) (ts.length : Int)).toNat := ⟨_, rfl⟩
  rw [← hkk] at q5
  obtain ⟨A2, c2, rfl, hc⟩ := irow_cell q5
  have hsum := hv.sum q1 q2
  have hnn : ∀ x ∈ ts.map M, 0 ≤ x := fun x hx => by
    obtain ⟨t, _, rfl⟩ := List.mem_map.1 hx
    exact hv.nonneg t
  have hst := sum_take_le (ts.map M) kk hnn
  refine ⟨v1, A2, c2, (ts.take kk).map M, rfl, ⟨fun z hz => ?_, ?_, ?_, ?_⟩, hc, q6⟩
  · obtain ⟨t, ht, rfl⟩ := List.mem_map.1 hz
    have h1 := (q2 t).1 (List.mem_of_mem_take ht); have h2 := hv.nonneg t
    omega
  · rw [List.pairwise_map]
    refine List.Pairwise.sublist (List.take_sublist kk ts) (q3.imp fun {a b} h => ?_)
    unfold ltT at h
    omega
  · rw [List.map_take]; omega
  · have h1 := len_le_sum ((ts.take kk).map M) (fun z hz => by
      obtain ⟨t, ht, rfl⟩ := List.mem_map.1 hz
      have h1 := (q2 t).1 (List.mem_of_mem_take ht); have h2 := hv.nonneg t
      omega)
    have h2 := toldS_le hS
    rw [List.map_take] at h1 ⊢
    omega
set_option maxRecDepth 100000 in
set_option maxHeartbeats 4000000 in
theorem told_walk (xs : List EvF) (A : Option Addr) (c : Nat) (w : World) (hO : EvFAt w A xs) (hl : xs.length ≤ 140737488351232) (hnil : A = none → c = 0) :
    Calls Try.prog 6 #[.slice A xs.length c] w fun e w' => e = .returned (.bool true) ∧ Ext w w' := by
  have hsm := fun W (x : Ext w W) => small_any W A xs c (hO.ext x) hl
  obtain ⟨m, hm⟩ : ∃ m, m = xs.length := ⟨_, rfl⟩
  rw [← hm] at hsm hl ⊢
  have HO := Lib.hid hO; have HM := Lib.hid hm; have HSM := Lib.hid hsm
  clear hO hm hsm hnil
  go_enter Try.func6, Try.ntmps6
  go_wp2_with (go_at_call 7; refine (wakes_any _).mono ?_; rintro e w1 ⟨rfl, x1⟩; refine stop_of ?_)
  unfold Stop
  have X1 := Lib.hid x1
  clear x1
  go_wp2_with (go_at_call 8; refine (HSM.out _ X1.out).mono ?_; rintro e w2 ⟨r, rfl, hr, x2⟩; refine stop_of ?_)
  unfold Stop
  have X2 := Lib.hid (X1.out.trans x2)
  clear x2 X1 HSM
  cases r with
  | false =>
    clear hr
    go_wp2
    go_ret
    exact ⟨rfl, X2.out⟩
  | true =>
    have hS := hr rfl
    have hten := ten_any w2 A xs c (HO.out.ext X2.out) hS
    have htop := fun W (x : Ext w W) => top_told W A xs c m (HO.out.ext x) hS
    have hof := fun W (x : Ext w W) => of_small (c := c) (node := -1) (HO.out.ext x) hS (by decide)
    have hall := toldS_le hS
    have hall0 := toldS_nonneg (evs xs)
    have hof4 := ofS_told (evs xs)
    have hmm : m ≤ 150 := by rw [HM.out]; exact hS.len
    obtain ⟨all, hal⟩ : ∃ all, all = toldS (evs xs) := ⟨_, rfl⟩
    obtain ⟨s, hs⟩ : ∃ s, s = ofS (evs xs) (-1) := ⟨_, rfl⟩
    rw [← hs] at hof4
    simp only [← hs, ← HM.out] at hof
    simp only [← hal, ← HM.out] at htop
    rw [← HM.out] at hten
    rw [← hal] at hall hall0 hof4
    have HTEN := Lib.hid hten; have HTOP := Lib.hid htop; have HOF4 := Lib.hid hof4; have HAL := Lib.hid hal
    have HOF : Hid (∀ W, Ext w W → Calls Try.prog 9 #[.slice A m c, .int .i64 (-1)] W fun e w' => e = .returned (.agg #[.int .i64 (s 0), .int .i64 (s 1), .int .i64 (s 2), .int .i64 (s 3), .int .i64 all, .int .i64 (s 5), .int .i64 (s 6), .int .i64 (s 7), .int .i64 (s 8), .int .i64 (s 9), .int .i64 (s 10), .int .i64 (s 11)]) ∧ Ext W w') := Lib.hid (by rw [← hof4]; exact hof)
    clear hten htop hof hof4 hs hal hr hS
    go_wp2_with (go_at_call 14; refine HTEN.out.mono ?_; rintro e w3 ⟨v1, v2, ts, M, rfl, q1, q2, q3, q4, q5, q6⟩; refine stop_of ?_)
    unfold Stop
    have hsum := q3.sum q1 q2
    rw [← HAL.out] at hsum
    have hpos : ∀ z ∈ ts.map M, 0 ≤ z := fun z hz => by
      obtain ⟨t, _, rfl⟩ := List.mem_map.1 hz
      exact q3.nonneg t
    obtain ⟨ns, hns⟩ : ∃ ns, ns = ts.map M := ⟨_, rfl⟩
    have hnl : ns.length ≤ 1000 := by rw [hns, List.length_map]; exact q5
    rw [← hns] at hsum hpos q4
    obtain ⟨A3, c3, rfl, hc3⟩ := irow_cell q4
    obtain ⟨n3, hn3⟩ : ∃ n3, n3 = ns.length := ⟨_, rfl⟩
    rw [← hn3] at hnl ⊢
    have X3 := Lib.hid (X2.out.trans q6)
    have HC3 := Lib.hid hc3; have HN3 := Lib.hid hn3; have HSUM := Lib.hid hsum; have HPOS := Lib.hid hpos
    clear q1 q2 q3 q4 q5 q6 hsum hpos hns hc3 hn3 HTEN X2
    go_wp2
    go_loopw [25, 5, 7] (fun i s _ wr => ∃ j : Nat, ∃ s' : Int, j ≤ n3 ∧ i = .int .i64 j ∧ s = .int .i64 s' ∧ Hid (s' = (ns.take j).sum) ∧ 0 ≤ s' ∧ s' ≤ 4000 ∧ wr = w3) (fun i _ _ _ => n3 - (intOf i).toNat)
    case atStart => exact ⟨0, 0, by omega, rfl, rfl, Lib.hid (by simp), by omega, by omega, rfl⟩
    case round =>
      obtain ⟨j, s', hj, rfl, rfl, HS', hs0, hs1, rfl⟩ := hrel
      by_cases hlt : j < n3
      · have hjs : j < ns.length := by rw [← HN3.out]; exact hlt
        obtain ⟨g, rfl, hcell⟩ := HC3.out j hjs
        have hst := sum_take_snoc ns j hjs
        have hb := sum_take_le ns (j + 1) HPOS.out
        have hz0 := HPOS.out ns[j] (by simp)
        obtain ⟨z, hz⟩ : ∃ z, z = ns[j] := ⟨_, rfl⟩
        rw [← hz] at hcell hst hz0
        have hz1 : s' + z ≤ 4000 := by have := HS'.out; have := HSUM.out; omega
        have HST := Lib.hid hst
        clear hst hb hz hjs
        go_wp2
        go_roundw
        case rel => exact ⟨j + 1, s' + z, by omega, by go_num, by go_num, Lib.hid (by have := HST.out; have := HS'.out; omega), by omega, by omega, by first | rfl | trivial⟩
        case measure => first | (simp [intOf]; done) | (simp [intOf]; omega)
      · have hjn : ns.take j = ns := List.take_of_length_le (by have := HN3.out; omega)
        obtain rfl : s' = all := by have := HS'.out; rw [hjn] at this; rw [this]; exact HSUM.out
        clear HS' hjn HC3 HN3 HSUM HPOS HAL
        go_wp2_with (go_at_call 15; refine (HTOP.out _ X3.out).mono ?_; rintro e w4 ⟨v1', A4, c4, zs, rfl, hT, hc4, x4⟩; refine stop_of ?_)
        unfold Stop
        obtain ⟨n4, hn4⟩ : ∃ n4, n4 = zs.length := ⟨_, rfl⟩
        have hnl4 := hT.len
        rw [← hn4] at hnl4 ⊢
        have X4 := Lib.hid (X3.out.trans x4)
        have HT := Lib.hid hT; have HC4 := Lib.hid hc4; have HN4 := Lib.hid hn4
        clear hT hc4 hn4 x4 X3 HTOP
        go_wp2
        go_loopw [42, 10, 11, 12] (fun i s _ _ wr => ∃ j : Nat, ∃ s' : Int, j ≤ n4 ∧ i = .int .i64 j ∧ s = .int .i64 s' ∧ Hid (s' = (zs.take j).sum) ∧ 0 ≤ s' ∧ s' ≤ 4000 ∧ wr = w4) (fun i _ _ _ _ => n4 - (intOf i).toNat)
        case atStart => exact ⟨0, 0, by omega, rfl, rfl, Lib.hid (by simp), by omega, by omega, rfl⟩
        case round =>
          obtain ⟨j, t', hj, rfl, rfl, HT', ht0, ht1, rfl⟩ := hrel
          by_cases hlt4 : j < n4
          · have hjs : j < zs.length := by rw [← HN4.out]; exact hlt4
            obtain ⟨g, rfl, hcell⟩ := HC4.out j hjs
            have hst := sum_take_snoc zs j hjs
            have hb := sum_take_le zs (j + 1) (fun z hz => by have := HT.out.pos z hz; omega)
            have hz0 := HT.out.pos zs[j] (by simp)
            have hord : ∀ q (hq : q + 1 = j), ∃ y, y = zs[q]'(by omega) ∧ zs[j] ≤ y := fun q hq => ⟨_, rfl, by
              have := List.pairwise_iff_getElem.1 HT.out.ord q j (by omega) hjs (by omega)
              exact this⟩
            obtain ⟨z, hz⟩ : ∃ z, z = zs[j] := ⟨_, rfl⟩
            rw [← hz] at hcell hst hz0 hord
            have hz1 : t' + z ≤ 4000 := by have := HT'.out; have := HT.out.sum; omega
            have HST := Lib.hid hst
            have hzp : ¬ z ≤ 0 := by omega
            clear hst hb hz
            by_cases hj0 : j = 0
            · subst hj0
              clear hord hjs
              go_wp2
              go_roundw
              case rel => exact ⟨0 + 1, t' + z, by omega, by go_num, by go_num, Lib.hid (by have := HST.out; have := HT'.out; omega), by omega, by omega, by first | rfl | trivial⟩
              case measure => first | (simp [intOf]; done) | (simp [intOf]; omega)
            · obtain ⟨q, rfl⟩ : ∃ q, j = q + 1 := ⟨j - 1, by omega⟩
              obtain ⟨y, hy, hyz⟩ := hord q rfl
              obtain ⟨g', eg, hcq⟩ := HC4.out q (by omega)
              cases eg
              rw [← hy] at hcq
              have hyz2 : ¬ y < z := by omega
              clear hord hjs hy hj0
              go_wp2
              go_roundw
              case rel => exact ⟨q + 1 + 1, t' + z, by omega, by go_num, by go_num, Lib.hid (by have := HST.out; have := HT'.out; omega), by omega, by omega, by first | rfl | trivial⟩
              case measure => first | (simp [intOf]; done) | (simp [intOf]; omega)
          · have hjn : zs.take j = zs := List.take_of_length_le (by have := HN4.out; omega)
            have hle : t' ≤ s' := by have := HT'.out; rw [hjn] at this; rw [this]; exact HT.out.sum
            clear HT' hjn HC4 HN4 HT
            go_wp2_with (go_at_call 9; refine (HOF.out _ X4.out).mono ?_; rintro e w5 ⟨rfl, x5⟩; refine stop_of ?_)
            unfold Stop
            have X5 := Lib.hid (X4.out.trans x5)
            clear x5 X4 HOF
            have hfd : ∀ W : World, (Instr.field 50 (.agg #[.int .i64 (s 0), .int .i64 (s 1), .int .i64 (s 2), .int .i64 (s 3), .int .i64 s', .int .i64 (s 5), .int .i64 (s 6), .int .i64 (s 7), .int .i64 (s 8), .int .i64 (s 9), .int .i64 (s 10), .int .i64 (s 11)]) 4).run Try.prog W = .ok (.int .i64 s') W := fun _ => by kernel_rfl
            go_wp2
            try rw [hfd]
            go_wp2
            go_ret
            exact ⟨rfl, X5.out⟩
set_option maxRecDepth 100000 in
theorem statsTold_lifted (os : Os) (started : os.Started) (H : Type) (enc : TypeId × Value → H) :
    ReturnsInHanded {} Try.checked os 6 .any (Rows.statsToldSpec.pre6 enc Try.prog Try.f6 Rows.statsToldRow.domain false) (Rows.statsToldSpec.post enc Try.prog Try.f6 false true false false) := by
  refine returnsInHanded_of_change_sized (C := Try.checked) own started (by kernel_rfl) Try.func6
    (ChangeSpec.witness6 (enc := enc) (C := Try.checked) false ⟨#[], #[.slice none 0 0], []⟩ 8 (by kernel_rfl) (by kernel_rfl) (by kernel_rfl) (by kernel_rfl)) ?_
  intro W base args ds gs before hval0 hW hcnd hsz _
  have hval : ∀ (j : Nat) t v, Try.f6.params[j]? = some t → args[j]? = some v → Value.okWide Try.prog W .any base t v := hval0
  have hW' := hW
  obtain ⟨p, q, hA0, hV, rfl, hfz, hnd⟩ := hW
  have hA : DataW.TrodAll enc Try.prog W 0 (fun _ => true) true Try.f6.params.toList args.toList ds p := hA0
  rw [Try.params6] at hA hval
  obtain ⟨v0, vs0, d0, ds0, p0, q0, hargs, rfl, rfl, h0, r0⟩ := trodAll_cons hA
  obtain ⟨rfl, rfl, rfl⟩ := trodAll_nil r0
  obtain rfl : args = #[v0] := by cases args; simp_all
  obtain ⟨rfl, rfl⟩ := trodVars_none hV
  have lt0 : ∀ x ∈ p0, x.block < W.heap.size := by obtain ⟨m, hm⟩ := h0; exact DataW.trod_lt m _ _ _ hm
  have t0 := fun W' (bel : Below W.heap.size W W') => Below.trod laidOut (by kernel_rfl) (of_decide_eq_true (by kernel_rfl)) h0 bel lt0
  have wk0 : WOk Try.prog 22 d0 := wok_arg hsz (j := 0) rfl rfl
  obtain ⟨A0, xs0, c0, rfl, ha0, hl0, hn0⟩ := events_open wk0 (hval 0 22 v0 rfl rfl) h0
  clear hA0 hval0 hsz
  refine (told_walk xs0 A0 c0 W ha0 hl0 hn0 ).mono fun e W' ⟨he, bel⟩ => ?_
  subst he
  exact ⟨_, rfl, _, _, _, [], _, [], hW', trodAll_mk1 (shut_bool Try.underlying4 _), (trodAll_cons_mk (t0 W' bel) trodAll_mk0), rfl, bel.frame _, fun h => by cases h⟩

/-- The statement. -/
theorem StatsTold_proved : Rows.StatsToldSaid :=
  OpenClaim.holds_of_wide 6 Try.f6 rfl rfl rfl rfl rfl rfl rfl ⟨rfl, rfl, rfl, rfl, rfl⟩ rfl rfl rfl rfl rfl (by kernel_rfl) Try.func6 (by kernel_rfl)
    (of_decide_eq_true (by kernel_rfl)) (by unfold Func.isWrapper; first | (rw [if_pos (by decide +kernel)]; kernel_rfl) | (rw [if_neg (by decide +kernel)]; exact ⟨rfl, rfl⟩))
    (fun os started H enc _ => statsTold_lifted os started H enc)
#print axioms StatsTold_proved
end Go.Proofs.Ytlddpdlebdjniaa
