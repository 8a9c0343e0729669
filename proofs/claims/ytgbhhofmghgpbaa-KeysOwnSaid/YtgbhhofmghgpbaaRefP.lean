/- The reference's put, walked. -/
import Derived.Test.YtgbhhofmghgpbaaRefT
import Derived.Sort.Walk0
namespace Go.Proofs.Ytgbhhofmghgpbaa
open Go.RowKit Go.Sort Go.Shelf Go.Maps Go.ChangeMaps
set_option linter.unusedVariables false

/-- A text into a sorted list, if it isn't there. -/
def insS (ss : List Bs) (t : Bs) : List Bs := ss.filter (fun x => decide (x < t)) ++ t :: ss.filter (fun x => decide (t < x))
def putS (ss : List Bs) (t : Bs) : List Bs := if t ∈ ss then ss else insS ss t
theorem wpList_append_text {W : World} {ops : Array Oper} {rest : List Oper} {o : Oper} {a : Act} {Q : Exit → Act → World → Prop}
    (hgd : o.guard = none) (s x : Operand) (ho : o.op = .call { callee := .builtin .append, args := #[s, x], argTypes := #[23, 23] })
    (B : Nat) (v : Value) (ss : List Bs) (k : Bs) (hown : SRow W B v ss) (hs' : a.eval s = v) (gN : Nat) (hx : a.eval x = .slice (some ⟨gN, 0, none⟩) 1 1) (hgN : W.heap.size = gN)
    (hl : ss.length ≤ 1000000) (hB : B ≤ W.heap.size)
    (hK : ∀ v' w', SRow w' B v' (ss ++ [k]) → W.grownBy w' v.ownBlock → wpList Try.prog ops Q rest (a.put o.dst v') w') :
    wpList Try.prog ops Q (o :: rest) a (W.alloc (.cells #[.string ⟨k.toArray⟩] 9)) := by
  obtain ⟨i0, hi, hz0, hz1, hz2⟩ := info_parts info9
  refine wpList_append_one hgd s x 23 ho B 9 i0 _ 1 16 Try.underlying23 hi hz0 hz1 hz2 rfl (by decide) v _ _ hs' hown #[.string ⟨k.toArray⟩] gN hx hgN rfl (by simp [Value.oneCell']) (by unfold maxLen; omega) (by omega) hB ?_
  intro v' w' h1 h2 h3
  refine hK v' w' ?_ h2
  unfold SRow
  rw [List.map_append, List.length_append]
  exact h1
theorem lt_iff (k t : Bs) : t < k ↔ ¬ k < t ∧ k ≠ t := by
  constructor
  · intro h
    exact ⟨List.lt_asymm h, fun e => by subst e; exact List.lt_irrefl _ h⟩
  · rintro ⟨h1, h2⟩
    refine Decidable.byContradiction fun h3 => h2 (List.le_antisymm (List.not_lt.1 h3) (List.not_lt.1 h1))
theorem gtr_run (k t : Bs) (w : World) : (binOp .gtr 9 (.string ⟨k.toArray⟩) (.string ⟨t.toArray⟩)).run Try.prog w = .ok (.bool (decide (t < k))) w := by
  have h0 : binOp .gtr 9 (.string ⟨k.toArray⟩) (.string ⟨t.toArray⟩) = pure (.bool !(Op.bytesLess (ByteArray.mk k.toArray).toList (ByteArray.mk t.toArray).toList || (ByteArray.mk k.toArray).toList == (ByteArray.mk t.toArray).toList)) := by simp [binOp, Op.stringOp]
  have e : (!(Op.bytesLess (ByteArray.mk k.toArray).toList (ByteArray.mk t.toArray).toList || (ByteArray.mk k.toArray).toList == (ByteArray.mk t.toArray).toList)) = decide (t < k) := by
    rw [ByteArray.toList_mk, ByteArray.toList_mk, bytesLess_eq, Bool.eq_iff_iff, decide_eq_true_iff]
    refine Iff.trans ?_ (lt_iff k t).symm
    rw [Bool.not_eq_true', Bool.or_eq_false_iff, decide_eq_false_iff_not]
    simp
  rw [h0, e]; rfl
theorem filter_all {P : List Bs} {f : Bs → Bool} (h : ∀ x ∈ P, f x = true) : P.filter f = P := List.filter_eq_self.2 h
theorem filter_none {P : List Bs} {f : Bs → Bool} (h : ∀ x ∈ P, f x = false) : P.filter f = [] := List.filter_eq_nil_iff.2 fun x hx => by simp [h x hx]
theorem ins_all {P : List Bs} {t : Bs} (h : ∀ x ∈ P, x < t) : insS P t = P ++ [t] := by
  unfold insS
  rw [filter_all fun x hx => decide_eq_true (h x hx), filter_none fun x hx => decide_eq_false (List.lt_asymm (h x hx))]
theorem ins_mid {P : List Bs} {t k : Bs} (h : ∀ x ∈ P, x < t) (hk : t < k) : insS (P ++ [k]) t = P ++ [t] ++ [k] := by
  have h1 := ins_all h
  unfold insS at h1 ⊢
  rw [List.filter_append, List.filter_append]
  rw [filter_all fun x hx => decide_eq_true (h x hx), filter_none (P := P) fun x hx => decide_eq_false (List.lt_asymm (h x hx))]
  simp [List.filter_cons, hk, List.lt_asymm hk]
theorem ins_end {P : List Bs} {t k : Bs} (hk : t < k) : insS (P ++ [k]) t = insS P t ++ [k] := by
  unfold insS
  rw [List.filter_append, List.filter_append]
  simp [List.filter_cons, hk, List.lt_asymm hk]
theorem ins_mem (ss : List Bs) (t x : Bs) : x ∈ insS ss t ↔ x ∈ ss ∨ x = t := by
  unfold insS
  simp only [List.mem_append, List.mem_cons, List.mem_filter, decide_eq_true_iff]
  constructor
  · rintro (h | h | h)
    · exact .inl h.1
    · exact .inr h
    · exact .inl h.1
  · rintro (h | h)
    · by_cases e : x = t
      · exact .inr (.inl e)
      · by_cases hx : x < t
        · exact .inl ⟨h, hx⟩
        · exact .inr (.inr ⟨h, (lt_iff x t).2 ⟨hx, e⟩⟩)
    · exact .inr (.inl h)
theorem put_mem (ss : List Bs) (t x : Bs) : x ∈ putS ss t ↔ x ∈ ss ∨ x = t := by
  unfold putS
  split
  · rename_i h
    exact ⟨.inl, fun h' => h'.elim id (fun e => by subst e; exact h)⟩
  · exact ins_mem ss t x
theorem put_up {ss : List Bs} (t : Bs) (h : ss.Pairwise (· < ·)) : (putS ss t).Pairwise (· < ·) := by
  unfold putS
  split
  · exact h
  · unfold insS
    rw [List.pairwise_append]
    refine ⟨h.filter _, ?_, ?_⟩
    · rw [List.pairwise_cons]
      exact ⟨fun x hx => by simpa using (List.mem_filter.1 hx).2, h.filter _⟩
    · intro a ha b hb
      have h1 : a < t := by simpa using (List.mem_filter.1 ha).2
      rcases List.mem_cons.1 hb with rfl | hb
      · exact h1
      · have h2 : t < b := by simpa using (List.mem_filter.1 hb).2
        exact List.lt_trans h1 h2
structure PuRel (w : World) (ss : List Bs) (t : Bs) (j : Nat) (out : Value) (th : Bool) (wr : World) : Prop where
  nin : t ∉ ss.take j
  off : th = false → SRow wr w.heap.size out (ss.take j) ∧ ∀ x ∈ ss.take j, x < t
  on : th = true → SRow wr w.heap.size out (insS (ss.take j) t) ∧ ∃ x ∈ ss.take j, t < x
  ext : Ext w wr
set_option maxRecDepth 100000 in
set_option maxHeartbeats 2000000 in
theorem put_any (w : World) (C : Nat) (v : Value) (ss : List Bs) (t : Bs) (h : SRow w C v ss) (hC : C ≤ w.heap.size) (hl : ss.length ≤ 1000) (hs : ss.Pairwise (· < ·)) :
    Calls Try.prog 31 #[v, .string ⟨t.toArray⟩] w fun e w' => ∃ v', e = .returned v' ∧ SRow w' C v' (putS ss t) ∧ Ext w w' := by
  obtain ⟨A, c, rfl, hc⟩ := h.texts
  obtain ⟨m, hm⟩ : ∃ m, m = ss.length := ⟨_, rfl⟩
  rw [← hm] at hl h ⊢
  have HC := Lib.hid hc; have HM := Lib.hid hm; have HH := Lib.hid h; have HS := Lib.hid hs
  clear hc hm h hs
  go_enter Try.func31, Try.ntmps31
  go_wp2
  go_loopw [11, 5, 6, 8] (fun i out th _ wr => ∃ j : Nat, ∃ b : Bool, j ≤ m ∧ i = .int .i64 j ∧ th = .bool b ∧ PuRel w ss t j out b wr) (fun i _ _ _ _ => m - (intOf i).toNat)
  case atStart => exact ⟨0, false, by omega, rfl, rfl, ⟨by simp, fun _ => ⟨World.ownsRow_nil _ _ _ _, by simp⟩, by simp, Ext.refl _⟩⟩
  case round =>
    obtain ⟨j, b, hj, rfl, rfl, hr⟩ := hrel
    have R := Lib.hid hr
    clear hr
    by_cases hlt : j < m
    · have hjs : j < ss.length := by rw [← HM.out]; exact hlt
      obtain ⟨g, off, rfl, hg, hcell⟩ := HC.out j hjs
      have hcell' := Ext.cell R.out.ext hcell
      have htk : ss.take (j + 1) = ss.take j ++ [ss[j]] := List.take_succ_eq_append_getElem hjs
      have hmem : ss[j] ∈ ss := by simp
      obtain ⟨k, hkk⟩ : ∃ k, k = ss[j] := ⟨_, rfl⟩
      rw [← hkk] at hcell' htk hmem
      have hcl : wr.cell? ⟨g, off + j, none⟩ = some (.string ⟨k.toArray⟩) := hcell'
      have HTK := Lib.hid htk; have HMEM := Lib.hid hmem
      clear htk hmem hkk hcell hcell' hjs
      by_cases he : k = t
      · subst he
        go_wp2
        go_ret
        exact ⟨_, rfl, by rw [putS, if_pos HMEM.out]; exact ownsRow_below HH.out R.out.ext, R.out.ext⟩
      · have e1 : (k == t) = false := by simpa using he
        have hnin : t ∉ ss.take (j + 1) := by
          rw [HTK.out, List.mem_append, List.mem_singleton]
          rintro (h1 | h1)
          · exact R.out.nin h1
          · exact he h1.symm
        have hlow : ∀ x ∈ ss.take j, x < k := fun x hx => by
          have h1 := HS.out.sublist (List.take_sublist (j + 1) ss)
          rw [HTK.out, List.pairwise_append] at h1
          exact h1.2.2 x hx k (by simp)
        have hsz : (ss.take j).length ≤ 1000 := by rw [List.length_take]; omega
        have hsz2 : (insS (ss.take j) t).length ≤ 2001 := by
          unfold insS
          have h1 := List.length_filter_le (fun x => decide (x < t)) (ss.take j)
          have h2 := List.length_filter_le (fun x => decide (t < x)) (ss.take j)
          simp; omega
        have NIN := Lib.hid hnin; have LOW := Lib.hid hlow
        clear hnin hlow he HH
        cases b
        · by_cases hgt : t < k
          · have hrun := gtr_run k t wr
            rw [decide_eq_true hgt] at hrun
            have HGT := Lib.hid hgt; have HOFF := Lib.hid (R.out.off rfl)
            clear hgt
            go_wp2_with (at_builtin; refine wpList_append_text rfl _ _ rfl w.heap.size _ _ t HOFF.out.1 rfl _ rfl ?c0 ?c1 ?c2 ?_)
            case c0 => simp
            case c1 => omega
            case c2 => exact R.out.ext.size
            intro v1 w1 q1 g1
            have Q1 := Lib.hid q1; have X1 : Hid (RowKit.Below w.heap.size w w1) := Lib.hid (RowKit.Below.trans R.out.ext (own_below HOFF.out.1 g1 R.out.ext.size))
            clear q1 g1 hrun
            go_wp2_with (at_builtin; refine wpList_append_text rfl _ _ rfl w.heap.size _ _ k Q1.out rfl _ rfl ?c3 ?c4 ?c5 ?_)
            case c3 => simp
            case c4 => simp; omega
            case c5 => exact X1.out.size
            intro v2 w2 q2 g2
            have R2 : Hid (PuRel w ss t (j + 1) v2 true w2) := Lib.hid ⟨NIN.out, by simp, fun _ => ⟨by rw [HTK.out, ins_mid HOFF.out.2 HGT.out, List.append_assoc]; exact q2, k, by rw [HTK.out]; simp, HGT.out⟩, RowKit.Below.trans X1.out (own_below Q1.out g2 X1.out.size)⟩
            clear q2 g2 Q1 X1 R HOFF
            go_wp2
            go_roundw
            case rel => exact ⟨j + 1, true, by omega, by go_num, rfl, R2.out⟩
            case measure => simp [intOf]; omega
          · have hrun := gtr_run k t wr
            rw [decide_eq_false hgt] at hrun
            have HGT : Hid (k < t) := Lib.hid ((lt_iff t k).2 ⟨hgt, fun e => by subst e; simp at e1⟩)
            have HOFF := Lib.hid (R.out.off rfl)
            clear hgt
            go_wp2_with (at_builtin; refine wpList_append_text rfl _ _ rfl w.heap.size _ _ k HOFF.out.1 rfl _ rfl ?c0 ?c1 ?c2 ?_)
            case c0 => simp
            case c1 => omega
            case c2 => exact R.out.ext.size
            intro v1 w1 q1 g1
            have R2 : Hid (PuRel w ss t (j + 1) v1 false w1) := Lib.hid ⟨NIN.out, fun _ => ⟨by rw [HTK.out]; exact q1, fun x hx => by
              rw [HTK.out, List.mem_append, List.mem_singleton] at hx
              rcases hx with hx | rfl
              · exact HOFF.out.2 x hx
              · exact HGT.out⟩, by simp, RowKit.Below.trans R.out.ext (own_below HOFF.out.1 g1 R.out.ext.size)⟩
            clear q1 g1 hrun R HOFF
            go_wp2
            go_roundw
            case rel => exact ⟨j + 1, false, by omega, by go_num, rfl, R2.out⟩
            case measure => simp [intOf]; omega
        · have HON := Lib.hid (R.out.on rfl)
          have hgt : t < k := by
            obtain ⟨x, h1, h2⟩ := HON.out.2
            exact List.lt_trans h2 (LOW.out x h1)
          have hrun := gtr_run k t wr
          rw [decide_eq_true hgt] at hrun
          have HGT := Lib.hid hgt
          clear hgt
          go_wp2_with (at_builtin; refine wpList_append_text rfl _ _ rfl w.heap.size _ _ k HON.out.1 rfl _ rfl ?c0 ?c1 ?c2 ?_)
          case c0 => simp
          case c1 => omega
          case c2 => exact R.out.ext.size
          intro v1 w1 q1 g1
          have R2 : Hid (PuRel w ss t (j + 1) v1 true w1) := Lib.hid ⟨NIN.out, by simp, fun _ => ⟨by rw [HTK.out, ins_end HGT.out]; exact q1, k, by rw [HTK.out]; simp, HGT.out⟩, RowKit.Below.trans R.out.ext (own_below HON.out.1 g1 R.out.ext.size)⟩
          clear q1 g1 hrun R HON
          go_wp2
          go_roundw
          case rel => exact ⟨j + 1, true, by omega, by go_num, rfl, R2.out⟩
          case measure => simp [intOf]; omega
    · have hjn : ss.take j = ss := List.take_of_length_le (by have := HM.out; omega)
      have NIN : Hid (t ∉ ss) := Lib.hid (by have := R.out.nin; rw [hjn] at this; exact this)
      have X := Lib.hid R.out.ext
      cases b
      · have HOFF := R.out.off rfl
        rw [hjn] at HOFF
        have HOFF := Lib.hid HOFF
        clear hjn R
        go_wp2_with (at_builtin; refine wpList_append_text rfl _ _ rfl w.heap.size _ _ t HOFF.out.1 rfl _ rfl ?c0 ?c1 ?c2 ?_)
        case c0 => simp
        case c1 => have := HM.out; omega
        case c2 => exact X.out.size
        intro v1 w1 q1 g1
        have E : Hid (SRow w1 C v1 (putS ss t) ∧ Ext w w1) := Lib.hid ⟨by rw [putS, if_neg NIN.out, ins_all HOFF.out.2]; exact ownsRow_base q1 hC, RowKit.Below.trans X.out (own_below HOFF.out.1 g1 X.out.size)⟩
        clear q1 g1 HOFF
        go_wp2
        go_ret
        exact ⟨_, rfl, E.out⟩
      · have HON := R.out.on rfl
        rw [hjn] at HON
        have HON := Lib.hid HON
        clear hjn R
        go_wp2
        go_ret
        exact ⟨_, rfl, by rw [putS, if_neg NIN.out]; exact ownsRow_base HON.out.1 hC, X.out⟩
end Go.Proofs.Ytgbhhofmghgpbaa
