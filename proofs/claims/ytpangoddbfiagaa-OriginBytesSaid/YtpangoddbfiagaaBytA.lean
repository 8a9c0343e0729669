/- OriginBytes: the plain law. -/
import Derived.Test.YtpangoddbfiagaaGreat
import Derived.Laws.Strings2
namespace Go.Proofs.Ytpangoddbfiagaa
open Go.ChangeShapes Go.WideShapes Go.ChangeAt Go.RowKit Go.Deep Go.Joins
open Go.Maps Go.ChangeMaps
set_option linter.unusedVariables false
set_option linter.unusedSimpArgs false

theorem str_sub (W : World) (x y : Bs) (i j : Int) (h0 : 0 ≤ i) (h1 : i ≤ j) (h2 : j ≤ x.length) (hy : y = (x.drop i.toNat).take (j.toNat - i.toNat)) : (Instr.slice 9 (.string ⟨x.toArray⟩) (some (.int .i64 i)) (some (.int .i64 j)) none).run Try.prog W = .ok (.string ⟨y.toArray⟩) W := by
  have hs : (⟨x.toArray⟩ : ByteArray).size = x.length := rfl
  rw [run_slice_string W 9 ⟨x.toArray⟩ .i64 .i64 i j Try.underlying9 (by first | exact h0 | omega) (by first | exact h1 | omega) (by first | (rw [hs]; exact h2) | omega), ByteArray.extract_mk, hy]
theorem OI.lower {w : World} {b B B' N : Nat} {own : Nat → Prop} {vs : List Vn} {ss : List Sn} {sa : List Nat} (h : OI w b B N own vs ss sa) (hB : B' ≤ B) : OI w b B' N own vs ss sa := by
  obtain ⟨gs, mo, mh, H, K, h⟩ := h
  refine ⟨gs, mo, mh, H, K, h.blk, h.ob, ⟨h.vers.len, fun i v g hv hg => ?_, h.vers.nd, h.vers.bnd⟩, ⟨h.strs.len, fun j s b hs hb => ?_, h.strs.nd⟩, h.maps, h.one, h.lt, fun i hi => Nat.le_trans hB (h.low i hi), Nat.le_trans hB h.lowB, h.objs⟩
  · have q := h.vers.at_ i v g hv hg
    exact ⟨q.blk, ownsRow_base q.keys hB, ownsRow_base q.row hB, q.ob, q.ok, q.obv, q.z, q.len⟩
  · obtain ⟨kv, h1, h2, h3⟩ := h.strs.at_ j s b hs hb
    exact ⟨kv, h1, ownsRow_base h2 hB, h3⟩
theorem St.lower {v0 w0 w : World} {b N : Nat} {vs : List Vn} {ss : List Sn} {sa : List Nat} (h : St w0 w b N vs ss sa [] noP) (x : Ext v0 w0) {P : Nat → Prop} (hP : ∀ g, P g → v0.heap.size ≤ g ∧ g < w0.heap.size) : St v0 w b N vs ss sa [] P := by
  obtain ⟨own, h⟩ := h
  exact ⟨own, h.oi.lower x.size, x.trans h.ext, by simp, fun g hg => ⟨fun hh => by have := h.oi.low g hh; have := (hP g hg).2; omega, Nat.lt_of_lt_of_le (hP g hg).2 h.ext.size, (hP g hg).1⟩⟩
/-- What a stream has told of the bytes x. -/
def Tk (x : Bs) (s : Sn) (got : Bs) : Prop := (s.v = none ∧ got = []) ∨ (s.v = some 0 ∧ ∃ fr a : Nat, s.fr = fr ∧ s.at_ = a ∧ fr ≤ a ∧ a ≤ x.length ∧ (a : Int) ≤ s.to ∧ got = (x.take a).drop fr)
theorem Tk.len {x : Bs} {s : Sn} {got : Bs} (h : Tk x s got) : got.length ≤ x.length := by
  rcases h with ⟨_, h⟩ | ⟨_, fr, a, _, _, _, _, _, h⟩
  · rw [h]; simp
  · rw [h]; simp; omega
theorem Tk.grow {x p : Bs} {s : Sn} {got : Bs} (h : Tk x s got) : Tk (x ++ p) s got := by
  rcases h with h | ⟨h1, fr, a, h2, h3, h4, h5, h6, h7⟩
  · exact .inl h
  · refine .inr ⟨h1, fr, a, h2, h3, h4, by simp; omega, h6, ?_⟩
    rw [h7, List.take_append_of_le_length h5]
theorem take_more (x : Bs) (fr a k : Nat) (h : fr ≤ a) : (x.take a).drop fr ++ (x.drop a).take k = (x.take (a + k)).drop fr := by
  rw [List.take_add, List.drop_append]
  by_cases hx : a ≤ x.length
  · have : fr - (x.take a).length = 0 := by simp; omega
    rw [this]; rfl
  · have h1 : x.drop a = [] := List.drop_eq_nil_of_le (by omega)
    rw [h1]; simp
theorem take0_of (n : Int) (x : Bs) (s : Sn) (h : s.v = none) (k : Int) : takeB (GV n x) s k = [] := by simp [takeB, h]
theorem take1_of (n : Int) (x : Bs) (s : Sn) (h : s.v = some 0) (a : Nat) (ha : s.at_ = a) (k : Nat) : takeB (GV n x) s k = (x.drop a).take (min (k : Int) (min s.to x.length - a)).toNat := by
  simp only [takeB, h, GV, List.getElem?_cons_zero, takeN, ha]; rfl
theorem Tk.take {n : Int} {x : Bs} {s : Sn} {got : Bs} (k : Nat) (h : Tk x s got) : Tk x (movS (GV n x) s k) (got ++ takeB (GV n x) s k) ∧ (takeB (GV n x) s k).length ≤ k := by
  rcases h with ⟨h1, h2⟩ | ⟨h1, fr, a, h2, h3, h4, h5, h6, h7⟩
  · rw [take0_of n x s h1, h2]
    exact ⟨.inl ⟨h1, rfl⟩, by simp⟩
  · have e := take1_of n x s h1 a h3 k
    obtain ⟨q, hq⟩ : ∃ q, q = (min (k : Int) (min s.to x.length - a)).toNat := ⟨_, rfl⟩
    rw [← hq] at e
    have hl : (takeB (GV n x) s k).length = q := by rw [e]; simp; omega
    refine ⟨.inr ⟨h1, fr, a + q, h2, ?_, by omega, by omega, ?_, ?_⟩, by rw [hl]; omega⟩
    · simp only [movS, hl, h3]; omega
    · show ((a + q : Nat) : Int) ≤ s.to
      omega
    · rw [h7, e, take_more x fr a q h4]
theorem tk_has (n : Int) (x : Bs) (s : Sn) (h : s.v = none) : hasA (SV n x) s = 3 := by simp [hasA, h]
theorem takeS0_of (n : Int) (x : Bs) (s : Sn) (h : s.v = none) (k : Int) : takeB (SV n x) s k = [] := by simp [takeB, h]
theorem takeS1_of (n : Int) (x : Bs) (s : Sn) (h : s.v = some 0) (a : Nat) (ha : s.at_ = a) (k : Nat) : takeB (SV n x) s k = (x.drop a).take (min (k : Int) (min s.to x.length - a)).toNat := by
  simp only [takeB, h, SV, List.getElem?_cons_zero, takeN, ha]; rfl
theorem hasS1 (n : Int) (x : Bs) (s : Sn) (h : s.v = some 0) (a : Int) (ha : s.at_ = a) : hasA (SV n x) s = hasZ s.to a x.length ((x.length : Int) == -1) false := by
  simp [hasA, h, SV, ha]
theorem Tk.last {n : Int} {x : Bs} {s : Sn} {got : Bs} {k : Nat} (h : Tk x s got) (hk : x.length ≤ k) (hx : x.length ≤ 100000) : hasA (SV n x) (movS (SV n x) s k) = 3 ∧
    ((s.v = none ∧ got ++ takeB (SV n x) s k = []) ∨ (s.v = some 0 ∧ 0 ≤ s.fr ∧ s.fr ≤ min s.to x.length ∧ got ++ takeB (SV n x) s k = (x.drop s.fr.toNat).take ((min s.to x.length).toNat - s.fr.toNat))) := by
  rcases h with ⟨h1, h2⟩ | ⟨h1, fr, a, h2, h3, h4, h5, h6, h7⟩
  · rw [takeS0_of n x s h1, h2]
    exact ⟨by rw [tk_has]; exact h1, .inl ⟨h1, rfl⟩⟩
  · have e := takeS1_of n x s h1 a h3 k
    obtain ⟨q, hq⟩ : ∃ q, q = (min (k : Int) (min s.to x.length - a)).toNat := ⟨_, rfl⟩
    rw [← hq] at e
    have hl : (takeB (SV n x) s k).length = q := by rw [e]; simp; omega
    have haq : ((a + q : Nat) : Int) = min s.to x.length := by omega
    refine ⟨?_, .inr ⟨h1, by omega, by omega, ?_⟩⟩
    · have e1 : (movS (SV n x) s k).at_ = ((a + q : Nat) : Int) := by simp only [movS, hl, h3]; omega
      have e2 := hasS1 n x (movS (SV n x) s k) h1 _ e1
      rw [show (movS (SV n x) s k).to = s.to from rfl] at e2
      rw [e2, len_ne]
      unfold hasZ
      rw [if_neg (by omega), if_pos (.inr rfl)]
    · rw [h7, e, take_more x fr a q h4, List.drop_take, h2]
      have e3 : a + q = (min s.to x.length).toNat := by omega
      rw [e3]; rfl
theorem ask_kinds (n : Int) (x : Bs) (f : Ft) (ho : f.obj = [47, 97]) (hb : ftB f = true) (hx : x.length ≤ 1000) : Tk x (askS (GV n x) f) [] ∧ (((askS (GV n x) f).v = none ∧ (askS (GV n x) f).st ≠ 200 ∧ (askS (GV n x) f).st ≠ 206) ∨ ((askS (GV n x) f).v = some 0 ∧ ((askS (GV n x) f).st = 200 ∨ (askS (GV n x) f).st = 206))) := by
  obtain ⟨p1, p2, p3, p4⟩ := ftB_parts hb
  have e : askS (GV n x) f = askV 0 ⟨[47, 97], gM n, x, false⟩ f := by unfold askS; rw [ho]; rfl
  rw [e]
  have hg : (⟨[47, 97], gM n, x, false⟩ : Vn).m.len == -1 := rfl
  unfold askV
  split
  · exact ⟨.inl ⟨rfl, rfl⟩, .inl ⟨rfl, by simp, by simp⟩⟩
  · split
    · exact ⟨.inl ⟨rfl, rfl⟩, .inl ⟨rfl, by simp, by simp⟩⟩
    · split
      · exact ⟨.inl ⟨rfl, rfl⟩, .inl ⟨rfl, by simp, by simp⟩⟩
      · rename_i h1 h2 h3
        split
        · refine ⟨.inr ⟨rfl, 0, 0, rfl, rfl, Nat.le_refl _, Nat.zero_le _, ?_, by simp⟩, .inr ⟨rfl, .inl rfl⟩⟩
          show ((0 : Nat) : Int) ≤ if ((-1 : Int) == -1) = true then 4611686018427387904 else -1
          simp
        · rename_i h4
          simp only at h3 h4
          refine ⟨.inr ⟨rfl, f.fr.toNat, f.fr.toNat, by simp only; omega, by simp only; omega, Nat.le_refl _, ?_, ?_, by rw [List.drop_take]; simp⟩, .inr ⟨rfl, .inr rfl⟩⟩
          · by_cases h0 : f.fr = 0
            · rw [h0]; simp
            · omega
          · show ((f.fr.toNat : Nat) : Int) ≤ if ((-1 : Int) == -1) = false ∨ f.to ≠ 4611686018427387904 then min f.to x.length else f.to
            split
            · by_cases h0 : f.fr = 0
              · omega
              · omega
            · omega
section
variable {w0 w w' : World} {b N : Nat} {vs : List Vn} {ss : List Sn} {sa : List Nat} {hl : List (Value × Bs)} {P : Nat → Prop}
theorem b_st_ask {n : Int} {x : Bs} {f : Ft} (h : St w0 w b N (GV n x) [] [] hl P) (hz : FtZ f) (hb : ftB f = true) : Calls Try.prog 15 #[.pointer (some ⟨b, 0, none⟩), .agg (ftC f)] w fun e w' => ∃ sb, e = .returned (.tuple #[.pointer (some ⟨sb, 0, none⟩), .int .i64 0]) ∧ St w0 w' b N (GV n x) [askS (GV n x) f] [sb] hl P ∧ Ext w w' :=
  st_ask h (g_wf n x) f hz hb
theorem b_st_head {s : Sn} {sb : Nat} (h : St w0 w b N vs [s] [sb] hl P) : Calls Try.prog 16 #[.pointer (some ⟨sb, 0, none⟩)] w fun e w' => ∃ A c, e = .returned (.agg (replyC s.st s.m (.slice A s.m.keys.length c) s.fr s.to).toArray) ∧ St w0 w' b N vs [s] [sb] hl P ∧ Ext w w' := by
  refine (st_head (j := 0) (s := s) h rfl rfl).mono fun e w' ⟨kv, h1, hr, h2, x⟩ => ?_
  obtain ⟨A, c, rfl⟩ := own_slice hr
  exact ⟨A, c, h1, h2, x⟩
theorem b_st_take {n : Int} {x got : Bs} {s : Sn} {k sb : Nat} (h : St w0 w b N (GV n x) [s] [sb] hl P) (ht : Tk x s got) : Calls Try.prog 18 #[.pointer (some ⟨sb, 0, none⟩), .int .i64 k] w fun e w' => ∃ A c z y s', e = .returned (.tuple #[.slice A y.length c, .int .i64 z]) ∧ y.length ≤ k ∧ Tk x s' (got ++ y) ∧ (s'.st = s.st ∧ s'.fr = s.fr ∧ s'.to = s.to ∧ s'.v = s.v) ∧ St w0 w' b N (GV n x) [s'] [sb] ((.slice A y.length c, y) :: hl) P ∧ KeepP P w w' := by
  refine (st_take (j := 0) (s := s) h rfl rfl k).mono fun e w' ⟨v, h1, hr, h2, h3⟩ => ?_
  obtain ⟨A, c, rfl⟩ := own_slice hr
  have q := ht.take (n := n) k
  exact ⟨A, c, _, _, _, h1, q.2, q.1, ⟨rfl, rfl, rfl, rfl⟩, h2, h3⟩
theorem b_st_last {n : Int} {x got : Bs} {s : Sn} {k sb : Nat} (h : St w0 w b N (SV n x) [s] [sb] hl P) (ht : Tk x s got) (hk : x.length ≤ k) (hx : x.length ≤ 5000) : Calls Try.prog 18 #[.pointer (some ⟨sb, 0, none⟩), .int .i64 k] w fun e w' => ∃ A c y s', e = .returned (.tuple #[.slice A y.length c, .int .i64 3]) ∧ (s.v = none ∧ got ++ y = [] ∨ s.v = some 0 ∧ 0 ≤ s.fr ∧ s.fr ≤ min s.to x.length ∧ got ++ y = (x.drop s.fr.toNat).take ((min s.to x.length).toNat - s.fr.toNat)) ∧ St w0 w' b N (SV n x) [s'] [sb] ((.slice A y.length c, y) :: hl) P ∧ KeepP P w w' := by
  have q := ht.last (n := n) hk (by omega)
  have h0 := st_take (j := 0) (s := s) h rfl rfl k
  rw [q.1] at h0
  refine h0.mono fun e w' ⟨v, h1, hr, h2, h3⟩ => ?_
  obtain ⟨A, c, rfl⟩ := own_slice hr
  exact ⟨A, c, _, _, h1, q.2, h2, h3⟩
theorem b_st_grow {n : Int} {x p y : Bs} {u : Value} (h : St w0 w b N (GV n x) ss sa hl P) (hu : (u, p) ∈ hl) (hp : p.length ≤ 60) (hx : x.length ≤ 5000) (hy : y = x ++ p) : Calls Try.prog 17 #[.pointer (some ⟨b, 0, none⟩), .string ⟨#[47, 97]⟩, u] w fun e w' => e = .returned (.int .i64 0) ∧ St w0 w' b N (GV n y) ss sa hl P ∧ KeepP P w w' := g_st_grow h hu hp hx hy
theorem size31 : (Try.prog.info? 31).map (·.size) = some 8 := by kernel_rfl
theorem size29 : (Try.prog.info? 29).map (·.size) = some 7 := by kernel_rfl
set_option maxRecDepth 100000 in
theorem asked_cells {H : Type} {enc : TypeId × Value → H} {base : Nat} {held : Bool} {fuel : Nat} {cs : List Value} {x : DataW H × List MemPlace} (h : DataW.trod enc Try.prog w base (fun _ => true) held fuel 31 cs = some x) : ∃ (f : Ft) (v : Value) (bs : Bs), cs = (ftC f).toList ++ [v] ∧ BytesA w v bs := by
  obtain ⟨ys, m, _, _, hlen, _, _⟩ := DataW.trod_struct Try.underlying31 h
  have c31 : Try.prog.cellsOf 31 = 8 := by kernel_rfl
  rw [c31] at hlen
  obtain ⟨m1, y1, h1⟩ := fld Try.underlying31 h 0 _ rfl
  obtain ⟨m2, y2, h2⟩ := fld Try.underlying31 h 1 _ rfl
  match cs, hlen with
  | [c0, c1, c2, c3, c4, c5, c6, c7], _ =>
    have h1' : DataW.trod enc Try.prog w base (fun _ => true) held m1 29 [c0, c1, c2, c3, c4, c5, c6] = some y1 := h1
    have h2' : DataW.trod enc Try.prog w base (fun _ => true) held m2 22 [c7] = some y2 := h2
    obtain ⟨v, bs, e, hB, _⟩ := bytes_cells h2'
    obtain ⟨f, hf⟩ := fetch_cells h1'
    refine ⟨f, v, bs, ?_, hB⟩
    have e7 : c7 = v := by simpa using e
    rw [← hf, e7]; rfl
end
end Go.Proofs.Ytpangoddbfiagaa
