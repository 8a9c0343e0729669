/- OriginGrows: the plain law; texts put together and compared. -/
import Derived.Test.YtpangoddbfiagaaArgs
import Derived.Laws.Concat
namespace Go.Proofs.Ytpangoddbfiagaa
open Go.RowKit Go.Maps Go.ChangeMaps
set_option linter.unusedVariables false
set_option linter.unusedSimpArgs false

theorem RowsG.slice {α : Type} {w : World} {z : Nat} {R : α → List Value → Prop} {v : Value} {xs : List α} (h : RowsG w z R v xs) : ∃ A c, v = .slice A xs.length c := by
  obtain ⟨A, c, h1, _⟩ := h; exact ⟨A, c, h1⟩
theorem str_add (W : World) {x y z : Bs} (hx : x.length ≤ 1000000) (hy : y.length ≤ 1000000) (hz : z = x ++ y) : (binOp .add 9 (.string ⟨x.toArray⟩) (.string ⟨y.toArray⟩)).run Try.prog W = .ok (.string ⟨z.toArray⟩) W := by
  subst hz
  have h1 : (x.length : Int) ≤ 8388608 := by omega
  have h2 : (y.length : Int) ≤ 8388608 := by omega
  simp [binOp, run_string_add_lists, *]
theorem RowsG.at {α : Type} {w : World} {z : Nat} {R : α → List Value → Prop} {A : Option Addr} {n c : Nat} {xs : List α} (h : RowsG w z R (.slice A n c) xs) {k : Nat} (hk : k < xs.length) : ∃ b off cs, A = some ⟨b, off, none⟩ ∧ R xs[k] cs ∧ b < w.heap.size ∧ ∀ j u, cs[j]? = some u → w.cell? ⟨b, off + k * z + j, none⟩ = some u := by
  obtain ⟨A', c', h1, _, _, h6⟩ := h
  have hA : A = A' := by injection h1
  rw [hA]; exact h6 k hk
/-- Two texts put together. -/
theorem wpList_add {W : World} {ops : Array Oper} {rest : List Oper} {o : Oper} {a : Act} {Q : Exit → Act → World → Prop} (hgd : o.guard = none) (s t : Operand) (ho : o.op = .binOp .add 9 s t 9) (x y z : Bs) (hs : a.eval s = .string ⟨x.toArray⟩) (ht : a.eval t = .string ⟨y.toArray⟩) (hx : x.length ≤ 1000000) (hy : y.length ≤ 1000000) (hz : z = x ++ y)
    (h : wpList Try.prog ops Q rest (a.put o.dst (.string ⟨z.toArray⟩)) W) : wpList Try.prog ops Q (o :: rest) a W :=
  wpList_plain hgd fun K hK => by
    unfold Oper.wp execOp
    have e := str_add W hx hy hz
    simp only [ho, hs, ht, eqGuard, Sem.run_bind, Sem.run_pure, Result.andThen_ok, Bool.not_false, if_true, e]
    exact hK _ _ h
theorem str_eql (W : World) (x y : Bs) : (binOp .eql 9 (.string ⟨x.toArray⟩) (.string ⟨y.toArray⟩)).run Try.prog W = .ok (.bool (decide (x = y))) W := by
  have : (x == y) = decide (x = y) := by rw [Bool.eq_iff_iff]; simp
  simp [go_sem, Try.underlying9, this]
theorem str_neq (W : World) (x y : Bs) : (binOp .neq 9 (.string ⟨x.toArray⟩) (.string ⟨y.toArray⟩)).run Try.prog W = .ok (.bool (!decide (x = y))) W := by
  have : (x == y) = decide (x = y) := by rw [Bool.eq_iff_iff]; simp
  simp [go_sem, Try.underlying9, bne, this]
def gM (n : Int) : MetaP := ⟨[116], false, -1, -1, n, 0, 0, 0, [], [], true⟩
/-- One version that grows. -/
def GV (n : Int) (x : Bs) : List Vn := [⟨[47, 97], gM n, x, false⟩]
/-- .. sealed. -/
def SV (n : Int) (x : Bs) : List Vn := [⟨[47, 97], ⟨[116], false, -1, x.length, n, 0, 0, 0, [], [], true⟩, x, false⟩]
def Sg (n : Int) (a : Int) : Sn := ⟨200, gM n, 0, 4611686018427387904, a, some 0⟩
theorem gM_ok {n : Int} (h0 : 0 ≤ n) (h1 : n ≤ 1000) : metaB (gM n) = true := by
  refine metaB_mk (.inr (by kernel_rfl)) (by show (-1 : Int) ≤ -1; omega) (by show (-1 : Int) ≤ 253402300799; omega) (by show (-1 : Int) ≤ -1; omega) (by show (-1 : Int) ≤ 1099511627776; omega) h0 (by show n ≤ 1099511627776; omega) (.inl rfl) (by kernel_rfl) (by kernel_rfl) (by kernel_rfl) (by simp [gM]) (by simp [gM]) (by simp [gM]) (by kernel_rfl)
theorem g_set {x : Bs} (h : x.length ≤ 1000) : setA [] [47, 97] (exM (-1)) x = (0, GV x.length x) := by
  have h1 : setOk [47, 97] (exM (-1)) x = true := by
    have h2 : objB [47, 97] = true := by kernel_rfl
    have h3 : metaB { exM (-1) with hav := x.length } = true := gM_ok (n := x.length) (by omega) (by omega)
    unfold setOk
    rw [h2, h3]; rfl
  have h2 : refused [] [47, 97] (exM (-1)) = false := by kernel_rfl
  unfold setA
  rw [h1, h2]; rfl
theorem g_wf (n : Int) (x : Bs) : Wf (GV n x) := by intro v hv; simp [GV] at hv; subst hv; exact .inl rfl
def gF : Ft := ⟨[47, 97], 0, 4611686018427387904, [], false, [], false⟩
theorem g_ft : ftB gF = true := by kernel_rfl
theorem g_ask (n : Int) (x : Bs) : askS (GV n x) gF = Sg x.length 0 := by
  show askV 0 ⟨[47, 97], gM n, x, false⟩ gF = _
  unfold askV
  have h1 : strongB gF.nt gF.nw (gM n).tt (gM n).tw = false := by kernel_rfl
  simp only [h1]
  simp [gF, Sg, gM, nowM]
theorem g_now (n : Int) (x : Bs) : nowI (GV n x) [47, 97] = some 0 := rfl
theorem s_now (n : Int) (x : Bs) : nowI (SV n x) [47, 97] = some 0 := rfl
theorem g_grow (n : Int) (x p : Bs) : growA (GV n x) [47, 97] p = (0, GV n (x ++ p)) := rfl
theorem g_seal (n : Int) (x : Bs) : sealA (GV n x) [47, 97] = (0, SV n x) := rfl
theorem len_ne (x : Bs) : ((x.length : Int) == -1) = false := by
  rw [beq_eq_false_iff_ne]; omega
theorem s_seal (n : Int) (x : Bs) : sealA (SV n x) [47, 97] = (11, SV n x) := by
  show (if ((x.length : Int) == -1) = true then ((0 : Int), (SV n x).set 0 (sealV ⟨[47, 97], ⟨[116], false, -1, x.length, n, 0, 0, 0, [], [], true⟩, x, false⟩)) else ((11 : Int), SV n x)) = _
  rw [len_ne]; rfl
theorem s_grow (n : Int) (x p : Bs) : growA (SV n x) [47, 97] p = (11, SV n x) := by
  show (if ((x.length : Int) == -1) = true then ((0 : Int), (SV n x).set 0 (growV ⟨[47, 97], ⟨[116], false, -1, x.length, n, 0, 0, 0, [], [], true⟩, x, false⟩ p)) else ((11 : Int), SV n x)) = _
  rw [len_ne]; rfl
theorem g_meta (n : Int) (x : Bs) : metaA (GV n x) [47, 97] = (gM x.length, true) := rfl
theorem s_meta (n : Int) (x : Bs) : metaA (SV n x) [47, 97] = (⟨[116], false, -1, x.length, x.length, 0, 0, 0, [], [], true⟩, true) := rfl
theorem g_bytes (n : Int) (x : Bs) : bytesA (GV n x) [47, 97] = x := rfl
theorem s_bytes (n : Int) (x : Bs) : bytesA (SV n x) [47, 97] = x := rfl
theorem g_has (n m : Int) (x : Bs) (a : Nat) (ha : a ≤ x.length) (hx : x.length ≤ 100000) : hasA (GV n x) (Sg m a) = if a < x.length then 1 else 2 := by
  show hasZ 4611686018427387904 a x.length true false = _
  unfold hasZ
  by_cases h : a < x.length
  · rw [if_pos (by omega), if_pos h]
  · rw [if_neg (by omega), if_neg (by simp; omega), if_neg (by simp), if_neg h]
theorem s_has (n m : Int) (x : Bs) : hasA (SV n x) (Sg m x.length) = 3 := by
  show hasZ 4611686018427387904 x.length x.length ((x.length : Int) == -1) false = _
  rw [len_ne]
  unfold hasZ
  rw [if_neg (by omega), if_pos (.inr rfl)]
/-- How many bytes a taking tells of x behind a. -/
def gT (x : Bs) (a k : Nat) : Nat := min k (x.length - a)
theorem g_takeN (x : Bs) (a k : Nat) (ha : a ≤ x.length) (hx : x.length ≤ 100000) : (takeN 4611686018427387904 a k x.length).toNat = gT x a k := by unfold takeN gT; omega
theorem g_take (n m : Int) (x : Bs) (a k : Nat) (ha : a ≤ x.length) (hx : x.length ≤ 100000) : takeB (GV n x) (Sg m a) k = (x.drop a).take (gT x a k) := by
  show (x.drop (a : Int).toNat).take (takeN 4611686018427387904 a k x.length).toNat = _
  rw [g_takeN x a k ha hx]; rfl
theorem s_take (n m : Int) (x : Bs) (a k : Nat) (ha : a ≤ x.length) (hx : x.length ≤ 100000) : takeB (SV n x) (Sg m a) k = (x.drop a).take (gT x a k) := by
  show (x.drop (a : Int).toNat).take (takeN 4611686018427387904 a k x.length).toNat = _
  rw [g_takeN x a k ha hx]; rfl
theorem gT_len (x : Bs) (a k : Nat) : ((x.drop a).take (gT x a k)).length = gT x a k := by simp [gT]
theorem g_mov (n m : Int) (x : Bs) (a k : Nat) (ha : a ≤ x.length) (hx : x.length ≤ 100000) : movS (GV n x) (Sg m a) k = Sg m ((a + gT x a k : Nat) : Int) := by
  unfold movS
  rw [g_take n m x a k ha hx, gT_len]
  simp [Sg]
theorem s_mov (n m : Int) (x : Bs) (a k : Nat) (ha : a ≤ x.length) (hx : x.length ≤ 100000) : movS (SV n x) (Sg m a) k = Sg m ((a + gT x a k : Nat) : Int) := by
  unfold movS
  rw [s_take n m x a k ha hx, gT_len]
  simp [Sg]
theorem gT_le (x : Bs) (a k : Nat) (ha : a ≤ x.length) : a + gT x a k ≤ x.length := by unfold gT; omega
theorem gT_put (x : Bs) (a k : Nat) : x.take a ++ (x.drop a).take (gT x a k) = x.take (a + gT x a k) := by rw [List.take_add]
section
variable {w0 w w' : World} {b N : Nat} {vs : List Vn} {ss : List Sn} {sa : List Nat} {hl : List (Value × Bs)} {P : Nat → Prop}
theorem St.nil (h : St w0 w b N vs ss sa hl P) : St w0 w b N vs ss sa ((.slice none 0 0, []) :: hl) P := by
  obtain ⟨own, h⟩ := h
  refine ⟨own, h.oi, h.ext, fun p hp => ?_, h.priv⟩
  rcases List.mem_cons.1 hp with e | hp
  · rw [e]; exact ⟨⟨none, 0, rfl, Nat.le_refl _, fun _ => rfl, fun j hj => by simp at hj⟩, fun A n c e => (by cases e), fun A n c e => (by cases e)⟩
  · exact h.held p hp
/-- 'append([]byte{}, u...)', the empty row laid just before. -/
theorem wpList_copyE {W : World} {ops : Array Oper} {rest : List Oper} {o : Oper} {a : Act} {Q : Exit → Act → World → Prop}
    (hgd : o.guard = none) (s x : Operand) (ho : o.op = .call { callee := .builtin .append, args := #[s, x], argTypes := #[22, 22] }) (u : Value) (bs : Bs) (hsrc : BytesAt W u bs) (hs : a.eval s = .slice (some ⟨W.heap.size, 0, none⟩) 0 0) (hx : a.eval x = u) (hlen : bs.length ≤ 1000000)
    (h : ∀ v' w', BRow w' W.heap.size v' bs → Ext W w' → wpList Try.prog ops Q rest (a.put o.dst v') w') : wpList Try.prog ops Q (o :: rest) a (W.alloc (.cells #[] 5)) := by
  have hm : BRow (W.alloc (.cells #[] 5)) W.heap.size (.slice (some ⟨W.heap.size, 0, none⟩) 0 0) [] := World.ownsRow_made W #[] 0 (Nat.le_refl _) (by unfold maxLen; omega) rfl
  refine wpList_appendB hgd s x ho W.heap.size (.slice (some ⟨W.heap.size, 0, none⟩) 0 0) u [] bs hm (hsrc.ext (ext_alloc1 _ _)) hs hx (by simpa using hlen) (by simp) fun v' w' h1 h2 => ?_
  refine h v' w' h1 ⟨h2.os, h2.tape, h2.output, by have := h2.size; simp at this; omega, fun k hk => (h2.block k (by simp; omega) ?_).trans (Below.heap_alloc _ _ _ hk)⟩
  intro e
  have : k = W.heap.size := by simpa [Value.ownBlock] using e
  omega
theorem g_st_set {u : Value} {x : Bs} (h : St w0 w b 0 [] [] [] hl P) (hu : (u, x) ∈ hl) (hx : x.length ≤ 60) : Calls Try.prog 13 #[.pointer (some ⟨b, 0, none⟩), .string ⟨#[47, 97]⟩, .agg #[.string ⟨#[116]⟩, .bool false, .int .i64 (-1), .int .i64 (-1), .int .i64 0, .int .i64 0, .int .i64 0, .int .i64 0, .slice none 0 0, .string ⟨#[]⟩, .bool true], u] w fun e w' => e = .returned (.int .i64 0) ∧ St w0 w' b 2 (GV x.length x) [] [] hl P ∧ KeepP P w w' := by
  have := st_set (o := [47, 97]) (m := exM (-1)) (kv := .slice none 0 0) h (by omega) (by decide) (exM_z _) (texts_nil _) (low_nil _) hu (by omega)
  rw [g_set (by omega)] at this
  exact this
theorem g_st_ask {n : Int} {x : Bs} (h : St w0 w b N (GV n x) [] [] hl P) : Calls Try.prog 15 #[.pointer (some ⟨b, 0, none⟩), .agg #[.string ⟨#[47, 97]⟩, .int .i64 0, .int .i64 4611686018427387904, .string ⟨#[]⟩, .bool false, .string ⟨#[]⟩, .bool false]] w fun e w' => ∃ sb, e = .returned (.tuple #[.pointer (some ⟨sb, 0, none⟩), .int .i64 0]) ∧ St w0 w' b N (GV n x) [Sg x.length 0] [sb] hl P ∧ Ext w w' := by
  have := st_ask h (g_wf n x) gF ⟨by decide, by decide, by decide⟩ g_ft
  rw [g_ask] at this
  exact this
theorem g_st_head {n : Int} {a : Int} {sb : Nat} (h : St w0 w b N vs [Sg n a] [sb] hl P) : Calls Try.prog 16 #[.pointer (some ⟨sb, 0, none⟩)] w fun e w' => ∃ kv, e = .returned (.agg #[.int .i64 200, .string ⟨#[116]⟩, .bool false, .int .i64 (-1), .int .i64 (-1), .int .i64 n, .int .i64 0, .int .i64 0, .int .i64 0, kv, .string ⟨#[]⟩, .bool true, .int .i64 0, .int .i64 4611686018427387904, .int .i64 0]) ∧ St w0 w' b N vs [Sg n a] [sb] hl P ∧ Ext w w' :=
  (st_head (j := 0) (s := Sg n a) h rfl rfl).mono fun e w' ⟨kv, h1, _, h2, x⟩ => ⟨kv, h1, h2, x⟩
theorem g_st_grow {n : Int} {x p y : Bs} {u : Value} (h : St w0 w b N (GV n x) ss sa hl P) (hu : (u, p) ∈ hl) (hp : p.length ≤ 60) (hx : x.length ≤ 5000) (hy : y = x ++ p) : Calls Try.prog 17 #[.pointer (some ⟨b, 0, none⟩), .string ⟨#[47, 97]⟩, u] w fun e w' => e = .returned (.int .i64 0) ∧ St w0 w' b N (GV n y) ss sa hl P ∧ KeepP P w w' := by
  subst hy
  have := st_grow (o := [47, 97]) h (by decide) hu (by omega) (fun i v hn hv => by
    obtain rfl : i = 0 := by rw [g_now] at hn; exact (Option.some.inj hn).symm
    obtain rfl := Option.some.inj hv
    show x.length + _ ≤ _
    omega)
  rw [g_grow] at this
  exact this
theorem g_st_take {n m : Int} {x y : Bs} {a a' k sb : Nat} {z : Int} (h : St w0 w b N (GV n x) [Sg m a] [sb] hl P) (ha : a ≤ x.length) (hx : x.length ≤ 5000) (hy : y = (x.drop a).take (gT x a k)) (ha' : a' = a + gT x a k) (hz : z = if a' < x.length then 1 else 2) : Calls Try.prog 18 #[.pointer (some ⟨sb, 0, none⟩), .int .i64 k] w fun e w' => ∃ v, e = .returned (.tuple #[v, .int .i64 z]) ∧ St w0 w' b N (GV n x) [Sg m a'] [sb] ((v, y) :: hl) P ∧ KeepP P w w' := by
  subst hy; subst hz; subst ha'
  have := st_take (j := 0) (s := Sg m a) h rfl rfl k
  rw [g_mov n m x a k ha (by omega), g_take n m x a k ha (by omega), g_has n m x _ (gT_le x a k ha) (by omega)] at this
  exact this.mono fun e w' ⟨v, h1, _, h2, h3⟩ => ⟨v, h1, h2, h3⟩
theorem s_st_take {n m : Int} {x y : Bs} {a k sb : Nat} (h : St w0 w b N (SV n x) [Sg m a] [sb] hl P) (ha : a ≤ x.length) (hx : x.length ≤ 5000) (hk : x.length ≤ k) (hy : y = x.drop a) : Calls Try.prog 18 #[.pointer (some ⟨sb, 0, none⟩), .int .i64 k] w fun e w' => ∃ v, e = .returned (.tuple #[v, .int .i64 3]) ∧ St w0 w' b N (SV n x) [Sg m x.length] [sb] ((v, y) :: hl) P ∧ KeepP P w w' := by
  subst hy
  have hg : gT x a k = x.length - a := by unfold gT; omega
  have := st_take (j := 0) (s := Sg m a) h rfl rfl k
  rw [s_mov n m x a k ha (by omega), s_take n m x a k ha (by omega), hg, show a + (x.length - a) = x.length by omega, s_has] at this
  rw [show (x.drop a).take (x.length - a) = x.drop a from List.take_of_length_le (by simp)] at this
  exact this.mono fun e w' ⟨v, h1, _, h2, h3⟩ => ⟨v, h1, h2, h3⟩
theorem g_st_meta {n : Int} {x : Bs} (h : St w0 w b N (GV n x) ss sa hl P) : Calls Try.prog 21 #[.pointer (some ⟨b, 0, none⟩), .string ⟨#[47, 97]⟩] w fun e w' => ∃ A c, e = .returned (.tuple #[.agg #[.string ⟨#[116]⟩, .bool false, .int .i64 (-1), .int .i64 (-1), .int .i64 x.length, .int .i64 0, .int .i64 0, .int .i64 0, .slice A 0 c, .string ⟨#[]⟩, .bool true], .bool true]) ∧ St w0 w' b N (GV n x) ss sa hl P ∧ Ext w w' := by
  have := st_meta (o := [47, 97]) h (by decide)
  rw [g_meta] at this
  refine this.mono fun e w' ⟨kv, h1, hr, h2, h3⟩ => ?_
  obtain ⟨A, c, rfl⟩ := own_slice hr
  exact ⟨A, c, h1, h2, h3⟩
theorem s_st_meta {n : Int} {x : Bs} (h : St w0 w b N (SV n x) ss sa hl P) : Calls Try.prog 21 #[.pointer (some ⟨b, 0, none⟩), .string ⟨#[47, 97]⟩] w fun e w' => ∃ A c, e = .returned (.tuple #[.agg #[.string ⟨#[116]⟩, .bool false, .int .i64 (-1), .int .i64 x.length, .int .i64 x.length, .int .i64 0, .int .i64 0, .int .i64 0, .slice A 0 c, .string ⟨#[]⟩, .bool true], .bool true]) ∧ St w0 w' b N (SV n x) ss sa hl P ∧ Ext w w' := by
  have := st_meta (o := [47, 97]) h (by decide)
  rw [s_meta] at this
  refine this.mono fun e w' ⟨kv, h1, hr, h2, h3⟩ => ?_
  obtain ⟨A, c, rfl⟩ := own_slice hr
  exact ⟨A, c, h1, h2, h3⟩
theorem g_st_bytes {n : Int} {x : Bs} (h : St w0 w b N (GV n x) ss sa hl P) : Calls Try.prog 20 #[.pointer (some ⟨b, 0, none⟩), .string ⟨#[47, 97]⟩] w fun e w' => ∃ v, e = .returned v ∧ St w0 w' b N (GV n x) ss sa ((v, x) :: hl) P ∧ Ext w w' := by
  have := st_bytes (o := [47, 97]) h (by decide)
  rw [g_bytes] at this
  exact this.mono fun e w' ⟨v, h1, _, h2, h3⟩ => ⟨v, h1, h2, h3⟩
theorem s_st_bytes {n : Int} {x : Bs} (h : St w0 w b N (SV n x) ss sa hl P) : Calls Try.prog 20 #[.pointer (some ⟨b, 0, none⟩), .string ⟨#[47, 97]⟩] w fun e w' => ∃ v, e = .returned v ∧ St w0 w' b N (SV n x) ss sa ((v, x) :: hl) P ∧ Ext w w' := by
  have := st_bytes (o := [47, 97]) h (by decide)
  rw [s_bytes] at this
  exact this.mono fun e w' ⟨v, h1, _, h2, h3⟩ => ⟨v, h1, h2, h3⟩
theorem g_st_seal {n : Int} {x : Bs} (h : St w0 w b N (GV n x) ss sa hl P) : Calls Try.prog 19 #[.pointer (some ⟨b, 0, none⟩), .string ⟨#[47, 97]⟩] w fun e w' => e = .returned (.int .i64 0) ∧ St w0 w' b N (SV n x) ss sa hl P ∧ KeepP P w w' := by
  have := st_seal (o := [47, 97]) h (by decide)
  rw [g_seal] at this
  exact this
theorem s_st_seal {n : Int} {x : Bs} (h : St w0 w b N (SV n x) ss sa hl P) : Calls Try.prog 19 #[.pointer (some ⟨b, 0, none⟩), .string ⟨#[47, 97]⟩] w fun e w' => e = .returned (.int .i64 11) ∧ St w0 w' b N (SV n x) ss sa hl P ∧ KeepP P w w' := by
  have := st_seal (o := [47, 97]) h (by decide)
  rw [s_seal] at this
  exact this
theorem s_st_grow {n : Int} {x : Bs} (h : St w0 w b N (SV n x) ss sa hl P) (hx : x.length ≤ 5000) : Calls Try.prog 17 #[.pointer (some ⟨b, 0, none⟩), .string ⟨#[47, 97]⟩, .slice none 0 0] w fun e w' => e = .returned (.int .i64 11) ∧ St w0 w' b N (SV n x) ss sa ((.slice none 0 0, []) :: hl) P ∧ KeepP P w w' := by
  have := st_grow (o := [47, 97]) (bs := []) (u := .slice none 0 0) h.nil (by decide) List.mem_cons_self (by decide) (fun i v hn hv => by
    obtain rfl : i = 0 := by rw [s_now] at hn; exact (Option.some.inj hn).symm
    obtain rfl := Option.some.inj hv
    show x.length + 0 ≤ _
    omega)
  rw [s_grow] at this
  exact this
end
theorem fld25_1 (W : World) (a0 a1 : Value) : (Instr.field 25 (.agg #[a0, a1]) 1).run Try.prog W = .ok a1 W := by kernel_rfl
theorem fld25_0 (W : World) (a0 a1 : Value) : (Instr.field 25 (.agg #[a0, a1]) 0).run Try.prog W = .ok a0 W := by kernel_rfl
end Go.Proofs.Ytpangoddbfiagaa
