/- The program's origin in a law's walk: the state, what is owned forgotten, and rows that the law holds. -/
import Derived.Test.YtpangoddbfiagaaObjs
namespace Go.Proofs.Ytpangoddbfiagaa
open Go.RowKit Go.Maps Go.ChangeMaps
set_option linter.unusedVariables false
set_option linter.unusedSimpArgs false

/-- A row of bytes that the law holds. -/
def HeldB (own : Nat → Prop) (w : World) (v : Value) (bs : Bs) : Prop := BytesAt w v bs ∧ FarV own v ∧ ∀ A n c, v = .slice (some A) n c → A.block < w.heap.size
theorem HeldB.step {own own' : Nat → Prop} {w w' : World} {v : Value} {bs : Bs} (h : HeldB own w v bs) (x : ExtP own w w') (ho : ∀ i, own' i → own i ∨ w.heap.size ≤ i) : HeldB own' w' v bs := by
  obtain ⟨h1, h2, h3⟩ := h
  refine ⟨RowAt.far h1 x h2, fun A n c e hn hh => ?_, fun A n c e => Nat.lt_of_lt_of_le (h3 A n c e) x.size⟩
  rcases ho _ hh with h4 | h4
  · exact h2 A n c e hn h4
  · have := h3 A n c e; omega
structure Stt (w0 w : World) (b N : Nat) (own : Nat → Prop) (vs : List Vn) (ss : List Sn) (sa : List Nat) (hl : List (Value × Bs)) (P : Nat → Prop) : Prop where
  oi : OI w b w0.heap.size N own vs ss sa
  ext : Ext w0 w
  held : ∀ p ∈ hl, HeldB (fun i => own i ∨ P i) w p.1 p.2
  priv : ∀ g, P g → ¬ own g ∧ g < w.heap.size ∧ w0.heap.size ≤ g
/-- The state; rows that the law holds; blocks that are the law's own. -/
def St (w0 w : World) (b N : Nat) (vs : List Vn) (ss : List Sn) (sa : List Nat) (hl : List (Value × Bs)) (P : Nat → Prop) : Prop := ∃ own, Stt w0 w b N own vs ss sa hl P
def KeepP (P : Nat → Prop) (w w' : World) : Prop := ∀ g, P g → w'.heap[g]? = w.heap[g]?
theorem KeepP.refl (P : Nat → Prop) (w : World) : KeepP P w w := fun _ _ => rfl
theorem KeepP.trans {P : Nat → Prop} {w w1 w2 : World} (h : KeepP P w w1) (k : KeepP P w1 w2) : KeepP P w w2 := fun g hg => (k g hg).trans (h g hg)
def noP : Nat → Prop := fun _ => False
theorem OI.lt {w : World} {b B N : Nat} {own : Nat → Prop} {vs : List Vn} {ss : List Sn} {sa : List Nat} (h : OI w b B N own vs ss sa) : ∀ i, own i → i < w.heap.size := by
  obtain ⟨_, _, _, _, _, h⟩ := h; exact h.lt
theorem OI.low {w : World} {b B N : Nat} {own : Nat → Prop} {vs : List Vn} {ss : List Sn} {sa : List Nat} (h : OI w b B N own vs ss sa) : ∀ i, own i → B ≤ i := by
  obtain ⟨_, _, _, _, _, h⟩ := h; exact h.low
theorem ExtP.weak {own own' : Nat → Prop} {w w' : World} (h : ExtP own w w') (ho : ∀ i, own i → own' i) : ExtP own' w w' := ⟨h.os, h.tape, h.output, h.size, fun k hk hn => h.block k hk fun hh => hn (ho k hh)⟩
section
variable {w0 w w' : World} {b N : Nat} {own own' P P' : Nat → Prop} {vs vs' : List Vn} {ss ss' : List Sn} {sa sa' : List Nat} {hl : List (Value × Bs)}
theorem Stt.below (h : Stt w0 w b N own vs ss sa hl P) (x : ExtP own w w') : Ext w0 w' :=
  Below.trans h.ext (⟨x.os, x.tape, x.output, x.size, fun i hi => x.block i (Nat.lt_of_lt_of_le hi h.ext.size) (fun hh => by have := h.oi.low i hh; omega)⟩ : Below w0.heap.size w w')
theorem Stt.go {M : Nat} (h : Stt w0 w b N own vs ss sa hl P) (x : ExtP own w w') (ho : ∀ i, own' i → own i ∨ w.heap.size ≤ i) (hI : OI w' b w0.heap.size M own' vs' ss' sa') : Stt w0 w' b M own' vs' ss' sa' hl P :=
  ⟨hI, h.below x, fun p hp => (h.held p hp).step (x.weak fun i hi => .inl hi) (fun i hi => by
    rcases hi with hi | hi
    · exact (ho i hi).imp .inl id
    · exact .inl (.inr hi)), fun g hg => ⟨fun hh => by
      rcases ho g hh with h1 | h1
      · exact (h.priv g hg).1 h1
      · have := (h.priv g hg).2.1; omega, Nat.lt_of_lt_of_le (h.priv g hg).2.1 x.size, (h.priv g hg).2.2⟩⟩
theorem Stt.kept (h : Stt w0 w b N own vs ss sa hl P) (x : ExtP own w w') : KeepP P w w' := fun g hg => x.block g (h.priv g hg).2.1 (h.priv g hg).1
theorem Stt.ext' (h : Stt w0 w b N own vs ss sa hl P) (x : Ext w w') : Stt w0 w' b N own vs ss sa hl P := h.go (.of x) (fun i hi => .inl hi) (h.oi.ext x)
theorem St.ext (h : St w0 w b N vs ss sa hl P) (x : Ext w w') : St w0 w' b N vs ss sa hl P := by
  obtain ⟨own, h⟩ := h; exact ⟨own, h.ext' x⟩
theorem St.keptE (h : St w0 w b N vs ss sa hl P) (x : Ext w w') : KeepP P w w' := by
  obtain ⟨own, h⟩ := h; exact h.kept (.of x)
theorem St.base (h : St w0 w b N vs ss sa hl P) : Ext w0 w := by
  obtain ⟨own, h⟩ := h; exact h.ext
theorem St.plt (h : St w0 w b N vs ss sa hl P) {g : Nat} (hg : P g) : g < w.heap.size := by
  obtain ⟨own, h⟩ := h; exact (h.priv g hg).2.1
/-- What turns the law's own blocks. -/
theorem St.other (h : St w0 w b N vs ss sa hl P) (x : ExtP P w w') (hP : ∀ g, P' g → P g ∨ (w.heap.size ≤ g ∧ g < w'.heap.size)) : St w0 w' b N vs ss sa hl P' := by
  obtain ⟨own, h⟩ := h
  have hsz := h.ext.size
  refine ⟨own, h.oi.keep (fun i hi => x.block i (h.oi.lt i hi) (fun hh => (h.priv i hh).1 hi)) x.size, Below.trans h.ext (⟨x.os, x.tape, x.output, x.size, fun i hi => x.block i (Nat.lt_of_lt_of_le hi hsz) (fun hh => by have := (h.priv i hh).2.2; omega)⟩ : Below w0.heap.size w w'), fun p hp => (h.held p hp).step (x.weak fun i hi => .inr hi) (fun i hi => ?_), fun g hg => ?_⟩
  · rcases hi with hi | hi
    · exact .inl (.inl hi)
    · exact (hP i hi).imp .inr (·.1)
  · rcases hP g hg with h1 | h1
    · exact ⟨(h.priv g h1).1, Nat.lt_of_lt_of_le (h.priv g h1).2.1 x.size, (h.priv g h1).2.2⟩
    · exact ⟨fun hh => by have := h.oi.lt g hh; omega, h1.2, by omega⟩
theorem row_held {base : Nat} {v : Value} {bs : Bs} (r : BRow w' base v bs) (hb : w.heap.size ≤ base) (hlt : ∀ i, own i → i < w.heap.size) : HeldB own w' v bs := by
  refine ⟨r.at_, fun A n c e hn hh => ?_, fun A n c e => ?_⟩
  all_goals
    have hr := r
    rcases hr.2 with ⟨e2, _⟩ | ⟨g, cap, cur, e2, hb2, hg, _⟩
    · rw [e] at e2; cases e2
    · rw [e] at e2
      injection e2 with e2
      have e3 : A = ⟨g, 0, none⟩ := by injection e2
      subst e3
      first
        | exact blk_lt hg
        | (have := hlt _ hh; simp only at this; omega)
theorem Stt.ltA (h : Stt w0 w b N own vs ss sa hl P) : ∀ i, (own i ∨ P i) → i < w.heap.size := fun i hi => by
  rcases hi with hi | hi
  · exact h.oi.lt i hi
  · exact (h.priv i hi).2.1
theorem Stt.hold {base : Nat} (h : Stt w0 w b N own vs ss sa hl P) {v : Value} {bs : Bs} (x : Ext w w') (r : BRow w' base v bs) (hb : w.heap.size ≤ base) : Stt w0 w' b N own vs ss sa ((v, bs) :: hl) P := by
  have h' := h.ext' x
  refine ⟨h'.oi, h'.ext, fun p hp => ?_, h'.priv⟩
  rcases List.mem_cons.1 hp with e | hp
  · rw [e]; exact row_held r hb h.ltA
  · exact h'.held p hp
theorem St.hold {base : Nat} (h : St w0 w b N vs ss sa hl P) {v : Value} {bs : Bs} (x : Ext w w') (r : BRow w' base v bs) (hb : w.heap.size ≤ base) : St w0 w' b N vs ss sa ((v, bs) :: hl) P := by
  obtain ⟨own, h⟩ := h; exact ⟨own, h.hold x r hb⟩
theorem St.bytes (h : St w0 w b N vs ss sa hl P) {v : Value} {bs : Bs} (hm : (v, bs) ∈ hl) : BytesAt w v bs := by
  obtain ⟨own, h⟩ := h; exact (h.held _ hm).1
theorem St.drop (h : St w0 w b N vs ss sa hl P) {hl' : List (Value × Bs)} (hs : ∀ p ∈ hl', p ∈ hl) : St w0 w b N vs ss sa hl' P := by
  obtain ⟨own, h⟩ := h; exact ⟨own, h.oi, h.ext, fun p hp => h.held p (hs p hp), h.priv⟩
theorem St.more {M : Nat} (h : St w0 w b N vs ss sa hl P) (hM : N ≤ M) : St w0 w b M vs ss sa hl P := by
  obtain ⟨own, h⟩ := h; exact ⟨own, h.oi.moreN hM, h.ext, h.held, h.priv⟩
theorem grown_le (i : Nat) (h : grownOwn own w w' i) : own i ∨ w.heap.size ≤ i := h.imp id (·.1)
theorem st_new (w : World) : Calls Try.prog 10 #[] w fun e w' => e = .returned (.pointer (some ⟨w.heap.size, 0, none⟩)) ∧ St w w' w.heap.size 0 [] [] [] [] noP ∧ Ext w w' :=
  (new_any w).mono fun e w' ⟨h1, h2, h3⟩ => ⟨h1, ⟨_, h2, h3, by simp, fun g hg => hg.elim⟩, h3⟩
/-- A slice of the caller's own, or none. -/
def LowV (w0 : World) (v : Value) : Prop := ∀ A n c, v = .slice (some A) n c → 0 < n → A.block < w0.heap.size
theorem st_set (h : St w0 w b N vs ss sa hl P) (hN : N ≤ 800000) {o bs : Bs} {m : MetaP} {kv u : Value} (ho : o.length ≤ 1000) (hz : MetaZ m) (hk : TextsAt w kv m.keys) (hlk : LowV w0 kv) (hu : (u, bs) ∈ hl) (hbs : bs.length ≤ 1000) :
    Calls Try.prog 13 #[.pointer (some ⟨b, 0, none⟩), .string ⟨o.toArray⟩, metaV m kv, u] w fun e w' => e = .returned (.int .i64 (setA vs o m bs).1) ∧ St w0 w' b (N + 2) (setA vs o m bs).2 ss sa hl P ∧ KeepP P w w' := by
  obtain ⟨own, h⟩ := h
  have hp := h.held _ hu
  refine (set_any h.oi hN ho hz hk hp.1 hbs (fun A n c e hn hh => by have := hlk A n c e hn; have := h.oi.low _ hh; omega) (fun A n c e hn hh => hp.2.1 A n c e hn (.inl hh))).mono fun e w' ⟨h1, h2, h3⟩ => ⟨h1, ⟨_, h.go h3 grown_le h2⟩, h.kept h3⟩
theorem st_grow (h : St w0 w b N vs ss sa hl P) {o bs : Bs} {u : Value} (ho : o.length ≤ 1000000) (hu : (u, bs) ∈ hl) (hbs : bs.length ≤ 1000) (hcap : ∀ i v, nowI vs o = some i → vs[i]? = some v → v.bytes.length + bs.length ≤ 100000) :
    Calls Try.prog 17 #[.pointer (some ⟨b, 0, none⟩), .string ⟨o.toArray⟩, u] w fun e w' => e = .returned (.int .i64 (growA vs o bs).1) ∧ St w0 w' b N (growA vs o bs).2 ss sa hl P ∧ KeepP P w w' := by
  obtain ⟨own, h⟩ := h
  have hp := h.held _ hu
  exact (grow_any h.oi ho hp.1 hbs hcap).mono fun e w' ⟨h1, h2, h3⟩ => ⟨h1, ⟨_, h.go h3 grown_le h2⟩, h.kept h3⟩
theorem st_seal (h : St w0 w b N vs ss sa hl P) {o : Bs} (ho : o.length ≤ 1000000) : Calls Try.prog 19 #[.pointer (some ⟨b, 0, none⟩), .string ⟨o.toArray⟩] w fun e w' => e = .returned (.int .i64 (sealA vs o).1) ∧ St w0 w' b N (sealA vs o).2 ss sa hl P ∧ KeepP P w w' := by
  obtain ⟨own, h⟩ := h
  exact (seal_any h.oi ho).mono fun e w' ⟨h1, h2, h3⟩ => ⟨h1, ⟨_, h.go h3 (fun i hi => .inl hi) h2⟩, h.kept h3⟩
theorem st_gone (h : St w0 w b N vs ss sa hl P) {o : Bs} (ho : o.length ≤ 1000000) : Calls Try.prog 33 #[.pointer (some ⟨b, 0, none⟩), .string ⟨o.toArray⟩] w fun e w' => e = .returned (.int .i64 (goneA vs o).1) ∧ St w0 w' b N (goneA vs o).2 ss sa hl P ∧ KeepP P w w' := by
  obtain ⟨own, h⟩ := h
  exact (gone_any h.oi ho).mono fun e w' ⟨h1, h2, h3⟩ => ⟨h1, ⟨_, h.go h3 (fun i hi => .inl hi) h2⟩, h.kept h3⟩
theorem st_meta (h : St w0 w b N vs ss sa hl P) {o : Bs} (ho : o.length ≤ 1000000) : Calls Try.prog 21 #[.pointer (some ⟨b, 0, none⟩), .string ⟨o.toArray⟩] w fun e w' => ∃ kv, e = .returned (.tuple #[metaV (metaA vs o).1 kv, .bool (metaA vs o).2]) ∧ SRow w' w.heap.size kv (metaA vs o).1.keys ∧ St w0 w' b N vs ss sa hl P ∧ Ext w w' := by
  obtain ⟨own, h⟩ := h
  exact (meta_any h.oi ho).mono fun e w' ⟨kv, h1, h2, h3⟩ => ⟨kv, h1, h2, ⟨own, h.ext' h3⟩, h3⟩
/-- The bytes of an object. -/
def bytesA (vs : List Vn) (o : Bs) : Bs := match nowI vs o with | none => [] | some i => match vs[i]? with | none => [] | some v => v.bytes
theorem st_bytes (h : St w0 w b N vs ss sa hl P) {o : Bs} (ho : o.length ≤ 1000000) : Calls Try.prog 20 #[.pointer (some ⟨b, 0, none⟩), .string ⟨o.toArray⟩] w fun e w' => ∃ v, e = .returned v ∧ BRow w' w.heap.size v (bytesA vs o) ∧ St w0 w' b N vs ss sa ((v, bytesA vs o) :: hl) P ∧ Ext w w' := by
  obtain ⟨own, h⟩ := h
  exact (bytes_any h.oi ho).mono fun e w' ⟨v, h1, h2, h3⟩ => ⟨v, h1, h2, ⟨own, h.hold h3 h2 (Nat.le_refl _)⟩, h3⟩
theorem st_ask_no (h : St w0 w b N vs ss sa hl P) (f : Ft) (hz : FtZ f) (hb : ftB f = false) : Calls Try.prog 15 #[.pointer (some ⟨b, 0, none⟩), .agg (ftC f)] w fun e w' => e = .returned (.tuple #[.pointer none, .int .i64 1]) ∧ St w0 w' b N vs ss sa hl P ∧ Ext w w' := by
  obtain ⟨own, h⟩ := h
  exact (ask_bad w b f hz hb).mono fun e w' ⟨h1, h2⟩ => ⟨h1, ⟨own, h.ext' h2⟩, h2⟩
theorem st_ask (h : St w0 w b N vs ss sa hl P) (hw : Wf vs) (f : Ft) (hz : FtZ f) (hb : ftB f = true) : Calls Try.prog 15 #[.pointer (some ⟨b, 0, none⟩), .agg (ftC f)] w fun e w' => ∃ sb, e = .returned (.tuple #[.pointer (some ⟨sb, 0, none⟩), .int .i64 0]) ∧ St w0 w' b N vs (ss ++ [askS vs f]) (sa ++ [sb]) hl P ∧ Ext w w' := by
  obtain ⟨own, h⟩ := h
  exact (ask_yes h.oi hw f hz hb).mono fun e w' ⟨sb, h1, h2, _, h3⟩ => ⟨sb, h1, ⟨_, h.go (.of h3) grown_le h2⟩, h3⟩
theorem st_has (h : St w0 w b N vs ss sa hl P) {j : Nat} {s : Sn} {sb : Nat} (hs : ss[j]? = some s) (hb : sa[j]? = some sb) : Calls Try.prog 30 #[.pointer (some ⟨sb, 0, none⟩)] w fun e w' => e = .returned (.int .i64 (hasA vs s)) ∧ St w0 w' b N vs ss sa hl P ∧ Ext w w' := by
  obtain ⟨own, h⟩ := h
  exact (has_o h.oi hs hb).mono fun e w' ⟨h1, h2⟩ => ⟨h1, ⟨own, h.ext' h2⟩, h2⟩
theorem st_head (h : St w0 w b N vs ss sa hl P) {j : Nat} {s : Sn} {sb : Nat} (hs : ss[j]? = some s) (hb : sa[j]? = some sb) : Calls Try.prog 16 #[.pointer (some ⟨sb, 0, none⟩)] w fun e w' => ∃ kv', e = .returned (.agg (replyC s.st s.m kv' s.fr s.to).toArray) ∧ SRow w' w.heap.size kv' s.m.keys ∧ St w0 w' b N vs ss sa hl P ∧ Ext w w' := by
  obtain ⟨own, h⟩ := h
  exact (head_o h.oi hs hb).mono fun e w' ⟨kv, h1, h2, h3⟩ => ⟨kv, h1, h2, ⟨own, h.ext' h3⟩, h3⟩
theorem st_take (h : St w0 w b N vs ss sa hl P) {j : Nat} {s : Sn} {sb : Nat} (hs : ss[j]? = some s) (hb : sa[j]? = some sb) (k : Int) : Calls Try.prog 18 #[.pointer (some ⟨sb, 0, none⟩), .int .i64 k] w fun e w' => ∃ v, e = .returned (.tuple #[v, .int .i64 (hasA vs (movS vs s k))]) ∧ BRow w' w.heap.size v (takeB vs s k) ∧ St w0 w' b N vs (ss.set j (movS vs s k)) sa ((v, takeB vs s k) :: hl) P ∧ KeepP P w w' := by
  obtain ⟨own, h⟩ := h
  refine (take_o h.oi hs hb k).mono fun e w' ⟨v, h1, h2, h3, h4⟩ => ⟨v, h1, h2, ⟨own, ?_⟩, h.kept h4⟩
  have h' := h.go h4 (fun i hi => .inl hi) h3
  refine ⟨h'.oi, h'.ext, fun p hp => ?_, h'.priv⟩
  rcases List.mem_cons.1 hp with e | hp
  · rw [e]; exact row_held h2 (Nat.le_refl _) h.ltA
  · exact h'.held p hp
theorem st_objs (h : St w0 w b N vs ss sa hl P) (hN : N ≤ 900000) : Calls Try.prog 25 #[.pointer (some ⟨b, 0, none⟩)] w fun e w' => ∃ v ns, e = .returned v ∧ SRow w' w.heap.size v ns ∧ Names vs ns ∧ ns.length ≤ N ∧ St w0 w' b N vs ss sa hl P ∧ Ext w w' := by
  obtain ⟨own, h⟩ := h
  exact (objects_any h.oi hN).mono fun e w' ⟨v, ns, h1, h2, h3, h4, h5⟩ => ⟨v, ns, h1, h2, h3, h4, ⟨own, h.ext' h5⟩, h5⟩
end
end Go.Proofs.Ytpangoddbfiagaa
