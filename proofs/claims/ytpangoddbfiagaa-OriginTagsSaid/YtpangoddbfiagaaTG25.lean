/- Texts put together: DoA, AskP. -/
import Derived.Test.YtpangoddbfiagaaTG24
import Derived.Test.YtpangoddbfiagaaTG01
namespace Go.Proofs.Ytpangoddbfiagaa
open Go.RowKit Go.Maps Go.ChangeMaps
set_option linter.unusedVariables false
set_option linter.unusedSimpArgs false

/-- Two blocks stay. -/
def keepB2 (p a : Nat) (bp ba : Obj) : Keep := ⟨fun w w' => (w.heap[p]? = some bp → w'.heap[p]? = some bp) ∧ (w.heap[a]? = some ba → w'.heap[a]? = some ba), fun w => ⟨id, id⟩, fun a b c h k => ⟨fun e => k.1 (h.1 e), fun e => k.2 (h.2 e)⟩⟩
theorem keepB2_of {p a : Nat} {bp ba : Obj} {w w' : World} (h1 : w'.heap[p]? = some bp) (h2 : w'.heap[a]? = some ba) : (keepB2 p a bp ba).r w w' := ⟨fun _ => h1, fun _ => h2⟩
/-- An act whose rows lie in the caller's memory. -/
structure ActAt (w0 : World) (a : ActP) : Prop where
  z : ActZ a
  kt : TextsAt w0 a.kv a.m.keys
  kl : LowV w0 a.kv
  bt : BytesAt w0 a.bv a.bytes
  bl : LowV w0 a.bv
  st : a.st ≤ 255
section
variable {w0 w : World} {pb b x k : Nat} {Lx : Nat → Prop} {vs : List Vn} {ss : List Sn} {hl : List (Value × Bs)}
end
end Go.Proofs.Ytpangoddbfiagaa
namespace Go.Proofs.Ytpangoddbfiagaa
open Go.RowKit Go.Maps Go.ChangeMaps
set_option linter.unusedVariables false
set_option linter.unusedSimpArgs false

theorem info45 : (Try.prog.info? 45).map (fun i => (i.zero, i.size, i.bytes)) = some (some (.pointer none), 1, 8) := by kernel_rfl
theorem info73 : (Try.prog.info? 73).map (fun i => (i.zero, i.size, i.bytes)) = some (some (.pointer none), 1, 8) := by kernel_rfl
theorem size65 : (Try.prog.info? 65).map (·.size) = some 1 := by kernel_rfl
theorem size66 : (Try.prog.info? 66).map (·.size) = some 1 := by kernel_rfl
/-- 'append(v, p)', the pointer p in a block laid just before. -/
theorem wpList_push1 {W : World} {ops : Array Oper} {rest : List Oper} {o : Oper} {a : Act} {Q : Exit → Act → World → Prop} (t e : TypeId) (ht : Try.prog.underlying t = some (.slice e)) (hinfo : (Try.prog.info? e).map (fun i => (i.zero, i.size, i.bytes)) = some (some (.pointer none), 1, 8))
    (hgd : o.guard = none) (s x : Operand) (ho : o.op = .call { callee := .builtin .append, args := #[s, x], argTypes := #[t, t] })
    (base : Nat) (A0 : Option Addr) (n c0 : Nat) (bs : List Nat) (q c1 : Nat) (hown : W.ownsRow base e 1 (.slice A0 n c0) n (bs.map ptrV)) (hsrc : W.heap[c1]? = some (.cells #[ptrV q] e)) (hs : a.eval s = .slice A0 n c0) (hx : a.eval x = .slice (some ⟨c1, 0, none⟩) 1 1)
    (hlen : n ≤ 10000) (hbase : base ≤ W.heap.size)
    (h : ∀ A' c' w', w'.ownsRow base e 1 (.slice A' (n + 1) c') (n + 1) ((bs ++ [q]).map ptrV) → ExtB (Value.slice A0 n c0).ownBlock.toList W w' → (∀ x, (Value.slice A' (n + 1) c').ownBlock = some x → (Value.slice A0 n c0).ownBlock = some x ∨ W.heap.size ≤ x) → wpList Try.prog ops Q rest (a.put o.dst (.slice A' (n + 1) c')) w') : wpList Try.prog ops Q (o :: rest) a W := by
  have hl : (bs.map ptrV).length = n := by have := hown.1; simpa using this
  have hsrc' : RowAt W (.slice (some ⟨c1, 0, none⟩) ([ptrV q] : List Value).length 1) [ptrV q] := ⟨_, _, rfl, Nat.le_refl _, fun e => (by cases e), fun j hj => ⟨c1, 0, rfl, by have h0 : j = 0 := (by simpa using hj); subst h0; exact blk_cell hsrc 0⟩⟩
  refine wpList_push t e (.pointer none) 8 ht hinfo rfl (by decide) hgd s x ho base (.slice A0 n c0) (bs.map ptrV) [ptrV q] ⟨c1, 0, none⟩ 1 (by rw [hl]; exact hown) hsrc' (by intro y hy; rw [show y = ptrV q by simpa using hy]; rfl) hs hx (by rw [hl]; simp; omega) hbase fun v' w' h1 h2 h3 => ?_
  obtain ⟨A', c', e'⟩ := own_slice h1
  have hl2 : (bs.map ptrV ++ [ptrV q]).length = n + 1 := by rw [List.length_append, hl]; rfl
  rw [hl2] at e' h1
  subst e'
  exact h A' c' w' (by rw [List.map_append]; exact h1) (grownBy_extB h2) h3
section
variable {w0 W W2 W8 : World} {pb b x k N : Nat} {Lx : Nat → Prop} {vs : List Vn} {ss : List Sn} {sa ra : List Nat} {hl : List (Value × Bs)} {SA RA SA' RA' : Option Addr} {sc rc sc' rc' sb rb : Nat} {S : Sn}
/-- The play with a stream more. -/
theorem PlayX.askd (h : PlayX w0 W pb b x k N vs ss sa ra SA sc RA rc hl Lx) (hx : W.heap.size ≤ W2.heap.size) (hP : Pl2 w0 W2 b x N (playL pb (.slice SA ss.length sc) (.slice RA ss.length rc) Lx) vs (ss ++ [S]) (sa ++ [sb]) vs (ss ++ [S]) (ra ++ [rb]) hl)
    (hB : ExtB (pb :: ((Value.slice SA ss.length sc).ownBlock.toList ++ (Value.slice RA ss.length rc).ownBlock.toList)) W2 W8) (hblk : W8.heap[pb]? = some (.cells #[ptrV b, ptrV x, .slice SA' (ss.length + 1) sc', .slice RA' (ss.length + 1) rc'] 68 (0, 0)))
    (hs : W8.ownsRow w0.heap.size 45 1 (.slice SA' (ss.length + 1) sc') (ss.length + 1) ((sa ++ [sb]).map ptrV)) (hr : W8.ownsRow w0.heap.size 73 1 (.slice RA' (ss.length + 1) rc') (ss.length + 1) ((ra ++ [rb]).map ptrV))
    (ws : ∀ g, (Value.slice SA' (ss.length + 1) sc').ownBlock = some g → (Value.slice SA ss.length sc).ownBlock = some g ∨ W2.heap.size ≤ g) (wr : ∀ g, (Value.slice RA' (ss.length + 1) rc').ownBlock = some g → (Value.slice RA ss.length rc).ownBlock = some g ∨ W2.heap.size ≤ g) (hg : GoodA (k + 1) vs (ss ++ [S])) : PlayX w0 W8 pb b x (k + 1) N vs (ss ++ [S]) (sa ++ [sb]) (ra ++ [rb]) SA' sc' RA' rc' hl Lx := by
  have e1 : (ss ++ [S]).length = ss.length + 1 := by simp
  have hlt : ∀ g, Lx g → g < W2.heap.size := fun g hg => Nat.lt_of_lt_of_le (h.lt g hg) hx
  refine ⟨by have := h.hN; omega, ?_, by rw [e1]; exact hblk, by rw [e1]; exact hs, by rw [e1]; exact hr, h.nb, fun g e hh => ?_, fun g e hh => ?_, hg⟩
  · rw [e1]
    refine hP.other (.ofB hB fun g hg => .inl ?_) fun g hg => ?_
    · rcases List.mem_cons.1 hg with e | e
      · exact .inl e
      · rcases List.mem_append.1 e with e | e
        · exact .inr (.inl (by simpa using e))
        · exact .inr (.inr (.inl (by simpa using e)))
    · rcases hg with hg | hg | hg | hg
      · exact .inl (.inl hg)
      · exact (ws g hg).imp (fun e => .inr (.inl e)) fun e => ⟨e, (hs.lt g hg).2⟩
      · exact (wr g hg).imp (fun e => .inr (.inr (.inl e))) fun e => ⟨e, (hr.lt g hg).2⟩
      · exact .inl (.inr (.inr (.inr hg)))
  · rw [e1] at e
    rcases ws g e with h1 | h1
    · exact h.ns g h1 hh
    · have := hlt g hh; omega
  · rw [e1] at e
    rcases wr g e with h1 | h1
    · exact h.nr g h1 hh
    · have := hlt g hh; omega
end
end Go.Proofs.Ytpangoddbfiagaa
