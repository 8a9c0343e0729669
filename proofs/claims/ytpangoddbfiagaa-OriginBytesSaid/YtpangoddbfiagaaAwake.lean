/- meta and awake, walked. -/
import Derived.Test.YtpangoddbfiagaaSt
import Derived.Lib.SlBytesConst
import Derived.Laws.BytesArg
namespace Go.Proofs.Ytpangoddbfiagaa
open Go.RowKit Go.Maps Go.ChangeMaps
set_option linter.unusedVariables false
set_option linter.unusedSimpArgs false

theorem strOfNums_bytes (bs : Bs) : strOfNums (bs.map fun b => (b.toNat : Int)) = ⟨bs.toArray⟩ := by
  unfold strOfNums
  congr 2
  rw [List.map_map]
  have : ((fun n : Int => UInt8.ofNat n.toNat) ∘ fun b : UInt8 => (b.toNat : Int)) = id := by funext b; simp
  rw [this, List.map_id]
theorem byte_getD (l : Bs) (i : Nat) (h : i < l.length) : some ((l.map byteV)[i]'(by simpa using h)) = some (Value.int .u8 ((l.map fun b => (b.toNat : Int)).getD i 0)) := by
  simp [byteV, List.getD, h]
/-- 'string(b)'. -/
theorem run_str {W : World} {v : Value} {bs : Bs} (h : BytesAt W v bs) : (convert 22 9 v).run Try.prog W = .ok (.string ⟨bs.toArray⟩) W := by
  obtain ⟨A, c, rfl, h2, h3, h4⟩ := h
  cases A with
  | none =>
    have : bs = [] := by
      cases bs with
      | nil => rfl
      | cons x xs => obtain ⟨b, off, e, _⟩ := h4 0 (by simp); cases e
    subst this
    exact run_convert_bytes_nil W 22 5 Try.underlying22 Try.underlying5 _ _ 9 Try.underlying9
  | some A =>
    obtain ⟨blk, off, fld⟩ := A
    cases bs with
    | nil =>
      have h5 : (convert 22 9 (.slice (some ⟨blk, off, fld⟩) 0 c)).run Try.prog W = .ok (.string ⟨#[]⟩) W := by
        rw [run_convert_bytes_string W 22 9 5 _ 0 c Try.underlying22 Try.underlying5 Try.underlying9]
        kernel_rfl
      have e : (List.map byteV ([] : Bs)).length = 0 := rfl
      rw [e]; exact h5
    | cons x xs =>
      obtain ⟨b, off', e, _⟩ := h4 0 (by simp)
      obtain ⟨rfl, rfl, rfl⟩ : blk = b ∧ off = off' ∧ fld = none := by simpa using e
      have := run_convert_bytes_arg W 22 5 Try.underlying22 Try.underlying5 blk off _ c ((x :: xs).map fun b => (b.toNat : Int)) rfl (fun i hi => ?_) 9 Try.underlying9
      · rw [strOfNums_bytes] at this
        rw [List.length_map] at this ⊢
        exact this
      · obtain ⟨b, off', e, hc⟩ := h4 i (by simpa using hi)
        obtain ⟨e1, e2⟩ : blk = b ∧ off = off' := by simpa using e
        rw [e1, e2, hc]
        exact byte_getD (x :: xs) i (by simpa using hi)
/-- A literal of bytes. -/
theorem lit_bytes (w : World) (bs : Bs) (z : Nat × Nat) : BytesAt (w.alloc (.cells (bs.map byteV).toArray 5 z)) (.slice (some ⟨w.heap.size, 0, none⟩) bs.length bs.length) bs := by
  refine ⟨some ⟨w.heap.size, 0, none⟩, bs.length, by simp, by simp, fun e => (by cases e), fun j hj => ⟨w.heap.size, 0, rfl, ?_⟩⟩
  have h1 : (w.alloc (.cells (bs.map byteV).toArray 5 z)).heap[w.heap.size]? = some (.cells (bs.map byteV).toArray 5 z) := heap_alloc_new w _
  rw [blk_cell h1]
  simp at hj ⊢
  simp [hj]
theorem St.lit {w0 w : World} {b N : Nat} {vs : List Vn} {ss : List Sn} {sa : List Nat} {hl : List (Value × Bs)} {P : Nat → Prop} (h : St w0 w b N vs ss sa hl P) (bs : Bs) (z : Nat × Nat) : St w0 (w.alloc (.cells (bs.map byteV).toArray 5 z)) b N vs ss sa ((.slice (some ⟨w.heap.size, 0, none⟩) bs.length bs.length, bs) :: hl) P := by
  obtain ⟨own, h⟩ := h
  have h' := h.ext' (ext_alloc1 w (.cells (bs.map byteV).toArray 5 z))
  refine ⟨own, h'.oi, h'.ext, fun p hp => ?_, h'.priv⟩
  rcases List.mem_cons.1 hp with e | hp
  · rw [e]
    refine ⟨lit_bytes w bs z, fun A n c e hn hh => ?_, fun A n c e => ?_⟩
    · injection e with e; injection e with e; subst e
      have := h.ltA _ hh; simp at this
    · injection e with e; injection e with e; subst e
      simp
  · exact h'.held p hp
def exM (n : Int) : MetaP := ⟨[116], false, -1, n, 0, 0, 0, 0, [], [], true⟩
def exU : MetaP := ⟨[117], false, -1, 1, 0, 0, 0, 0, [], [], true⟩
theorem exM_z (n : Int) : MetaZ (exM n) := ⟨by simp [exM], by simp [exM], by simp [exM], by simp [exM]⟩
theorem exU_z : MetaZ exU := ⟨by simp [exU], by simp [exU], by simp [exU], by simp [exU]⟩
theorem texts_nil (w : World) : TextsAt w (.slice none 0 0) [] := ⟨none, 0, rfl, Nat.le_refl _, fun _ => rfl, fun j hj => by simp at hj⟩
theorem low_nil (w0 : World) : LowV w0 (.slice none 0 0) := fun A n c e => by cases e
set_option maxRecDepth 100000 in
theorem lmeta_any (n : Int) (w : World) : Calls Try.prog 14 #[.int .i64 n] w fun e w' => e = .returned (.agg #[.string ⟨#[116]⟩, .bool false, .int .i64 (-1), .int .i64 n, .int .i64 0, .int .i64 0, .int .i64 0, .int .i64 0, .slice none 0 0, .string ⟨#[]⟩, .bool true]) ∧ Ext w w' := by
  go_enter Try.func14, Try.ntmps14
  go_wp2
  exact bodyPost_ret (results_cell_row rfl _ _ w.heap.size 38 _ (0, 0) _ rfl (heap_alloc_new w _) Try.underlying38 rfl size38) rfl ⟨rfl, ext_alloc1 _ _⟩
def exV1 : List Vn := [⟨[47, 97], ⟨[116], false, -1, -1, 3, 0, 0, 0, [], [], true⟩, [97, 98, 99], false⟩]
def exS1 : Sn := ⟨206, ⟨[116], false, -1, -1, 3, 0, 0, 0, [], [], true⟩, 1, 4611686018427387904, 1, some 0⟩
def exS2 : Sn := ⟨206, ⟨[116], false, -1, -1, 3, 0, 0, 0, [], [], true⟩, 1, 4611686018427387904, 3, some 0⟩
def exS3 : Sn := ⟨206, ⟨[116], false, -1, -1, 3, 0, 0, 0, [], [], true⟩, 1, 4611686018427387904, 4, some 0⟩
def exV2 : List Vn := [⟨[47, 97], ⟨[116], false, -1, -1, 3, 0, 0, 0, [], [], true⟩, [97, 98, 99, 100], false⟩]
def exV3 : List Vn := [⟨[47, 97], ⟨[116], false, -1, -1, 3, 0, 0, 0, [], [], true⟩, [97, 98, 99, 100], true⟩, ⟨[47, 97], ⟨[117], false, -1, 1, 1, 0, 0, 0, [], [], true⟩, [120], false⟩]
def exT : Sn := ⟨404, zeroM, 0, 0, 0, none⟩
def exF1 : Ft := ⟨[47, 97], 1, 4611686018427387904, [], false, [], false⟩
def exF2 : Ft := ⟨[47, 98], 0, 1, [], false, [], false⟩
theorem ex_set1 : setA [] [47, 97] (exM (-1)) [97, 98, 99] = (0, exV1) := by kernel_rfl
theorem ex_ft1 : ftB exF1 = true := by kernel_rfl
theorem ex_ft2 : ftB exF2 = true := by kernel_rfl
theorem ex_ask1 : askS exV1 exF1 = exS1 := by kernel_rfl
theorem ex_take1 : takeB exV1 exS1 9 = [98, 99] := by kernel_rfl
theorem ex_mov1 : movS exV1 exS1 9 = exS2 := by kernel_rfl
theorem ex_has1 : hasA exV1 exS2 = 2 := by kernel_rfl
theorem ex_grow : growA exV1 [47, 97] [100] = (0, exV2) := by kernel_rfl
theorem ex_has2 : hasA exV2 exS2 = 1 := by kernel_rfl
theorem ex_set2 : setA exV2 [47, 97] (exM 1) [120] = (12, exV2) := by kernel_rfl
theorem ex_set3 : setA exV2 [47, 97] exU [120] = (0, exV3) := by kernel_rfl
theorem ex_take2 : takeB exV3 exS2 9 = [100] := by kernel_rfl
theorem ex_mov2 : movS exV3 exS2 9 = exS3 := by kernel_rfl
theorem ex_has3 : hasA exV3 exS3 = 4 := by kernel_rfl
theorem ex_ask2 : askS exV3 exF2 = exT := by kernel_rfl
theorem ex_meta : metaA exV3 [47, 97] = (⟨[117], false, -1, 1, 1, 0, 0, 0, [], [], true⟩, true) := by kernel_rfl
theorem ex_bytes : bytesA exV3 [47, 97] = [120] := by kernel_rfl
theorem ex_hasT : hasA exV3 exT = 3 := by kernel_rfl
theorem ex_names {ns : List Bs} (h : Names exV3 ns) : ns.length = 1 := by
  obtain ⟨h1, _, h3⟩ := h
  have hl : ∀ o, o ∈ ns ↔ o = [47, 97] := fun o => by
    rw [h3]
    unfold liveB exV3
    constructor
    · rintro ⟨v, hv, rfl, hw⟩
      simp at hv
      rcases hv with rfl | rfl <;> rfl
    · rintro rfl
      exact ⟨_, List.mem_cons_of_mem _ List.mem_cons_self, rfl, rfl⟩
  have : ns = [[47, 97]] := by
    cases ns with
    | nil => have := (hl [47, 97]).2 rfl; cases this
    | cons x xs =>
      have hx := (hl x).1 (by simp)
      cases xs with
      | nil => rw [hx]
      | cons y ys =>
        have hy := (hl y).1 (by simp)
        subst hx; subst hy
        simp at h1
  rw [this]; rfl
theorem wf_ex1 : Wf exV1 := by intro v hv; simp [exV1] at hv; subst hv; exact .inl rfl
theorem wf_ex3 : Wf exV3 := by
  intro v hv; simp [exV3] at hv
  rcases hv with rfl | rfl
  · exact .inl rfl
  · exact .inr rfl
end Go.Proofs.Ytpangoddbfiagaa
