/- Parts of rows of bytes, as texts. -/
import Derived.Test.YtfdhjeeaigfmfaaSpaceActs
namespace Go.Proofs.Ytfdhjeeaigfmfaa.Sp
open Go.RowKit Go.WideMaps Go.Proofs.Ytfdhjeeaigfmfaa.In
set_option linter.unusedVariables false

theorem conv_empty (A : Option Addr) (c : Nat) (W : World) : (convert 32 9 (.slice A 0 c)).run Try.prog W = .ok (.string (strOfNums [])) W := by
  cases A with
  | none => exact run_convert_bytes_nil W 32 5 (by kernel_rfl) (by kernel_rfl) 0 c 9 (by kernel_rfl)
  | some A => kernel_rfl
/-- A part of a row. -/
def PartOf (r : Nat) (n i k : Nat) (A : Addr) : Prop := (A = ⟨r, i, none⟩ ∨ k = 0) ∧ i + k ≤ n
theorem PartOf.string {r n i k : Nat} {A : Addr} (h : PartOf r n i k A) {W : World} {l : List Int} (hr : Row W r l) (hl : l.length = n) (c : Nat) : (convert 32 9 (.slice (some A) k c)).run Try.prog W = .ok (.string (strOfNums ((l.drop i).take k))) W := by
  rcases h.1 with rfl | rfl
  · exact hr.string i k c (by have := h.2; omega)
  · rw [List.take_zero]; exact conv_empty _ _ _
theorem cut_lh (r n i k : Nat) (h : i + k ≤ n) (e : Int) (he : e = (i : Int) + (k : Int)) : ∃ A, PartOf r n i k A ∧ ∀ W, (Instr.sliceAt 32 (.slice (some ⟨r, 0, none⟩) n n) (some (.int .i64 (i : Int))) (some (.int .i64 e)) none).run Try.prog W = .ok (.slice (some A) k (n - i)) W := by
  subst he
  have ht : Try.prog.underlying 32 = some (.slice (Try.prog.elem 32)) := by kernel_rfl
  have e : ((i : Int) + (k : Int)).toNat = i + k := by omega
  by_cases hm : n = i
  · refine ⟨⟨r, 0, none⟩, ⟨.inr (by omega), h⟩, fun W => ?_⟩
    have hs : (sizeOf (Try.prog.elem 32)).run Try.prog W = .ok 1 W := by kernel_rfl
    rw [run_sliceAt_slice W 32 _ _ _ _ ht, run_slice_lh W 32 _ _ _ ht .i64 .i64 _ _ (by omega) (by omega) (by omega), hs]
    simp [Result.andThen, e, sliced, hm]
  · refine ⟨⟨r, i, none⟩, ⟨.inl rfl, h⟩, fun W => ?_⟩
    have hs : (sizeOf (Try.prog.elem 32)).run Try.prog W = .ok 1 W := by kernel_rfl
    rw [run_sliceAt_slice W 32 _ _ _ _ ht, run_slice_lh W 32 _ _ _ ht .i64 .i64 _ _ (by omega) (by omega) (by omega), hs]
    simp [Result.andThen, e, sliced, hm, Addr.add_lit]
theorem cut_h (r n k : Nat) (h : k ≤ n) (W : World) : (Instr.sliceAt 32 (.slice (some ⟨r, 0, none⟩) n n) none (some (.int .i64 (k : Int))) none).run Try.prog W = .ok (.slice (some ⟨r, 0, none⟩) k n) W := by
  have ht : Try.prog.underlying 32 = some (.slice (Try.prog.elem 32)) := by kernel_rfl
  have hs : (sizeOf (Try.prog.elem 32)).run Try.prog W = .ok 1 W := by kernel_rfl
  rw [run_sliceAt_slice W 32 _ _ _ _ ht, run_slice_h W 32 _ _ _ ht .i64 _ (by omega) (by omega), hs]
  simp [Result.andThen, sliced, Addr.add_lit]
theorem cut_l (r n i : Nat) (h : i ≤ n) (e : Int) (he : e = (i : Int)) : ∃ A, PartOf r n i (n - i) A ∧ ∀ W, (Instr.sliceAt 32 (.slice (some ⟨r, 0, none⟩) n n) (some (.int .i64 e)) none none).run Try.prog W = .ok (.slice (some A) (n - i) (n - i)) W := by
  subst he
  have ht : Try.prog.underlying 32 = some (.slice (Try.prog.elem 32)) := by kernel_rfl
  by_cases hm : n = i
  · refine ⟨⟨r, 0, none⟩, ⟨.inr (by omega), by omega⟩, fun W => ?_⟩
    have hs : (sizeOf (Try.prog.elem 32)).run Try.prog W = .ok 1 W := by kernel_rfl
    rw [run_sliceAt_slice W 32 _ _ _ _ ht, run_slice_l W 32 _ _ _ ht .i64 _ (by omega) (by omega), hs]
    simp [Result.andThen, sliced, hm]
  · refine ⟨⟨r, i, none⟩, ⟨.inl rfl, by omega⟩, fun W => ?_⟩
    have hs : (sizeOf (Try.prog.elem 32)).run Try.prog W = .ok 1 W := by kernel_rfl
    rw [run_sliceAt_slice W 32 _ _ _ _ ht, run_slice_l W 32 _ _ _ ht .i64 _ (by omega) (by omega), hs]
    simp [Result.andThen, sliced, hm, Addr.add_lit]
theorem PartOf.head (r n k : Nat) (h : k ≤ n) : PartOf r n 0 k ⟨r, 0, none⟩ := ⟨.inl rfl, by omega⟩

/-- What came in, as a text. -/
theorem lst_cells {w : World} {A : Option Addr} {l : List Int} (h : Lst (KInt .u8) 1 w A l) (h0 : 0 < l.length) : ∃ b o, A = some ⟨b, o, none⟩ ∧ ∀ j, j < l.length → w.cell? ⟨b, o + j, none⟩ = some (.int .u8 (l.getD j 0)) := by
  obtain ⟨⟨b, o, sp⟩, c, rfl, _, hk, hc⟩ := h 0 _ (List.getElem?_eq_getElem h0)
  have hk1 : c = [.int .u8 l[0]] := hk
  subst hk1
  have h1 := hc 0 _ rfl
  have hsp : sp = none := by
    cases sp with
    | none => rfl
    | some x =>
      simp [World.cell?, Addr.add] at h1
      split at h1 <;> cases h1
  subst hsp
  refine ⟨b, o, rfl, fun j hj => ?_⟩
  obtain ⟨ad2, c2, e2, _, hk2, hc2⟩ := h j _ (List.getElem?_eq_getElem hj)
  obtain rfl := Option.some.inj e2
  have hk3 : c2 = [.int .u8 l[j]] := hk2
  subst hk3
  have := hc2 0 _ rfl
  rw [Nat.mul_one, Nat.add_zero, Addr.add_lit] at this
  rw [this, List.getD_eq_getElem?_getD, List.getElem?_eq_getElem hj]
  rfl
theorem lst_string {w W : World} {A : Option Addr} {l : List Int} (h : Lst (KInt .u8) 1 w A l) (hb : Below w.heap.size w W) (n c : Nat) (hn : l.length = n) : (convert 32 9 (.slice A n c)).run Try.prog W = .ok (.string (strOfNums l)) W := by
  subst hn
  by_cases h0 : 0 < l.length
  · obtain ⟨b, o, rfl, hc⟩ := lst_cells h h0
    refine run_convert_bytes_arg W 32 5 (by kernel_rfl) (by kernel_rfl) b o l.length c l rfl (fun i hi => ?_) 9 (by kernel_rfl)
    exact (Chg.of_below (S := fun _ => False) hb).cell (hc i hi) (fun h => h)
  · obtain rfl : l = [] := List.eq_nil_of_length_eq_zero (by omega)
    exact conv_empty _ _ _
end Go.Proofs.Ytfdhjeeaigfmfaa.Sp
