/- Rows of bytes that are made; bounds of what came in. -/
import Derived.Test.YtfdhjeeaigfmfaaSpaceSeen
namespace Go.Proofs.Ytfdhjeeaigfmfaa.Sp
open Go.RowKit Go.WideMaps
set_option linter.unusedVariables false

theorem touched_le (t n : Int) (t0 : 0 ≤ t) (n0 : 0 ≤ n) (h : n ≤ 9000) : 1 ≤ touchedI t n ∧ touchedI t n ≤ 4 := by unfold touchedI; split <;> omega
theorem touched_one (t n : Int) (t0 : 0 ≤ t) (n0 : 0 ≤ n) : t % 4096 + n ≤ 4096 ↔ touchedI t n = 1 := by unfold touchedI; split <;> omega
theorem made_bytes (n : Nat) (W : World) : W.alloc (.cells (madeCells #[.int .u8 0] n) 5) = W.alloc (.cells ((List.replicate n (0 : Int)).map (Value.int .u8)).toArray 5) := by
  have := made_row n 0 (fun _ => 0)
  rw [this]
  congr 3
  unfold rowCells
  apply List.ext_getElem?
  intro i
  rcases Nat.lt_or_ge i n with h | h <;> simp [h]
theorem run_make_bytes64 (n : Nat) (hn : n ≤ 4294967296) (W : World) : (Instr.makeSlice 32 (.int .i64 (n : Int)) (.int .i64 (n : Int))).run Try.prog W = .ok (.slice (some ⟨W.heap.size, 0, none⟩) n n) (W.alloc (.cells (madeCells #[.int .u8 0] n) 5)) :=
  run_make_row' 32 5 (.int .u8 0) 1 (by kernel_rfl) (by kernel_rfl) rfl .i64 .i64 n (by omega) (by omega) W
theorem Row.made (W : World) (n : Nat) : Row (W.alloc (.cells (madeCells #[.int .u8 0] n) 5)) W.heap.size (List.replicate n 0) := by
  rw [made_bytes]
  exact Row.lit W _ (0, 0)

theorem u16_of {a : Int} (h : (Lit.int .u16 a).wf = true) : 0 ≤ a ∧ a ≤ 65535 := by
  simp [Lit.wf, IntKind.min, IntKind.max, IntKind.signed, IntKind.bits] at h
  omega
theorem u8_lit {a : Int} (h : (Lit.int .u8 a).wf = true) : 0 ≤ a ∧ a ≤ 255 := by
  simp [Lit.wf, IntKind.min, IntKind.max, IntKind.signed, IntKind.bits] at h
  omega
theorem u16_lit {a : Int} (h : (Lit.int .u16 a).wf = true) : 0 ≤ a ∧ a ≤ 65535 := by
  simp [Lit.wf, IntKind.min, IntKind.max, IntKind.signed, IntKind.bits] at h
  omega
theorem u64_lit {a : Int} (h : (Lit.int .u64 a).wf = true) : 0 ≤ a ∧ a ≤ 18446744073709551615 := by
  simp [Lit.wf, IntKind.min, IntKind.max, IntKind.signed, IntKind.bits] at h
  omega
theorem i64_lit {a : Int} (h : (Lit.int .i64 a).wf = true) : -9223372036854775808 ≤ a ∧ a ≤ 9223372036854775807 := by
  simp [Lit.wf, IntKind.min, IntKind.max, IntKind.signed, IntKind.bits] at h
  omega
theorem newS_pages (a : Int) (h0 : 1 ≤ a) (h1 : a ≤ 65536) : ((newS a).pages : Int) = a := by
  show ((clampP a : Nat) : Int) = a
  unfold clampP
  split <;> (try split) <;> omega
theorem wrap_in {a : Int} (h0 : -9000000000000000000 ≤ a) (h1 : a ≤ 9000000000000000000) : wrap64 a = a := by unfold wrap64; omega

end Go.Proofs.Ytfdhjeeaigfmfaa.Sp
