/- words.Bytes of one number. -/
import Derived.Test.YtfdhjeeaigfmfaaWordsBytes
namespace Go.Proofs.Ytfdhjeeaigfmfaa.Sp
open Go.RowKit Go.WideMaps Go.Proofs.Ytfdhjeeaigfmfaa.In Go.Proofs.Ytfdhjeeaigfmfaa.Plain
set_option linter.unusedVariables false

theorem bytes_one (k : Nat) (x : Int) (W : World) (hk : wideP (k : Int)) (hx : 0 ≤ x ∧ x ≤ 18446744073709551615) :
    Calls Try.prog 39 #[.int .i64 (k : Int), .slice (some ⟨W.heap.size, 0, none⟩) 1 1] (W.alloc (.cells #[.int .u64 x] 31)) fun e w' => ∃ r' : Nat, e = .returned (.slice (some ⟨r', 0, none⟩) k k) ∧ W.heap.size ≤ r' ∧ RowZ w' r' (le k x) ∧ Below W.heap.size W w' := by
  refine (wBytes_ok k 1 1 (some ⟨W.heap.size, 0, none⟩) [x] (W.alloc (.cells #[.int .u64 x] 31)) rfl hk (by have := hk.bd; omega) (fun v hv => by rw [List.mem_singleton.1 hv]; exact hx) (fun _ => ⟨_, _, rfl, fun j hj => by
    obtain rfl : j = 0 := by omega
    exact cell_one (al_new rfl)⟩)).mono ?_
  rintro e w' ⟨r', rfl, hr', hz, hb'⟩
  have e1 : bytesL k [x] = le k x := by simp [bytesL]
  rw [e1] at hz
  rw [Nat.mul_one]
  have hb : Below W.heap.size W (W.alloc (.cells #[.int .u64 x] 31)) := (Below.refl _ _).alloc (Nat.le_refl _) _
  exact ⟨r', rfl, Nat.le_trans hb.size hr', hz, hb.trans (hb'.mono hb.size)⟩
end Go.Proofs.Ytfdhjeeaigfmfaa.Sp
