/- cells: a number in a space is got, put. -/
import Derived.Test.YtfdhjeeaigfmfaaWordsBytes
namespace Go.Proofs.Ytfdhjeeaigfmfaa.Sp
open Go.RowKit Go.WideMaps Go.Proofs.Ytfdhjeeaigfmfaa.In Go.Proofs.Ytfdhjeeaigfmfaa.Plain
set_option linter.unusedVariables false

set_option maxRecDepth 100000 in
set_option maxHeartbeats 4000000 in
theorem Fits_any (n k : Int) (W : World) (hn : 0 ≤ n ∧ n ≤ 18446744073709551615) : Calls Try.prog 36 #[.int .u64 n, .int .i64 k] W fun e w' => e = .returned (.bool (decide (wideP k ∧ n < 256 ^ k.toNat))) ∧ W = w' := by
  have HW := Lib.hid (wide_any k W)
  by_cases hw : wideP k
  · have hd : decide (wideP k) = true := decide_eq_true hw
    have key : ∀ b : Bool, (n < 256 ^ k.toNat ↔ b = true) → decide (wideP k ∧ n < 256 ^ k.toNat) = b := fun b hb => by
      cases b with
      | true => exact decide_eq_true ⟨hw, hb.2 rfl⟩
      | false => exact decide_eq_false (fun h => by have := hb.1 h.2; cases this)
    have HKEY := Lib.hid key
    clear key
    rcases hw with rfl | rfl | rfl | rfl
    all_goals
      go_enter Try.func36, Try.ntmps36
      go_wp2_with (go_at_call 67; (with_reducible refine HW.out.mono ?_); rintro e' w' ⟨rfl, rfl⟩)
      go_ret
      refine ⟨congrArg (fun b => Ending.returned (.bool b)) (HKEY.out _ ?_).symm, rfl⟩
      simp
      omega
  · have hd : decide (wideP k) = false := decide_eq_false hw
    have hf : decide (wideP k ∧ n < 256 ^ k.toNat) = false := decide_eq_false (fun h => hw h.1)
    rw [hf]
    clear hf
    go_enter Try.func36, Try.ntmps36
    go_wp2_with (go_at_call 67; (with_reducible refine HW.out.mono ?_); rintro e' w' ⟨rfl, rfl⟩)
    go_ret
    exact ⟨rfl, rfl⟩
/-- May a number of that width be there? -/
def rightC (t k : Int) : Prop := wideP k ∧ t % k = 0
instance (t k : Int) : Decidable (rightC t k) := by unfold rightC; infer_instance

set_option maxRecDepth 100000 in
set_option maxHeartbeats 4000000 in
theorem cright_any (t k : Int) (W : World) (ht : 0 ≤ t ∧ t ≤ 18446744073709551615) : Calls Try.prog 66 #[.int .u64 t, .int .i64 k] W fun e w' => e = .returned (.bool (decide (rightC t k))) ∧ W = w' := by
  have HF := Lib.hid (Fits_any 0 k W (by omega))
  by_cases hw : wideP k
  · have hd : decide (wideP k ∧ (0 : Int) < 256 ^ k.toNat) = true := decide_eq_true ⟨hw, pow256_pos _⟩
    have key : ∀ b : Bool, (t % k = 0 ↔ b = true) → decide (rightC t k) = b := fun b hb => by
      cases b with
      | true => exact decide_eq_true ⟨hw, hb.2 rfl⟩
      | false => exact decide_eq_false (fun h => by have := hb.1 h.2; cases this)
    have HKEY := Lib.hid key
    clear key
    rcases hw with rfl | rfl | rfl | rfl
    all_goals
      rw [hd] at HF
      clear hd
      go_enter Try.func66, Try.ntmps66
      go_wp2_with (go_at_call 36; (with_reducible refine HF.out.mono ?_); rintro e' w' ⟨rfl, rfl⟩)
      go_ret
      refine ⟨congrArg (fun b => Ending.returned (.bool b)) (HKEY.out _ ?_).symm, rfl⟩
      simp
  · have hd : decide (wideP k ∧ (0 : Int) < 256 ^ k.toNat) = false := decide_eq_false (fun h => hw h.1)
    have hf : decide (rightC t k) = false := decide_eq_false (fun h => hw h.1)
    rw [hf]
    rw [hd] at HF
    clear hf hd
    go_enter Try.func66, Try.ntmps66
    go_wp2_with (go_at_call 36; (with_reducible refine HF.out.mono ?_); rintro e' w' ⟨rfl, rfl⟩)
    go_ret
    exact ⟨rfl, rfl⟩
end Go.Proofs.Ytfdhjeeaigfmfaa.Sp
