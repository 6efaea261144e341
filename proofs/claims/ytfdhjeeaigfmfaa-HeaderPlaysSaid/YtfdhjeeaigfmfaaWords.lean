/- words: a width, where a number may be, the number that bytes are. -/
import Derived.Test.YtfdhjeeaigfmfaaSpaceSeen
import Derived.Test.YtfdhjeeaigfmfaaWordsPlain
namespace Go.Proofs.Ytfdhjeeaigfmfaa.Sp
open Go.RowKit Go.WideMaps Go.Proofs.Ytfdhjeeaigfmfaa.In Go.Proofs.Ytfdhjeeaigfmfaa.Plain
set_option linter.unusedVariables false

/-- A width. -/
def wideP (k : Int) : Prop := k = 1 ∨ k = 2 ∨ k = 4 ∨ k = 8
instance (k : Int) : Decidable (wideP k) := by unfold wideP; infer_instance

set_option maxRecDepth 100000 in
set_option maxHeartbeats 4000000 in
theorem wide_any (k : Int) (W : World) : Calls Try.prog 67 #[.int .i64 k] W fun e w' => e = .returned (.bool (decide (wideP k))) ∧ W = w' := by
  by_cases h0 : 0 < k
  · by_cases h8 : k ≤ 8
    · have hk : k = 1 ∨ k = 2 ∨ k = 3 ∨ k = 4 ∨ k = 5 ∨ k = 6 ∨ k = 7 ∨ k = 8 := by omega
      rcases hk with rfl | rfl | rfl | rfl | rfl | rfl | rfl | rfl
      all_goals
        go_enter Try.func67, Try.ntmps67
        go_wp2
        go_ret
        exact ⟨rfl, rfl⟩
    · have hf : decide (wideP k) = false := decide_eq_false (by unfold wideP; omega)
      rw [hf]
      go_enter Try.func67, Try.ntmps67
      go_wp2
      go_ret
      exact ⟨rfl, rfl⟩
  · have hf : decide (wideP k) = false := decide_eq_false (by unfold wideP; omega)
    rw [hf]
    go_enter Try.func67, Try.ntmps67
    go_wp2
    go_ret
    exact ⟨rfl, rfl⟩

/-- May a number be there? -/
def rightP (n t k : Int) : Prop := wideP k ∧ 0 ≤ t ∧ k ≤ n ∧ t ≤ n - k
instance (n t k : Int) : Decidable (rightP n t k) := by unfold rightP; infer_instance
theorem wideP.bd {k : Int} (h : wideP k) : 1 ≤ k ∧ k ≤ 8 := by unfold wideP at h; omega

set_option maxRecDepth 100000 in
set_option maxHeartbeats 4000000 in
theorem right_any (n t k : Int) (W : World) (hn : 0 ≤ n ∧ n ≤ 9223372036854775807) : Calls Try.prog 70 #[.int .i64 n, .int .i64 t, .int .i64 k] W fun e w' => e = .returned (.bool (decide (rightP n t k))) ∧ W = w' := by
  have HW := Lib.hid (wide_any k W)
  by_cases hw : wideP k
  · have hb := hw.bd
    by_cases h1 : 0 ≤ t
    · by_cases h2 : k ≤ n
      · have e : decide (rightP n t k) = decide (t ≤ n - k) := decide_eq_decide.2 (by unfold rightP; exact ⟨fun h => h.2.2.2, fun h => ⟨hw, h1, h2, h⟩⟩)
        rw [e]
        have hd : decide (wideP k) = true := decide_eq_true hw
        go_enter Try.func70, Try.ntmps70
        go_wp2_with (go_at_call 67; (with_reducible refine HW.out.mono ?_); rintro e' w' ⟨rfl, rfl⟩)
        go_ret
        exact ⟨rfl, rfl⟩
      · have e : decide (rightP n t k) = false := decide_eq_false (by unfold rightP; omega)
        rw [e]
        have hd : decide (wideP k) = true := decide_eq_true hw
        go_enter Try.func70, Try.ntmps70
        go_wp2_with (go_at_call 67; (with_reducible refine HW.out.mono ?_); rintro e' w' ⟨rfl, rfl⟩)
        go_ret
        exact ⟨rfl, rfl⟩
    · have e : decide (rightP n t k) = false := decide_eq_false (by unfold rightP; omega)
      rw [e]
      have hd : decide (wideP k) = true := decide_eq_true hw
      go_enter Try.func70, Try.ntmps70
      go_wp2_with (go_at_call 67; (with_reducible refine HW.out.mono ?_); rintro e' w' ⟨rfl, rfl⟩)
      go_ret
      exact ⟨rfl, rfl⟩
  · have e : decide (rightP n t k) = false := decide_eq_false (fun h => hw h.1)
    rw [e]
    have hd : decide (wideP k) = false := decide_eq_false hw
    go_enter Try.func70, Try.ntmps70
    go_wp2_with (go_at_call 67; (with_reducible refine HW.out.mono ?_); rintro e' w' ⟨rfl, rfl⟩)
    go_ret
    exact ⟨rfl, rfl⟩
end Go.Proofs.Ytfdhjeeaigfmfaa.Sp
