/- classes: pages, classes; the document's examples; plain facts on needs. -/
import Derived.Test.YtkiamhpnngehaaaClassesNeed
import Derived.Test.YtkiamhpnngehaaaIn
import Derived.OwnWalk
namespace Go.Proofs.Ytkiamhpnngehaaa.Sp
open Go.RowKit Go.WideMaps Go.Proofs.Ytkiamhpnngehaaa.In Go.Proofs.Ytkiamhpnngehaaa.Plain
set_option linter.unusedVariables false
set_option linter.unusedSimpArgs false

theorem rise_1 (s f g : Int) (h0 : 0 ≤ s ∧ s ≤ 18446744073709551615) (hf : 32 ≤ f ∧ f ≤ 4096) (hg : 32 ≤ g ∧ g ≤ 4096) (h : f ≤ g) : (needB s f = true → needB s g = true → needV s f ≤ needV s g) ∧ (needB s g = true → needB s f = true) := by
  unfold needB needV
  by_cases c : s = 0
  · simp [c]
  · rw [if_neg c, if_neg c, if_neg c, if_neg c]
    unfold addB addV pgs
    rw [decide_eq_true_iff, decide_eq_true_iff]
    refine ⟨fun a b => ?_, fun a => by omega⟩
    rw [if_pos a, if_pos b]
    omega
theorem rise_2 (s m f : Int) (h0 : 0 ≤ s ∧ s ≤ 18446744073709551615) (h1 : 0 ≤ m ∧ m ≤ 18446744073709551615) (hf : 32 ≤ f ∧ f ≤ 4096) : addB s m = true → needB s f = true → needB (addV s m) f = true → needV s f ≤ needV (addV s m) f := by
  unfold needB needV
  by_cases c : s = 0
  · simp [c]
  · rw [if_neg c, if_neg c]
    unfold addB addV pgs
    rw [decide_eq_true_iff, decide_eq_true_iff]
    intro a b
    rw [if_pos a, if_neg (show ¬ s + m = 0 by omega), if_neg (show ¬ s + m = 0 by omega), decide_eq_true_iff]
    intro d
    rw [if_pos b, if_pos d]
    omega

set_option maxRecDepth 100000 in
set_option maxHeartbeats 1000000 in
theorem cPages_any (k : Nat) (hk : k < 7) (w : World) : Calls Try.prog 60 #[.int .i64 (k : Int)] w fun e w' => e = .returned (.int .i64 (2 ^ k)) ∧ w = w' := by
  have hc : k = 0 ∨ k = 1 ∨ k = 2 ∨ k = 3 ∨ k = 4 ∨ k = 5 ∨ k = 6 := by omega
  rcases hc with rfl | rfl | rfl | rfl | rfl | rfl | rfl <;>
  · go_enter Try.func60, Try.ntmps60
    go_wp2
    go_ret
    exact ⟨rfl, rfl⟩
set_option maxRecDepth 100000 in
set_option maxHeartbeats 1000000 in
theorem cClass_any (p : Int) (m : Nat) (hm : m < 7) (h0 : 0 < p) (h1 : ∀ j, j < m → (2 : Int) ^ j < p) (h2 : p ≤ 2 ^ m) (w : World) : Calls Try.prog 61 #[.int .i64 p] w fun e w' => e = .returned (.int .i64 (m : Int)) ∧ w = w' := by
  have H := Lib.hid (And.intro h1 h2)
  clear h1 h2
  go_enter Try.func61, Try.ntmps61
  go_wp2_with fail
  go_loop [4] (fun i => ∃ q : Nat, q ≤ m ∧ i = .int .i64 (q : Int)) (fun i => m - (intOf i).toNat)
  case atStart => exact ⟨0, Nat.zero_le _, rfl⟩
  case round =>
    obtain ⟨q, hq, rfl⟩ := hrel
    have hq7 : (q : Int) < 7 := by omega
    have HP := Lib.hid (cPages_any q (by omega) w)
    obtain ⟨P, hP⟩ : ∃ P : Int, (2 : Int) ^ q = P := ⟨_, rfl⟩
    rw [hP] at HP
    by_cases hqm : q < m
    · have hlt : ¬ p ≤ P := by have := H.out.1 q hqm; omega
      clear hP
      go_wp2_with fail
      refine HP.out.mono ?_
      rintro e w1 ⟨rfl, rfl⟩
      go_wp2_with fail
      go_round
      case rel => exact ⟨q + 1, by omega, by go_num⟩
      case measure => simp [intOf]; omega
    · obtain rfl : q = m := by omega
      have hle : p ≤ P := by have := H.out.2; omega
      clear hP
      go_wp2_with fail
      refine HP.out.mono ?_
      rintro e w1 ⟨rfl, rfl⟩
      go_wp2_with fail
      go_ret
      exact ⟨rfl, rfl⟩
set_option maxRecDepth 100000 in
set_option maxHeartbeats 1000000 in
theorem chunk_4 (w : World) : Calls Try.prog 59 #[.int .u64 16384, .int .u64 8] w fun e w' => e = .returned (.tuple #[.int .i64 8, .bool false, .bool true]) ∧ w = w' := by
  have v1 : needV 16384 (fst 8) = 5 := by decide
  have b1 : needB 16384 (fst 8) = true := by decide
  go_enter Try.func59, Try.ntmps59
  go_wp2_with fail
  refine (need_any 8 16384 w (by unfold Pw; omega) (by decide)).mono ?_
  rw [v1, b1]
  rintro e w1 ⟨rfl, rfl⟩
  go_wp2_with fail
  refine (cClass_any 5 3 (by decide) (by decide) (by decide) (by decide) w).mono ?_
  rintro e w1 ⟨rfl, rfl⟩
  go_wp2_with fail
  refine (cPages_any 3 (by decide) w).mono ?_
  rintro e w1 ⟨rfl, rfl⟩
  go_wp2_with fail
  go_ret3
  exact ⟨rfl, rfl⟩
set_option maxRecDepth 100000 in
set_option maxHeartbeats 1000000 in
theorem chunk_64 (w : World) : Calls Try.prog 59 #[.int .u64 262144, .int .u64 8] w fun e w' => e = .returned (.tuple #[.int .i64 65, .bool true, .bool true]) ∧ w = w' := by
  have v1 : needV 262144 (fst 8) = 65 := by decide
  have b1 : needB 262144 (fst 8) = true := by decide
  go_enter Try.func59, Try.ntmps59
  go_wp2_with fail
  refine (need_any 8 262144 w (by unfold Pw; omega) (by decide)).mono ?_
  rw [v1, b1]
  rintro e w1 ⟨rfl, rfl⟩
  go_wp2_with fail
  go_ret3
  exact ⟨rfl, rfl⟩
set_option maxRecDepth 100000 in
set_option maxHeartbeats 1000000 in
theorem awake7_any (w : World) : Calls Try.prog 19 #[] w fun e w' => e = .returned (.bool true) ∧ w = w' := by
  have v1 : needV 4064 (fst 1) = 1 := by decide
  have b1 : needB 4064 (fst 1) = true := by decide
  have v2 : needV 4065 (fst 1) = 2 := by decide
  have b2 : needB 4065 (fst 1) = true := by decide
  have v3 : needV 1 (fst 4096) = 2 := by decide
  have b3 : needB 1 (fst 4096) = true := by decide
  go_enter Try.func19, Try.ntmps19
  go_wp2_with fail
  refine (need_any 1 4064 w (by unfold Pw; omega) (by decide)).mono ?_
  rw [v1, b1]
  rintro e w1 ⟨rfl, rfl⟩
  go_wp2_with fail
  refine (need_any 1 4065 w (by unfold Pw; omega) (by decide)).mono ?_
  rw [v2, b2]
  rintro e w1 ⟨rfl, rfl⟩
  go_wp2_with fail
  refine (need_any 4096 1 w (by unfold Pw; omega) (by decide)).mono ?_
  rw [v3, b3]
  rintro e w1 ⟨rfl, rfl⟩
  go_wp2_with fail
  refine (chunk_4 w).mono ?_
  rintro e w1 ⟨rfl, rfl⟩
  go_wp2_with fail
  refine (chunk_64 w).mono ?_
  rintro e w1 ⟨rfl, rfl⟩
  go_wp2_with fail
  refine (cPages_any 6 (by decide) w).mono ?_
  rintro e w1 ⟨rfl, rfl⟩
  go_wp2_with fail
  refine (cClass_any 64 6 (by decide) (by decide) (by decide) (by decide) w).mono ?_
  rintro e w1 ⟨rfl, rfl⟩
  go_wp2_with fail
  go_ret
  exact ⟨rfl, rfl⟩

end Go.Proofs.Ytkiamhpnngehaaa.Sp
