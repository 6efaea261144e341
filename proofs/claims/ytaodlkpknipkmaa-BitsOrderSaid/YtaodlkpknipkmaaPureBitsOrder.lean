/- A sum is the same both ways round; what lies within a size lies within a greater one; bytes in two parts need as many pages, or one more, than in one: for all numbers; no further condition. -/
import Derived.Test.YtaodlkpknipkmaaPBitsOrderx1
import Derived.Test.YtaodlkpknipkmaaBitsFacts
namespace Go.Proofs.Ytaodlkpknipkmaa.Pure
open Go.RowKit Go.Proofs.Ytaodlkpknipkmaa.PBitsOrder Go.Proofs.YtaodlkpknipkmaaW.PrintWords Go.Proofs.YtaodlkpknipkmaaW.PrintLast Go.Proofs.YtaodlkpknipkmaaW.PrintMore Go.Proofs.Ytaodlkpknipkmaa.Plain
set_option linter.unusedVariables false
set_option linter.unusedSimpArgs false
namespace BitsOrderP

theorem pow_f {a : Int} (h0 : 0 ≤ a) (h1 : a ≤ 18446744073709551615) : bits_Pow.f a = some (powB a) := pow_raw h0 h1
theorem add_f {a b : Int} (a0 : 0 ≤ a) (a1 : a ≤ 18446744073709551615) (b0 : 0 ≤ b) (b1 : b ≤ 18446744073709551615) : bits_Add.f a b = some (addV a b, addB a b) := add_raw a0 a1 b0 b1
theorem up_f {n a : Int} (n0 : 0 ≤ n) (n1 : n ≤ 18446744073709551615) (a0 : 0 ≤ a) (a1 : a ≤ 18446744073709551615) : bits_Up.f n a = some (upV n a, upB n a) := by
  unfold bits_Up.f
  rw [pow_f a0 a1]
  simp only [Option.bind_some]
  by_cases hp : powB a = true
  · rw [if_pos hp, add_f n0 n1 (low_range n0 n1 a1 hp a0).1 (low_range n0 n1 a1 hp a0).2]
    simp only [Option.bind_some]
    rw [(up_raw n0 n1 a1 hp a0).1, (up_raw n0 n1 a1 hp a0).2]
  · rw [if_neg hp]
    unfold upV upB
    rw [if_neg hp, if_neg hp]

theorem in_f {a n s : Int} (a0 : 0 ≤ a) (n0 : 0 ≤ n) (s1 : s ≤ 18446744073709551615) : bits_In.f a n s = some (decide (a + n ≤ s)) := in_raw a0 n0 s1
theorem pages_f {n : Int} (h0 : 0 ≤ n) (h1 : n ≤ 18446744073709551615) : bits_Pages.f n = some (pgs n) := pages_raw h0 h1
theorem pow8 : powB 8 = true := (powB_iff (by omega)).2 ⟨3, rfl⟩
theorem pow64 : powB 64 = true := (powB_iff (by omega)).2 ⟨6, rfl⟩
theorem log_f {n : Int} (h0 : 0 ≤ n) (h1 : n ≤ 18446744073709551615) : bits_Log.f n = some (Hand.lenI n - 1) := if_pos ⟨h0, h1⟩
theorem ceil_f {n : Int} (h0 : 0 ≤ n) (h1 : n ≤ 18446744073709551615) : bits_Ceil.f n = some (Hand.clI n) := if_pos ⟨h0, h1⟩
theorem len9 : Hand.lenI 9 = 4 := by unfold Hand.lenI; decide +kernel
theorem cl9 : Hand.clI 9 = 4 := by unfold Hand.clI Hand.lenI; decide +kernel
theorem awake_f : steadinglaw01_awake.f = some true := by
  unfold steadinglaw01_awake.f
  rw [up_f (by omega) (by omega) (by omega) (by omega), log_f (by omega) (by omega)]
  simp only [Option.bind_some]
  rw [if_pos (by rw [len9]; rfl), ceil_f (by omega) (by omega)]
  simp only [Option.bind_some]
  have hu := up_unique (n := 9) (a := 8) (x := 16) (by omega) (by omega) pow8 rfl (by omega) (by omega) (by omega)
  rw [if_pos cl9, if_pos hu.2, if_pos hu.1, pages_f (by omega) (by omega)]
  simp only [Option.bind_some]
  rw [if_pos (by unfold pgs; rfl), pow_f (by omega) (by omega)]
  simp only [Option.bind_some]
  rw [if_pos pow64, pow_f (by omega) (by omega)]
  simp only [Option.bind_some]
  rw [if_neg (by rw [powB_zero]; decide), in_f (by omega) (by omega) (by omega)]
  rfl

end BitsOrderP
open BitsOrderP
theorem BitsOrder : steadinglaw01_BitsOrder.Pure := by
  intro a b s m wa wb ws wm
  obtain ⟨a0, a1⟩ := wf_u64 wa
  obtain ⟨b0, b1⟩ := wf_u64 wb
  obtain ⟨s0, s1⟩ := wf_u64 ws
  obtain ⟨m0, m1⟩ := wf_u64 wm
  obtain ⟨r0, r1⟩ := add_range (a := a) (b := b) a0 b0
  obtain ⟨q0, q1⟩ := add_range (a := s) (b := m) s0 m0
  have hc : addV b a = addV a b ∧ addB b a = addB a b := by
    unfold addV addB
    rw [Int.add_comm b a]
    exact ⟨rfl, rfl⟩
  have hx : addB a b = true → IntKind.u64.wrap (pgs a + pgs b) = pgs (addV a b) ∨ IntKind.u64.wrap (pgs a + pgs b) = IntKind.u64.wrap (pgs (addV a b) + 1) := by
    intro h
    have hs : a + b ≤ 18446744073709551615 := of_decide_eq_true h
    have hv : addV a b = a + b := if_pos hs
    rw [hv]
    unfold pgs
    rw [u64w (by omega) (by omega), u64w (by omega) (by omega)]
    omega
  have hn : addB s m = true → a + b ≤ s → decide (a + b ≤ addV s m) = true := by
    intro h h2
    have hs : s + m ≤ 18446744073709551615 := of_decide_eq_true h
    have hv : addV s m = s + m := if_pos hs
    rw [hv]
    exact decide_eq_true (by omega)
  unfold steadinglaw01_BitsOrder.f
  rw [awake_f, add_f a0 a1 b0 b1, add_f b0 b1 a0 a1, add_f s0 s1 m0 m1]
  simp only [Option.bind_some]
  rw [if_pos trivial, hc.1, hc.2, if_pos rfl, if_neg (by simp), in_f a0 b0 s1, in_f a0 b0 q1, pages_f a0 a1, pages_f b0 b1, pages_f r0 r1]
  simp only [Option.bind_some]
  have tail : (if addB a b = true then (if IntKind.u64.wrap (pgs a + pgs b) = pgs (addV a b) then some true else some (IntKind.u64.wrap (pgs a + pgs b) == IntKind.u64.wrap (pgs (addV a b) + 1))) else some true) = some true := by
    by_cases c : addB a b = true
    · rw [if_pos c]
      rcases hx c with h | h
      · rw [if_pos h]
      · rw [h]
        split
        · rfl
        · simp
    · rw [if_neg c]
  rw [tail]
  by_cases c : addB s m = true
  · rw [if_pos c]
    by_cases d : a + b ≤ s
    · rw [if_pos (decide_eq_true d), if_pos (hn c d)]
    · rw [if_neg (by simpa using d)]
  · rw [if_neg c]

end Go.Proofs.Ytaodlkpknipkmaa.Pure
