/- From one multiple the next one above it is one alignment away, and what lies between goes up to it: for every number of 32 bits and all alignments up to two, thirty-one times; no further condition. -/
import Derived.Test.YtaodlkpknipkmaaPBitsStepsx1
import Derived.Test.YtaodlkpknipkmaaBitsFacts
namespace Go.Proofs.Ytaodlkpknipkmaa.Pure
open Go.RowKit Go.Proofs.Ytaodlkpknipkmaa.PBitsSteps Go.Proofs.YtaodlkpknipkmaaW.PrintWords Go.Proofs.YtaodlkpknipkmaaW.PrintLast Go.Proofs.YtaodlkpknipkmaaW.PrintMore Go.Proofs.Ytaodlkpknipkmaa.Plain
set_option linter.unusedVariables false
namespace BitsStepsP

theorem pow_f {a : Int} (h0 : 0 ≤ a) (h1 : a ≤ 18446744073709551615) : bits_Pow.f a = some (powB a) := pow_raw h0 h1
theorem add_f {a b : Int} (a0 : 0 ≤ a) (a1 : a ≤ 18446744073709551615) (b0 : 0 ≤ b) (b1 : b ≤ 18446744073709551615) : bits_Add.f a b = some (addV a b, addB a b) := add_raw a0 a1 b0 b1
theorem up_f {n a : Int} (n0 : 0 ≤ n) (n1 : n ≤ 18446744073709551615) (a0 : 0 ≤ a) (a1 : a ≤ 18446744073709551615) : bits_Up.f n a = some (upV n a, upB n a) := by
  unfold bits_Up.f
  rw [pow_f a0 a1]
  simp only [Option.bind_some]
  by_cases hp : powB a = true
  · rw [if_pos hp, add_f n0 n1 (low_range n0 n1 a1 hp a0).1 (low_range n0 n1 a1 hp a0).2]
    simp only [Option.bind_some]
    rw [(up_raw n0 n1 a1 hp a0).1, (up_raw n0 n1 a1 hp a0).2]
  · rw [if_neg hp]
    unfold upV upB
    rw [if_neg hp, if_neg hp]

theorem in_f {a n s : Int} (a0 : 0 ≤ a) (n0 : 0 ≤ n) (s1 : s ≤ 18446744073709551615) : bits_In.f a n s = some (decide (a + n ≤ s)) := in_raw a0 n0 s1
theorem pages_f {n : Int} (h0 : 0 ≤ n) (h1 : n ≤ 18446744073709551615) : bits_Pages.f n = some (pgs n) := pages_raw h0 h1
theorem pow8 : powB 8 = true := (powB_iff (by omega)).2 ⟨3, rfl⟩
theorem pow64 : powB 64 = true := (powB_iff (by omega)).2 ⟨6, rfl⟩
theorem log_f {n : Int} (h0 : 0 ≤ n) (h1 : n ≤ 18446744073709551615) : bits_Log.f n = some (Hand.lenI n - 1) := if_pos ⟨h0, h1⟩
theorem ceil_f {n : Int} (h0 : 0 ≤ n) (h1 : n ≤ 18446744073709551615) : bits_Ceil.f n = some (Hand.clI n) := if_pos ⟨h0, h1⟩
theorem len9 : Hand.lenI 9 = 4 := by unfold Hand.lenI; decide +kernel
theorem cl9 : Hand.clI 9 = 4 := by unfold Hand.clI Hand.lenI; decide +kernel
theorem awake_f : steadinglaw01_awake.f = some true := by
  unfold steadinglaw01_awake.f
  rw [up_f (by omega) (by omega) (by omega) (by omega), log_f (by omega) (by omega)]
  simp only [Option.bind_some]
  rw [if_pos (by rw [len9]; rfl), ceil_f (by omega) (by omega)]
  simp only [Option.bind_some]
  have hu := up_unique (n := 9) (a := 8) (x := 16) (by omega) (by omega) pow8 rfl (by omega) (by omega) (by omega)
  rw [if_pos cl9, if_pos hu.2, if_pos hu.1, pages_f (by omega) (by omega)]
  simp only [Option.bind_some]
  rw [if_pos (by unfold pgs; rfl), pow_f (by omega) (by omega)]
  simp only [Option.bind_some]
  rw [if_pos pow64, pow_f (by omega) (by omega)]
  simp only [Option.bind_some]
  rw [if_neg (by rw [powB_zero]; decide), in_f (by omega) (by omega) (by omega)]
  rfl

theorem shl_one {k : Int} (h0 : 0 ≤ k) (h1 : k < 64) : shl .u64 1 k = 2 ^ k.toNat := by
  unfold shl
  rw [show min k.toNat IntKind.u64.bits = k.toNat from by show min k.toNat 64 = _; omega, Int.one_mul]
  have hc : ((2 ^ k.toNat : Nat) : Int) = 2 ^ k.toNat := by simp
  have hb : 2 ^ k.toNat ≤ 2 ^ 63 := Nat.pow_le_pow_right (by omega) (by omega)
  have hp : 0 < 2 ^ k.toNat := Nat.two_pow_pos _
  rw [← hc, u64w (by omega) (by omega)]
theorem pow_facts (k : Nat) (h : k < 64) : powB (2 ^ k) = true ∧ (0 : Int) < 2 ^ k ∧ (2 : Int) ^ k ≤ 9223372036854775808 := by
  have hc : ((2 ^ k : Nat) : Int) = 2 ^ k := by simp
  have hb : 2 ^ k ≤ 2 ^ 63 := Nat.pow_le_pow_right (by omega) (by omega)
  have hp : 0 < 2 ^ k := Nat.two_pow_pos _
  refine ⟨(powB_iff (by omega)).2 ⟨k, rfl⟩, by omega, by omega⟩
theorem pow_dvd {k j : Nat} (h : k ≤ j) : (2 : Int) ^ k ∣ 2 ^ j := ⟨2 ^ (j - k), by rw [← Int.pow_add]; congr 1; omega⟩

theorem pow32 (k : Nat) (h : k < 32) : (2 : Int) ^ k ≤ 2147483648 := by
  have hc : ((2 ^ k : Nat) : Int) = 2 ^ k := by simp
  have hb : 2 ^ k ≤ 2 ^ 31 := Nat.pow_le_pow_right (by omega) (by omega)
  omega
end BitsStepsP
open BitsStepsP
theorem BitsSteps : steadinglaw01_BitsSteps.Pure := by
  intro n k d wn wk wd
  obtain ⟨n0, n1⟩ := wf_u32 wn
  obtain ⟨k0, k1⟩ := wf_u8 wk
  obtain ⟨d0, d1⟩ := wf_u32 wd
  unfold steadinglaw01_BitsSteps.f
  rw [awake_f, Int.tmod_eq_emod_of_nonneg k0]
  simp only [Option.bind_some]
  rw [if_pos trivial, if_pos (by omega), shl_one (by omega) (by omega)]
  generalize hK : (k % 32).toNat = K
  obtain ⟨pa, a0, _⟩ := pow_facts K (by omega)
  have a1 := pow32 K (by omega)
  generalize (2 : Int) ^ K = a at *
  rw [u64w (n := n) (by omega) (by omega), u64w (n := d) (by omega) (by omega), up_f n0 (by omega) (by omega) (by omega)]
  simp only [Option.bind_some]
  have hu := up_ok (n := n) a0 pa (by omega) (by omega)
  obtain ⟨h1, h2, h3⟩ := up_spec n0 a0 pa hu
  rw [if_pos hu]
  generalize upV n a = x at *
  have hm : (x + a) % a = 0 := by rw [Int.add_emod_right]; exact h1
  have r0 := Int.emod_nonneg d (show a ≠ 0 by omega)
  have r1 := Int.emod_lt_of_pos d a0
  rw [u64w (n := x + 1) (by omega) (by omega), Int.tmod_eq_emod_of_nonneg d0, up_f (by omega) (by omega) (by omega) (by omega)]
  simp only [Option.bind_some]
  rw [if_neg (by omega), u64w (n := x + 1 + d % a) (by omega) (by omega), up_f (by omega) (by omega) (by omega) (by omega)]
  simp only [Option.bind_some]
  obtain ⟨s1, s2⟩ := up_unique (n := x + 1) (a := a) (x := x + a) (by omega) a0 pa hm (by omega) (by omega) (by omega)
  obtain ⟨t1, t2⟩ := up_unique (n := x + 1 + d % a) (a := a) (x := x + a) (by omega) a0 pa hm (by omega) (by omega) (by omega)
  rw [if_pos s1, s2, t2, u64w (by omega) (by omega), if_pos rfl, if_pos t1]
  simp

end Go.Proofs.Ytaodlkpknipkmaa.Pure
