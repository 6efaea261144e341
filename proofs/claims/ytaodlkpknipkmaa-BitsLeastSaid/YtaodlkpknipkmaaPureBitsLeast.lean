/- What is aligned is a multiple, less than one alignment above, and stays; by a greater alignment it is no less: for every number and all alignments; no further condition. -/
import Derived.Test.YtaodlkpknipkmaaPBitsLeastx1
import Derived.Test.YtaodlkpknipkmaaBitsFacts
namespace Go.Proofs.Ytaodlkpknipkmaa.Pure
open Go.RowKit Go.Proofs.Ytaodlkpknipkmaa.PBitsLeast Go.Proofs.YtaodlkpknipkmaaW.PrintWords Go.Proofs.YtaodlkpknipkmaaW.PrintLast Go.Proofs.YtaodlkpknipkmaaW.PrintMore Go.Proofs.Ytaodlkpknipkmaa.Plain
set_option linter.unusedVariables false
namespace BitsLeastP

theorem pow_f {a : Int} (h0 : 0 ≤ a) (h1 : a ≤ 18446744073709551615) : bits_Pow.f a = some (powB a) := pow_raw h0 h1
theorem add_f {a b : Int} (a0 : 0 ≤ a) (a1 : a ≤ 18446744073709551615) (b0 : 0 ≤ b) (b1 : b ≤ 18446744073709551615) : bits_Add.f a b = some (addV a b, addB a b) := add_raw a0 a1 b0 b1
theorem up_f {n a : Int} (n0 : 0 ≤ n) (n1 : n ≤ 18446744073709551615) (a0 : 0 ≤ a) (a1 : a ≤ 18446744073709551615) : bits_Up.f n a = some (upV n a, upB n a) := by
  unfold bits_Up.f
  rw [pow_f a0 a1]
  simp only [Option.bind_some]
  by_cases hp : powB a = true
  · rw [if_pos hp, add_f n0 n1 (low_range n0 n1 a1 hp a0).1 (low_range n0 n1 a1 hp a0).2]
    simp only [Option.bind_some]
    rw [(up_raw n0 n1 a1 hp a0).1, (up_raw n0 n1 a1 hp a0).2]
  · rw [if_neg hp]
    unfold upV upB
    rw [if_neg hp, if_neg hp]

theorem in_f {a n s : Int} (a0 : 0 ≤ a) (n0 : 0 ≤ n) (s1 : s ≤ 18446744073709551615) : bits_In.f a n s = some (decide (a + n ≤ s)) := in_raw a0 n0 s1
theorem pages_f {n : Int} (h0 : 0 ≤ n) (h1 : n ≤ 18446744073709551615) : bits_Pages.f n = some (pgs n) := pages_raw h0 h1
theorem pow8 : powB 8 = true := (powB_iff (by omega)).2 ⟨3, rfl⟩
theorem pow64 : powB 64 = true := (powB_iff (by omega)).2 ⟨6, rfl⟩
theorem log_f {n : Int} (h0 : 0 ≤ n) (h1 : n ≤ 18446744073709551615) : bits_Log.f n = some (Hand.lenI n - 1) := if_pos ⟨h0, h1⟩
theorem ceil_f {n : Int} (h0 : 0 ≤ n) (h1 : n ≤ 18446744073709551615) : bits_Ceil.f n = some (Hand.clI n) := if_pos ⟨h0, h1⟩
theorem len9 : Hand.lenI 9 = 4 := by unfold Hand.lenI; decide +kernel
theorem cl9 : Hand.clI 9 = 4 := by unfold Hand.clI Hand.lenI; decide +kernel
theorem awake_f : steadinglaw01_awake.f = some true := by
  unfold steadinglaw01_awake.f
  rw [up_f (by omega) (by omega) (by omega) (by omega), log_f (by omega) (by omega)]
  simp only [Option.bind_some]
  rw [if_pos (by rw [len9]; rfl), ceil_f (by omega) (by omega)]
  simp only [Option.bind_some]
  have hu := up_unique (n := 9) (a := 8) (x := 16) (by omega) (by omega) pow8 rfl (by omega) (by omega) (by omega)
  rw [if_pos cl9, if_pos hu.2, if_pos hu.1, pages_f (by omega) (by omega)]
  simp only [Option.bind_some]
  rw [if_pos (by unfold pgs; rfl), pow_f (by omega) (by omega)]
  simp only [Option.bind_some]
  rw [if_pos pow64, pow_f (by omega) (by omega)]
  simp only [Option.bind_some]
  rw [if_neg (by rw [powB_zero]; decide), in_f (by omega) (by omega) (by omega)]
  rfl

theorem shl_one {k : Int} (h0 : 0 ≤ k) (h1 : k < 64) : shl .u64 1 k = 2 ^ k.toNat := by
  unfold shl
  rw [show min k.toNat IntKind.u64.bits = k.toNat from by show min k.toNat 64 = _; omega, Int.one_mul]
  have hc : ((2 ^ k.toNat : Nat) : Int) = 2 ^ k.toNat := by simp
  have hb : 2 ^ k.toNat ≤ 2 ^ 63 := Nat.pow_le_pow_right (by omega) (by omega)
  have hp : 0 < 2 ^ k.toNat := Nat.two_pow_pos _
  rw [← hc, u64w (by omega) (by omega)]
theorem pow_facts (k : Nat) (h : k < 64) : powB (2 ^ k) = true ∧ (0 : Int) < 2 ^ k ∧ (2 : Int) ^ k ≤ 9223372036854775808 := by
  have hc : ((2 ^ k : Nat) : Int) = 2 ^ k := by simp
  have hb : 2 ^ k ≤ 2 ^ 63 := Nat.pow_le_pow_right (by omega) (by omega)
  have hp : 0 < 2 ^ k := Nat.two_pow_pos _
  refine ⟨(powB_iff (by omega)).2 ⟨k, rfl⟩, by omega, by omega⟩
theorem pow_dvd {k j : Nat} (h : k ≤ j) : (2 : Int) ^ k ∣ 2 ^ j := ⟨2 ^ (j - k), by rw [← Int.pow_add]; congr 1; omega⟩

end BitsLeastP
open BitsLeastP
theorem BitsLeast : steadinglaw01_BitsLeast.Pure := by
  intro n k j wn wk wj
  obtain ⟨n0, n1⟩ := wf_u64 wn
  obtain ⟨k0, k1⟩ := wf_u8 wk
  obtain ⟨j0, j1⟩ := wf_u8 wj
  unfold steadinglaw01_BitsLeast.f
  rw [awake_f, Int.tmod_eq_emod_of_nonneg k0, Int.tmod_eq_emod_of_nonneg j0]
  simp only [Option.bind_some]
  rw [if_pos trivial, if_pos (by omega), if_pos (by omega), shl_one (by omega) (by omega), shl_one (by omega) (by omega)]
  generalize hK : (k % 64).toNat = K
  generalize hJ : (j % 64).toNat = J
  obtain ⟨pa, a0, a1⟩ := pow_facts K (by omega)
  obtain ⟨pb, b0, b1⟩ := pow_facts J (by omega)
  have hdv : (2 : Int) ^ K ≤ 2 ^ J → (2 : Int) ^ K ∣ 2 ^ J := by
    intro h
    apply pow_dvd
    apply Classical.byContradiction
    intro hlt
    have h1 : 2 ^ J < 2 ^ K := Nat.pow_lt_pow_right (by omega) (by omega)
    have hc : ((2 ^ J : Nat) : Int) = 2 ^ J := by simp
    have hd : ((2 ^ K : Nat) : Int) = 2 ^ K := by simp
    omega
  generalize (2 : Int) ^ K = a at *
  generalize (2 : Int) ^ J = b at *
  obtain ⟨u0, u1⟩ := up_range (a := a) n0 n1 (by omega)
  rw [up_f n0 n1 (by omega) (by omega), up_f n0 n1 (by omega) (by omega)]
  simp only [Option.bind_some]
  by_cases hu : upB n a = true
  · rw [if_pos hu, up_f u0 u1 (by omega) (by omega)]
    simp only [Option.bind_some]
    obtain ⟨h1, h2, h3⟩ := up_spec n0 a0 pa hu
    rw [if_neg (by omega), Int.tmod_eq_emod_of_nonneg u0, if_pos h1, if_neg (by omega), u64w (by omega) (by omega), if_neg (by omega)]
    obtain ⟨g1, g2⟩ := up_unique (n := upV n a) (a := a) (x := upV n a) u0 a0 pa h1 (by omega) (by omega) u1
    rw [if_pos g2, if_pos g1]
    by_cases hv : upB n b = true
    · rw [if_pos hv]
      by_cases hab : a > b
      · rw [if_pos hab]
      · rw [if_neg hab]
        obtain ⟨m1, m2, m3⟩ := up_spec n0 b0 pb hv
        congr 1
        rw [decide_eq_true_eq]
        have hd := hdv (by omega)
        have hm : upV n b % a = 0 := by
          have := Int.emod_emod_of_dvd (upV n b) hd
          rw [m1, Int.zero_emod] at this
          exact this.symm
        -- the least multiple of a at least n
        have e1 := Int.emod_add_mul_ediv (upV n a) a
        have e2 := Int.emod_add_mul_ediv (upV n b) a
        rw [h1] at e1
        rw [hm] at e2
        apply Classical.byContradiction
        intro hlt
        have q1 : upV n b / a < upV n a / a := by
          apply Int.lt_of_mul_lt_mul_left (a := a) _ (by omega)
          omega
        have q2 : a * (upV n b / a + 1) ≤ a * (upV n a / a) := Int.mul_le_mul_of_nonneg_left (by omega) (by omega)
        rw [Int.mul_add] at q2
        omega
    · rw [if_neg hv]
  · rw [if_neg hu]
    obtain ⟨g1, g2, g3⟩ := up_not n0 a0 pa (by simpa using hu)
    have g4 := Int.emod_nonneg n (show a ≠ 0 by omega)
    rw [if_pos g1, u64w (n := 18446744073709551615 - a) (by omega) (by omega), u64w (by omega) (by omega)]
    congr 1
    rw [decide_eq_true_eq]
    omega

end Go.Proofs.Ytaodlkpknipkmaa.Pure
