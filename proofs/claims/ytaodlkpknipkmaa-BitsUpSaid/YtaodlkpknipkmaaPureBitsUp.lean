/- For every number and every alignment, what bits.Up tells is what the document's definition tells; no further condition. -/
import Derived.Test.YtaodlkpknipkmaaPBitsUpx1
import Derived.Test.YtaodlkpknipkmaaBitsFacts
namespace Go.Proofs.Ytaodlkpknipkmaa.Pure
open Go.RowKit Go.Proofs.Ytaodlkpknipkmaa.PBitsUp Go.Proofs.YtaodlkpknipkmaaW.PrintWords Go.Proofs.YtaodlkpknipkmaaW.PrintLast Go.Proofs.YtaodlkpknipkmaaW.PrintMore Go.Proofs.Ytaodlkpknipkmaa.Plain
set_option linter.unusedVariables false
namespace BitsUpP

theorem pow_f {a : Int} (h0 : 0 ≤ a) (h1 : a ≤ 18446744073709551615) : bits_Pow.f a = some (powB a) := pow_raw h0 h1
theorem add_f {a b : Int} (a0 : 0 ≤ a) (a1 : a ≤ 18446744073709551615) (b0 : 0 ≤ b) (b1 : b ≤ 18446744073709551615) : bits_Add.f a b = some (addV a b, addB a b) := add_raw a0 a1 b0 b1
theorem up_f {n a : Int} (n0 : 0 ≤ n) (n1 : n ≤ 18446744073709551615) (a0 : 0 ≤ a) (a1 : a ≤ 18446744073709551615) : bits_Up.f n a = some (upV n a, upB n a) := by
  unfold bits_Up.f
  rw [pow_f a0 a1]
  simp only [Option.bind_some]
  by_cases hp : powB a = true
  · rw [if_pos hp, add_f n0 n1 (low_range n0 n1 a1 hp a0).1 (low_range n0 n1 a1 hp a0).2]
    simp only [Option.bind_some]
    rw [(up_raw n0 n1 a1 hp a0).1, (up_raw n0 n1 a1 hp a0).2]
  · rw [if_neg hp]
    unfold upV upB
    rw [if_neg hp, if_neg hp]

theorem in_f {a n s : Int} (a0 : 0 ≤ a) (n0 : 0 ≤ n) (s1 : s ≤ 18446744073709551615) : bits_In.f a n s = some (decide (a + n ≤ s)) := in_raw a0 n0 s1
theorem pages_f {n : Int} (h0 : 0 ≤ n) (h1 : n ≤ 18446744073709551615) : bits_Pages.f n = some (pgs n) := pages_raw h0 h1
theorem pow8 : powB 8 = true := (powB_iff (by omega)).2 ⟨3, rfl⟩
theorem pow64 : powB 64 = true := (powB_iff (by omega)).2 ⟨6, rfl⟩
theorem log_f {n : Int} (h0 : 0 ≤ n) (h1 : n ≤ 18446744073709551615) : bits_Log.f n = some (Hand.lenI n - 1) := if_pos ⟨h0, h1⟩
theorem ceil_f {n : Int} (h0 : 0 ≤ n) (h1 : n ≤ 18446744073709551615) : bits_Ceil.f n = some (Hand.clI n) := if_pos ⟨h0, h1⟩
theorem len9 : Hand.lenI 9 = 4 := by unfold Hand.lenI; decide +kernel
theorem cl9 : Hand.clI 9 = 4 := by unfold Hand.clI Hand.lenI; decide +kernel
theorem awake_f : steadinglaw01_awake.f = some true := by
  unfold steadinglaw01_awake.f
  rw [up_f (by omega) (by omega) (by omega) (by omega), log_f (by omega) (by omega)]
  simp only [Option.bind_some]
  rw [if_pos (by rw [len9]; rfl), ceil_f (by omega) (by omega)]
  simp only [Option.bind_some]
  have hu := up_unique (n := 9) (a := 8) (x := 16) (by omega) (by omega) pow8 rfl (by omega) (by omega) (by omega)
  rw [if_pos cl9, if_pos hu.2, if_pos hu.1, pages_f (by omega) (by omega)]
  simp only [Option.bind_some]
  rw [if_pos (by unfold pgs; rfl), pow_f (by omega) (by omega)]
  simp only [Option.bind_some]
  rw [if_pos pow64, pow_f (by omega) (by omega)]
  simp only [Option.bind_some]
  rw [if_neg (by rw [powB_zero]; decide), in_f (by omega) (by omega) (by omega)]
  rfl

theorem half_f {n : Nat} (h : n < 18446744073709551616) : steadingref01_half.f (n : Int) = some (((n / 2 : Nat) : Int), (n % 2 == 1)) := by
  unfold steadingref01_half.f
  rw [Int.tdiv_eq_ediv_of_nonneg (by omega), Int.tmod_eq_emod_of_nonneg (by omega), u64w (by omega) (by omega)]
  congr 2
  rw [Bool.eq_iff_iff, beq_iff_eq, beq_iff_eq]
  omega
theorem ref_pow_loop (d : Nat) : ∀ (k n : Nat) (c : Int), n < 18446744073709551616 → blen n ≤ d → d < k → 0 ≤ c → c + blen n ≤ 1000 → steadingref01_Pow.l0 k (n : Int) c = some (decide (c + ones n = 1)) := by
  induction d with
  | zero =>
    intro k n c hn hb hk hc hs
    obtain ⟨k, rfl⟩ : ∃ m, k = m + 1 := ⟨k - 1, by omega⟩
    have h0 : n = 0 := by
      have := blen_le.1 hb
      omega
    subst h0
    simp only [steadingref01_Pow.l0]
    rw [if_neg (by omega), ones_zero]
    congr 1
    rw [Bool.eq_iff_iff, beq_iff_eq, decide_eq_true_eq]
    omega
  | succ d ih =>
    intro k n c hn hb hk hc hs
    obtain ⟨k, rfl⟩ : ∃ m, k = m + 1 := ⟨k - 1, by omega⟩
    by_cases h0 : n = 0
    · subst h0
      simp only [steadingref01_Pow.l0]
      rw [if_neg (by omega), ones_zero]
      congr 1
      rw [Bool.eq_iff_iff, beq_iff_eq, decide_eq_true_eq]
      omega
    · have hh := blen_half n (by omega)
      have ho := ones_step (n := n) (by omega)
      simp only [steadingref01_Pow.l0]
      rw [if_pos (by omega), half_f hn]
      simp only [Option.bind_some]
      by_cases hodd : n % 2 = 1
      · rw [if_pos (by simpa using hodd), show wrap64 (c + 1) = c + 1 from by unfold wrap64; omega, ih k (n / 2) (c + 1) (by omega) (by omega) (by omega) (by omega) (by omega)]
        congr 1
        rw [Bool.eq_iff_iff, decide_eq_true_eq, decide_eq_true_eq]
        omega
      · rw [if_neg (by simpa using hodd), ih k (n / 2) c (by omega) (by omega) (by omega) (by omega) (by omega)]
        congr 1
        rw [Bool.eq_iff_iff, decide_eq_true_eq, decide_eq_true_eq]
        omega
theorem ref_pow_f {a : Int} (h0 : 0 ≤ a) (h1 : a ≤ 18446744073709551615) : steadingref01_Pow.f 66 a = some (powB a) := by
  obtain ⟨n, rfl⟩ := Int.eq_ofNat_of_zero_le h0
  have hb : blen n ≤ 64 := by rw [blen_le]; omega
  unfold steadingref01_Pow.f
  rw [ref_pow_loop 64 66 n 0 (by omega) hb (by omega) (by omega) (by omega)]
  unfold powB
  congr 1
  rw [Bool.eq_iff_iff, decide_eq_true_eq, decide_eq_true_eq, Int.toNat_natCast]
  omega

end BitsUpP
open BitsUpP
theorem BitsUp : steadinglaw01_BitsUp.Pure := by
  intro n a wn wa
  obtain ⟨n0, n1⟩ := wf_u64 wn
  obtain ⟨a0, a1⟩ := wf_u64 wa
  refine ⟨66, ?_⟩
  unfold steadinglaw01_BitsUp.f
  rw [awake_f]
  simp only [Option.bind_some]
  rw [if_pos trivial, up_f n0 n1 a0 a1]
  simp only [Option.bind_some]
  have hr : steadingref01_Up.f 66 n a = some (upV n a, upB n a) := by
    unfold steadingref01_Up.f
    rw [ref_pow_f a0 a1]
    simp only [Option.bind_some]
    by_cases hp : powB a = true
    · have hpos : 0 < a := by
        obtain ⟨k, rfl⟩ := (powB_iff a0).1 hp
        exact Int.pow_pos (by decide)
      have h2 := Int.emod_nonneg n (show a ≠ 0 by omega)
      have h3 := Int.emod_lt_of_pos n hpos
      rw [if_pos hp, if_neg (by omega), Int.tmod_eq_emod_of_nonneg n0]
      unfold upV upB
      rw [if_pos hp, if_pos hp]
      by_cases c : n % a = 0
      · rw [if_pos c, if_pos c, if_pos c]
      · rw [if_neg c, if_neg c, if_neg c, u64w (by omega) (by omega)]
        have ha : steadingref01_Add.f n (a - n % a) = some (addV n (a - n % a), addB n (a - n % a)) := add_ref_raw n0 n1 (by omega) (by omega)
        rw [ha]
        rfl
    · rw [if_neg hp]
      unfold upV upB
      rw [if_neg hp, if_neg hp]
  rw [hr]
  simp

end Go.Proofs.Ytaodlkpknipkmaa.Pure
