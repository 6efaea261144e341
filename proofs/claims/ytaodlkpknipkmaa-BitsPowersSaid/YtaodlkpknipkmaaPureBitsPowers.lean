/- For every number, whether it is a power of two, and how often two makes it, are the document's; no further condition. -/
import Derived.Test.YtaodlkpknipkmaaPBitsPowersx1
import Derived.Test.YtaodlkpknipkmaaBitsFacts
namespace Go.Proofs.Ytaodlkpknipkmaa.Pure
open Go.RowKit Go.Proofs.Ytaodlkpknipkmaa.PBitsPowers Go.Proofs.YtaodlkpknipkmaaW.PrintWords Go.Proofs.YtaodlkpknipkmaaW.PrintLast Go.Proofs.YtaodlkpknipkmaaW.PrintMore Go.Proofs.Ytaodlkpknipkmaa.Plain
set_option linter.unusedVariables false
namespace BitsPowersP

theorem pow_f {a : Int} (h0 : 0 ≤ a) (h1 : a ≤ 18446744073709551615) : bits_Pow.f a = some (powB a) := pow_raw h0 h1
theorem add_f {a b : Int} (a0 : 0 ≤ a) (a1 : a ≤ 18446744073709551615) (b0 : 0 ≤ b) (b1 : b ≤ 18446744073709551615) : bits_Add.f a b = some (addV a b, addB a b) := add_raw a0 a1 b0 b1
theorem up_f {n a : Int} (n0 : 0 ≤ n) (n1 : n ≤ 18446744073709551615) (a0 : 0 ≤ a) (a1 : a ≤ 18446744073709551615) : bits_Up.f n a = some (upV n a, upB n a) := by
  unfold bits_Up.f
  rw [pow_f a0 a1]
  simp only [Option.bind_some]
  by_cases hp : powB a = true
  · rw [if_pos hp, add_f n0 n1 (low_range n0 n1 a1 hp a0).1 (low_range n0 n1 a1 hp a0).2]
    simp only [Option.bind_some]
    rw [(up_raw n0 n1 a1 hp a0).1, (up_raw n0 n1 a1 hp a0).2]
  · rw [if_neg hp]
    unfold upV upB
    rw [if_neg hp, if_neg hp]

theorem in_f {a n s : Int} (a0 : 0 ≤ a) (n0 : 0 ≤ n) (s1 : s ≤ 18446744073709551615) : bits_In.f a n s = some (decide (a + n ≤ s)) := in_raw a0 n0 s1
theorem pages_f {n : Int} (h0 : 0 ≤ n) (h1 : n ≤ 18446744073709551615) : bits_Pages.f n = some (pgs n) := pages_raw h0 h1
theorem pow8 : powB 8 = true := (powB_iff (by omega)).2 ⟨3, rfl⟩
theorem pow64 : powB 64 = true := (powB_iff (by omega)).2 ⟨6, rfl⟩
theorem log_f {n : Int} (h0 : 0 ≤ n) (h1 : n ≤ 18446744073709551615) : bits_Log.f n = some (Hand.lenI n - 1) := if_pos ⟨h0, h1⟩
theorem ceil_f {n : Int} (h0 : 0 ≤ n) (h1 : n ≤ 18446744073709551615) : bits_Ceil.f n = some (Hand.clI n) := if_pos ⟨h0, h1⟩
theorem len9 : Hand.lenI 9 = 4 := by unfold Hand.lenI; decide +kernel
theorem cl9 : Hand.clI 9 = 4 := by unfold Hand.clI Hand.lenI; decide +kernel
theorem awake_f : steadinglaw01_awake.f = some true := by
  unfold steadinglaw01_awake.f
  rw [up_f (by omega) (by omega) (by omega) (by omega), log_f (by omega) (by omega)]
  simp only [Option.bind_some]
  rw [if_pos (by rw [len9]; rfl), ceil_f (by omega) (by omega)]
  simp only [Option.bind_some]
  have hu := up_unique (n := 9) (a := 8) (x := 16) (by omega) (by omega) pow8 rfl (by omega) (by omega) (by omega)
  rw [if_pos cl9, if_pos hu.2, if_pos hu.1, pages_f (by omega) (by omega)]
  simp only [Option.bind_some]
  rw [if_pos (by unfold pgs; rfl), pow_f (by omega) (by omega)]
  simp only [Option.bind_some]
  rw [if_pos pow64, pow_f (by omega) (by omega)]
  simp only [Option.bind_some]
  rw [if_neg (by rw [powB_zero]; decide), in_f (by omega) (by omega) (by omega)]
  rfl

theorem half_f {n : Nat} (h : n < 18446744073709551616) : steadingref01_half.f (n : Int) = some (((n / 2 : Nat) : Int), (n % 2 == 1)) := by
  unfold steadingref01_half.f
  rw [Int.tdiv_eq_ediv_of_nonneg (by omega), Int.tmod_eq_emod_of_nonneg (by omega), u64w (by omega) (by omega)]
  congr 2
  rw [Bool.eq_iff_iff, beq_iff_eq, beq_iff_eq]
  omega
theorem ref_pow_loop (d : Nat) : ∀ (k n : Nat) (c : Int), n < 18446744073709551616 → blen n ≤ d → d < k → 0 ≤ c → c + blen n ≤ 1000 → steadingref01_Pow.l0 k (n : Int) c = some (decide (c + ones n = 1)) := by
  induction d with
  | zero =>
    intro k n c hn hb hk hc hs
    obtain ⟨k, rfl⟩ : ∃ m, k = m + 1 := ⟨k - 1, by omega⟩
    have h0 : n = 0 := by
      have := blen_le.1 hb
      omega
    subst h0
    simp only [steadingref01_Pow.l0]
    rw [if_neg (by omega), ones_zero]
    congr 1
    rw [Bool.eq_iff_iff, beq_iff_eq, decide_eq_true_eq]
    omega
  | succ d ih =>
    intro k n c hn hb hk hc hs
    obtain ⟨k, rfl⟩ : ∃ m, k = m + 1 := ⟨k - 1, by omega⟩
    by_cases h0 : n = 0
    · subst h0
      simp only [steadingref01_Pow.l0]
      rw [if_neg (by omega), ones_zero]
      congr 1
      rw [Bool.eq_iff_iff, beq_iff_eq, decide_eq_true_eq]
      omega
    · have hh := blen_half n (by omega)
      have ho := ones_step (n := n) (by omega)
      simp only [steadingref01_Pow.l0]
      rw [if_pos (by omega), half_f hn]
      simp only [Option.bind_some]
      by_cases hodd : n % 2 = 1
      · rw [if_pos (by simpa using hodd), show wrap64 (c + 1) = c + 1 from by unfold wrap64; omega, ih k (n / 2) (c + 1) (by omega) (by omega) (by omega) (by omega) (by omega)]
        congr 1
        rw [Bool.eq_iff_iff, decide_eq_true_eq, decide_eq_true_eq]
        omega
      · rw [if_neg (by simpa using hodd), ih k (n / 2) c (by omega) (by omega) (by omega) (by omega) (by omega)]
        congr 1
        rw [Bool.eq_iff_iff, decide_eq_true_eq, decide_eq_true_eq]
        omega
theorem ref_pow_f {a : Int} (h0 : 0 ≤ a) (h1 : a ≤ 18446744073709551615) : steadingref01_Pow.f 66 a = some (powB a) := by
  obtain ⟨n, rfl⟩ := Int.eq_ofNat_of_zero_le h0
  have hb : blen n ≤ 64 := by rw [blen_le]; omega
  unfold steadingref01_Pow.f
  rw [ref_pow_loop 64 66 n 0 (by omega) hb (by omega) (by omega) (by omega)]
  unfold powB
  congr 1
  rw [Bool.eq_iff_iff, decide_eq_true_eq, decide_eq_true_eq, Int.toNat_natCast]
  omega

theorem ref_log_loop (d : Nat) : ∀ (k n : Nat) (c : Int), n < 18446744073709551616 → blen n ≤ d → d < k → -1 ≤ c → c + blen n ≤ 1000 → steadingref01_Log.l0 k (n : Int) c = some (c + blen n) := by
  induction d with
  | zero =>
    intro k n c hn hb hk hc hs
    obtain ⟨k, rfl⟩ : ∃ m, k = m + 1 := ⟨k - 1, by omega⟩
    have h0 : n = 0 := by
      have := blen_le.1 hb
      omega
    subst h0
    simp only [steadingref01_Log.l0]
    rw [if_neg (by omega), blen_zero]
    congr 1
    omega
  | succ d ih =>
    intro k n c hn hb hk hc hs
    obtain ⟨k, rfl⟩ : ∃ m, k = m + 1 := ⟨k - 1, by omega⟩
    by_cases h0 : n = 0
    · subst h0
      simp only [steadingref01_Log.l0]
      rw [if_neg (by omega), blen_zero]
      congr 1
      omega
    · have hh := blen_half n (by omega)
      simp only [steadingref01_Log.l0]
      rw [if_pos (by omega), half_f hn]
      simp only [Option.bind_some]
      rw [show wrap64 (c + 1) = c + 1 from by unfold wrap64; omega, ih k (n / 2) (c + 1) (by omega) (by omega) (by omega) (by omega) (by omega)]
      congr 1
      omega
theorem ref_log_f {n : Int} (h0 : 0 ≤ n) (h1 : n ≤ 18446744073709551615) : steadingref01_Log.f 66 n = some (Hand.lenI n - 1) := by
  obtain ⟨m, rfl⟩ := Int.eq_ofNat_of_zero_le h0
  have hb : blen m ≤ 64 := by rw [blen_le]; omega
  unfold steadingref01_Log.f Hand.lenI
  rw [ref_log_loop 64 66 m (-1) (by omega) hb (by omega) (by omega) (by omega), Int.toNat_natCast]
  congr 1
  try omega
theorem ref_ceil_f {n : Int} (h0 : 0 ≤ n) (h1 : n ≤ 18446744073709551615) : steadingref01_Ceil.f 66 n = some (Hand.clI n) := by
  unfold steadingref01_Ceil.f Hand.clI
  by_cases c : n < 2
  · rw [if_pos c]
    unfold Hand.lenI
    rw [show (n - 1).toNat = 0 from by omega]
    rfl
  · rw [if_neg c, u64w (by omega) (by omega), ref_log_f (by omega) (by omega)]
    simp only [Option.bind_some]
    have h2 := Hand.lenI_nonneg (n - 1)
    have h3 : Hand.lenI (n - 1) ≤ 64 := by
      have : blen (n - 1).toNat ≤ 64 := by rw [blen_le]; omega
      unfold Hand.lenI; omega
    congr 1
    unfold wrap64
    omega
end BitsPowersP
open BitsPowersP
theorem BitsPowers : steadinglaw01_BitsPowers.Pure := by
  intro n wn
  obtain ⟨n0, n1⟩ := wf_u64 wn
  refine ⟨66, ?_⟩
  unfold steadinglaw01_BitsPowers.f
  rw [awake_f]
  simp only [Option.bind_some]
  rw [if_pos trivial, pow_f n0 n1, ref_pow_f n0 n1, log_f n0 n1, ref_log_f n0 n1, ceil_f n0 n1, ref_ceil_f n0 n1]
  simp

end Go.Proofs.Ytaodlkpknipkmaa.Pure
