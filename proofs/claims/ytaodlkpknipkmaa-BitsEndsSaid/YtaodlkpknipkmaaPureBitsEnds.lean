/- A number lies from its power of two on, below the next one; pages have bytes enough, and one less has not; no bytes lie within a size at its end, and not behind it: for every number and every place; no further condition. -/
import Derived.Test.YtaodlkpknipkmaaPBitsEndsx2
import Derived.Test.YtaodlkpknipkmaaBitsFacts
namespace Go.Proofs.Ytaodlkpknipkmaa.Pure
open Go.RowKit Go.Proofs.Ytaodlkpknipkmaa.PBitsEnds Go.Proofs.YtaodlkpknipkmaaW.PrintWords Go.Proofs.YtaodlkpknipkmaaW.PrintLast Go.Proofs.YtaodlkpknipkmaaW.PrintMore Go.Proofs.Ytaodlkpknipkmaa.Plain
set_option linter.unusedVariables false
set_option linter.unusedSimpArgs false
namespace BitsEndsP

theorem pow_f {a : Int} (h0 : 0 ≤ a) (h1 : a ≤ 18446744073709551615) : bits_Pow.f a = some (powB a) := pow_raw h0 h1
theorem add_f {a b : Int} (a0 : 0 ≤ a) (a1 : a ≤ 18446744073709551615) (b0 : 0 ≤ b) (b1 : b ≤ 18446744073709551615) : bits_Add.f a b = some (addV a b, addB a b) := add_raw a0 a1 b0 b1
theorem up_f {n a : Int} (n0 : 0 ≤ n) (n1 : n ≤ 18446744073709551615) (a0 : 0 ≤ a) (a1 : a ≤ 18446744073709551615) : bits_Up.f n a = some (upV n a, upB n a) := by
  unfold bits_Up.f
  rw [pow_f a0 a1]
  simp only [Option.bind_some]
  by_cases hp : powB a = true
  · rw [if_pos hp, add_f n0 n1 (low_range n0 n1 a1 hp a0).1 (low_range n0 n1 a1 hp a0).2]
    simp only [Option.bind_some]
    rw [(up_raw n0 n1 a1 hp a0).1, (up_raw n0 n1 a1 hp a0).2]
  · rw [if_neg hp]
    unfold upV upB
    rw [if_neg hp, if_neg hp]

theorem in_f {a n s : Int} (a0 : 0 ≤ a) (n0 : 0 ≤ n) (s1 : s ≤ 18446744073709551615) : bits_In.f a n s = some (decide (a + n ≤ s)) := in_raw a0 n0 s1
theorem pages_f {n : Int} (h0 : 0 ≤ n) (h1 : n ≤ 18446744073709551615) : bits_Pages.f n = some (pgs n) := pages_raw h0 h1
theorem pow8 : powB 8 = true := (powB_iff (by omega)).2 ⟨3, rfl⟩
theorem pow64 : powB 64 = true := (powB_iff (by omega)).2 ⟨6, rfl⟩
theorem log_f {n : Int} (h0 : 0 ≤ n) (h1 : n ≤ 18446744073709551615) : bits_Log.f n = some (Hand.lenI n - 1) := if_pos ⟨h0, h1⟩
theorem ceil_f {n : Int} (h0 : 0 ≤ n) (h1 : n ≤ 18446744073709551615) : bits_Ceil.f n = some (Hand.clI n) := if_pos ⟨h0, h1⟩
theorem len9 : Hand.lenI 9 = 4 := by unfold Hand.lenI; decide +kernel
theorem cl9 : Hand.clI 9 = 4 := by unfold Hand.clI Hand.lenI; decide +kernel
theorem awake_f : steadinglaw01_awake.f = some true := by
  unfold steadinglaw01_awake.f
  rw [up_f (by omega) (by omega) (by omega) (by omega), log_f (by omega) (by omega)]
  simp only [Option.bind_some]
  rw [if_pos (by rw [len9]; rfl), ceil_f (by omega) (by omega)]
  simp only [Option.bind_some]
  have hu := up_unique (n := 9) (a := 8) (x := 16) (by omega) (by omega) pow8 rfl (by omega) (by omega) (by omega)
  rw [if_pos cl9, if_pos hu.2, if_pos hu.1, pages_f (by omega) (by omega)]
  simp only [Option.bind_some]
  rw [if_pos (by unfold pgs; rfl), pow_f (by omega) (by omega)]
  simp only [Option.bind_some]
  rw [if_pos pow64, pow_f (by omega) (by omega)]
  simp only [Option.bind_some]
  rw [if_neg (by rw [powB_zero]; decide), in_f (by omega) (by omega) (by omega)]
  rfl

theorem ends_log {n : Int} (n0 : 0 < n) (n1 : n ≤ 18446744073709551615) : 0 ≤ Hand.lenI n - 1 ∧ Hand.lenI n ≤ 64 ∧ shr .u64 n (Hand.lenI n - 1) = 1 := by
  obtain ⟨m, rfl⟩ := Int.eq_ofNat_of_zero_le (show 0 ≤ n by omega)
  have hb : blen m ≤ 64 := by rw [blen_le]; omega
  have hp := blen_pos (n := m) (by omega)
  unfold Hand.lenI
  rw [Int.toNat_natCast]
  refine ⟨by omega, by omega, ?_⟩
  obtain ⟨L, hL⟩ : ∃ L, blen m = L + 1 := ⟨blen m - 1, by omega⟩
  have h1 : m < 2 ^ (L + 1) := blen_le.1 (by omega)
  have h2 : 2 ^ L ≤ m := by
    apply Classical.byContradiction
    intro h
    have := (blen_le (n := m) (k := L)).2 (by omega)
    omega
  rw [hL]
  unfold shr
  rw [show min (((L + 1 : Nat) : Int) - 1).toNat IntKind.u64.bits = L from by show min (((L + 1 : Nat) : Int) - 1).toNat 64 = L; omega]
  have hc : ((2 ^ L : Nat) : Int) = 2 ^ L := by simp
  rw [← hc, ← Int.natCast_ediv]
  rw [Nat.pow_succ] at h1
  have : m / 2 ^ L = 1 := by
    apply Nat.div_eq_of_lt_le
    · omega
    · omega
  rw [this]
  rfl
theorem ends_ceil {n : Int} (n0 : 0 < n) (n1 : n ≤ 18446744073709551615) : ¬ Hand.clI n < Hand.lenI n - 1 ∧ ¬ Hand.clI n > Hand.lenI n - 1 + 1 ∧ ((Hand.clI n == Hand.lenI n - 1) = powB n) := by
  obtain ⟨m, rfl⟩ := Int.eq_ofNat_of_zero_le (show 0 ≤ n by omega)
  have hp := blen_pos (n := m) (by omega)
  unfold Hand.clI Hand.lenI
  rw [Int.toNat_natCast, show ((m : Int) - 1).toNat = m - 1 from by omega]
  obtain ⟨L, hL⟩ : ∃ L, blen m = L + 1 := ⟨blen m - 1, by omega⟩
  have h1 : m < 2 ^ (L + 1) := blen_le.1 (by omega)
  have h2 : 2 ^ L ≤ m := by
    apply Classical.byContradiction
    intro h
    have := (blen_le (n := m) (k := L)).2 (by omega)
    omega
  have g1 : blen (m - 1) ≤ L + 1 := by rw [blen_le]; omega
  have g2 : ¬ blen (m - 1) < L := by
    intro h
    obtain ⟨K, rfl⟩ : ∃ K, L = K + 1 := ⟨L - 1, by omega⟩
    have := blen_le.1 (show blen (m - 1) ≤ K by omega)
    have hk := Nat.two_pow_pos K
    rw [Nat.pow_succ] at h2
    omega
  rw [hL]
  refine ⟨by omega, by omega, ?_⟩
  rw [Bool.eq_iff_iff, beq_iff_eq, powB_iff (by omega)]
  constructor
  · intro h
    have := blen_le.1 (show blen (m - 1) ≤ L by omega)
    have hk := Nat.two_pow_pos L
    refine ⟨L, ?_⟩
    have : m = 2 ^ L := by omega
    rw [this]; simp
  · rintro ⟨k, hk⟩
    have hm : m = 2 ^ k := by
      have hc : ((2 ^ k : Nat) : Int) = 2 ^ k := by simp
      omega
    have h3 : L ≤ k := by
      apply Classical.byContradiction
      intro h
      have : 2 ^ k < 2 ^ L := Nat.pow_lt_pow_right (by omega) (by omega)
      omega
    have h4 : k < L + 1 := by
      apply Classical.byContradiction
      intro h
      have : 2 ^ (L + 1) ≤ 2 ^ k := Nat.pow_le_pow_right (by omega) (by omega)
      omega
    have : k = L := by omega
    subst this
    have := blen_le.2 (show m - 1 < 2 ^ k by omega)
    omega
end BitsEndsP
open BitsEndsP
theorem BitsEnds : steadinglaw01_BitsEnds.Pure := by
  intro n t wn wt
  obtain ⟨n0, n1⟩ := wf_u64 wn
  obtain ⟨t0, t1⟩ := wf_u64 wt
  have p1 : 0 ≤ pgs n ∧ pgs n ≤ 4503599627370496 := by unfold pgs; omega
  have p2 : ((pgs n == 0) == (n == 0)) = true := by
    unfold pgs
    rw [beq_iff_eq, Bool.eq_iff_iff, beq_iff_eq, beq_iff_eq]
    omega
  have p3 : pgs n > 0 → IntKind.u64.wrap (IntKind.u64.wrap (pgs n - 1) * 4096) < n := by
    intro h
    rw [u64w (n := pgs n - 1) (by omega) (by omega), u64w (by omega) (by omega)]
    unfold pgs; omega
  have p4 : pgs n < 4503599627370496 → ¬ IntKind.u64.wrap (pgs n * 4096) < n := by
    intro h
    rw [u64w (by omega) (by omega)]
    unfold pgs; omega
  have i1 : bits_In.f t 0 t = some true := by rw [in_f t0 (by omega) t1]; simp
  have i2 : bits_In.f 0 n n = some true := by rw [in_f (by omega) n0 n1]; simp
  have i3 : ¬ t = 18446744073709551615 → bits_In.f (IntKind.u64.wrap (t + 1)) 0 t = some false := by
    intro h
    rw [u64w (by omega) (by omega), in_f (by omega) (by omega) t1]
    congr 1
    exact decide_eq_false (by omega)
  unfold steadinglaw01_BitsEnds.f
  rw [awake_f, pages_f n0 n1, log_f n0 n1, ceil_f n0 n1, pow_f n0 n1, i1, i2]
  simp only [Option.bind_some, p2, if_true]
  generalize pgs n = p at *
  have tail : (if p > 0 then (if IntKind.u64.wrap (IntKind.u64.wrap (p - 1) * 4096) ≥ n then some false else if p < 4503599627370496 then (if IntKind.u64.wrap (p * 4096) < n then some false else if t = 18446744073709551615 then some true else (bits_In.f (IntKind.u64.wrap (t + 1)) 0 t).bind fun t121 => if t121 = true then some false else some true) else if t = 18446744073709551615 then some true else (bits_In.f (IntKind.u64.wrap (t + 1)) 0 t).bind fun t121 => if t121 = true then some false else some true) else if t = 18446744073709551615 then some true else (bits_In.f (IntKind.u64.wrap (t + 1)) 0 t).bind fun t121 => if t121 = true then some false else some true) = some true := by
    have e : (if t = 18446744073709551615 then some true else (bits_In.f (IntKind.u64.wrap (t + 1)) 0 t).bind fun t121 => if t121 = true then some false else some true) = some true := by
      by_cases c : t = 18446744073709551615
      · rw [if_pos c]
      · rw [if_neg c, i3 c]; rfl
    rw [e]
    by_cases c : p > 0
    · rw [if_pos c, if_neg (by have := p3 c; omega)]
      by_cases d : p < 4503599627370496
      · rw [if_pos d, if_neg (p4 d)]
      · rw [if_neg d]
    · rw [if_neg c]
  by_cases c : n > 0
  · obtain ⟨g1, g2, g3⟩ := ends_log c n1
    obtain ⟨f1, f2, f3⟩ := ends_ceil c n1
    rw [if_pos c, if_pos g1, if_pos g3, if_neg f1, show wrap64 (Hand.lenI n - 1 + 1) = Hand.lenI n - 1 + 1 from by unfold wrap64; omega, if_neg f2, f3, if_neg (by simp)]
    exact tail
  · rw [if_neg c]
    exact tail

end Go.Proofs.Ytaodlkpknipkmaa.Pure
