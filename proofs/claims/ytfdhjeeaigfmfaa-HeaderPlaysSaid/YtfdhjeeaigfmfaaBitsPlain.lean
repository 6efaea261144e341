/- Plain facts on numbers: how many bits a number has, powers of two, the least multiple above; no program. -/
namespace Go.Proofs.Ytfdhjeeaigfmfaa.Plain

/-- how many bits a number has -/
def blen (n : Nat) : Nat := if n = 0 then 0 else n.log2 + 1

theorem blen_le {n k : Nat} : blen n ≤ k ↔ n < 2 ^ k := by
  unfold blen
  split
  · rename_i h
    subst h
    simp [Nat.two_pow_pos]
  · rename_i h
    constructor
    · intro h1
      exact Nat.lt_of_lt_of_le (Nat.lt_log2_self (n := n)) (Nat.pow_le_pow_right (by omega) h1)
    · intro h1
      have := (Nat.log2_lt h).2 h1
      omega

theorem blen_half (n : Nat) (h : 0 < n) : blen n = blen (n / 2) + 1 := by
  apply Nat.le_antisymm
  · rw [blen_le]
    have : n / 2 < 2 ^ blen (n / 2) := blen_le.1 (Nat.le_refl _)
    rw [Nat.pow_succ]
    omega
  · have h1 : n < 2 ^ blen n := blen_le.1 (Nat.le_refl _)
    have h0 : blen n ≠ 0 := by
      intro h0
      rw [h0] at h1
      omega
    obtain ⟨m, hm⟩ : ∃ m, blen n = m + 1 := ⟨blen n - 1, by omega⟩
    rw [hm] at h1 ⊢
    rw [Nat.pow_succ] at h1
    have : blen (n / 2) ≤ m := by rw [blen_le]; omega
    omega

theorem blen_zero : blen 0 = 0 := rfl
theorem blen_pos {n : Nat} (h : 0 < n) : 0 < blen n := by
  unfold blen; split <;> omega

/-- how many of its bits are 1 -/
def ones (n : Nat) : Nat := if n = 0 then 0 else n % 2 + ones (n / 2)
termination_by n
decreasing_by omega

theorem ones_zero : ones 0 = 0 := by unfold ones; rfl
theorem ones_step {n : Nat} (h : 0 < n) : ones n = n % 2 + ones (n / 2) := by
  rw [ones]; rw [if_neg (by omega)]
theorem ones_le_blen (n : Nat) : ones n ≤ blen n := by
  induction n using Nat.strongRecOn with
  | _ n ih =>
    by_cases h : n = 0
    · subst h; simp [ones_zero]
    · rw [ones_step (by omega), blen_half n (by omega)]
      have := ih (n / 2) (by omega)
      omega
theorem ones_pos {n : Nat} (h : 0 < n) : 0 < ones n := by
  induction n using Nat.strongRecOn with
  | _ n ih =>
    rw [ones_step h]
    by_cases h1 : n % 2 = 1
    · omega
    · have := ih (n / 2) (by omega) (by omega)
      omega
theorem ones_one {n : Nat} (h : ones n = 1) : ∃ k, n = 2 ^ k := by
  induction n using Nat.strongRecOn with
  | _ n ih =>
    by_cases h0 : n = 0
    · subst h0; rw [ones_zero] at h; omega
    · rw [ones_step (by omega)] at h
      by_cases h1 : n % 2 = 1
      · have h2 : ones (n / 2) = 0 := by omega
        have h3 : n / 2 = 0 := by
          apply Classical.byContradiction
          intro h3
          have := ones_pos (n := n / 2) (by omega)
          omega
        exact ⟨0, by omega⟩
      · obtain ⟨k, hk⟩ := ih (n / 2) (by omega) (by omega)
        exact ⟨k + 1, by rw [Nat.pow_succ]; omega⟩
theorem ones_pow (k : Nat) : ones (2 ^ k) = 1 := by
  induction k with
  | zero => rw [ones_step (by simp)]; simp [ones_zero]
  | succ k ih =>
    have := Nat.two_pow_pos k
    rw [ones_step (Nat.two_pow_pos _), Nat.pow_succ]
    have h1 : 2 ^ k * 2 % 2 = 0 := by omega
    have h2 : 2 ^ k * 2 / 2 = 2 ^ k := by omega
    rw [h1, h2, ih]

theorem and_pred_even (m : Nat) (h : 0 < m) : (2 * m) &&& (2 * m - 1) = 2 * (m &&& (m - 1)) := by
  apply Nat.eq_of_testBit_eq
  intro i
  cases i with
  | zero => simp [Nat.testBit_zero]
  | succ i =>
    rw [Nat.testBit_and, Nat.testBit_succ, Nat.testBit_succ, Nat.testBit_succ]
    have e1 : 2 * m / 2 = m := by omega
    have e2 : (2 * m - 1) / 2 = m - 1 := by omega
    have e3 : 2 * (m &&& (m - 1)) / 2 = m &&& (m - 1) := by omega
    rw [e1, e2, e3, Nat.testBit_and]
theorem and_pred_odd (m : Nat) : (2 * m + 1) &&& (2 * m) = 2 * m := by
  apply Nat.eq_of_testBit_eq
  intro i
  cases i with
  | zero => simp [Nat.testBit_zero]
  | succ i =>
    rw [Nat.testBit_and, Nat.testBit_succ, Nat.testBit_succ]
    have e1 : (2 * m + 1) / 2 = m := by omega
    have e2 : 2 * m / 2 = m := by omega
    rw [e1, e2, Bool.and_self]

/-- the code's test for a power of two is the document's -/
theorem pow_test (n : Nat) : (n ≠ 0 ∧ n &&& (n - 1) = 0) ↔ ones n = 1 := by
  induction n using Nat.strongRecOn with
  | _ n ih =>
    by_cases h0 : n = 0
    · subst h0; simp [ones_zero]
    · rw [ones_step (by omega)]
      by_cases h1 : n % 2 = 1
      · obtain ⟨m, rfl⟩ : ∃ m, n = 2 * m + 1 := ⟨n / 2, by omega⟩
        have e0 : 2 * m + 1 - 1 = 2 * m := by omega
        have e1 : (2 * m + 1) / 2 = m := by omega
        rw [e0, and_pred_odd, e1, h1]
        constructor
        · intro h
          have : m = 0 := by omega
          subst this; rw [ones_zero]
        · intro h
          refine ⟨by omega, ?_⟩
          by_cases hm : m = 0
          · omega
          · have := ones_pos (n := m) (by omega); omega
      · obtain ⟨m, rfl⟩ : ∃ m, n = 2 * m := ⟨n / 2, by omega⟩
        have e1 : 2 * m / 2 = m := by omega
        have e2 : 2 * m % 2 = 0 := by omega
        rw [and_pred_even m (by omega), e1, e2, Nat.zero_add, ← ih m (by omega)]
        constructor
        · intro h; exact ⟨by omega, by omega⟩
        · intro h; exact ⟨by omega, by omega⟩

/-- a power of two -/
def powB (a : Int) : Bool := decide (ones a.toNat = 1)
theorem powB_iff {a : Int} (h : 0 ≤ a) : powB a = true ↔ ∃ k : Nat, a = 2 ^ k := by
  obtain ⟨n, rfl⟩ := Int.eq_ofNat_of_zero_le h
  unfold powB
  rw [decide_eq_true_eq, Int.toNat_natCast]
  constructor
  · intro h1
    obtain ⟨k, hk⟩ := ones_one h1
    exact ⟨k, by rw [hk]; simp⟩
  · rintro ⟨k, hk⟩
    have : n = 2 ^ k := by
      have : (n : Int) = ((2 ^ k : Nat) : Int) := by rw [hk]; simp
      omega
    rw [this, ones_pow]

/-- the lowest bits of a negated number -/
theorem neg_and_low (n k : Nat) (hn : n < 18446744073709551616) (hk : k < 64) :
    ((18446744073709551616 - n) % 18446744073709551616) &&& (2 ^ k - 1) = (2 ^ k - n % 2 ^ k) % 2 ^ k := by
  rw [Nat.and_two_pow_sub_one_eq_mod]
  have hd : (2 : Nat) ^ k ∣ 18446744073709551616 := by
    have : (18446744073709551616 : Nat) = 2 ^ k * 2 ^ (64 - k) := by
      rw [← Nat.pow_add, show k + (64 - k) = 64 from by omega]
    rw [this]; exact Nat.dvd_mul_right _ _
  rw [Nat.mod_mod_of_dvd _ hd]
  obtain ⟨q, hq⟩ := hd
  have hp : 0 < 2 ^ k := Nat.two_pow_pos k
  have h1 := Nat.div_add_mod n (2 ^ k)
  have h2 := Nat.mod_lt n hp
  generalize n % 2 ^ k = r at *
  generalize n / 2 ^ k = d at *
  rw [hq]
  generalize (2 : Nat) ^ k = P at *
  subst h1
  by_cases hr : r = 0
  · subst hr
    have : P * q - (P * d + 0) = P * (q - d) := by rw [Nat.add_zero, Nat.mul_sub]
    rw [this]; simp
  · have hdq : d < q := by
      apply Classical.byContradiction
      intro h
      have : P * q ≤ P * d := Nat.mul_le_mul_left _ (by omega)
      omega
    have e : P * q - (P * d + r) = P * (q - d - 1) + (P - r) := by
      have : P * q = P * d + P * (q - d - 1) + P := by
        rw [show q = d + (q - d - 1) + 1 from by omega, Nat.mul_add, Nat.mul_add]
        rw [show d + (q - d - 1) + 1 - d - 1 = q - d - 1 from by omega]
        omega
      omega
    rw [e, Nat.mul_add_mod]

end Go.Proofs.Ytfdhjeeaigfmfaa.Plain
