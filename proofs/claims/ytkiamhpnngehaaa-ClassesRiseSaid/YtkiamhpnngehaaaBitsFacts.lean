/- Plain facts on the arithmetic of bits, as a program's print spells it. -/
import Derived.WalkKit
import Derived.Test.YtkiamhpnngehaaaBitsPlain
namespace Go.Proofs.Ytkiamhpnngehaaa.Plain
open Go.RowKit
set_option linter.unusedVariables false

abbrev M : Int := 18446744073709551615

theorem u64w {n : Int} (h0 : 0 ≤ n) (h1 : n ≤ 18446744073709551615) : IntKind.u64.wrap n = n := by rw [IntKind.wrap_u64]; omega
theorem u64w_over {n : Int} (h0 : 18446744073709551615 < n) (h1 : n ≤ 36893488147419103230) : IntKind.u64.wrap n = n - 18446744073709551616 := by rw [IntKind.wrap_u64]; omega
theorem u64w_neg {n : Int} (h0 : n < 0) (h1 : -18446744073709551616 ≤ n) : IntKind.u64.wrap n = n + 18446744073709551616 := by rw [IntKind.wrap_u64]; omega

theorem wf_u64 {a : Int} (h : (Lit.int .u64 a).wf = true) : 0 ≤ a ∧ a ≤ 18446744073709551615 := by
  simpa [Lit.wf, IntKind.min, IntKind.max, IntKind.signed, IntKind.bits] using h
theorem wf_u32 {a : Int} (h : (Lit.int .u32 a).wf = true) : 0 ≤ a ∧ a ≤ 4294967295 := by
  simpa [Lit.wf, IntKind.min, IntKind.max, IntKind.signed, IntKind.bits] using h
theorem wf_u16 {a : Int} (h : (Lit.int .u16 a).wf = true) : 0 ≤ a ∧ a ≤ 65535 := by
  simpa [Lit.wf, IntKind.min, IntKind.max, IntKind.signed, IntKind.bits] using h
theorem wf_u8 {a : Int} (h : (Lit.int .u8 a).wf = true) : 0 ≤ a ∧ a ≤ 255 := by
  simpa [Lit.wf, IntKind.min, IntKind.max, IntKind.signed, IntKind.bits] using h
theorem wf_i64 {a : Int} (h : (Lit.int .i64 a).wf = true) : -9223372036854775808 ≤ a ∧ a ≤ 9223372036854775807 := by
  simpa [Lit.wf, IntKind.min, IntKind.max, IntKind.signed, IntKind.bits] using h

/-- a sum, and whether it is one -/
def addV (a b : Int) : Int := if a + b ≤ 18446744073709551615 then a + b else 0
def addB (a b : Int) : Bool := decide (a + b ≤ 18446744073709551615)
/-- the least multiple above, and whether it is one -/
def upV (n a : Int) : Int := if powB a = true then (if n % a = 0 then n else addV n (a - n % a)) else 0
def upB (n a : Int) : Bool := if powB a = true then (if n % a = 0 then true else addB n (a - n % a)) else false
def pgs (n : Int) : Int := (n + 4095) / 4096

theorem powB_zero : powB 0 = false := by simp [powB, ones_zero]

theorem pow_raw {a : Int} (h0 : 0 ≤ a) (h1 : a ≤ 18446744073709551615) :
    (if a = 0 then some false else some ((Go.bits .and .u64 a (IntKind.u64.wrap (a - 1))) == 0)) = some (powB a) := by
  by_cases c : a = 0
  · subst c; rw [if_pos rfl, powB_zero]
  · rw [if_neg c, u64w (by omega) (by omega), u64_and a (a - 1) (by omega) (by omega) (by omega) (by omega)]
    obtain ⟨n, rfl⟩ := Int.eq_ofNat_of_zero_le h0
    unfold powB
    congr 1
    rw [Bool.eq_iff_iff, decide_eq_true_eq, beq_iff_eq, ← pow_test]
    rw [show ((n : Int) - 1).toNat = n - 1 from by omega, Int.toNat_natCast]
    constructor
    · intro h; exact ⟨by omega, by omega⟩
    · intro h; omega

theorem add_raw {a b : Int} (a0 : 0 ≤ a) (a1 : a ≤ 18446744073709551615) (b0 : 0 ≤ b) (b1 : b ≤ 18446744073709551615) :
    (if (IntKind.u64.wrap (a + b)) ≥ a then (some (IntKind.u64.wrap (a + b), true)) else (some (0, false))) = some (addV a b, addB a b) := by
  unfold addV addB
  by_cases c : a + b ≤ 18446744073709551615
  · rw [u64w (by omega) c, if_pos (by omega), if_pos c, decide_eq_true c]
  · rw [u64w_over (by omega) (by omega), if_neg (by omega), if_neg c, decide_eq_false c]

theorem add_ref_raw {a b : Int} (a0 : 0 ≤ a) (a1 : a ≤ 18446744073709551615) (b0 : 0 ≤ b) (b1 : b ≤ 18446744073709551615) :
    (if b > (IntKind.u64.wrap (18446744073709551615 - a)) then (some (0, false)) else (some (IntKind.u64.wrap (a + b), true))) = some (addV a b, addB a b) := by
  unfold addV addB
  rw [u64w (n := 18446744073709551615 - a) (by omega) (by omega)]
  by_cases c : a + b ≤ 18446744073709551615
  · rw [u64w (by omega) c, if_neg (by omega), if_pos c, decide_eq_true c]
  · rw [if_pos (by omega), if_neg c, decide_eq_false c]

theorem in_raw {a n s : Int} (a0 : 0 ≤ a) (n0 : 0 ≤ n) (s1 : s ≤ 18446744073709551615) :
    (if n ≤ s then (some (decide (a ≤ (IntKind.u64.wrap (s - n))))) else (some false)) = some (decide (a + n ≤ s)) := by
  by_cases c : n ≤ s
  · rw [if_pos c, u64w (by omega) (by omega)]
    congr 1
    rw [Bool.eq_iff_iff, decide_eq_true_eq, decide_eq_true_eq]; omega
  · rw [if_neg c, decide_eq_false (by omega)]

theorem and_4095 {n : Int} (h0 : 0 ≤ n) (h1 : n ≤ 18446744073709551615) : Go.bits .and .u64 n 4095 = n % 4096 := by
  rw [u64_and n 4095 h0 (by omega) (by omega) (by omega)]
  obtain ⟨m, rfl⟩ := Int.eq_ofNat_of_zero_le h0
  have := Nat.and_two_pow_sub_one_eq_mod m 12
  rw [show ((4095 : Int).toNat) = 2 ^ 12 - 1 from rfl, Int.toNat_natCast, this]
  omega

theorem pages_raw {n : Int} (h0 : 0 ≤ n) (h1 : n ≤ 18446744073709551615) :
    (if (Go.bits .and .u64 n 4095) = 0 then (some (n / 4096)) else (some (IntKind.u64.wrap ((n / 4096) + 1)))) = some (pgs n) := by
  unfold pgs
  rw [and_4095 h0 h1]
  by_cases c : n % 4096 = 0
  · rw [if_pos c]; congr 1; omega
  · rw [if_neg c, u64w (by omega) (by omega)]; congr 1; omega

theorem pages_ref_raw {n : Int} (h0 : 0 ≤ n) (h1 : n ≤ 18446744073709551615) :
    (if (Int.tmod n 4096) = 0 then (some (IntKind.u64.wrap (Int.tdiv n 4096))) else (some (IntKind.u64.wrap ((IntKind.u64.wrap (Int.tdiv n 4096)) + 1)))) = some (pgs n) := by
  unfold pgs
  rw [Int.tmod_eq_emod_of_nonneg h0, Int.tdiv_eq_ediv_of_nonneg h0, u64w (n := n / 4096) (by omega) (by omega)]
  by_cases c : n % 4096 = 0
  · rw [if_pos c]; congr 1; omega
  · rw [if_neg c, u64w (by omega) (by omega)]; congr 1; omega

theorem pow_bound {k : Nat} (h : (2 : Int) ^ k ≤ 18446744073709551615) : k < 64 := by
  apply Classical.byContradiction
  intro hk
  have h1 : 2 ^ 64 ≤ 2 ^ k := Nat.pow_le_pow_right (by omega) (by omega)
  have h2 : ((2 ^ k : Nat) : Int) = 2 ^ k := by simp
  omega

theorem and_low {n a : Int} (n0 : 0 ≤ n) (n1 : n ≤ 18446744073709551615) (a1 : a ≤ 18446744073709551615) (hp : ∃ k : Nat, a = 2 ^ k) :
    Go.bits .and .u64 (IntKind.u64.wrap (-n)) (IntKind.u64.wrap (a - 1)) = (a - n % a) % a := by
  obtain ⟨k, rfl⟩ := hp
  have hk := pow_bound a1
  have hc : ((2 ^ k : Nat) : Int) = 2 ^ k := by simp
  have hpos : 0 < 2 ^ k := Nat.two_pow_pos k
  obtain ⟨m, rfl⟩ := Int.eq_ofNat_of_zero_le n0
  have hm := neg_and_low m k (by omega) hk
  have e1 : IntKind.u64.wrap (-(m : Int)) = (((18446744073709551616 - m) % 18446744073709551616 : Nat) : Int) := by
    rw [IntKind.wrap_u64]; omega
  have e2 : IntKind.u64.wrap ((2 : Int) ^ k - 1) = ((2 ^ k - 1 : Nat) : Int) := by
    rw [← hc, u64w (by omega) (by omega)]; omega
  rw [e1, e2, u64_and_nat _ _ (by omega) (by omega), hm, ← hc]
  have hr : m % 2 ^ k < 2 ^ k := Nat.mod_lt _ hpos
  rw [Int.natCast_emod, Int.ofNat_sub (by omega), Int.natCast_emod]

theorem up_raw {n a : Int} (n0 : 0 ≤ n) (n1 : n ≤ 18446744073709551615) (a1 : a ≤ 18446744073709551615) (hp : powB a = true) (a0 : 0 ≤ a) :
    addV n (Go.bits .and .u64 (IntKind.u64.wrap (-n)) (IntKind.u64.wrap (a - 1))) = upV n a ∧ addB n (Go.bits .and .u64 (IntKind.u64.wrap (-n)) (IntKind.u64.wrap (a - 1))) = upB n a := by
  have hk := (powB_iff a0).1 hp
  have hpos : 0 < a := by
    obtain ⟨k, rfl⟩ := hk
    exact Int.pow_pos (by decide)
  rw [and_low n0 n1 a1 hk]
  unfold upV upB
  rw [if_pos hp, if_pos hp]
  have h2 := Int.emod_nonneg n (show a ≠ 0 by omega)
  have h3 := Int.emod_lt_of_pos n hpos
  by_cases c : n % a = 0
  · rw [if_pos c, if_pos c, c]
    rw [show (a - 0) % a = 0 from by rw [Int.sub_zero, Int.emod_self]]
    unfold addV addB
    rw [Int.add_zero, if_pos n1, decide_eq_true n1]
    exact ⟨rfl, rfl⟩
  · rw [if_neg c, if_neg c]
    rw [Int.emod_eq_of_lt (by omega) (by omega)]
    exact ⟨rfl, rfl⟩

theorem low_range {n a : Int} (n0 : 0 ≤ n) (n1 : n ≤ 18446744073709551615) (a1 : a ≤ 18446744073709551615) (hp : powB a = true) (a0 : 0 ≤ a) :
    0 ≤ Go.bits .and .u64 (IntKind.u64.wrap (-n)) (IntKind.u64.wrap (a - 1)) ∧ Go.bits .and .u64 (IntKind.u64.wrap (-n)) (IntKind.u64.wrap (a - 1)) ≤ 18446744073709551615 := by
  have hk := (powB_iff a0).1 hp
  have hpos : 0 < a := by
    obtain ⟨k, rfl⟩ := hk
    exact Int.pow_pos (by decide)
  rw [and_low n0 n1 a1 hk]
  have h2 := Int.emod_nonneg (a - n % a) (show a ≠ 0 by omega)
  have h3 := Int.emod_lt_of_pos (a - n % a) hpos
  omega

theorem add_range {a b : Int} (a0 : 0 ≤ a) (b0 : 0 ≤ b) : 0 ≤ addV a b ∧ addV a b ≤ 18446744073709551615 := by
  unfold addV; split <;> omega
theorem up_range {n a : Int} (n0 : 0 ≤ n) (n1 : n ≤ 18446744073709551615) (a0 : 0 ≤ a) : 0 ≤ upV n a ∧ upV n a ≤ 18446744073709551615 := by
  unfold upV
  split
  · rename_i hp
    have hk := (powB_iff a0).1 hp
    have hpos : 0 < a := by
      obtain ⟨k, rfl⟩ := hk
      exact Int.pow_pos (by decide)
    have h2 := Int.emod_nonneg n (show a ≠ 0 by omega)
    have h3 := Int.emod_lt_of_pos n hpos
    split
    · omega
    · exact add_range n0 (by omega)
  · omega

/-- what the least multiple above is -/
theorem up_spec {n a : Int} (n0 : 0 ≤ n) (a0 : 0 < a) (hp : powB a = true) (hu : upB n a = true) : upV n a % a = 0 ∧ n ≤ upV n a ∧ upV n a < n + a := by
  unfold upB at hu
  rw [if_pos hp] at hu
  unfold upV
  rw [if_pos hp]
  have h2 := Int.emod_nonneg n (show a ≠ 0 by omega)
  have h3 := Int.emod_lt_of_pos n a0
  by_cases c : n % a = 0
  · rw [if_pos c]; omega
  · rw [if_neg c] at hu ⊢
    have hs : n + (a - n % a) ≤ 18446744073709551615 := of_decide_eq_true hu
    unfold addV
    rw [if_pos hs]
    refine ⟨?_, by omega, by omega⟩
    have e : n + (a - n % a) = (n - n % a) + a := by omega
    rw [e, Int.add_emod_right]
    have := Int.emod_add_mul_ediv n a
    rw [show n - n % a = a * (n / a) from by omega, Int.mul_emod_right]
theorem up_ok {n a : Int} (a0 : 0 < a) (hp : powB a = true) (hs : n + a ≤ 18446744073709551616) (n1 : n ≤ 18446744073709551615) : upB n a = true := by
  unfold upB
  rw [if_pos hp]
  have h2 := Int.emod_nonneg n (show a ≠ 0 by omega)
  split
  · rfl
  · exact decide_eq_true (by omega)
theorem up_not {n a : Int} (n0 : 0 ≤ n) (a0 : 0 < a) (hp : powB a = true) (hu : upB n a = false) : upV n a = 0 ∧ 18446744073709551615 < n + a - n % a ∧ n % a ≠ 0 := by
  unfold upB at hu
  rw [if_pos hp] at hu
  unfold upV
  rw [if_pos hp]
  by_cases c : n % a = 0
  · rw [if_pos c] at hu; exact absurd hu (by decide)
  · rw [if_neg c] at hu ⊢
    have hs : ¬ n + (a - n % a) ≤ 18446744073709551615 := of_decide_eq_false hu
    unfold addV
    rw [if_neg hs]
    exact ⟨rfl, by omega, c⟩
/-- .. is the only one -/
theorem up_unique {n a x : Int} (n0 : 0 ≤ n) (a0 : 0 < a) (hp : powB a = true) (hx : x % a = 0) (h1 : n ≤ x) (h2 : x < n + a) (hm : x ≤ 18446744073709551615) : upB n a = true ∧ upV n a = x := by
  have hd := Int.emod_add_mul_ediv x a
  have hn := Int.emod_add_mul_ediv n a
  have h3 := Int.emod_nonneg n (show a ≠ 0 by omega)
  have h4 := Int.emod_lt_of_pos n a0
  rw [hx] at hd
  unfold upB upV
  rw [if_pos hp, if_pos hp]
  by_cases c : n % a = 0
  · rw [if_pos c, if_pos c]
    refine ⟨rfl, ?_⟩
    have : a * (x / a) = a * (n / a) := by
      have hq : x / a = n / a := by
        apply Int.le_antisymm
        · apply Int.le_of_lt_add_one
          apply Int.lt_of_mul_lt_mul_left (a := a) _ (by omega)
          rw [Int.mul_add]; omega
        · apply Int.le_of_mul_le_mul_left (a := a) _ a0
          omega
      rw [hq]
    omega
  · rw [if_neg c, if_neg c]
    have hq : x / a = n / a + 1 := by
      apply Int.le_antisymm
      · apply Int.le_of_lt_add_one
        apply Int.lt_of_mul_lt_mul_left (a := a) _ (by omega)
        rw [Int.mul_add, Int.mul_add]; omega
      · apply Int.add_one_le_of_lt
        apply Int.lt_of_mul_lt_mul_left (a := a) _ (by omega)
        omega
    rw [hq, Int.mul_add] at hd
    have hs : n + (a - n % a) ≤ 18446744073709551615 := by omega
    exact ⟨decide_eq_true hs, by unfold addV; rw [if_pos hs]; omega⟩

end Go.Proofs.Ytkiamhpnngehaaa.Plain
