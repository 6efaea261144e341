/- Just as many bytes fit as are left behind the padding, and one more does not: for every cursor at a number of 32 bits with a rest of 16 bits, by every alignment up to a page; no further condition. -/
import Derived.Test.YtaodlkpknipkmaaPBumpLastx2
import Derived.Test.YtaodlkpknipkmaaBitsFacts
import Derived.Test.YtaodlkpknipkmaaBumpWalks
namespace Go.Proofs.Ytaodlkpknipkmaa.Pure
open Go.RowKit Go.Proofs.Ytaodlkpknipkmaa.PBumpLast Go.Proofs.YtaodlkpknipkmaaW.PrintWords Go.Proofs.YtaodlkpknipkmaaW.PrintLast Go.Proofs.YtaodlkpknipkmaaW.PrintMore Go.Proofs.Ytaodlkpknipkmaa.Plain
set_option linter.unusedVariables false
set_option linter.unusedSimpArgs false
namespace BumpLastP

theorem shl_one {k : Int} (h0 : 0 ≤ k) (h1 : k < 64) : shl .u64 1 k = 2 ^ k.toNat := by
  unfold shl
  rw [show min k.toNat IntKind.u64.bits = k.toNat from by show min k.toNat 64 = _; omega, Int.one_mul]
  have hc : ((2 ^ k.toNat : Nat) : Int) = 2 ^ k.toNat := by simp
  have hb : 2 ^ k.toNat ≤ 2 ^ 63 := Nat.pow_le_pow_right (by omega) (by omega)
  have hp : 0 < 2 ^ k.toNat := Nat.two_pow_pos _
  rw [← hc, u64w (by omega) (by omega)]
theorem pow_facts (k : Nat) (h : k < 64) : powB (2 ^ k) = true ∧ (0 : Int) < 2 ^ k ∧ (2 : Int) ^ k ≤ 9223372036854775808 := by
  have hc : ((2 ^ k : Nat) : Int) = 2 ^ k := by simp
  have hb : 2 ^ k ≤ 2 ^ 63 := Nat.pow_le_pow_right (by omega) (by omega)
  have hp : 0 < 2 ^ k := Nat.two_pow_pos _
  refine ⟨(powB_iff (by omega)).2 ⟨k, rfl⟩, by omega, by omega⟩
theorem pow_dvd {k j : Nat} (h : k ≤ j) : (2 : Int) ^ k ∣ 2 ^ j := ⟨2 ^ (j - k), by rw [← Int.pow_add]; congr 1; omega⟩

open Hand in
theorem fit_f {t e s a : Int} (t0 : 0 ≤ t) (t1 : t ≤ 18446744073709551615) (e0 : 0 ≤ e) (e1 : e ≤ 18446744073709551615) (s0 : 0 ≤ s) (s1 : s ≤ 18446744073709551615) (a0 : 0 ≤ a) (a1 : a ≤ 18446744073709551615) :
    bump_Fit.f t e s a = some (fitS t e s a, fitN t e s a, fitE t e s a, fitP t e s a, fitB t e s a) := if_pos ⟨t0, t1, e0, e1, s0, s1, a0, a1⟩
theorem left_f {a b : Int} (a0 : 0 ≤ a) (b1 : b ≤ 18446744073709551615) : bump_Left.f a b = some (if a > b then 0 else b - a) := by
  unfold bump_Left.f
  by_cases c : (a == 0 && (b == 0)) = true
  · rw [if_pos c]
    simp only [Bool.and_eq_true, beq_iff_eq] at c
    rw [if_neg (by omega)]
    congr 1
    omega
  · rw [if_neg c]
    by_cases h : a > b
    · rw [if_pos h, if_pos h]
    · rw [if_neg h, if_neg h, u64w (by omega) (by omega)]
open Hand in
theorem of_f {p n : Int} (p0 : -9223372036854775808 ≤ p) (p1 : p ≤ 9223372036854775807) (n0 : -9223372036854775808 ≤ n) (n1 : n ≤ 9223372036854775807) :
    bump_Of.f p n = some (ofA p n, ofE p n) := if_pos ⟨p0, p1, n0, n1⟩
theorem pow_two (k : Nat) : powB (2 ^ k) = true := (powB_iff (Int.le_of_lt (Int.pow_pos (by decide)))).2 ⟨k, rfl⟩
open Hand in
theorem awake_f : steadinglaw11_awake.f = some true := by
  have ho : ofB 1 1 = true := rfl
  have hA : ofA 1 1 = 4128 := rfl
  have hE : ofE 1 1 = 8192 := rfl
  obtain ⟨u1, u2⟩ := up_unique (n := 4128) (a := 64) (x := 4160) (by omega) (by omega) (pow_two 6) rfl (by omega) (by omega) (by omega)
  have hf := fit_yes (t := 4128) (e := 8192) (s := 10) (a := 64) ⟨u1, by omega, by omega, by omega⟩
  rw [u2] at hf
  unfold steadinglaw11_awake.f
  rw [of_f (by omega) (by omega) (by omega) (by omega), hA, hE]
  simp only [Option.bind_some]
  rw [fit_f (by omega) (by omega) (by omega) (by omega) (by omega) (by omega) (by omega) (by omega), hf.1, hf.2.1, hf.2.2.1, hf.2.2.2.1, hf.2.2.2.2]
  simp only [Option.bind_some]
  rw [left_f (by omega) (by omega)]
  rfl

theorem pow13 {k : Nat} (h : k ≤ 12) : (2 : Int) ^ k ≤ 4096 ∧ (0 : Int) < 2 ^ k := by
  have hk : k = 0 ∨ k = 1 ∨ k = 2 ∨ k = 3 ∨ k = 4 ∨ k = 5 ∨ k = 6 ∨ k = 7 ∨ k = 8 ∨ k = 9 ∨ k = 10 ∨ k = 11 ∨ k = 12 := by omega
  rcases hk with rfl | rfl | rfl | rfl | rfl | rfl | rfl | rfl | rfl | rfl | rfl | rfl | rfl <;> decide
theorem up_mono {n a b : Int} (n0 : 0 ≤ n) (a0 : 0 < a) (pa : powB a = true) (b0 : 0 < b) (pb : powB b = true) (hd : a ∣ b) (ha : upB n a = true) (hb : upB n b = true) : upV n a ≤ upV n b := by
  obtain ⟨h1, h2, h3⟩ := up_spec n0 a0 pa ha
  obtain ⟨m1, m2, m3⟩ := up_spec n0 b0 pb hb
  have hm : upV n b % a = 0 := by
    have := Int.emod_emod_of_dvd (upV n b) hd
    rw [m1, Int.zero_emod] at this
    exact this.symm
  have e1 := Int.emod_add_mul_ediv (upV n a) a
  have e2 := Int.emod_add_mul_ediv (upV n b) a
  rw [h1] at e1
  rw [hm] at e2
  apply Classical.byContradiction
  intro hlt
  have q1 : upV n b / a < upV n a / a := by
    apply Int.lt_of_mul_lt_mul_left (a := a) _ (by omega)
    omega
  have q2 : a * (upV n b / a + 1) ≤ a * (upV n a / a) := Int.mul_le_mul_of_nonneg_left (by omega) (by omega)
  rw [Int.mul_add] at q2
  omega

end BumpLastP
open BumpLastP
open Hand in
theorem BumpLast : steadinglaw11_BumpLast.Pure := by
  intro t l k wt wl wk
  obtain ⟨t0, t1⟩ := wf_u32 wt
  obtain ⟨l0, l1⟩ := wf_u16 wl
  obtain ⟨k0, k1⟩ := wf_u8 wk
  unfold steadinglaw11_BumpLast.f
  rw [awake_f, Int.tmod_eq_emod_of_nonneg k0]
  simp only [Option.bind_some]
  rw [if_pos trivial, if_pos (by omega), shl_one (by omega) (by omega)]
  have hK : (k % 13).toNat ≤ 12 := by omega
  generalize (k % 13).toNat = K at *
  have pa := pow_two K
  obtain ⟨a1, a0⟩ := pow13 hK
  generalize (2 : Int) ^ K = a at *
  rw [if_neg (by omega), u64w (n := t) (by omega) (by omega), u64w (n := l) (by omega) (by omega), u64w (n := t + l) (by omega) (by omega), u64w (n := t + a) (by omega) (by omega), u64w (n := t + a - 1) (by omega) (by omega), Int.tdiv_eq_ediv_of_nonneg (by omega)]
  have e1 := Int.emod_add_mul_ediv (t + a - 1) a
  have e2 := Int.emod_nonneg (t + a - 1) (show a ≠ 0 by omega)
  have e3 := Int.emod_lt_of_pos (t + a - 1) a0
  have em : (t + a - 1) / a * a = a * ((t + a - 1) / a) := Int.mul_comm _ _
  have ed : 0 ≤ (t + a - 1) / a := Int.ediv_nonneg (by omega) (by omega)
  have eq : (t + a - 1) / a ≤ t + a - 1 := Int.ediv_le_self _ (by omega)
  rw [u64w (n := (t + a - 1) / a) (by omega) (by omega), em]
  have hx : a * ((t + a - 1) / a) % a = 0 := Int.mul_emod_right _ _
  generalize a * ((t + a - 1) / a) = x at *
  rw [u64w (n := x) (by omega) (by omega)]
  obtain ⟨u1, u2⟩ := up_unique (n := t) (a := a) (x := x) t0 a0 pa hx (by omega) (by omega) (by omega)
  by_cases c : x ≥ t + l
  · rw [if_pos c, fit_f (by omega) (by omega) (by omega) (by omega) (by omega) (by omega) (by omega) (by omega)]
    simp only [Option.bind_some]
    have hn := fit_no (t := t) (e := t + l) (s := 1) (a := a) (fun h => by rw [u2] at h; omega)
    rw [hn.2.2.2.2]
    rfl
  · rw [if_neg c, u64w (n := t + l - x) (by omega) (by omega), u64w (n := t + l - x + 1) (by omega) (by omega), fit_f (by omega) (by omega) (by omega) (by omega) (by omega) (by omega) (by omega) (by omega), fit_f (by omega) (by omega) (by omega) (by omega) (by omega) (by omega) (by omega) (by omega)]
    simp only [Option.bind_some]
    have hy := fit_yes (t := t) (e := t + l) (s := t + l - x) (a := a) ⟨u1, by omega, by omega, by omega⟩
    have hn := fit_no (t := t) (e := t + l) (s := t + l - x + 1) (a := a) (fun h => by rw [u2] at h; omega)
    rw [u2] at hy
    rw [hy.2.2.2.2, hy.1, hy.2.1, hy.2.2.1, hn.2.2.2.2, if_pos rfl, if_pos rfl, left_f (by omega) (by omega)]
    simp only [Option.bind_some]
    rw [if_pos (by split <;> omega)]
    rfl

end Go.Proofs.Ytaodlkpknipkmaa.Pure
