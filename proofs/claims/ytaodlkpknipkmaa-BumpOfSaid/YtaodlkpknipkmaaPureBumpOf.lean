/- For every page and number of pages the cursor of a chunk, and for every cursor how many bytes are left, are the document's; no further condition. -/
import Derived.Test.YtaodlkpknipkmaaPBumpOfx2
import Derived.Test.YtaodlkpknipkmaaBitsFacts
import Derived.Test.YtaodlkpknipkmaaBumpWalks
namespace Go.Proofs.Ytaodlkpknipkmaa.Pure
open Go.RowKit Go.Proofs.Ytaodlkpknipkmaa.PBumpOf Go.Proofs.YtaodlkpknipkmaaW.PrintWords Go.Proofs.YtaodlkpknipkmaaW.PrintLast Go.Proofs.YtaodlkpknipkmaaW.PrintMore Go.Proofs.Ytaodlkpknipkmaa.Plain
set_option linter.unusedVariables false
set_option linter.unusedSimpArgs false
namespace BumpOfP

open Hand in
theorem fit_f {t e s a : Int} (t0 : 0 ≤ t) (t1 : t ≤ 18446744073709551615) (e0 : 0 ≤ e) (e1 : e ≤ 18446744073709551615) (s0 : 0 ≤ s) (s1 : s ≤ 18446744073709551615) (a0 : 0 ≤ a) (a1 : a ≤ 18446744073709551615) :
    bump_Fit.f t e s a = some (fitS t e s a, fitN t e s a, fitE t e s a, fitP t e s a, fitB t e s a) := if_pos ⟨t0, t1, e0, e1, s0, s1, a0, a1⟩
theorem left_f {a b : Int} (a0 : 0 ≤ a) (b1 : b ≤ 18446744073709551615) : bump_Left.f a b = some (if a > b then 0 else b - a) := by
  unfold bump_Left.f
  by_cases c : (a == 0 && (b == 0)) = true
  · rw [if_pos c]
    simp only [Bool.and_eq_true, beq_iff_eq] at c
    rw [if_neg (by omega)]
    congr 1
    omega
  · rw [if_neg c]
    by_cases h : a > b
    · rw [if_pos h, if_pos h]
    · rw [if_neg h, if_neg h, u64w (by omega) (by omega)]
open Hand in
theorem of_f {p n : Int} (p0 : -9223372036854775808 ≤ p) (p1 : p ≤ 9223372036854775807) (n0 : -9223372036854775808 ≤ n) (n1 : n ≤ 9223372036854775807) :
    bump_Of.f p n = some (ofA p n, ofE p n) := if_pos ⟨p0, p1, n0, n1⟩
theorem pow_two (k : Nat) : powB (2 ^ k) = true := (powB_iff (Int.le_of_lt (Int.pow_pos (by decide)))).2 ⟨k, rfl⟩
open Hand in
theorem awake_f : steadinglaw11_awake.f = some true := by
  have ho : ofB 1 1 = true := rfl
  have hA : ofA 1 1 = 4128 := rfl
  have hE : ofE 1 1 = 8192 := rfl
  obtain ⟨u1, u2⟩ := up_unique (n := 4128) (a := 64) (x := 4160) (by omega) (by omega) (pow_two 6) rfl (by omega) (by omega) (by omega)
  have hf := fit_yes (t := 4128) (e := 8192) (s := 10) (a := 64) ⟨u1, by omega, by omega, by omega⟩
  rw [u2] at hf
  unfold steadinglaw11_awake.f
  rw [of_f (by omega) (by omega) (by omega) (by omega), hA, hE]
  simp only [Option.bind_some]
  rw [fit_f (by omega) (by omega) (by omega) (by omega) (by omega) (by omega) (by omega) (by omega), hf.1, hf.2.1, hf.2.2.1, hf.2.2.2.1, hf.2.2.2.2]
  simp only [Option.bind_some]
  rw [left_f (by omega) (by omega)]
  rfl

open Hand in
theorem rof_f {p n : Int} (p0 : -9223372036854775808 ≤ p) (p1 : p ≤ 9223372036854775807) (n0 : -9223372036854775808 ≤ n) (n1 : n ≤ 9223372036854775807) :
    steadingref11_Of.f p n = some (ofA p n, ofE p n) := by
  unfold steadingref11_Of.f
  have no : ¬ (0 ≤ p ∧ 1 ≤ n ∧ n ≤ 1048576 ∧ p + n ≤ 1048576) → some ((0 : Int), (0 : Int)) = some (ofA p n, ofE p n) := by
    intro h
    unfold ofA ofE
    rw [of_no h]
    rfl
  by_cases c1 : p < 0
  · rw [if_pos c1]; exact no (by omega)
  · rw [if_neg c1]
    by_cases c2 : n < 1
    · rw [if_pos c2]; exact no (by omega)
    · rw [if_neg c2]
      by_cases c3 : p > 1048576
      · rw [if_pos c3]; exact no (by omega)
      · rw [if_neg c3, show wrap64 (1048576 - p) = 1048576 - p from by unfold wrap64; omega]
        by_cases c4 : n > 1048576 - p
        · rw [if_pos c4]; exact no (by omega)
        · have hb := of_yes (p := p) (n := n) (by omega) (by omega) (by omega) (by omega)
          rw [if_neg c4, u64w (n := p) (by omega) (by omega), u64w (n := n) (by omega) (by omega), u64w (n := p * 4096) (by omega) (by omega), u64w (n := n * 4096) (by omega) (by omega), u64w (n := p * 4096 + 32) (by omega) (by omega), u64w (n := p * 4096 + n * 4096) (by omega) (by omega)]
          unfold ofA ofE
          rw [if_pos hb, if_pos hb]
          congr 2
          omega
theorem rleft_f {a b : Int} (a0 : 0 ≤ a) (b1 : b ≤ 18446744073709551615) : steadingref11_Left.f a b = some (if a > b then 0 else b - a) := by
  unfold steadingref11_Left.f
  by_cases h : a > b
  · rw [if_pos h, if_pos h]
  · rw [if_neg h, if_neg h, u64w (by omega) (by omega)]
end BumpOfP
open BumpOfP
theorem BumpOf : steadinglaw11_BumpOf.Pure := by
  intro p n a b wp wn wa wb
  obtain ⟨p0, p1⟩ := wf_i64 wp
  obtain ⟨n0, n1⟩ := wf_i64 wn
  obtain ⟨a0, a1⟩ := wf_u64 wa
  obtain ⟨b0, b1⟩ := wf_u64 wb
  unfold steadinglaw11_BumpOf.f
  rw [awake_f, of_f p0 p1 n0 n1, rof_f p0 p1 n0 n1, left_f a0 b1, rleft_f a0 b1]
  simp

end Go.Proofs.Ytaodlkpknipkmaa.Pure
