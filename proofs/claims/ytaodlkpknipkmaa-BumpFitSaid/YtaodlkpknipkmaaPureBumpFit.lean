/- For every cursor, every number of bytes and every alignment, where bytes are made, the cursor behind them and the padding, or that they don't fit, are the document's; no further condition. -/
import Derived.Test.YtaodlkpknipkmaaPBumpFitx2
import Derived.Test.YtaodlkpknipkmaaBitsFacts
import Derived.Test.YtaodlkpknipkmaaBumpWalks
namespace Go.Proofs.Ytaodlkpknipkmaa.Pure
open Go.RowKit Go.Proofs.Ytaodlkpknipkmaa.PBumpFit Go.Proofs.YtaodlkpknipkmaaW.PrintWords Go.Proofs.YtaodlkpknipkmaaW.PrintLast Go.Proofs.YtaodlkpknipkmaaW.PrintMore Go.Proofs.Ytaodlkpknipkmaa.Plain
set_option linter.unusedVariables false
set_option linter.unusedSimpArgs false
namespace BumpFitP

open Hand in
theorem fit_f {t e s a : Int} (t0 : 0 ≤ t) (t1 : t ≤ 18446744073709551615) (e0 : 0 ≤ e) (e1 : e ≤ 18446744073709551615) (s0 : 0 ≤ s) (s1 : s ≤ 18446744073709551615) (a0 : 0 ≤ a) (a1 : a ≤ 18446744073709551615) :
    bump_Fit.f t e s a = some (fitS t e s a, fitN t e s a, fitE t e s a, fitP t e s a, fitB t e s a) := if_pos ⟨t0, t1, e0, e1, s0, s1, a0, a1⟩
theorem left_f {a b : Int} (a0 : 0 ≤ a) (b1 : b ≤ 18446744073709551615) : bump_Left.f a b = some (if a > b then 0 else b - a) := by
  unfold bump_Left.f
  by_cases c : (a == 0 && (b == 0)) = true
  · rw [if_pos c]
    simp only [Bool.and_eq_true, beq_iff_eq] at c
    rw [if_neg (by omega)]
    congr 1
    omega
  · rw [if_neg c]
    by_cases h : a > b
    · rw [if_pos h, if_pos h]
    · rw [if_neg h, if_neg h, u64w (by omega) (by omega)]
open Hand in
theorem of_f {p n : Int} (p0 : -9223372036854775808 ≤ p) (p1 : p ≤ 9223372036854775807) (n0 : -9223372036854775808 ≤ n) (n1 : n ≤ 9223372036854775807) :
    bump_Of.f p n = some (ofA p n, ofE p n) := if_pos ⟨p0, p1, n0, n1⟩
theorem pow_two (k : Nat) : powB (2 ^ k) = true := (powB_iff (Int.le_of_lt (Int.pow_pos (by decide)))).2 ⟨k, rfl⟩
open Hand in
theorem awake_f : steadinglaw11_awake.f = some true := by
  have ho : ofB 1 1 = true := rfl
  have hA : ofA 1 1 = 4128 := rfl
  have hE : ofE 1 1 = 8192 := rfl
  obtain ⟨u1, u2⟩ := up_unique (n := 4128) (a := 64) (x := 4160) (by omega) (by omega) (pow_two 6) rfl (by omega) (by omega) (by omega)
  have hf := fit_yes (t := 4128) (e := 8192) (s := 10) (a := 64) ⟨u1, by omega, by omega, by omega⟩
  rw [u2] at hf
  unfold steadinglaw11_awake.f
  rw [of_f (by omega) (by omega) (by omega) (by omega), hA, hE]
  simp only [Option.bind_some]
  rw [fit_f (by omega) (by omega) (by omega) (by omega) (by omega) (by omega) (by omega) (by omega), hf.1, hf.2.1, hf.2.2.1, hf.2.2.2.1, hf.2.2.2.2]
  simp only [Option.bind_some]
  rw [left_f (by omega) (by omega)]
  rfl

open Hand in
theorem rfit_f {t e s a : Int} (t0 : 0 ≤ t) (t1 : t ≤ 18446744073709551615) (e0 : 0 ≤ e) (e1 : e ≤ 18446744073709551615) (s0 : 0 ≤ s) (s1 : s ≤ 18446744073709551615) (a0 : 0 ≤ a) (a1 : a ≤ 18446744073709551615) :
    steadingref11_Fit.f t e s a = some (fitS t e s a, fitN t e s a, fitE t e s a, fitP t e s a, fitB t e s a) := if_pos ⟨t0, t1, e0, e1, s0, s1, a0, a1⟩
end BumpFitP
open BumpFitP
theorem BumpFit : steadinglaw11_BumpFit.Pure := by
  intro t e s a wt we ws wa
  obtain ⟨t0, t1⟩ := wf_u64 wt
  obtain ⟨e0, e1⟩ := wf_u64 we
  obtain ⟨s0, s1⟩ := wf_u64 ws
  obtain ⟨a0, a1⟩ := wf_u64 wa
  unfold steadinglaw11_BumpFit.f
  rw [awake_f, fit_f t0 t1 e0 e1 s0 s1 a0 a1, rfit_f t0 t1 e0 e1 s0 s1 a0 a1]
  simp

end Go.Proofs.Ytaodlkpknipkmaa.Pure
