/- Without alignment bytes in two parts lie as those at once do; what fits by a great alignment fits by a lesser one, at no greater place: for every cursor at a number of 32 bits with a rest of 16 bits, all sizes of 16 bits and all alignments up to a page; no further condition. -/
import Derived.Test.YtaodlkpknipkmaaPBumpTwicex2
import Derived.Test.YtaodlkpknipkmaaBitsFacts
import Derived.Test.YtaodlkpknipkmaaBumpWalks
namespace Go.Proofs.Ytaodlkpknipkmaa.Pure
open Go.RowKit Go.Proofs.Ytaodlkpknipkmaa.PBumpTwice Go.Proofs.YtaodlkpknipkmaaW.PrintWords Go.Proofs.YtaodlkpknipkmaaW.PrintLast Go.Proofs.YtaodlkpknipkmaaW.PrintMore Go.Proofs.Ytaodlkpknipkmaa.Plain
set_option linter.unusedVariables false
set_option linter.unusedSimpArgs false
namespace BumpTwiceP

theorem shl_one {k : Int} (h0 : 0 ≤ k) (h1 : k < 64) : shl .u64 1 k = 2 ^ k.toNat := by
  unfold shl
  rw [show min k.toNat IntKind.u64.bits = k.toNat from by show min k.toNat 64 = _; omega, Int.one_mul]
  have hc : ((2 ^ k.toNat : Nat) : Int) = 2 ^ k.toNat := by simp
  have hb : 2 ^ k.toNat ≤ 2 ^ 63 := Nat.pow_le_pow_right (by omega) (by omega)
  have hp : 0 < 2 ^ k.toNat := Nat.two_pow_pos _
  rw [← hc, u64w (by omega) (by omega)]
theorem pow_facts (k : Nat) (h : k < 64) : powB (2 ^ k) = true ∧ (0 : Int) < 2 ^ k ∧ (2 : Int) ^ k ≤ 9223372036854775808 := by
  have hc : ((2 ^ k : Nat) : Int) = 2 ^ k := by simp
  have hb : 2 ^ k ≤ 2 ^ 63 := Nat.pow_le_pow_right (by omega) (by omega)
  have hp : 0 < 2 ^ k := Nat.two_pow_pos _
  refine ⟨(powB_iff (by omega)).2 ⟨k, rfl⟩, by omega, by omega⟩
theorem pow_dvd {k j : Nat} (h : k ≤ j) : (2 : Int) ^ k ∣ 2 ^ j := ⟨2 ^ (j - k), by rw [← Int.pow_add]; congr 1; omega⟩

open Hand in
theorem fit_f {t e s a : Int} (t0 : 0 ≤ t) (t1 : t ≤ 18446744073709551615) (e0 : 0 ≤ e) (e1 : e ≤ 18446744073709551615) (s0 : 0 ≤ s) (s1 : s ≤ 18446744073709551615) (a0 : 0 ≤ a) (a1 : a ≤ 18446744073709551615) :
    bump_Fit.f t e s a = some (fitS t e s a, fitN t e s a, fitE t e s a, fitP t e s a, fitB t e s a) := if_pos ⟨t0, t1, e0, e1, s0, s1, a0, a1⟩
theorem left_f {a b : Int} (a0 : 0 ≤ a) (b1 : b ≤ 18446744073709551615) : bump_Left.f a b = some (if a > b then 0 else b - a) := by
  unfold bump_Left.f
  by_cases c : (a == 0 && (b == 0)) = true
  · rw [if_pos c]
    simp only [Bool.and_eq_true, beq_iff_eq] at c
    rw [if_neg (by omega)]
    congr 1
    omega
  · rw [if_neg c]
    by_cases h : a > b
    · rw [if_pos h, if_pos h]
    · rw [if_neg h, if_neg h, u64w (by omega) (by omega)]
open Hand in
theorem of_f {p n : Int} (p0 : -9223372036854775808 ≤ p) (p1 : p ≤ 9223372036854775807) (n0 : -9223372036854775808 ≤ n) (n1 : n ≤ 9223372036854775807) :
    bump_Of.f p n = some (ofA p n, ofE p n) := if_pos ⟨p0, p1, n0, n1⟩
theorem pow_two (k : Nat) : powB (2 ^ k) = true := (powB_iff (Int.le_of_lt (Int.pow_pos (by decide)))).2 ⟨k, rfl⟩
open Hand in
theorem awake_f : steadinglaw11_awake.f = some true := by
  have ho : ofB 1 1 = true := rfl
  have hA : ofA 1 1 = 4128 := rfl
  have hE : ofE 1 1 = 8192 := rfl
  obtain ⟨u1, u2⟩ := up_unique (n := 4128) (a := 64) (x := 4160) (by omega) (by omega) (pow_two 6) rfl (by omega) (by omega) (by omega)
  have hf := fit_yes (t := 4128) (e := 8192) (s := 10) (a := 64) ⟨u1, by omega, by omega, by omega⟩
  rw [u2] at hf
  unfold steadinglaw11_awake.f
  rw [of_f (by omega) (by omega) (by omega) (by omega), hA, hE]
  simp only [Option.bind_some]
  rw [fit_f (by omega) (by omega) (by omega) (by omega) (by omega) (by omega) (by omega) (by omega), hf.1, hf.2.1, hf.2.2.1, hf.2.2.2.1, hf.2.2.2.2]
  simp only [Option.bind_some]
  rw [left_f (by omega) (by omega)]
  rfl

theorem pow13 {k : Nat} (h : k ≤ 12) : (2 : Int) ^ k ≤ 4096 ∧ (0 : Int) < 2 ^ k := by
  have hk : k = 0 ∨ k = 1 ∨ k = 2 ∨ k = 3 ∨ k = 4 ∨ k = 5 ∨ k = 6 ∨ k = 7 ∨ k = 8 ∨ k = 9 ∨ k = 10 ∨ k = 11 ∨ k = 12 := by omega
  rcases hk with rfl | rfl | rfl | rfl | rfl | rfl | rfl | rfl | rfl | rfl | rfl | rfl | rfl <;> decide
theorem up_mono {n a b : Int} (n0 : 0 ≤ n) (a0 : 0 < a) (pa : powB a = true) (b0 : 0 < b) (pb : powB b = true) (hd : a ∣ b) (ha : upB n a = true) (hb : upB n b = true) : upV n a ≤ upV n b := by
  obtain ⟨h1, h2, h3⟩ := up_spec n0 a0 pa ha
  obtain ⟨m1, m2, m3⟩ := up_spec n0 b0 pb hb
  have hm : upV n b % a = 0 := by
    have := Int.emod_emod_of_dvd (upV n b) hd
    rw [m1, Int.zero_emod] at this
    exact this.symm
  have e1 := Int.emod_add_mul_ediv (upV n a) a
  have e2 := Int.emod_add_mul_ediv (upV n b) a
  rw [h1] at e1
  rw [hm] at e2
  apply Classical.byContradiction
  intro hlt
  have q1 : upV n b / a < upV n a / a := by
    apply Int.lt_of_mul_lt_mul_left (a := a) _ (by omega)
    omega
  have q2 : a * (upV n b / a + 1) ≤ a * (upV n a / a) := Int.mul_le_mul_of_nonneg_left (by omega) (by omega)
  rw [Int.mul_add] at q2
  omega

theorem up_one {n : Int} (n0 : 0 ≤ n) (n1 : n ≤ 18446744073709551615) : upB n 1 = true ∧ upV n 1 = n :=
  up_unique n0 (by omega) (pow_two 0) (by omega) (by omega) (by omega) n1
open Hand in
theorem fit_one {t e s : Int} (t0 : 0 ≤ t) (t1 : t ≤ 18446744073709551615) (h : t + s ≤ e) (e1 : e ≤ 18446744073709551615) (hs : 1 ≤ s) : FitEq t e s 1 t (t + s) e 0 true := by
  obtain ⟨u1, u2⟩ := up_one t0 t1
  have := fit_yes (t := t) (e := e) (s := s) (a := 1) ⟨u1, by omega, by omega, by omega⟩
  rw [u2, show t - t = 0 from by omega] at this
  exact this
open Hand in
theorem fit_one_no {t e s : Int} (t0 : 0 ≤ t) (t1 : t ≤ 18446744073709551615) (h : ¬ t + s ≤ e) : FitEq t e s 1 0 0 0 0 false := by
  obtain ⟨u1, u2⟩ := up_one t0 t1
  exact fit_no (fun g => by rw [u2] at g; omega)
open Hand in
theorem second (k : Nat) {j i x t e : Int} (j0 : 0 ≤ j) (i0 : 0 ≤ i) (x0 : 1 ≤ x) (x1 : x ≤ 65536) (t0 : 0 ≤ t) (t1 : t ≤ 4294967295) (e0 : 0 ≤ e) (e1 : e ≤ 4295032830) :
    steadinglaw11_BumpTwice.j0 (k + 1) j i x false t e = some true := by
  simp only [steadinglaw11_BumpTwice.j0]
  rw [if_neg (by decide), Int.tmod_eq_emod_of_nonneg j0, Int.tmod_eq_emod_of_nonneg i0]
  have hmn : 0 ≤ mn (j % 13) (i % 13) ∧ mn (j % 13) (i % 13) ≤ mx (j % 13) (i % 13) ∧ mx (j % 13) (i % 13) ≤ 12 := by
    unfold mn mx
    split <;> split <;> omega
  generalize mn (j % 13) (i % 13) = p at *
  generalize mx (j % 13) (i % 13) = q at *
  obtain ⟨h1, h2, h3⟩ := hmn
  rw [if_pos h1, if_pos (by omega), shl_one (by omega) (by omega), shl_one (by omega) (by omega)]
  have pa := pow_two p.toNat
  have pb := pow_two q.toNat
  obtain ⟨a1, a0⟩ := pow13 (k := p.toNat) (by omega)
  obtain ⟨b1, b0⟩ := pow13 (k := q.toNat) (by omega)
  have hd : (2 : Int) ^ p.toNat ∣ 2 ^ q.toNat := pow_dvd (by omega)
  generalize (2 : Int) ^ p.toNat = a at *
  generalize (2 : Int) ^ q.toNat = b at *
  have ha := up_ok (n := t) a0 pa (by omega) (by omega)
  have hb := up_ok (n := t) b0 pb (by omega) (by omega)
  have hm := up_mono t0 a0 pa b0 pb hd ha hb
  have sb := up_spec t0 b0 pb hb
  rw [fit_f t0 (by omega) e0 (by omega) (by omega) (by omega) (by omega) (by omega), fit_f t0 (by omega) e0 (by omega) (by omega) (by omega) (by omega) (by omega)]
  simp only [Option.bind_some]
  by_cases c : upV t b + x ≤ e
  · have hy := fit_yes (t := t) (e := e) (s := x) (a := b) ⟨hb, by omega, by omega, c⟩
    have hz := fit_yes (t := t) (e := e) (s := x) (a := a) ⟨ha, by omega, by omega, by omega⟩
    rw [hy.2.2.2.2, hz.2.2.2.2, hy.1, hz.1, if_pos rfl, if_pos rfl]
    congr 1
    exact decide_eq_true hm
  · have hn := fit_no (t := t) (e := e) (s := x) (a := b) (fun h => c h.2.2.2)
    rw [hn.2.2.2.2]
    rfl
end BumpTwiceP
open BumpTwiceP
open Hand in
theorem BumpTwice : steadinglaw11_BumpTwice.Pure := by
  intro t l a b j i wt wl wa wb wj wi
  obtain ⟨t0, t1⟩ := wf_u32 wt
  obtain ⟨l0, l1⟩ := wf_u16 wl
  obtain ⟨a0, a1⟩ := wf_u16 wa
  obtain ⟨b0, b1⟩ := wf_u16 wb
  obtain ⟨j0, j1⟩ := wf_u8 wj
  obtain ⟨i0, i1⟩ := wf_u8 wi
  refine ⟨1, ?_⟩
  unfold steadinglaw11_BumpTwice.f
  rw [awake_f]
  simp only [Option.bind_some]
  rw [if_pos trivial, u64w (n := t) (by omega) (by omega), u64w (n := l) (by omega) (by omega), u64w (n := a) (by omega) (by omega), u64w (n := b) (by omega) (by omega), u64w (n := t + l) (by omega) (by omega), u64w (n := a + 1) (by omega) (by omega), u64w (n := b + 1) (by omega) (by omega), u64w (n := a + 1 + (b + 1)) (by omega) (by omega)]
  rw [fit_f t0 (by omega) (by omega) (by omega) (by omega) (by omega) (by omega) (by omega)]
  simp only [Option.bind_some]
  have hs := second 0 (j := j) (i := i) (x := a + 1) (t := t) (e := t + l) j0 i0 (by omega) (by omega) t0 (by omega) (by omega) (by omega)
  by_cases c1 : t + (a + 1) ≤ t + l
  · have f1 := fit_one (t := t) (e := t + l) (s := a + 1) t0 (by omega) c1 (by omega) (by omega)
    rw [f1.1, f1.2.1, f1.2.2.1, f1.2.2.2.1, f1.2.2.2.2]
    rw [fit_f (by omega) (by omega) (by omega) (by omega) (by omega) (by omega) (by omega) (by omega)]
    simp only [Option.bind_some]
    rw [fit_f (by omega) (by omega) (by omega) (by omega) (by omega) (by omega) (by omega) (by omega)]
    simp only [Option.bind_some]
    by_cases c2 : t + (a + 1) + (b + 1) ≤ t + l
    · have f2 := fit_one (t := t + (a + 1)) (e := t + l) (s := b + 1) (by omega) (by omega) c2 (by omega) (by omega)
      have f3 := fit_one (t := t) (e := t + l) (s := a + 1 + (b + 1)) t0 (by omega) (by omega) (by omega) (by omega)
      simp only [f2.1, f2.2.1, f2.2.2.1, f2.2.2.2.1, f2.2.2.2.2, f3.1, f3.2.1, f3.2.2.1, f3.2.2.2.1, f3.2.2.2.2]
      rw [show t + (a + 1 + (b + 1)) = t + (a + 1) + (b + 1) from by omega]
      have hw : ((IntKind.u64.wrap (IntKind.u64.wrap 0)) != 0) = false := by rw [u64w (n := 0) (by omega) (by omega), u64w (by omega) (by omega)]; rfl
      simpa [hw] using hs
    · have f2 := fit_one_no (t := t + (a + 1)) (e := t + l) (s := b + 1) (by omega) (by omega) c2
      have f3 := fit_one_no (t := t) (e := t + l) (s := a + 1 + (b + 1)) t0 (by omega) (by omega)
      simp only [f2.1, f2.2.1, f2.2.2.1, f2.2.2.2.1, f2.2.2.2.2, f3.1, f3.2.1, f3.2.2.1, f3.2.2.2.1, f3.2.2.2.2]
      simpa using hs
  · have f1 := fit_one_no (t := t) (e := t + l) (s := a + 1) t0 (by omega) c1
    rw [f1.1, f1.2.1, f1.2.2.1, f1.2.2.2.1, f1.2.2.2.2]
    rw [fit_f (by omega) (by omega) (by omega) (by omega) (by omega) (by omega) (by omega) (by omega)]
    simp only [Option.bind_some]
    rw [fit_f (by omega) (by omega) (by omega) (by omega) (by omega) (by omega) (by omega) (by omega)]
    simp only [Option.bind_some]
    have f2 := fit_one_no (t := 0) (e := 0) (s := b + 1) (by omega) (by omega) (by omega)
    have f3 := fit_one_no (t := t) (e := t + l) (s := a + 1 + (b + 1)) t0 (by omega) (by omega)
    simp only [f2.1, f2.2.1, f2.2.2.1, f2.2.2.2.1, f2.2.2.2.2, f3.1, f3.2.1, f3.2.2.1, f3.2.2.2.1, f3.2.2.2.2]
    simpa using hs

end Go.Proofs.Ytaodlkpknipkmaa.Pure
