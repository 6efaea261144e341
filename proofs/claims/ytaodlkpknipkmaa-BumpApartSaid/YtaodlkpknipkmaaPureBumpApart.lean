/- What is made one behind the other does not overlap, is aligned, lies behind the header and ahead of the end, and sizes, paddings and what is left are all of it: for every chunk at a page of 8 bits, any sizes of 16 bits and any alignments up to a page; no further condition. -/
import Derived.Test.YtaodlkpknipkmaaPBumpApartx2
import Derived.Test.YtaodlkpknipkmaaBitsFacts
import Derived.Test.YtaodlkpknipkmaaBumpWalks
namespace Go.Proofs.Ytaodlkpknipkmaa.Pure
open Go.RowKit Go.Proofs.Ytaodlkpknipkmaa.PBumpApart Go.Proofs.YtaodlkpknipkmaaW.PrintWords Go.Proofs.YtaodlkpknipkmaaW.PrintLast Go.Proofs.YtaodlkpknipkmaaW.PrintMore Go.Proofs.Ytaodlkpknipkmaa.Plain
set_option linter.unusedVariables false
set_option linter.unusedSimpArgs false
namespace BumpApartP

theorem shl_one {k : Int} (h0 : 0 ≤ k) (h1 : k < 64) : shl .u64 1 k = 2 ^ k.toNat := by
  unfold shl
  rw [show min k.toNat IntKind.u64.bits = k.toNat from by show min k.toNat 64 = _; omega, Int.one_mul]
  have hc : ((2 ^ k.toNat : Nat) : Int) = 2 ^ k.toNat := by simp
  have hb : 2 ^ k.toNat ≤ 2 ^ 63 := Nat.pow_le_pow_right (by omega) (by omega)
  have hp : 0 < 2 ^ k.toNat := Nat.two_pow_pos _
  rw [← hc, u64w (by omega) (by omega)]
theorem pow_facts (k : Nat) (h : k < 64) : powB (2 ^ k) = true ∧ (0 : Int) < 2 ^ k ∧ (2 : Int) ^ k ≤ 9223372036854775808 := by
  have hc : ((2 ^ k : Nat) : Int) = 2 ^ k := by simp
  have hb : 2 ^ k ≤ 2 ^ 63 := Nat.pow_le_pow_right (by omega) (by omega)
  have hp : 0 < 2 ^ k := Nat.two_pow_pos _
  refine ⟨(powB_iff (by omega)).2 ⟨k, rfl⟩, by omega, by omega⟩
theorem pow_dvd {k j : Nat} (h : k ≤ j) : (2 : Int) ^ k ∣ 2 ^ j := ⟨2 ^ (j - k), by rw [← Int.pow_add]; congr 1; omega⟩

open Hand in
theorem fit_f {t e s a : Int} (t0 : 0 ≤ t) (t1 : t ≤ 18446744073709551615) (e0 : 0 ≤ e) (e1 : e ≤ 18446744073709551615) (s0 : 0 ≤ s) (s1 : s ≤ 18446744073709551615) (a0 : 0 ≤ a) (a1 : a ≤ 18446744073709551615) :
    bump_Fit.f t e s a = some (fitS t e s a, fitN t e s a, fitE t e s a, fitP t e s a, fitB t e s a) := if_pos ⟨t0, t1, e0, e1, s0, s1, a0, a1⟩
theorem left_f {a b : Int} (a0 : 0 ≤ a) (b1 : b ≤ 18446744073709551615) : bump_Left.f a b = some (if a > b then 0 else b - a) := by
  unfold bump_Left.f
  by_cases c : (a == 0 && (b == 0)) = true
  · rw [if_pos c]
    simp only [Bool.and_eq_true, beq_iff_eq] at c
    rw [if_neg (by omega)]
    congr 1
    omega
  · rw [if_neg c]
    by_cases h : a > b
    · rw [if_pos h, if_pos h]
    · rw [if_neg h, if_neg h, u64w (by omega) (by omega)]
open Hand in
theorem of_f {p n : Int} (p0 : -9223372036854775808 ≤ p) (p1 : p ≤ 9223372036854775807) (n0 : -9223372036854775808 ≤ n) (n1 : n ≤ 9223372036854775807) :
    bump_Of.f p n = some (ofA p n, ofE p n) := if_pos ⟨p0, p1, n0, n1⟩
theorem pow_two (k : Nat) : powB (2 ^ k) = true := (powB_iff (Int.le_of_lt (Int.pow_pos (by decide)))).2 ⟨k, rfl⟩
open Hand in
theorem awake_f : steadinglaw11_awake.f = some true := by
  have ho : ofB 1 1 = true := rfl
  have hA : ofA 1 1 = 4128 := rfl
  have hE : ofE 1 1 = 8192 := rfl
  obtain ⟨u1, u2⟩ := up_unique (n := 4128) (a := 64) (x := 4160) (by omega) (by omega) (pow_two 6) rfl (by omega) (by omega) (by omega)
  have hf := fit_yes (t := 4128) (e := 8192) (s := 10) (a := 64) ⟨u1, by omega, by omega, by omega⟩
  rw [u2] at hf
  unfold steadinglaw11_awake.f
  rw [of_f (by omega) (by omega) (by omega) (by omega), hA, hE]
  simp only [Option.bind_some]
  rw [fit_f (by omega) (by omega) (by omega) (by omega) (by omega) (by omega) (by omega) (by omega), hf.1, hf.2.1, hf.2.2.1, hf.2.2.2.1, hf.2.2.2.2]
  simp only [Option.bind_some]
  rw [left_f (by omega) (by omega)]
  rfl

theorem pow13 {k : Nat} (h : k ≤ 12) : (2 : Int) ^ k ≤ 4096 ∧ (0 : Int) < 2 ^ k := by
  have hk : k = 0 ∨ k = 1 ∨ k = 2 ∨ k = 3 ∨ k = 4 ∨ k = 5 ∨ k = 6 ∨ k = 7 ∨ k = 8 ∨ k = 9 ∨ k = 10 ∨ k = 11 ∨ k = 12 := by omega
  rcases hk with rfl | rfl | rfl | rfl | rfl | rfl | rfl | rfl | rfl | rfl | rfl | rfl | rfl <;> decide
theorem up_mono {n a b : Int} (n0 : 0 ≤ n) (a0 : 0 < a) (pa : powB a = true) (b0 : 0 < b) (pb : powB b = true) (hd : a ∣ b) (ha : upB n a = true) (hb : upB n b = true) : upV n a ≤ upV n b := by
  obtain ⟨h1, h2, h3⟩ := up_spec n0 a0 pa ha
  obtain ⟨m1, m2, m3⟩ := up_spec n0 b0 pb hb
  have hm : upV n b % a = 0 := by
    have := Int.emod_emod_of_dvd (upV n b) hd
    rw [m1, Int.zero_emod] at this
    exact this.symm
  have e1 := Int.emod_add_mul_ediv (upV n a) a
  have e2 := Int.emod_add_mul_ediv (upV n b) a
  rw [h1] at e1
  rw [hm] at e2
  apply Classical.byContradiction
  intro hlt
  have q1 : upV n b / a < upV n a / a := by
    apply Int.lt_of_mul_lt_mul_left (a := a) _ (by omega)
    omega
  have q2 : a * (upV n b / a + 1) ≤ a * (upV n a / a) := Int.mul_le_mul_of_nonneg_left (by omega) (by omega)
  rw [Int.mul_add] at q2
  omega

theorem rd_range {l : List Int} {i m : Int} (m0 : 0 ≤ m) (h : ∀ x ∈ l, 0 ≤ x ∧ x ≤ m) : 0 ≤ rd l i ∧ rd l i ≤ m := by
  unfold rd
  rw [List.getD_eq_getElem?_getD]
  by_cases c : i.toNat < l.length
  · rw [List.getElem?_eq_getElem c]
    exact h _ (List.getElem_mem c)
  · rw [List.getElem?_eq_none (by omega)]
    exact ⟨Int.le_refl _, m0⟩
open Hand in
theorem loop (sizes aligns : List Int) (hs : ∀ x ∈ sizes, 0 ≤ x ∧ x ≤ 65535) (ha : ∀ x ∈ aligns, 0 ≤ x ∧ x ≤ 255) (hl : sizes.length ≤ 60) (hn : 0 < aligns.length) (hn2 : aligns.length ≤ 60) (first e : Int) (f0 : 0 ≤ first) (e1 : e ≤ 100000000) (d : Nat) :
    ∀ (k : Nat) (last i : Int), first ≤ last → last ≤ e → 0 ≤ i → (sizes.length : Int) - i = d → d < k → steadinglaw11_BumpApart.l0 k sizes aligns first e (last - first) last i last e = some true := by
  induction d with
  | zero =>
    intro k last i h1 h2 h3 h4 hk
    obtain ⟨k, rfl⟩ : ∃ m, k = m + 1 := ⟨k - 1, by omega⟩
    simp only [steadinglaw11_BumpApart.l0]
    rw [if_neg (by omega), left_f (by omega) (by omega), if_neg (by omega)]
    simp only [Option.bind_some]
    rw [show last - first + (e - last) = e - first from by omega]
    simp
  | succ d ih =>
    intro k last i h1 h2 h3 h4 hk
    obtain ⟨k, rfl⟩ : ∃ m, k = m + 1 := ⟨k - 1, by omega⟩
    simp only [steadinglaw11_BumpApart.l0]
    have hi : 0 ≤ i % (aligns.length : Int) := Int.emod_nonneg _ (by omega)
    have hj : i % (aligns.length : Int) < aligns.length := Int.emod_lt_of_pos _ (by omega)
    obtain ⟨s0, s1⟩ := rd_range (i := i) (by omega) hs
    obtain ⟨q0, q1⟩ := rd_range (i := i % (aligns.length : Int)) (by omega) ha
    rw [if_pos (by omega), if_pos h3, if_neg (by omega), Int.tmod_eq_emod_of_nonneg h3, if_pos hi, if_pos hj, Int.tmod_eq_emod_of_nonneg q0, if_pos (by omega), shl_one (by omega) (by omega)]
    have hK : (rd aligns (i % (aligns.length : Int)) % 13).toNat ≤ 12 := by omega
    generalize (rd aligns (i % (aligns.length : Int)) % 13).toNat = K at *
    have pa := pow_two K
    obtain ⟨a1, a0⟩ := pow13 hK
    generalize (2 : Int) ^ K = a at *
    generalize rd sizes i = s at *
    have hu := up_ok (n := last) a0 pa (by omega) (by omega)
    obtain ⟨g1, g2, g3⟩ := up_spec (n := last) (by omega) a0 pa hu
    rw [u64w (n := s) (by omega) (by omega), u64w (n := s + 1) (by omega) (by omega), fit_f (by omega) (by omega) (by omega) (by omega) (by omega) (by omega) (by omega) (by omega)]
    simp only [Option.bind_some]
    rw [show wrap64 (i + 1) = i + 1 from by unfold wrap64; omega]
    by_cases c : upV last a + (s + 1) ≤ e
    · have hy := fit_yes (t := last) (e := e) (s := s + 1) (a := a) ⟨hu, by omega, by omega, c⟩
      rw [hy.1, hy.2.1, hy.2.2.1, hy.2.2.2.1, hy.2.2.2.2, if_pos rfl, if_neg (by omega), Int.tmod_eq_emod_of_nonneg (by omega), if_pos g1, if_neg (by omega), if_neg (by omega), u64w (n := last + (upV last a - last)) (by omega) (by omega), if_pos (by omega), u64w (n := upV last a + (s + 1)) (by omega) (by omega), if_neg (by omega), if_pos rfl]
      rw [u64w (n := s + 1 + (upV last a - last)) (by omega) (by omega), u64w (n := last - first + (s + 1 + (upV last a - last))) (by omega) (by omega)]
      rw [show last - first + (s + 1 + (upV last a - last)) = upV last a + (s + 1) - first from by omega]
      exact ih k (upV last a + (s + 1)) (i + 1) (by omega) (by omega) (by omega) (by omega) (by omega)
    · have hn := fit_no (t := last) (e := e) (s := s + 1) (a := a) (fun h => c h.2.2.2)
      rw [hn.2.2.2.2, if_neg (by decide), u64w (n := last + (s + 1)) (by omega) (by omega), u64w (n := last + (s + 1) + a) (by omega) (by omega), if_neg (by omega)]
      exact ih k last (i + 1) h1 h2 (by omega) (by omega) (by omega)
end BumpApartP
open BumpApartP
open Hand in
theorem BumpApart : steadinglaw11_BumpApart.Pure := by
  intro p n l2 l3 wp wn _ _ hw2 _ _ hw3
  obtain ⟨p0, p1⟩ := wf_u8 wp
  obtain ⟨n0, n1⟩ := wf_u8 wn
  refine ⟨70, ?_⟩
  unfold steadinglaw11_BumpApart.f
  rw [awake_f]
  simp only [Option.bind_some]
  rw [if_pos trivial]
  have no : steadinglaw11_BumpApart.j0 70 p n l2 l3 true = some true := by simp only [steadinglaw11_BumpApart.j0]; rfl
  by_cases c1 : (l2.length : Int) > 60
  · rw [if_pos c1]; exact no
  · rw [if_neg c1]
    by_cases c2 : (l3.length : Int) = 0
    · rw [if_pos c2]; exact no
    · rw [if_neg c2]
      by_cases c3 : (l3.length : Int) > 60
      · rw [decide_eq_true c3]; exact no
      · rw [decide_eq_false c3]
        simp only [steadinglaw11_BumpApart.j0]
        have hb := of_yes (p := p) (n := n + 1) (by omega) (by omega) (by omega) (by omega)
        rw [if_neg (by decide), show wrap64 p = p from by unfold wrap64; omega, show wrap64 n = n from by unfold wrap64; omega, show wrap64 (n + 1) = n + 1 from by unfold wrap64; omega, of_f (by omega) (by omega) (by omega) (by omega)]
        simp only [Option.bind_some]
        rw [show wrap64 (p + (n + 1)) = p + (n + 1) from by unfold wrap64; omega, u64w (n := p) (by omega) (by omega), u64w (n := p * 4096) (by omega) (by omega), u64w (n := p * 4096 + 32) (by omega) (by omega), u64w (n := p + (n + 1)) (by omega) (by omega), u64w (n := (p + (n + 1)) * 4096) (by omega) (by omega), show ofA p (n + 1) = p * 4096 + 32 from if_pos hb, show ofE p (n + 1) = (p + (n + 1)) * 4096 from if_pos hb]
        have h := loop l2 l3 (fun x hx => wf_u16 (hw2 x hx)) (fun x hx => wf_u8 (hw3 x hx)) (by omega) (by omega) (by omega) (p * 4096 + 32) ((p + (n + 1)) * 4096) (by omega) (by omega) l2.length 69 (p * 4096 + 32) 0 (by omega) (by omega) (by omega) (by omega) (by omega)
        rw [show p * 4096 + 32 - (p * 4096 + 32) = 0 from by omega] at h
        exact h

end Go.Proofs.Ytaodlkpknipkmaa.Pure
