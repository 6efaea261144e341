/- HeaderInside: bytes behind a header stay as they are, whatever is done to the header. -/
import Derived.Test.YtfdhjeeaigfmfaaHeaderAwake
import Derived.Test.YtfdhjeeaigfmfaaSpaceBytes
import Derived.Test.YtfdhjeeaigfmfaaSpaceActs
import Derived.Test.YtfdhjeeaigfmfaaSpaceCuts
namespace Go.Proofs.Ytfdhjeeaigfmfaa.Sp
open Go.RowKit Go.WideMaps Go.Proofs.Ytfdhjeeaigfmfaa.In Go.Proofs.Ytfdhjeeaigfmfaa.Plain
set_option linter.unusedVariables false
set_option linter.unusedSimpArgs false

theorem u64w (k : Nat) (h : k < 100000000) : IntKind.u64.wrap (k : Int) = (k : Int) := by rw [IntKind.wrap_u64]; omega
theorem wrap_nat (k : Nat) (h : k < 100000000) : wrap64 (k : Int) = (k : Int) := wrap_in (by omega) (by omega)
theorem at_u64 (p t : Nat) (h : p < 1000) (ht : p * 4096 + 32 = t) : IntKind.u64.wrap (IntKind.u64.wrap ((p : Int) * 4096) + 32) = (t : Int) := by
  rw [show (p : Int) * 4096 = ((p * 4096 : Nat) : Int) by omega, u64w _ (by omega), show ((p * 4096 : Nat) : Int) + 32 = (t : Int) by omega, u64w _ (by omega)]

set_option maxRecDepth 100000 in
set_option maxHeartbeats 4000000 in
theorem HeaderInside_any (w : World) (a0 pg kd ow nx : Int) (A : Option Addr) (n c : Nat) (l : List Int) (x : Int) (h0 : 0 ≤ a0 ∧ a0 ≤ 255) (hp : -9223372036854775808 ≤ pg ∧ pg ≤ 9223372036854775807) (ho : 0 ≤ ow ∧ ow ≤ 18446744073709551615) (hx : 0 ≤ nx ∧ nx ≤ 18446744073709551615)
    (hl : l.length = n) (hnc : n ≤ c) (hlst : Lst (KInt .u8) 1 w A l) (hv : ∀ v ∈ l, wfInt .u8 v) (hnx : 0 ≤ x ∧ x ≤ 18446744073709551615) :
    Calls Try.prog 12 #[.int .u8 a0, .agg #[.int .i64 pg, .int .i64 kd, .int .u64 ow, .int .u64 nx], .slice A n c, .int .u64 x] w fun e w' => e = .returned (.bool true) ∧ Below w.heap.size w w' := by
  go_enter Try.func12, Try.ntmps12
  go_wp2_with fail
  refine (awake8_any _).mono ?_
  rintro e w1 ⟨rfl, hb1⟩
  have hb2 := boxes1 hb1
  obtain ⟨c0, c1, c2, c3⟩ := box4 hb2.1
  have HB1 := Lib.hid hb2
  clear hb1 hb2
  by_cases r0 : (200 : Int) < (n : Int)
  · go_wp2_with fail
    go_ret
    exact ⟨rfl, HB1.out.2⟩
  by_cases r1 : pg < 1
  · go_wp2_with fail
    go_ret
    exact ⟨rfl, HB1.out.2⟩
  by_cases r2 : 1048576 < pg
  · go_wp2_with fail
    go_ret
    exact ⟨rfl, HB1.out.2⟩
  by_cases r3 : kd < 0
  · go_wp2_with fail
    go_ret
    exact ⟨rfl, HB1.out.2⟩
  by_cases r4 : 255 < kd
  · go_wp2_with fail
    go_ret
    exact ⟨rfl, HB1.out.2⟩
  have hr : hRight ⟨pg, kd, ow, nx⟩ := ⟨by simp only; omega, by simp only; omega, by simp only; omega, by simp only; omega⟩
  obtain ⟨p, rfl⟩ := Int.eq_ofNat_of_zero_le h0.1
  obtain ⟨t, ht⟩ : ∃ t : Nat, p * 4096 + 32 = t := ⟨_, rfl⟩
  have HT := Lib.hid (show p ≤ 255 ∧ p * 4096 + 32 = t ∧ n ≤ 200 by omega)
  have htu := at_u64 p t (by have := HT.out; omega) HT.out.2.1
  have hpu := u64w p (by have := HT.out; omega)
  have hnu := u64w n (by have := HT.out; omega)
  have hpi := wrap_nat p (by have := HT.out; omega)
  have HH := Lib.hid (And.intro ho (And.intro hx (And.intro hnx hr)))
  have HL := Lib.hid (And.intro hl (And.intro hnc (And.intro hlst hv)))
  clear ho hx hp h0 hr hnx ht hl hnc hlst hv
  go_wp2_with fail
  refine (St.new 256 (HB1.out.2)).mono ?_
  rintro e w2 ⟨g, rfl, hg, hs2, hb2⟩
  have hx2 := (hb2.block _ (Array.getElem?_eq_some_iff.1 HB1.out.1).1).trans HB1.out.1
  have HS2 := Lib.hid (And.intro hs2 hx2)
  obtain ⟨d0, d1, d2, d3⟩ := box4 hx2
  clear hs2 hb2 hg hx2 c0 c1 c2 c3 r1 r2 r3 r4
  go_wp2_with fail
  refine (HS2.out.1.store (t : Int) A n c l HL.out.1 HL.out.2.1 (lst_srcW HL.out.2.2.1 HS2.out.1.below HL.out.2.2.2) (Int.natCast_nonneg t) (by show (t : Int) + (n : Int) ≤ ((256 : Nat) : Int) * 4096; have := HT.out; omega) (by have := HT.out; omega)).mono ?_
  rintro e w3 ⟨rfl, hs3, hk3⟩
  have HM3 : RowKit.Hid (seen (tick { newS 256 with mem := lay (newS 256).mem (t : Int).toNat l } (touchedI t n)).mem t n = l ∧ (tick { newS 256 with mem := lay (newS 256).mem (t : Int).toNat l } (touchedI t n)).pages = 256) := Lib.hid ⟨by
    show seen (lay _ (t : Int).toNat l) t n = l
    rw [Int.toNat_natCast, ← HL.out.1]
    exact seen_lay_same _ _ _, rfl⟩
  generalize tick { newS 256 with mem := lay (newS 256).mem (t : Int).toNat l } (touchedI t n) = s3 at *
  have hx3 := hk3.2 _ _ _ _ HS2.out.2 (by decide) (by decide)
  have HS3 := Lib.hid (And.intro hs3 hx3)
  clear hs3 hk3 hx3 d0 d1 d2 d3
  obtain ⟨c0, c1, c2, c3⟩ := box4 HS3.out.2
  go_wp2_with fail
  refine (HS3.out.1.hWrite p ⟨pg, kd, ow, nx⟩ HH.out.2.2.2 HH.out.1 HH.out.2.1 (by rw [HM3.out.2]; have := HT.out; omega)).mono ?_
  rintro e w4 ⟨rfl, hs4, hk4⟩
  have H4 := Lib.hid (HdAt.wrote s3 p ⟨pg, kd, ow, nx⟩ HH.out.2.2.2 HH.out.1 HH.out.2.1)
  have HM4 : RowKit.Hid (seen (wrote s3 (p * 4096) ⟨pg, kd, ow, nx⟩).mem t n = l ∧ (wrote s3 (p * 4096) ⟨pg, kd, ow, nx⟩).pages = 256) := Lib.hid ⟨by
    rw [(seen_off s3 (p * 4096) t n ⟨pg, kd, ow, nx⟩ 0 (.inr (by have := HT.out; omega))).1]; exact HM3.out.1, HM3.out.2⟩
  generalize wrote s3 (p * 4096) ⟨pg, kd, ow, nx⟩ = s4 at *
  have hx4 := hk4.2 _ _ _ _ HS3.out.2 (by decide) (by decide)
  have HS4 := Lib.hid (And.intro hs4 hx4)
  clear hs4 hk4 hx4 c0 c1 c2 c3
  go_wp2_with fail
  refine (HS4.out.1.hLink p x HH.out.2.2.1 (by rw [HM4.out.2]; have := HT.out; omega) H4.out.is).mono ?_
  rintro e w5 ⟨rfl, hs5, hk5⟩
  have H5 := Lib.hid (H4.out.linked x HH.out.2.2.1)
  have HM5 : RowKit.Hid (seen (linked s4 (p * 4096) x).mem t n = l ∧ (linked s4 (p * 4096) x).pages = 256) := Lib.hid ⟨by
    rw [(seen_off s4 (p * 4096) t n ⟨pg, kd, ow, nx⟩ x (.inr (by have := HT.out; omega))).2.1]; exact HM4.out.1, HM4.out.2⟩
  generalize linked s4 (p * 4096) x = s5 at *
  have hx5 := hk5.2 _ _ _ _ HS4.out.2 (by decide) (by decide)
  have HS5 := Lib.hid (And.intro hs5 hx5)
  clear hs5 hk5 hx5
  go_wp2_with fail
  refine (HS5.out.1.hRead_hd p (by rw [HM5.out.2]; have := HT.out; omega) _ H5.out).mono ?_
  rintro e w6 ⟨rfl, hs6, hk6⟩
  have H6 := Lib.hid (H5.out.tick (touchedI ((p * 4096 : Nat) : Int) 32))
  have HM6 : RowKit.Hid (seen (tick s5 (touchedI ((p * 4096 : Nat) : Int) 32)).mem t n = l ∧ (tick s5 (touchedI ((p * 4096 : Nat) : Int) 32)).pages = 256) := Lib.hid ⟨HM5.out.1, HM5.out.2⟩
  generalize tick s5 (touchedI ((p * 4096 : Nat) : Int) 32) = s6 at *
  have hx6 := hk6.2 _ _ _ _ HS5.out.2 (by decide) (by decide)
  have HS6 := Lib.hid (And.intro hs6 hx6)
  clear hs6 hk6 hx6
  go_wp2_with fail
  have L7 := (HS6.out.1.al (.cells #[.int .i64 pg, .int .i64 kd, .int .u64 ow, .int .u64 x] 82)).load (t : Int) (n : Int) (Int.natCast_nonneg t) (Int.natCast_nonneg n) (by rw [HM6.out.2]; have := HT.out; omega) (by have := HT.out; omega)
  simp only [Int.toNat_natCast] at L7
  refine L7.mono ?_
  clear L7
  rintro e w7 ⟨r7, rfl, hr7, hrow7, hs7, hk7⟩
  rw [HM6.out.1] at hrow7
  have H7 := Lib.hid (H6.out.tick (touchedI (t : Int) (n : Int)))
  have HM7 : RowKit.Hid (seen (tick s6 (touchedI (t : Int) (n : Int))).mem t n = l ∧ (tick s6 (touchedI (t : Int) (n : Int))).pages = 256) := Lib.hid ⟨HM6.out.1, HM6.out.2⟩
  generalize tick s6 (touchedI (t : Int) (n : Int)) = s7 at *
  have hx7 := hk7.2 _ _ _ _ (al_old HS6.out.2) (by decide) (by decide)
  have hy7 := hk7.2 _ _ _ _ (al_new (w := w6) (o := .cells #[.int .i64 pg, .int .i64 kd, .int .u64 ow, .int .u64 x] 82) rfl) (by decide) (by decide)
  have HS7 := Lib.hid (And.intro hs7 (And.intro hx7 (And.intro hy7 hrow7)))
  clear hs7 hk7 hx7 hy7 hrow7 hr7
  go_wp2_with fail
  refine (HS7.out.1.hClear p (by rw [HM7.out.2]; have := HT.out; omega) H7.out.is).mono ?_
  rintro e w8 ⟨rfl, hs8, hk8⟩
  have HM8 : RowKit.Hid (seen (cleared s7 (p * 4096)).mem t n = l ∧ (cleared s7 (p * 4096)).pages = 256) := Lib.hid ⟨by
    rw [(seen_off s7 (p * 4096) t n ⟨pg, kd, ow, nx⟩ x (.inr (by have := HT.out; omega))).2.2]; exact HM7.out.1, HM7.out.2⟩
  generalize cleared s7 (p * 4096) = s8 at *
  have hx8 := hk8.2 _ _ _ _ HS7.out.2.1 (by decide) (by decide)
  have hy8 := hk8.2 _ _ _ _ HS7.out.2.2.1 (by decide) (by decide)
  have HS8 := Lib.hid (And.intro hs8 (And.intro hx8 (And.intro hy8 (HS7.out.2.2.2.kp hk8))))
  clear hs8 hk8 hx8 hy8
  go_wp2_with fail
  have L9 := HS8.out.1.load (t : Int) (n : Int) (Int.natCast_nonneg t) (Int.natCast_nonneg n) (by rw [HM8.out.2]; have := HT.out; omega) (by have := HT.out; omega)
  simp only [Int.toNat_natCast] at L9
  refine L9.mono ?_
  clear L9
  rintro e w9 ⟨r9, rfl, hr9, hrow9, hs9, hk9⟩
  rw [HM8.out.1] at hrow9
  have hx9 := hk9.2 _ _ _ _ HS8.out.2.1 (by decide) (by decide)
  have hy9 := hk9.2 _ _ _ _ HS8.out.2.2.1 (by decide) (by decide)
  have hb9 := hs9.below
  have t1 := lst_string HL.out.2.2.1 hb9 n c HL.out.1
  have t2 := (HS8.out.2.2.2.kp hk9).string0 n n HL.out.1
  have t3 := hrow9.string0 n n HL.out.1
  obtain ⟨x0, x1, x2, x3⟩ := box4 hx9
  obtain ⟨y0, y1, y2, y3⟩ := box4 hy9
  have HB9 := Lib.hid hb9
  clear hx9 hy9 hb9 hrow9 hs9 hk9 hr9
  go_wp2_with fail
  go_ret
  exact ⟨rfl, HB9.out⟩

theorem HeaderInside_walk (a0 pg kd ow nx : Int) (A : Option Addr) (n c : Nat) (l : List Int) (x : Int) (w : World) (h0 : (Lit.int .u8 a0).wf = true) (h1 : (Lit.int .i64 pg).wf = true) (_h2 : (Lit.int .i64 kd).wf = true) (h3 : (Lit.int .u64 ow).wf = true) (h4 : (Lit.int .u64 nx).wf = true)
    (h5 : l.length = n ∧ n ≤ c ∧ n ≤ maxLen ∧ Lst (KInt .u8) 1 w A l ∧ ∀ p ∈ l, wfInt .u8 p) (_y : n * 1 ≤ 140737488351232) (h6 : (Lit.int .u64 x).wf = true) :
    Calls Try.prog 12 #[.int .u8 a0, .agg #[.int .i64 pg, .int .i64 kd, .int .u64 ow, .int .u64 nx], .slice A n c, .int .u64 x] w fun e w' => e = .returned (.bool true) ∧ Below w.heap.size w w' :=
  HeaderInside_any w a0 pg kd ow nx A n c l x (u8_lit h0) (i64_lit h1) (u64_lit h3) (u64_lit h4) h5.1 h5.2.1 h5.2.2.2.1 h5.2.2.2.2 (u64_lit h6)
end Go.Proofs.Ytfdhjeeaigfmfaa.Sp
