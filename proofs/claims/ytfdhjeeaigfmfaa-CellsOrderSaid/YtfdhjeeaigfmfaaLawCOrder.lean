/- CellsOrder: a fill is as many puts, whatever their order; numbers at places that don't meet play no part for one another. -/
import Derived.Test.YtfdhjeeaigfmfaaLawCFills
import Derived.Test.YtfdhjeeaigfmfaaCellsTwo
namespace Go.Proofs.Ytfdhjeeaigfmfaa.Sp
open Go.RowKit Go.WideMaps Go.Proofs.Ytfdhjeeaigfmfaa.In Go.Proofs.Ytfdhjeeaigfmfaa.Plain
set_option linter.unusedVariables false

theorem bytesL_snoc (k c : Nat) (n : Int) : bytesL k (List.replicate (c + 1) n) = bytesL k (List.replicate c n) ++ le k n := by
  unfold bytesL
  rw [List.replicate_succ', List.flatMap_append]
  simp
theorem seen_all (mem : Nat → Int) (a k : Nat) (n : Int) : ∀ c, (∀ i, i < c → seen mem (a + k * i) k = le k n) → seen mem a (k * c) = bytesL k (List.replicate c n) := by
  intro c
  induction c with
  | zero => intro _; rfl
  | succ c ih =>
    intro h
    rw [Nat.mul_succ, seen_app, ih (fun i hi => h i (by omega)), h c (by omega), bytesL_snoc]

set_option maxRecDepth 100000 in
set_option maxHeartbeats 4000000 in
theorem CellsOrder_any (w : World) (a0 a1 n a3 x4 : Int) (l0 : 0 ≤ a0 ∧ a0 ≤ 65535) (l1 : 0 ≤ a1 ∧ a1 ≤ 255) (ln : 0 ≤ n ∧ n ≤ 18446744073709551615) (l3 : 0 ≤ a3 ∧ a3 ≤ 255) (l4 : 0 ≤ x4 ∧ x4 ≤ 18446744073709551615) :
    Calls Try.prog 9 #[.int .u16 a0, .int .u8 a1, .int .u64 n, .int .u8 a3, .int .u64 x4] w fun e w' => e = .returned (.bool true) ∧ Below w.heap.size w w' := by
  have HA := Lib.hid (awake4_any w)
  have HP := Lib.hid (show (newS 40).pages * 4096 = 163840 by kernel_rfl)
  obtain ⟨a, ha⟩ : ∃ a : Nat, a0 / 8 * 8 = (a : Int) := ⟨(a0 / 8 * 8).toNat, by omega⟩
  obtain ⟨m, k, hm, hm3, hw, hk⟩ := width_of a1 l1.1
  have hkb := hk.bd
  obtain ⟨c, hc⟩ : ∃ c : Nat, a3 % 40 = (c : Int) := ⟨(a3 % 40).toNat, by omega⟩
  have hc39 : (c : Int) ≤ 39 := by omega
  have hkc : k * c ≤ 312 := Nat.le_trans (Nat.mul_le_mul (show k ≤ 8 by omega) (show c ≤ 39 by omega)) (by decide)
  obtain ⟨p, hp⟩ : ∃ p : Nat, c * k = p := ⟨_, rfl⟩
  have hpi : (c : Int) * (k : Int) = (p : Int) := by rw [← hp]; simp
  have hpk : k * c = p := by rw [Nat.mul_comm]; exact hp
  have hp312 : (p : Int) ≤ 312 := by omega
  obtain ⟨d, hd⟩ : ∃ d : Nat, ((p : Int) + 8) / 8 * 8 = (d : Int) := ⟨(((p : Int) + 8) / 8 * 8).toNat, by omega⟩
  obtain ⟨far, hfar⟩ : ∃ far : Nat, a + d = far := ⟨_, rfl⟩
  have hfari : (a : Int) + (d : Int) = (far : Int) := by omega
  have hdb : (d : Int) ≤ 320 := by omega
  have hab : (a : Int) ≤ 65535 := by omega
  have HR := Lib.hid (rightC_of hk (wide_dvd hk (show a % 8 = 0 by omega)))
  have HRF := Lib.hid (rightC_of (t := far) (k := 8) (by decide) (show far % 8 = 0 by omega))
  have HFAR := Lib.hid (show a + p ≤ far ∧ far + 8 ≤ 70000 by omega)
  have HK := Lib.hid hk
  have HKC := Lib.hid hkc
  have HPK := Lib.hid hpk
  have HA8 := Lib.hid (show a % 8 = 0 by omega)
  clear hk hp hkc hpk hfar
  go_enter Try.func9, Try.ntmps9
  go_wp2_with fail
  refine HA.out.mono ?_
  rintro e w1 ⟨rfl, hb1⟩
  go_wp2_with fail
  refine (St.new 40 (hb1 : Below w.heap.size w w1)).mono ?_
  rintro e w2 ⟨g, rfl, hg, hs2, hb2⟩
  go_wp2_with fail
  refine (St.new 40 (Below.refl _ _)).mono ?_
  rintro e w3 ⟨gt, rfl, hgt, ht3, hb3⟩
  have HT := Lib.hid (Two.of_clone hs2 ht3)
  clear hs2 ht3 hb2 hb3 hg hgt hb1
  go_wp2_with fail
  refine (HT.out.put far 8 x4 HRF.out l4 (by rw [HP.out]; have := HFAR.out; omega)).mono ?_
  rintro e w4 ⟨rfl, ht4, hk4⟩
  have HT4 := Lib.hid ht4
  clear ht4 hk4 HT
  go_wp2_with fail
  refine (HT4.out.fill a k c n HR.out ln (by have := HKC.out; omega) (by show _ ≤ (newS 40).pages * 4096; rw [HP.out, HPK.out]; have := HFAR.out; omega)).mono ?_
  rintro e w5 ⟨rfl, ht5, hk5⟩
  have HT5 := Lib.hid ht5
  clear ht5 hk5 HT4
  obtain ⟨S1, h2, hp1, hm1⟩ : ∃ S1 : SpS, Two w w5 g S1 gt (newS 40) ∧ S1.pages * 4096 = 163840 ∧ S1.mem = lay (lay (newS 40).mem far (le 8 x4)) a (bytesL k (List.replicate c n)) := ⟨_, HT5.out, HP.out, rfl⟩
  have H2 := Lib.hid h2
  have HP1 := Lib.hid hp1
  have HMA := Lib.hid (show seen S1.mem a p = bytesL k (List.replicate c n) by
    have := seen_lay_same (lay (newS 40).mem far (le 8 x4)) a (bytesL k (List.replicate c n))
    rw [bytesL_length, List.length_replicate, HPK.out, ← hm1] at this
    exact this)
  have HMF := Lib.hid (show num (seen S1.mem far 8) = x4 by
    rw [hm1, seen_lay_off _ _ _ _ _ (by rw [bytesL_length, List.length_replicate, HPK.out]; have := HFAR.out; omega), got_put]
    exact Int.emod_eq_of_lt l4.1 (by show x4 < 18446744073709551616; omega))
  clear h2 hp1 hm1 HT5
  go_wp2
  go_loopw [19] (fun i wr => ∃ z : Int, i = .int .i64 z ∧ -1 ≤ z ∧ z < c ∧ ∃ st : SpS, Two w wr g S1 gt st ∧ st.pages * 4096 = 163840 ∧ ∀ q : Nat, z < q → q < c → seen st.mem (a + k * q) k = le k n) (fun i _ => (intOf i + 1).toNat)
  case atStart => exact ⟨(c : Int) - 1, rfl, by omega, by omega, newS 40, H2.out, HP.out, fun q h3 h4 => by omega⟩
  case round =>
    obtain ⟨z, rfl, hz0, hzc, st, hst, hpg, hmem⟩ := hrel
    have HST := Lib.hid hst
    have HPG := Lib.hid hpg
    have HMEM := Lib.hid hmem
    clear hst hpg hmem
    by_cases hz : 0 ≤ z
    · obtain ⟨j, rfl⟩ := Int.eq_ofNat_of_zero_le hz
      have hjc : j < c := by omega
      have hjk : k * j + k ≤ k * c := by rw [← Nat.mul_succ]; exact Nat.mul_le_mul_left k hjc
      obtain ⟨u, hu⟩ : ∃ u : Nat, k * j = u := ⟨_, rfl⟩
      have hui : (j : Int) * (k : Int) = (u : Int) := by rw [← hu, Int.mul_comm]; simp
      obtain ⟨t, ht⟩ : ∃ t : Nat, a + u = t := ⟨_, rfl⟩
      have hti : (a : Int) + (u : Int) = (t : Int) := by omega
      have hub : (u : Int) ≤ 312 := by have := HKC.out; omega
      have HT := Lib.hid (show a + k * j = t by rw [hu, ht])
      have HTB := Lib.hid (show t + k ≤ 68000 by omega)
      have HRT := Lib.hid (rightC_of (t := t) HK.out (by
        have h1 := wide_dvd HK.out HA8.out
        rw [← HT.out, Nat.add_mul_mod_self_left]; exact h1))
      clear hu ht hjk hjc
      go_wp2_with fail
      refine (HST.out.swap.put t k n HRT.out ln (by rw [HPG.out]; have := HTB.out; omega)).mono ?_
      rintro e w6 ⟨rfl, h6, hk6⟩
      have H6 := Lib.hid h6.swap
      have HM6 : RowKit.Hid (∀ q : Nat, (j : Int) - 1 < q → q < c → seen (lay st.mem t (le k n)) (a + k * q) k = le k n) := by
        intro q h3 h4
        by_cases hq : q = j
        · subst hq
          rw [HT.out]
          have := seen_lay_same st.mem t (le k n)
          rw [le_length] at this
          exact this
        · have hjq : j < q := by omega
          have := Nat.mul_le_mul_left k hjq
          rw [Nat.mul_succ] at this
          rw [seen_lay_off _ _ _ _ _ (by rw [le_length, ← HT.out]; omega)]
          exact HMEM.out q (by omega) h4
      clear h6 hk6
      go_wp2
      go_roundw
      case rel => exact ⟨(j : Int) - 1, by go_num, by omega, by omega, _, H6.out, HPG.out, HM6.out⟩
      case measure => simp [intOf] <;> omega
    · have hzi : z < 0 := by omega
      have HMT := Lib.hid (show seen st.mem a p = bytesL k (List.replicate c n) by
        rw [← HPK.out]
        exact seen_all st.mem a k n c (fun i hi => HMEM.out i (by omega) hi))
      have HFB := Lib.hid (show a + p ≤ 70000 by have := HFAR.out; omega)
      go_wp2_with fail
      refine (HST.out.load (a : Int) (p : Int) (by omega) (by omega) (by have := HP1.out; have := HFB.out; omega) (by omega)).mono ?_
      rintro e w6 ⟨r6, rfl, hr6, hrow6, h6, hk6⟩
      rw [Int.toNat_natCast, Int.toNat_natCast] at *
      go_wp2_with fail
      refine (h6.swap.load (a : Int) (p : Int) (by omega) (by omega) (by have := HPG.out; have := HFB.out; omega) (by omega)).mono ?_
      rintro e w7 ⟨r7, rfl, hr7, hrow7, h7, hk7⟩
      rw [Int.toNat_natCast, Int.toNat_natCast] at *
      go_wp2_with fail
      refine (h7.swap.get far 8 x4 HRF.out (by show far + 8 ≤ S1.pages * 4096; rw [HP1.out]; have := HFAR.out; omega) HMF.out).mono ?_
      rintro e w8 ⟨rfl, h8, hk8⟩
      have HBB := Lib.hid h8.below
      have c6 := ((hrow6.kp hk7).kp hk8).string0 p p (seen_length _ _ _)
      have c7 := (hrow7.kp hk8).string0 p p (seen_length _ _ _)
      rw [HMA.out] at c6
      rw [HMT.out] at c7
      clear hrow6 hrow7 h6 h7 h8 hk6 hk7 hk8 hr6 hr7
      go_wp2
      go_ret
      exact ⟨rfl, HBB.out⟩

theorem CellsOrder_walk (a0 a1 a2 a3 a4 : Int) (w : World) (h0 : (Lit.int .u16 a0).wf = true) (h1 : (Lit.int .u8 a1).wf = true) (h2 : (Lit.int .u64 a2).wf = true) (h3 : (Lit.int .u8 a3).wf = true) (h4 : (Lit.int .u64 a4).wf = true) :
    Calls Try.prog 9 #[.int .u16 a0, .int .u8 a1, .int .u64 a2, .int .u8 a3, .int .u64 a4] w fun e w' => e = .returned (.bool true) ∧ Below w.heap.size w w' :=
  CellsOrder_any w a0 a1 a2 a3 a4 (u16_lit h0) (u8_lit h1) (u64_lit h2) (u8_lit h3) (u64_lit h4)
end Go.Proofs.Ytfdhjeeaigfmfaa.Sp
