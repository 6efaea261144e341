/- SpaceMoves: what is copied is as it was where it came from, whether the two overlap, or not; copied back it is as it was. -/
import Derived.Test.YtfggmddngbbljaaSpaceSeen
import Derived.BigQuiet
namespace Go.Proofs.Ytfggmddngbbljaa.Sp
open Go.RowKit Go.WideMaps Go.Proofs.Ytfggmddngbbljaa.In
set_option linter.unusedVariables false

theorem newS_pages (a : Int) (h0 : 1 ≤ a) (h1 : a ≤ 65536) : ((newS a).pages : Int) = a := by
  show ((clampP a : Nat) : Int) = a
  unfold clampP
  split <;> (try split) <;> omega
theorem wrap_in {a : Int} (h0 : -9000000000000000000 ≤ a) (h1 : a ≤ 9000000000000000000) : wrap64 a = a := by unfold wrap64; omega

set_option maxRecDepth 100000 in
set_option maxHeartbeats 4000000 in
theorem SpaceMoves_any (w : World) (a0 : Int) (A1 : Option Addr) (n1 c1 : Nat) (l1 : List Act3) (a2 a3 a4 : Int)
    (h1 : l1.length = n1) (h1b : n1 ≤ 9223372036854775807) (h1c : Lst KAct3 5 w A1 l1) (h1d : ∀ p ∈ l1, wfAct3 p)
    (w0 : 0 ≤ a0 ∧ a0 ≤ 255) (w2 : 0 ≤ a2 ∧ a2 ≤ 65535) (w3 : 0 ≤ a3 ∧ a3 ≤ 65535) (w4 : 0 ≤ a4 ∧ a4 ≤ 255) :
    Calls Try.prog 4 #[.int .u8 a0, .slice A1 n1 c1, .int .u16 a2, .int .u16 a3, .int .u8 a4] w fun e w' => e = .returned (.bool true) ∧ Below w.heap.size w w' := by
  have HA := Lib.hid (awake3_any w)
  have HF := Lib.hid (fun W (hb : Below w.heap.size w W) => few3_any A1 n1 c1 l1 W h1 h1b (lst_acts h1c hb))
  have HPG := Lib.hid (show ((newS (a0 + 17)).pages : Int) = a0 + 17 from newS_pages (a0 + 17) (by omega) (by omega))
  go_enter Try.func4, Try.ntmps4
  go_wp2_with fail
  refine HA.out.mono ?_
  rintro e wa ⟨rfl, hb1⟩
  go_wp2_with fail
  refine (HF.out wa hb1).mono ?_
  rintro e wb ⟨⟨b, rfl⟩, rfl⟩
  cases b with
  | false =>
    go_wp2
    go_ret
    exact ⟨rfl, hb1⟩
  | true =>
    go_wp2_with fail
    refine (St.new (a0 + 17) (hb1 : Below w.heap.size w wa)).mono ?_
    rintro e wc ⟨g, rfl, hg, hs2, hb2⟩
    go_wp2_with fail
    refine (play3_any w g _ A1 n1 c1 l1 wc hs2 h1 h1b h1c h1d).mono ?_
    rintro e wd ⟨rfl, s, hp2, hs, _⟩
    have HB := Lib.hid (show a2 + a4 ≤ (s.pages : Int) * 4096 ∧ a3 + a4 ≤ (s.pages : Int) * 4096 by rw [hp2, HPG.out]; omega)
    clear hp2 hs2 hb2 hg hb1 HPG
    obtain ⟨t, rfl⟩ := Int.eq_ofNat_of_zero_le w2.1
    obtain ⟨f, rfl⟩ := Int.eq_ofNat_of_zero_le w3.1
    obtain ⟨k, rfl⟩ := Int.eq_ofNat_of_zero_le w4.1
    go_wp2_with fail
    refine (hs.load (f : Int) (k : Int) (by omega) (by omega) HB.out.2 (by omega)).mono ?_
    rintro e' w5 ⟨r1, rfl, hr1, hrow1, hs5, hk5⟩
    rw [Int.toNat_natCast] at *
    have hrow1' : Row w5 r1 (seen s.mem f k) := hrow1
    go_wp2_with fail
    refine (hs5.copy (t : Int) (f : Int) (k : Int) (by omega) (by omega) (by omega) HB.out.1 HB.out.2 (by omega)).mono ?_
    rintro e' w6 ⟨rfl, hs6, hk6⟩
    go_wp2_with fail
    refine (hs6.load (t : Int) (k : Int) (by omega) (by omega) HB.out.1 (by omega)).mono ?_
    rintro e' w7 ⟨r2, rfl, hr2, hrow2, hs7, hk7⟩
    rw [Int.toNat_natCast] at *
    have hrow2' : Row w7 r2 (seen (lay s.mem t (seen s.mem f k)) t k) := hrow2
    have q2 : seen (lay s.mem t (seen s.mem f k)) t k = seen s.mem f k := by
      have := seen_lay_same s.mem t (seen s.mem f k)
      rwa [seen_length] at this
    rw [q2] at hrow2'
    obtain ⟨X, hX⟩ : ∃ X, strOfNums (seen s.mem f k) = X := ⟨_, rfl⟩
    have x1 := hrow2'.string0 k k (seen_length _ _ _)
    have x2 := ((hrow1'.kp hk6).kp hk7).string0 k k (seen_length _ _ _)
    rw [hX] at x1 x2
    have HR2 := Lib.hid hrow2'
    have HR1 := Lib.hid ((hrow1'.kp hk6).kp hk7)
    have HX := Lib.hid hX
    have HQ2 := Lib.hid q2
    clear hrow1 hrow1' hrow2 hrow2' hs5 hs6 hk5 hk6 hk7 hr1 hr2 hX q2
    go_wp2_with fail
    clear x1 x2
    refine (hs7.copy (f : Int) (t : Int) (k : Int) (by omega) (by omega) (by omega) HB.out.2 HB.out.1 (by omega)).mono ?_
    rintro e' w8 ⟨rfl, hs8, hk8⟩
    go_wp2_with fail
    refine (hs8.load (f : Int) (k : Int) (by omega) (by omega) HB.out.2 (by omega)).mono ?_
    rintro e' w9 ⟨r3, rfl, hr3, hrow3, hs9, hk9⟩
    rw [Int.toNat_natCast] at *
    have hrow3' : Row w9 r3 (seen (lay (lay s.mem t (seen s.mem f k)) f (seen (lay s.mem t (seen s.mem f k)) t k)) f k) := hrow3
    rw [HQ2.out] at hrow3'
    have q3 : seen (lay (lay s.mem t (seen s.mem f k)) f (seen s.mem f k)) f k = seen s.mem f k := by
      have := seen_lay_same (lay s.mem t (seen s.mem f k)) f (seen s.mem f k)
      rwa [seen_length] at this
    rw [q3] at hrow3'
    have x1 := hrow3'.string0 k k (seen_length _ _ _)
    have x2 := ((HR1.out.kp hk8).kp hk9).string0 k k (seen_length _ _ _)
    rw [HX.out] at x1 x2
    have HBB := Lib.hid hs9.below
    clear HR1 HR2 HX HQ2 q3 hrow3 hrow3' hs7 hs8 hs9 hk8 hk9 hr3
    go_wp2
    go_ret
    exact ⟨rfl, HBB.out⟩

theorem u8_lit {a : Int} (h : (Lit.int .u8 a).wf = true) : 0 ≤ a ∧ a ≤ 255 := by
  simp [Lit.wf, IntKind.min, IntKind.max, IntKind.signed, IntKind.bits] at h
  omega
theorem u16_lit {a : Int} (h : (Lit.int .u16 a).wf = true) : 0 ≤ a ∧ a ≤ 65535 := by
  simp [Lit.wf, IntKind.min, IntKind.max, IntKind.signed, IntKind.bits] at h
  omega
theorem SpaceMoves_walk (a0 : Int) (A1 : Option Addr) (n1 c1 : Nat) (l1 : List Act3) (a2 a3 a4 : Int) (w : World) (h0 : (Lit.int .u8 a0).wf = true) (h1 : l1.length = n1 ∧ n1 ≤ c1 ∧ n1 ≤ maxLen ∧ Lst KAct3 5 w A1 l1 ∧ ∀ p ∈ l1, wfAct3 p) (y1 : n1 * 56 ≤ 140737488351232) (h2 : (Lit.int .u16 a2).wf = true) (h3 : (Lit.int .u16 a3).wf = true) (h4 : (Lit.int .u8 a4).wf = true) :
    Calls Try.prog 4 #[.int .u8 a0, .slice A1 n1 c1, .int .u16 a2, .int .u16 a3, .int .u8 a4] w fun e w' => e = .returned (.bool true) ∧ Below w.heap.size w w' :=
  SpaceMoves_any w a0 A1 n1 c1 l1 a2 a3 a4 h1.1 (by omega) h1.2.2.2.1 h1.2.2.2.2 (u8_lit h0) (u16_lit h2) (u16_lit h3) (u8_lit h4)
end Go.Proofs.Ytfggmddngbbljaa.Sp
