/- SpaceBack: what is stored is loaded, and the bytes ahead of it and behind it are as they were. -/
import Derived.Test.YtfggmddngbbljaaSpaceSeen
import Derived.BigQuiet
namespace Go.Proofs.Ytfggmddngbbljaa.Sp
open Go.RowKit Go.WideMaps Go.Proofs.Ytfggmddngbbljaa.In
set_option linter.unusedVariables false

set_option maxRecDepth 100000 in
set_option maxHeartbeats 4000000 in
theorem SpaceBack_any (w : World) (a0 : Int) (A1 : Option Addr) (n1 c1 : Nat) (l1 : List Act3) (a2 : Int) (A3 : Option Addr) (n3 c3 : Nat) (l3 : List Int) (a4 : Int)
    (h1 : l1.length = n1) (h1b : n1 ≤ 9223372036854775807) (h1c : Lst KAct3 5 w A1 l1) (h1d : ∀ p ∈ l1, wfAct3 p) (h3 : l3.length = n3) (h3a : n3 ≤ c3) (h3b : n3 ≤ 9223372036854775807) (h3c : Lst (KInt .u8) 1 w A3 l3) (h3d : ∀ p ∈ l3, wfInt .u8 p)
    (w0 : 0 ≤ a0 ∧ a0 ≤ 255) (w2 : 0 ≤ a2 ∧ a2 ≤ 18446744073709551615) (w4 : 0 ≤ a4 ∧ a4 ≤ 255) :
    Calls Try.prog 3 #[.int .u8 a0, .slice A1 n1 c1, .int .u64 a2, .slice A3 n3 c3, .int .u8 a4] w fun e w' => e = .returned (.bool true) ∧ Below w.heap.size w w' := by
  have HA := Lib.hid (awake3_any w)
  have HF := Lib.hid (fun W (hb : Below w.heap.size w W) => few3_any A1 n1 c1 l1 W h1 h1b (lst_acts h1c hb))
  go_enter Try.func3, Try.ntmps3
  go_wp2_with fail
  refine HA.out.mono ?_
  rintro e wa ⟨rfl, hb1⟩
  go_wp2_with fail
  refine (HF.out wa hb1).mono ?_
  rintro e wb ⟨⟨b, rfl⟩, rfl⟩
  cases b with
  | false =>
    go_wp2
    go_ret
    exact ⟨rfl, hb1⟩
  | true =>
    by_cases hbig : n3 ≤ 9000
    · have hbi : (n3 : Int) ≤ 9000 := by omega
      go_wp2_with fail
      refine (St.new a0 (hb1 : Below w.heap.size w wa)).mono ?_
      rintro e wc ⟨g, rfl, hg, hs2, hb2⟩
      go_wp2_with fail
      refine (play3_any w g _ A1 n1 c1 l1 wc hs2 h1 h1b h1c h1d).mono ?_
      rintro e wd ⟨rfl, s, hp, hs, _⟩
      have HP := Lib.hid hp
      clear hp hs2 hb2 hg hb1
      obtain ⟨P, hP⟩ : ∃ P : Nat, s.pages = P := ⟨_, rfl⟩
      have hpg := hs.pages
      rw [hP] at hpg
      have HSz := Lib.hid (fun W (h : St w W g s) => h.size_v ((P : Int) * 4096) (by rw [hP]))
      have hP1 : (P : Int) ≤ 1048576 := by omega
      have hP0 : (1 : Int) ≤ P := by omega
      have HSrc := Lib.hid (lst_srcW h3c hs.below h3d)
      have HS := Lib.hid hs
      have HP0 := Lib.hid hP
      clear hP hpg hs
      by_cases hin : a2 + n3 ≤ (P : Int) * 4096
      · obtain ⟨t, rfl⟩ := Int.eq_ofNat_of_zero_le w2.1
        obtain ⟨k, rfl⟩ := Int.eq_ofNat_of_zero_le w4.1
        obtain ⟨hi, hhi⟩ : ∃ hi : Nat, hi = if P * 4096 < t + n3 + k then P * 4096 else t + n3 + k := ⟨_, rfl⟩
        have eh : (if (P : Int) * 4096 < (t : Int) + (n3 : Int) + (k : Int) then (P : Int) * 4096 else (t : Int) + (n3 : Int) + (k : Int)) = (hi : Int) := by
          rw [hhi]; by_cases c : P * 4096 < t + n3 + k
          · rw [if_pos c, if_pos (by omega)]; omega
          · rw [if_neg c, if_neg (by omega)]; omega
        have hhi1 : t + n3 ≤ hi ∧ hi ≤ P * 4096 ∧ hi ≤ t + n3 + 255 := by rw [hhi]; split <;> omega
        have v5 : ¬ (P : Int) * 4096 < (t : Int) := by omega
        have v6 : ¬ (P : Int) * 4096 - (t : Int) < (n3 : Int) := by omega
        have v3 : (hi : Int) ≤ (P : Int) * 4096 := by omega
        by_cases hkt : k < t
        · have hkti : (k : Int) < (t : Int) := by omega
          obtain ⟨lo, hlo⟩ : ∃ lo : Nat, lo + k = t := ⟨t - k, by omega⟩
          obtain ⟨d, hd⟩ : ∃ d : Nat, lo + d = hi := ⟨hi - lo, by omega⟩
          obtain ⟨i, hi0⟩ : ∃ i : Nat, lo + i = t := ⟨t - lo, by omega⟩
          have el : (t : Int) - (k : Int) = (lo : Int) := by omega
          have ed : (hi : Int) - (lo : Int) = (d : Int) := by omega
          have ei : (t : Int) - (lo : Int) = (i : Int) := by omega
          have v2 : (lo : Int) ≤ (hi : Int) := by omega
          have v4 : (lo : Int) ≤ (t : Int) := by omega
          have HX := Lib.hid (show lo + i = t ∧ lo + d = hi ∧ i + n3 ≤ d ∧ d ≤ 10000 by omega)
          have HX2 := Lib.hid hhi1
          clear hhi hhi1 hlo hd hi0 hkt
          have L1 := Lib.hid (HS.out.load (lo : Int) (d : Int) (by omega) (by omega) (by rw [HP0.out]; have := HX.out; have := HX2.out; omega) (by have := HX.out; omega))
          go_wp2_with (go_at_call 25; (with_reducible refine (HSz.out _ HS.out).mono ?_); rintro e' w' ⟨rfl, rfl⟩)
          refine L1.out.mono ?_
          rintro e' w5 ⟨r1, rfl, hr1, hrow1, hs5, hk5⟩
          have hrow1' : Row w5 r1 (seen s.mem lo d) := hrow1
          have HB3 : Below w.heap.size w w5 := hs5.below
          go_wp2_with fail
          refine (hs5.store (t : Int) A3 n3 c3 l3 h3 h3a (lst_srcW h3c HB3 h3d) (by omega) (by show (t : Int) + n3 ≤ (s.pages : Int) * 4096; rw [HP0.out]; have := HX.out; have := HX2.out; omega) (by have := HX.out; omega)).mono ?_
          rintro e' w6 ⟨rfl, hs6, hk6⟩
          go_wp2_with fail
          refine (hs6.load (lo : Int) (d : Int) (by omega) (by omega) (by show (lo : Int) + (d : Int) ≤ (s.pages : Int) * 4096; rw [HP0.out]; have := HX.out; have := HX2.out; omega) (by have := HX.out; omega)).mono ?_
          rintro e' w7 ⟨r2, rfl, hr2, hrow2, hs7, hk7⟩
          have hrow2' : Row w7 r2 (seen (lay s.mem t l3) lo d) := hrow2
          obtain ⟨m, hm⟩ : ∃ m : Nat, i + n3 = m := ⟨_, rfl⟩
          obtain ⟨X, Y, Z, c1, c2, c3', c4, A5, A6, A7, c5, c6, c7, d1, d2, d3, d4, d5⟩ := back_fin w w7 r1 r2 A3 s.mem t lo i d n3 c3 l3 m hm (by have := HX.out; omega) (by have := HX.out; omega) h3 h3c hs7.below ((hrow1'.kp hk6).kp hk7) hrow2'
          have HBB := Lib.hid hs7.below
          have e1 : wrap64 ((i : Int) + (n3 : Int)) = (m : Int) := by have := HX.out; have := HX2.out; unfold wrap64; omega
          clear hm
          clear hrow1 hrow1' hrow2 hrow2' hs5 hs6 hs7 hk5 hk6 hk7 hr1 hr2 HB3
          rw [Int.toNat_natCast] at *
          clear L1
          go_wp2_with fail
          clear eh HX HX2 HP0 HS HSrc HSz HA HF hbig hbi hin hP0 hP1 w0 w2 w4 v2 v3 v4 v5 v6 hkti el ed ei h1 h1b h1c h1d h3 h3a h3b h3c h3d
          go_quiet (fail)
          go_wp2
          go_ret
          exact ⟨rfl, ⟨HBB.out.os, HBB.out.tape, HBB.out.output, HBB.out.size, HBB.out.block⟩⟩
        · have hkti : ¬ (k : Int) < (t : Int) := by omega
          have HX := Lib.hid (show 0 + t = t ∧ 0 + hi = hi ∧ t + n3 ≤ hi ∧ hi ≤ 10000 by omega)
          have HX2 := Lib.hid hhi1
          clear hhi hhi1 hkt
          have L1 := Lib.hid (HS.out.load 0 (hi : Int) (by omega) (by omega) (by rw [HP0.out]; have := HX.out; have := HX2.out; omega) (by have := HX.out; omega))
          go_wp2_with (go_at_call 25; (with_reducible refine (HSz.out _ HS.out).mono ?_); rintro e' w' ⟨rfl, rfl⟩)
          refine L1.out.mono ?_
          rintro e' w5 ⟨r1, rfl, hr1, hrow1, hs5, hk5⟩
          have hrow1' : Row w5 r1 (seen s.mem 0 hi) := hrow1
          have HB3 : Below w.heap.size w w5 := hs5.below
          go_wp2_with fail
          refine (hs5.store (t : Int) A3 n3 c3 l3 h3 h3a (lst_srcW h3c HB3 h3d) (by omega) (by show (t : Int) + n3 ≤ (s.pages : Int) * 4096; rw [HP0.out]; have := HX.out; have := HX2.out; omega) (by have := HX.out; omega)).mono ?_
          rintro e' w6 ⟨rfl, hs6, hk6⟩
          go_wp2_with fail
          refine (hs6.load (0 : Int) (hi : Int) (by omega) (by omega) (by show (0 : Int) + (hi : Int) ≤ (s.pages : Int) * 4096; rw [HP0.out]; have := HX.out; have := HX2.out; omega) (by have := HX.out; omega)).mono ?_
          rintro e' w7 ⟨r2, rfl, hr2, hrow2, hs7, hk7⟩
          have hrow2' : Row w7 r2 (seen (lay s.mem t l3) 0 hi) := hrow2
          obtain ⟨m, hm⟩ : ∃ m : Nat, t + n3 = m := ⟨_, rfl⟩
          obtain ⟨X, Y, Z, c1, c2, c3', c4, A5, A6, A7, c5, c6, c7, d1, d2, d3, d4, d5⟩ := back_fin w w7 r1 r2 A3 s.mem t 0 t hi n3 c3 l3 m hm (by have := HX.out; omega) (by have := HX.out; omega) h3 h3c hs7.below ((hrow1'.kp hk6).kp hk7) hrow2'
          have HBB := Lib.hid hs7.below
          have e1 : wrap64 ((t : Int) + (n3 : Int)) = (m : Int) := by have := HX.out; have := HX2.out; unfold wrap64; omega
          clear hm
          clear hrow1 hrow1' hrow2 hrow2' hs5 hs6 hs7 hk5 hk6 hk7 hr1 hr2 HB3
          rw [Int.toNat_natCast] at *
          clear L1
          go_wp2_with fail
          clear eh HX HX2 HP0 HS HSrc HSz HA HF hbig hbi hin hP0 hP1 w0 w2 w4 v3 v5 v6 hkti h1 h1b h1c h1d h3 h3a h3b h3c h3d
          go_quiet (fail)
          go_wp2
          go_ret
          exact ⟨rfl, ⟨HBB.out.os, HBB.out.tape, HBB.out.output, HBB.out.size, HBB.out.block⟩⟩
      · have HC := Lib.hid (HS.out.store_err a2 3 A3 n3 c3 w2.1 h3b (by unfold fitsI; rw [HP0.out, if_neg hin]) (by decide))
        by_cases hq : (P : Int) * 4096 < a2
        · go_wp2_with (first | (go_at_call 25; (with_reducible refine (HSz.out _ HS.out).mono ?_); rintro e' w' ⟨rfl, rfl⟩) | (go_at_call 26; (with_reducible refine HC.out.mono ?_); rintro e' w' ⟨rfl, rfl⟩))
          go_ret
          exact ⟨rfl, HS.out.below⟩
        · have hq2 : (P : Int) * 4096 - a2 < n3 := by omega
          go_wp2_with (first | (go_at_call 25; (with_reducible refine (HSz.out _ HS.out).mono ?_); rintro e' w' ⟨rfl, rfl⟩) | (go_at_call 26; (with_reducible refine HC.out.mono ?_); rintro e' w' ⟨rfl, rfl⟩))
          go_ret
          exact ⟨rfl, HS.out.below⟩
    · have hbi : ¬ (n3 : Int) ≤ 9000 := by omega
      go_wp2
      go_ret
      exact ⟨rfl, hb1⟩

theorem u8_lit {a : Int} (h : (Lit.int .u8 a).wf = true) : 0 ≤ a ∧ a ≤ 255 := by
  simp [Lit.wf, IntKind.min, IntKind.max, IntKind.signed, IntKind.bits] at h
  omega
theorem u64_lit {a : Int} (h : (Lit.int .u64 a).wf = true) : 0 ≤ a ∧ a ≤ 18446744073709551615 := by
  simp [Lit.wf, IntKind.min, IntKind.max, IntKind.signed, IntKind.bits] at h
  omega
theorem SpaceBack_walk (a0 : Int) (A1 : Option Addr) (n1 c1 : Nat) (l1 : List Act3) (a2 : Int) (A3 : Option Addr) (n3 c3 : Nat) (l3 : List Int) (a4 : Int) (w : World) (h0 : (Lit.int .u8 a0).wf = true) (h1 : l1.length = n1 ∧ n1 ≤ c1 ∧ n1 ≤ maxLen ∧ Lst KAct3 5 w A1 l1 ∧ ∀ p ∈ l1, wfAct3 p) (y1 : n1 * 56 ≤ 140737488351232) (h2 : (Lit.int .u64 a2).wf = true) (h3 : l3.length = n3 ∧ n3 ≤ c3 ∧ n3 ≤ maxLen ∧ Lst (KInt .u8) 1 w A3 l3 ∧ ∀ p ∈ l3, wfInt .u8 p) (y3 : n3 * 1 ≤ 140737488351232) (h4 : (Lit.int .u8 a4).wf = true) :
    Calls Try.prog 3 #[.int .u8 a0, .slice A1 n1 c1, .int .u64 a2, .slice A3 n3 c3, .int .u8 a4] w fun e w' => e = .returned (.bool true) ∧ Below w.heap.size w w' :=
  SpaceBack_any w a0 A1 n1 c1 l1 a2 A3 n3 c3 l3 a4 h1.1 (by omega) h1.2.2.2.1 h1.2.2.2.2 h3.1 h3.2.1 (by omega) h3.2.2.2.1 h3.2.2.2.2 (u8_lit h0) (u64_lit h2) (u8_lit h4)
end Go.Proofs.Ytfggmddngbbljaa.Sp
