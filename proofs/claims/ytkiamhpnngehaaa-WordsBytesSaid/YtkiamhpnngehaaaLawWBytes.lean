/- WordsBytes: what bytes are behind a number that is put, and what number they are, are the document's. -/
import Derived.Test.YtkiamhpnngehaaaLawWHalves
import Derived.Test.YtkiamhpnngehaaaRefWords
namespace Go.Proofs.Ytkiamhpnngehaaa.Sp
open Go.RowKit Go.WideMaps Go.Proofs.Ytkiamhpnngehaaa.In Go.Proofs.Ytkiamhpnngehaaa.Plain
set_option linter.unusedVariables false

set_option maxRecDepth 100000 in
set_option maxHeartbeats 1000000 in
theorem WordsBytes_any (w : World) (A0 : Option Addr) (n0 c0 : Nat) (l0 : List Int) (a1 a2 a3 : Int) (hn0 : l0.length = n0) (hnc : n0 ≤ c0) (hnm : n0 ≤ 140737488351232) (hL : Lst (KInt .u8) 1 w A0 l0) (hv : ∀ p ∈ l0, 0 ≤ p ∧ p ≤ 255)
    (h1 : -9223372036854775808 ≤ a1 ∧ a1 ≤ 9223372036854775807) (h2 : -9223372036854775808 ≤ a2 ∧ a2 ≤ 9223372036854775807) (h3 : 0 ≤ a3 ∧ a3 ≤ 18446744073709551615) :
    Calls Try.prog 3 #[.slice A0 n0 c0, .int .i64 a1, .int .i64 a2, .int .u64 a3] w fun e w' => e = .returned (.bool true) ∧ Below w.heap.size w w' := by
  have HL := Lib.hid hL
  have HN := Lib.hid hn0
  have HV := Lib.hid hv
  clear hL hn0 hv
  go_enter Try.func3, Try.ntmps3
  go_wp2_with fail
  refine (awake2_any w).mono ?_
  rintro e w1 ⟨rfl, hb1⟩
  by_cases hhi : 200 < n0
  · have hhii : (200 : Int) < (n0 : Int) := by omega
    go_wp2_with fail
    go_ret
    exact ⟨rfl, hb1⟩
  have hhii : ¬ (200 : Int) < (n0 : Int) := by omega
  have x1 := lst_string HL.out hb1 n0 c0 HN.out
  obtain ⟨c, T, C, fr, hc, hfr, x2, hX⟩ := text_row w1 l0 HV.out
  rw [HN.out] at x2 hfr
  obtain ⟨S, hS⟩ : ∃ S, strOfNums l0 = S := ⟨_, rfl⟩
  rw [hS] at x1 x2
  have HS := Lib.hid hS
  clear hS
  go_wp2_with fail
  clear x1 x2
  have hN := HN.out
  have hbl : Below w.heap.size w (w1.alloc (.cells C 5 fr)).drew := (hb1.alloc hb1.size _).drew
  have hw1 : w.heap.size ≤ w1.heap.size := hb1.size
  generalize (w1.alloc (.cells C 5 fr)).drew = W2 at hX hbl ⊢
  generalize w1.heap.size = r at *
  have hBs : Bs l0 := fun x hx => HV.out x hx
  have hnn : n0 ≤ 9000 := by omega
  by_cases hr : rightP (n0 : Int) a1 a2
  case' pos =>
    obtain ⟨hk, ht0, hkn, htk⟩ := hr
    obtain ⟨t, rfl⟩ := Int.eq_ofNat_of_zero_le ht0
    obtain ⟨k, rfl⟩ := Int.eq_ofNat_of_zero_le (show 0 ≤ a2 by have := hk.bd; omega)
    have htn : t + k ≤ n0 := by omega
    refine (wGet_ok r 0 n0 c t k l0 W2 hN hk htn (by omega) hBs (hX.cells n0 hN)).mono ?_
    rintro e w3 ⟨rfl, rfl⟩
    have x1 := lst_string HL.out hbl n0 c0 HN.out
    rw [HS.out] at x1
    go_wp2_with fail
    clear x1
    rw [← HS.out]
    refine (ref02Get_ok l0 n0 t k W2 hN hnn hk htn hBs).mono ?_
    rintro e w3 ⟨rfl, rfl⟩
    rw [HS.out]
    have x1 := lst_string HL.out hbl n0 c0 HN.out
    rw [HS.out] at x1
    generalize num ((l0.drop t).take k) = X
    go_wp2_with fail
    clear x1
    rw [← HS.out]
    refine (ref02Put_ok l0 n0 t k a3 W2 hN hnn hk htn h3).mono ?_
    rintro e w3 ⟨rfl, hb3⟩
    rw [HS.out]
    have hX3 := hX.chg (Chg.of_below (S := fun _ => False) hb3) (fun h => h)
    have hbl3 := hbl.trans (hb3.mono hbl.size)
    have hl2 : (putL l0 t k a3).length = n0 := by rw [putL_length _ (by omega), hN]
    go_wp2_with fail
    refine (wPut_x r n0 c t k l0 a3 w3 hN hk htn (by omega) h3 T fr hX3 (by omega)).mono ?_
    rintro e w4 ⟨rfl, hX4, hc4⟩
    have hbl4 := hc4.below hbl3 hbl3.size (fun i hi => by rw [hi]; exact hw1)
    have s1 := hX4.str n0 c hl2
    generalize strOfNums (putL l0 t k a3) = S2 at s1 ⊢
    have HB := Lib.hid hbl4
    clear hX4 hc4 hbl4 hbl3 hX3 hb3 hbl hX
    go_wp2_with fail
    go_ret
    exact ⟨rfl, HB.out⟩
  case' neg =>
    refine (wGet_err (some ⟨r, 0, none⟩) n0 c a1 a2 W2 (by omega) hr).mono ?_
    rintro e w3 ⟨rfl, rfl⟩
    have x1 := lst_string HL.out hbl n0 c0 HN.out
    rw [HS.out] at x1
    go_wp2_with fail
    rw [← HS.out]
    refine (ref02Get_err l0 n0 a1 a2 W2 hN (by omega) hr).mono ?_
    rintro e w3 ⟨rfl, rfl⟩
    rw [HS.out]
    go_wp2_with fail
    rw [← HS.out]
    refine (ref02Put_err l0 n0 a1 a2 a3 W2 hN (by omega) hr).mono ?_
    rintro e w3 ⟨rfl, rfl⟩
    rw [HS.out]
    go_wp2_with fail
    refine (wPut_err (some ⟨r, 0, none⟩) n0 c a1 a2 a3 W2 (by omega) hr).mono ?_
    rintro e w3 ⟨rfl, rfl⟩
    have s1 := hX.str n0 c hN
    rw [HS.out] at s1
    have HB := Lib.hid hbl
    clear hX hbl
    go_wp2_with fail
    go_ret
    exact ⟨rfl, HB.out⟩
theorem WordsBytes_walk (A0 : Option Addr) (n0 c0 : Nat) (l0 : List Int) (a1 a2 a3 : Int) (w : World)
    (h0 : l0.length = n0 ∧ n0 ≤ c0 ∧ n0 ≤ maxLen ∧ Lst (KInt .u8) 1 w A0 l0 ∧ ∀ p ∈ l0, wfInt .u8 p) (y0 : n0 * 1 ≤ 140737488351232) (h1 : (Lit.int .i64 a1).wf = true) (h2 : (Lit.int .i64 a2).wf = true) (h3 : (Lit.int .u64 a3).wf = true) :
    Calls Try.prog 3 #[.slice A0 n0 c0, .int .i64 a1, .int .i64 a2, .int .u64 a3] w fun e w' => e = .returned (.bool true) ∧ Below w.heap.size w w' :=
  WordsBytes_any w A0 n0 c0 l0 a1 a2 a3 h0.1 h0.2.1 (by omega) h0.2.2.2.1 (fun p hp => u8_lit (h0.2.2.2.2 p hp)) (i64_lit h1) (i64_lit h2) (u64_lit h3)
end Go.Proofs.Ytkiamhpnngehaaa.Sp
