/- WordsBack: what was put is got, where it fits, and else its rest; all other bytes stay. -/
import Derived.Test.YtkiamhpnngehaaaLawWHalves
import Derived.BigQuiet
namespace Go.Proofs.Ytkiamhpnngehaaa.Sp
open Go.RowKit Go.WideMaps Go.Proofs.Ytkiamhpnngehaaa.In Go.Proofs.Ytkiamhpnngehaaa.Plain
set_option linter.unusedVariables false
set_option linter.unusedSimpArgs false

theorem widthW (a : Int) (h : 0 ≤ a) : ∃ m k : Nat, a % 4 = (m : Int) ∧ (m : Int) ≤ 3 ∧ wrap64 (2 ^ m) = (k : Int) ∧ wideP (k : Int) := by
  have : a % 4 = 0 ∨ a % 4 = 1 ∨ a % 4 = 2 ∨ a % 4 = 3 := by omega
  rcases this with h | h | h | h
  · exact ⟨0, 1, h, by decide, by kernel_rfl, by decide⟩
  · exact ⟨1, 2, h, by decide, by kernel_rfl, by decide⟩
  · exact ⟨2, 4, h, by decide, by kernel_rfl, by decide⟩
  · exact ⟨3, 8, h, by decide, by kernel_rfl, by decide⟩

/-- A slice of bytes over cells that hold in the worlds of P. -/
def Over (P : World → Prop) (A : Option Addr) (l : List Int) : Prop := 0 < l.length → ∃ b o, A = some ⟨b, o, none⟩ ∧ ∀ W, P W → ∀ j, j < l.length → W.cell? ⟨b, o + j, none⟩ = some (.int .u8 (l.getD j 0))

theorem over_l {P : World → Prop} {A : Option Addr} {l : List Int} (h : Over P A l) (n c k : Nat) (hn : l.length = n) (hk : k ≤ n) (hc : n ≤ c) :
    ∃ A' : Option Addr, (∀ W, (Instr.sliceAt 22 (.slice A n c) (some (.int .i64 (k : Int))) none none).run Try.prog W = .ok (.slice A' (n - k) (c - k)) W) ∧ ∀ W, P W → ∀ c', (convert 22 9 (.slice A' (n - k) c')).run Try.prog W = .ok (.string (strOfNums (l.drop k))) W := by
  refine ⟨if c = k then A else A.map (·.add (k * 1)), fun W => ?_, fun W hb c' => ?_⟩
  · have ht : Try.prog.underlying 22 = some (.slice (Try.prog.elem 22)) := by kernel_rfl
    have hs : (sizeOf (Try.prog.elem 22)).run Try.prog W = .ok 1 W := by kernel_rfl
    rw [run_sliceAt_slice W 22 _ _ _ _ ht, run_slice_l W 22 _ _ _ ht .i64 _ (by omega) (by omega), hs]
    simp [Result.andThen, sliced]
  · by_cases h0 : n = k
    · subst h0
      rw [Nat.sub_self, List.drop_of_length_le (by omega)]
      exact conv_empty _ _ _
    · obtain ⟨b, o, rfl, hcl⟩ := h (by omega)
      rw [if_neg (by omega)]
      show (convert 22 9 (.slice (some ((⟨b, o, none⟩ : Addr).add (k * 1))) (n - k) c')).run Try.prog W = _
      rw [Nat.mul_one, Addr.add_lit]
      refine run_convert_bytes_arg W 22 5 (by kernel_rfl) (by kernel_rfl) b (o + k) (n - k) c' (l.drop k) (by rw [List.length_drop, hn]) (fun i hi => ?_) 9 (by kernel_rfl)
      have h1 := hcl W hb (k + i) (by omega)
      rw [List.getD_eq_getElem?_getD, List.getElem?_drop, Nat.add_assoc]
      rw [List.getD_eq_getElem?_getD] at h1
      exact h1
theorem over_h {P : World → Prop} {A : Option Addr} {l : List Int} (h : Over P A l) (n c k : Nat) (hn : l.length = n) (hk : k ≤ n) (hc : n ≤ c) :
    ∃ A' : Option Addr, (∀ W, (Instr.sliceAt 22 (.slice A n c) none (some (.int .i64 (k : Int))) none).run Try.prog W = .ok (.slice A' k c) W) ∧ ∀ W, P W → ∀ c', (convert 22 9 (.slice A' k c')).run Try.prog W = .ok (.string (strOfNums (l.take k))) W := by
  refine ⟨if c = 0 then A else A.map (·.add (0 * 1)), fun W => ?_, fun W hb c' => ?_⟩
  · have ht : Try.prog.underlying 22 = some (.slice (Try.prog.elem 22)) := by kernel_rfl
    have hs : (sizeOf (Try.prog.elem 22)).run Try.prog W = .ok 1 W := by kernel_rfl
    rw [run_sliceAt_slice W 22 _ _ _ _ ht, run_slice_h W 22 _ _ _ ht .i64 _ (by omega) (by omega), hs]
    simp [Result.andThen, sliced]
  · by_cases h0 : k = 0
    · subst h0
      rw [List.take_zero]
      exact conv_empty _ _ _
    · obtain ⟨b, o, rfl, hcl⟩ := h (by omega)
      rw [if_neg (by omega)]
      show (convert 22 9 (.slice (some ((⟨b, o, none⟩ : Addr).add (0 * 1))) k c')).run Try.prog W = _
      rw [Nat.zero_mul, Addr.add_lit]
      refine run_convert_bytes_arg W 22 5 (by kernel_rfl) (by kernel_rfl) b (o + 0) k c' (l.take k) (by rw [List.length_take]; omega) (fun i hi => ?_) 9 (by kernel_rfl)
      have h1 := hcl W hb i (by omega)
      rw [Nat.add_zero, List.getD_eq_getElem?_getD, List.getElem?_take_of_lt (by omega)]
      rw [List.getD_eq_getElem?_getD] at h1
      exact h1
theorem over_lst {w : World} {A : Option Addr} {l : List Int} (h : Lst (KInt .u8) 1 w A l) : Over (fun W => Below w.heap.size w W) A l := fun h0 => by
  obtain ⟨b, o, rfl, hcl⟩ := lst_cells h h0
  exact ⟨b, o, rfl, fun W hb j hj => (Chg.of_below (S := fun _ => False) hb).cell (hcl j hj) (fun h => h)⟩
theorem over_row {r : Nat} {T : List Int} {fr : Nat × Nat} {l : List Int} : Over (fun W => RowX W r T fr l) (some ⟨r, 0, none⟩) l := fun h0 => ⟨r, 0, rfl, fun W hb j hj => by rw [Nat.zero_add]; exact hb.cell hj⟩

theorem back8 (X a : Int) (h : X = a % 256 ^ 8) (ha : 0 ≤ a ∧ a ≤ 18446744073709551615) : X = a := by
  rw [show (256 : Int) ^ 8 = 18446744073709551616 by decide] at h
  omega

theorem fit_eq (a M : Int) (h : 0 ≤ a) (hM : 0 < M) : ((a % M == a) == decide (a < M)) = true := by
  by_cases c : a < M
  · rw [Int.emod_eq_of_lt h c]; simp [c]
  · have h1 := Int.emod_lt_of_pos a hM
    have h2 : ¬ (a % M = a) := by omega
    simp [c, h2]
set_option maxRecDepth 100000 in
set_option maxHeartbeats 1000000 in
theorem WordsBack_any (w : World) (A0 : Option Addr) (n0 c0 : Nat) (l0 : List Int) (a1 a2 a3 : Int) (hn0 : l0.length = n0) (hnc : n0 ≤ c0) (hnm : n0 ≤ 140737488351232) (hL : Lst (KInt .u8) 1 w A0 l0) (hv : ∀ p ∈ l0, 0 ≤ p ∧ p ≤ 255)
    (h1 : 0 ≤ a1 ∧ a1 ≤ 255) (h2 : 0 ≤ a2 ∧ a2 ≤ 255) (h3 : 0 ≤ a3 ∧ a3 ≤ 18446744073709551615) :
    Calls Try.prog 4 #[.slice A0 n0 c0, .int .u8 a1, .int .u8 a2, .int .u64 a3] w fun e w' => e = .returned (.bool true) ∧ Below w.heap.size w w' := by
  have HL := Lib.hid hL
  have HN := Lib.hid hn0
  have HV := Lib.hid hv
  clear hL hn0 hv
  obtain ⟨t, rfl⟩ := Int.eq_ofNat_of_zero_le h1.1
  have HWT := Lib.hid (show wrap64 (t : Int) = (t : Int) from wrap_in (by omega) (by omega))
  obtain ⟨m, k, hm, hm3, hw, hk⟩ := widthW a2 h2.1
  have hkb := hk.bd
  have ht255 : (t : Int) ≤ 255 := h1.2
  obtain ⟨e, he⟩ : ∃ e : Nat, t + k = e := ⟨_, rfl⟩
  have hei : (t : Int) + (k : Int) = (e : Int) := by omega
  have HWE := Lib.hid (show wrap64 ((t : Int) + (k : Int)) = (e : Int) by rw [wrap_in (by omega) (by omega)]; exact hei)
  have HE := Lib.hid he
  have HK := Lib.hid hk
  have HKB := Lib.hid (And.intro hkb ht255)
  clear he hk hei hkb ht255 h1
  have hwt := HWT.out
  have hew := HWE.out
  go_enter Try.func4, Try.ntmps4
  go_wp2_with fail
  refine (awake2_any w).mono ?_
  rintro e w1 ⟨rfl, hb1⟩
  by_cases hhi : 200 < n0
  · have hhii : (200 : Int) < (n0 : Int) := by omega
    go_wp2_with fail
    go_ret
    exact ⟨rfl, hb1⟩
  have hhii : ¬ (200 : Int) < (n0 : Int) := by omega
  have x1 := lst_string HL.out hb1 n0 c0 HN.out
  obtain ⟨c, T, C, fr, hc, hfr, x2, hX⟩ := text_row w1 l0 HV.out
  rw [HN.out] at x2 hfr hc
  obtain ⟨S, hS⟩ : ∃ S, strOfNums l0 = S := ⟨_, rfl⟩
  rw [hS] at x1 x2
  have HS := Lib.hid hS
  clear hS
  go_wp2_with fail
  clear x1 x2
  have hN := HN.out
  have hbl : Below w.heap.size w (w1.alloc (.cells C 5 fr)).drew := (hb1.alloc hb1.size _).drew
  have hw1 : w.heap.size ≤ w1.heap.size := hb1.size
  generalize (w1.alloc (.cells C 5 fr)).drew = W2 at hX hbl ⊢
  generalize w1.heap.size = r at *
  have hBs : Bs l0 := fun x hx => HV.out x hx
  rw [hw]
  by_cases hr : e ≤ n0
  case' neg =>
    have hlt : (n0 : Int) < (e : Int) := by omega
    have hx1 : (convert 22 9 (.slice A0 n0 c0)).run Try.prog W2 = .ok (.string S) W2 := by
      have := lst_string HL.out hbl n0 c0 HN.out
      rwa [HS.out] at this
    refine (wPut_err (some ⟨r, 0, none⟩) n0 c t k a3 W2 (by omega) (by unfold rightP; have := HE.out; have := HKB.out; omega)).mono ?_
    rintro e w3 ⟨rfl, rfl⟩
    have s1 := hX.str n0 c hN
    rw [HS.out] at s1
    have HB := Lib.hid hbl
    clear hX hbl hBs hN
    go_wp2_with fail
    go_ret
    exact ⟨rfl, HB.out⟩
  case' pos =>
    have hlt : ¬ (n0 : Int) < (e : Int) := by omega
    have htk : t + k ≤ n0 := by rw [HE.out]; exact hr
    refine (wPut_x r n0 c t k l0 a3 W2 hN HK.out htk (by omega) h3 T fr hX (by omega)).mono ?_
    rintro e' w4 ⟨rfl, hX4, hc4⟩
    have hbl4 := hc4.below hbl hbl.size (fun i hi => by rw [hi]; exact hw1)
    have hl2 : (putL l0 t k a3).length = n0 := by rw [putL_length _ (by omega), hN]
    have hB2 : Bs (putL l0 t k a3) := putL_bs hBs _ _ _
    have et := putL_take l0 t k a3 (by omega)
    have ed := putL_drop l0 t k a3 (by omega)
    rw [HE.out] at ed
    have hnum : num (((putL l0 t k a3).drop t).take k) = a3 % 256 ^ k := by rw [putL_mid _ _ _ _ (by omega), num_le]
    go_wp2_with fail
    refine (wGet_ok r 0 n0 c t k _ w4 hl2 HK.out htk (by omega) hB2 (hX4.cells n0 hl2)).mono ?_
    rintro e' w5 ⟨rfl, rfl⟩
    rw [hnum]
    obtain ⟨X, hXX⟩ : ∃ X, a3 % 256 ^ k = X := ⟨_, rfl⟩
    rw [hXX]
    obtain ⟨B1, b1, s1⟩ := over_h (over_row (r := r) (T := T) (fr := fr) (l := putL l0 t k a3)) n0 c t hl2 (by omega) (by omega)
    obtain ⟨B2, b2, s2⟩ := over_l (over_row (r := r) (T := T) (fr := fr) (l := putL l0 t k a3)) n0 c e hl2 hr (by omega)
    obtain ⟨B3, b3, s3⟩ := over_h (over_lst HL.out) n0 c0 t hN (by omega) hnc
    obtain ⟨B4, b4, s4⟩ := over_l (over_lst HL.out) n0 c0 e hN hr hnc
    rw [et] at s1
    rw [ed] at s2
    have hei : (e : Int) = (t : Int) + (k : Int) := by have := HE.out; omega
    rw [hei] at b2 b4
    clear hei
    generalize strOfNums (l0.take t) = P1 at s1 s3
    generalize strOfNums (l0.drop e) = P2 at s2 s4
    have hbq : ∀ q, Below w.heap.size w (w4.drewN q) := fun q => ⟨hbl4.os, hbl4.tape, hbl4.output, hbl4.size, hbl4.block⟩
    have t1 := fun q => s1 (w4.drewN q) hX4
    have t2 := fun q => s2 (w4.drewN q) hX4
    have t3 := fun q => s3 (w4.drewN q) (hbq q)
    have t4 := fun q => s4 (w4.drewN q) (hbq q)
    have u1 := t1 0
    have HBB := Lib.hid hbl4
    have htn : (t : Int) ≤ (n0 : Int) := by omega
    have hen : (e : Int) ≤ (n0 : Int) := by omega
    have HX := Lib.hid hXX
    clear s1 s2 s3 s4 et ed hnum hl2 hB2 hbl4 hc4 hX4 htk hr hXX hBs hbq u1 hbl hX hfr hc hN hw1 hb1 hw
    go_wp2_with fail
    clear hwt hm hm3 HWT HWE hew
    go_quiet (fail)
    clear b1 b2 b3 b4 t1 t2 t3 t4 htn hen hlt
    have hk4 : k = 1 ∨ k = 2 ∨ k = 4 ∨ k = 8 := by have := HK.out; unfold wideP at this; omega
    have HBQ : RowKit.Hid (Below w.heap.size w (w4.drewN nq)) := Lib.hid ⟨HBB.out.os, HBB.out.tape, HBB.out.output, HBB.out.size, HBB.out.block⟩
    clear HE HKB HK HBB
    generalize w4.drewN nq = w6 at HBQ ⊢
    rcases hk4 with rfl | rfl | rfl | rfl
    · have HF := Lib.hid (fun W => fits_ok 1 256 a3 W (.inl ⟨rfl, rfl⟩) h3)
      obtain rfl : X = a3 % 256 := by have := HX.out; rw [show (256 : Int) ^ 1 = 256 by decide] at this; exact this.symm
      have HQ := Lib.hid (fit_eq a3 256 h3.1 (by decide))
      clear HX
      go_wp2_with (go_at_call 16; ((refine (HF.out _).mono ?_); rintro e w7 ⟨rfl, rfl⟩))
      go_ret
      refine ⟨?_, HBQ.out⟩
      show Ending.returned (Value.bool ((a3 % 256 == a3) == decide (a3 < 256))) = _
      rw [HQ.out]
    · have HF := Lib.hid (fun W => fits_ok 2 65536 a3 W (.inr (.inl ⟨rfl, rfl⟩)) h3)
      obtain rfl : X = a3 % 65536 := by have := HX.out; rw [show (256 : Int) ^ 2 = 65536 by decide] at this; exact this.symm
      have HQ := Lib.hid (fit_eq a3 65536 h3.1 (by decide))
      clear HX
      go_wp2_with (go_at_call 16; ((refine (HF.out _).mono ?_); rintro e w7 ⟨rfl, rfl⟩))
      go_ret
      refine ⟨?_, HBQ.out⟩
      show Ending.returned (Value.bool ((a3 % 65536 == a3) == decide (a3 < 65536))) = _
      rw [HQ.out]
    · have HF := Lib.hid (fun W => fits_ok 4 4294967296 a3 W (.inr (.inr (.inl ⟨rfl, rfl⟩))) h3)
      obtain rfl : X = a3 % 4294967296 := by have := HX.out; rw [show (256 : Int) ^ 4 = 4294967296 by decide] at this; exact this.symm
      have HQ := Lib.hid (fit_eq a3 4294967296 h3.1 (by decide))
      clear HX
      go_wp2_with (go_at_call 16; ((refine (HF.out _).mono ?_); rintro e w7 ⟨rfl, rfl⟩))
      go_ret
      refine ⟨?_, HBQ.out⟩
      show Ending.returned (Value.bool ((a3 % 4294967296 == a3) == decide (a3 < 4294967296))) = _
      rw [HQ.out]
    · obtain rfl : X = a3 := back8 X a3 HX.out.symm h3
      clear HX
      go_wp2_with fail
      go_ret
      exact ⟨rfl, HBQ.out⟩
theorem WordsBack_walk (A0 : Option Addr) (n0 c0 : Nat) (l0 : List Int) (a1 a2 a3 : Int) (w : World)
    (h0 : l0.length = n0 ∧ n0 ≤ c0 ∧ n0 ≤ maxLen ∧ Lst (KInt .u8) 1 w A0 l0 ∧ ∀ p ∈ l0, wfInt .u8 p) (y0 : n0 * 1 ≤ 140737488351232) (h1 : (Lit.int .u8 a1).wf = true) (h2 : (Lit.int .u8 a2).wf = true) (h3 : (Lit.int .u64 a3).wf = true) :
    Calls Try.prog 4 #[.slice A0 n0 c0, .int .u8 a1, .int .u8 a2, .int .u64 a3] w fun e w' => e = .returned (.bool true) ∧ Below w.heap.size w w' :=
  WordsBack_any w A0 n0 c0 l0 a1 a2 a3 h0.1 h0.2.1 (by omega) h0.2.2.2.1 (fun p hp => u8_lit (h0.2.2.2.2 p hp)) (u8_lit h1) (u8_lit h2) (u64_lit h3)
end Go.Proofs.Ytkiamhpnngehaaa.Sp
