/- SpaceZero: what is zeroed is 0, and nothing else is changed; all of it zeroed, all is 0. -/
import Derived.Test.YtfggmddngbbljaaLawMoves
import Derived.Test.YtfggmddngbbljaaLawTicks
namespace Go.Proofs.Ytfggmddngbbljaa.Sp
open Go.RowKit Go.WideMaps Go.Proofs.Ytfggmddngbbljaa.In
set_option linter.unusedVariables false

theorem seen_blank_in (mem : Nat → Int) (t n a k : Nat) (h : t ≤ a ∧ a + k ≤ t + n) : seen (blank mem t n) a k = List.replicate k 0 := by
  apply List.ext_getElem?
  intro j
  unfold seen
  by_cases hj : j < k
  · simp [hj]
    unfold blank
    rw [if_pos (by omega)]
  · simp [hj]
theorem seen_blank_off (mem : Nat → Int) (t n a k : Nat) (h : a + k ≤ t ∨ t + n ≤ a) : seen (blank mem t n) a k = seen mem a k :=
  seen_congr fun i hi => by unfold blank; rw [if_neg (by omega)]

/-- What the drawn region reads. -/
theorem zero_fin (W : World) (r1 r2 : Nat) (mem : Nat → Int) (t k j : Nat) (hj : k + 10 = j) (R1 : Row W r1 (seen mem t j)) (R2 : Row W r2 (seen (blank mem t k) t j)) :
    ∃ (X : ByteArray) (A5 A6 : Addr), (∀ V, (Instr.sliceAt 24 (.slice (some ⟨r1, 0, none⟩) j j) (some (.int .i64 (k : Int))) none none).run Try.prog V = .ok (.slice (some A5) (j - k) (j - k)) V) ∧ (∀ V, (Instr.sliceAt 24 (.slice (some ⟨r2, 0, none⟩) j j) (some (.int .i64 (k : Int))) none none).run Try.prog V = .ok (.slice (some A6) (j - k) (j - k)) V) ∧
      (∀ q, (convert 24 9 (.slice (some A5) (j - k) (j - k))).run Try.prog (W.drewN q) = .ok (.string X) (W.drewN q)) ∧ (∀ q, (convert 24 9 (.slice (some A6) (j - k) (j - k))).run Try.prog (W.drewN q) = .ok (.string X) (W.drewN q)) ∧
      ∀ i : Nat, i < k → ∀ q, (W.drewN q).cell? ⟨r2, i, none⟩ = some (.int .u8 0) := by
  obtain ⟨A5, p5, g5⟩ := cut_l r1 j k (by omega) (k : Int) rfl
  obtain ⟨A6, p6, g6⟩ := cut_l r2 j k (by omega) (k : Int) rfl
  have q1 : ((seen (blank mem t k) t j).drop k).take (j - k) = ((seen mem t j).drop k).take (j - k) := by
    rw [seen_drop, seen_drop, seen_blank_off _ _ _ _ _ (by omega)]
  refine ⟨_, A5, A6, g5, g6, fun q => p5.string (R1.dn q) (seen_length _ _ _) _, fun q => ?_, fun i hi q => ?_⟩
  · rw [← q1]; exact p6.string (R2.dn q) (seen_length _ _ _) _
  · have h := (R2.dn q).cell (j := i) (by rw [seen_length]; omega)
    have e : (seen (blank mem t k) t j).getD i 0 = 0 := by
      rw [List.getD_eq_getElem?_getD]
      unfold seen
      rw [List.getElem?_map, List.getElem?_range (by omega)]
      show blank mem t k (t + i) = 0
      unfold blank
      rw [if_pos (by omega)]
    rw [e] at h
    exact h

set_option maxRecDepth 100000 in
set_option maxHeartbeats 4000000 in
theorem SpaceZero_any (w : World) (a0 : Int) (A1 : Option Addr) (n1 c1 : Nat) (l1 : List Act3) (a2 a3 : Int)
    (h1 : l1.length = n1) (h1b : n1 ≤ 9223372036854775807) (h1c : Lst KAct3 5 w A1 l1) (h1d : ∀ p ∈ l1, wfAct3 p)
    (w0 : 0 ≤ a0 ∧ a0 ≤ 255) (w2 : 0 ≤ a2 ∧ a2 ≤ 65535) (w3 : 0 ≤ a3 ∧ a3 ≤ 65535) :
    Calls Try.prog 5 #[.int .u8 a0, .slice A1 n1 c1, .int .u16 a2, .int .u16 a3] w fun e w' => e = .returned (.bool true) ∧ Below w.heap.size w w' := by
  have HA := Lib.hid (awake3_any w)
  have HF := Lib.hid (fun W (hb : Below w.heap.size w W) => few3_any A1 n1 c1 l1 W h1 h1b (lst_acts h1c hb))
  have HPG := Lib.hid (show ((newS (a0 + 32)).pages : Int) = a0 + 32 from newS_pages (a0 + 32) (by omega) (by omega))
  obtain ⟨k, hk, hk0, hk1⟩ : ∃ k : Nat, a3 % 8200 = (k : Int) ∧ (0 : Int) ≤ k ∧ (k : Int) ≤ 8199 := ⟨(a3 % 8200).toNat, by omega, by omega, by omega⟩
  obtain ⟨j, hj⟩ : ∃ j : Nat, k + 10 = j := ⟨_, rfl⟩
  have ej : (k : Int) + 10 = (j : Int) := by omega
  have hj1 : (j : Int) ≤ 8209 := by omega
  have HJ := Lib.hid hj
  clear hj
  go_enter Try.func5, Try.ntmps5
  go_wp2_with fail
  refine HA.out.mono ?_
  rintro e wa ⟨rfl, hb1⟩
  go_wp2_with fail
  refine (HF.out wa hb1).mono ?_
  rintro e wb ⟨⟨b, rfl⟩, rfl⟩
  cases b with
  | false =>
    go_wp2
    go_ret
    exact ⟨rfl, hb1⟩
  | true =>
    go_wp2_with fail
    refine (St.new (a0 + 32) (hb1 : Below w.heap.size w wa)).mono ?_
    rintro e wc ⟨g, rfl, hg, hs2, hb2⟩
    go_wp2_with fail
    refine (play3_any w g _ A1 n1 c1 l1 wc hs2 h1 h1b h1c h1d).mono ?_
    rintro e wd ⟨rfl, s, hp2, hs, _⟩
    obtain ⟨z, hz⟩ : ∃ z : Nat, s.pages * 4096 = z := ⟨_, rfl⟩
    have hzi : (s.pages : Int) * 4096 = (z : Int) := by omega
    have HB := Lib.hid (show a2 + j ≤ (z : Int) ∧ a2 + k ≤ (z : Int) ∧ a2 + 64 ≤ (z : Int) by rw [← hzi, hp2, HPG.out]; omega)
    have HZ := Lib.hid hzi
    clear hp2 hs2 hb2 hg hb1 HPG hz hzi
    obtain ⟨t, rfl⟩ := Int.eq_ofNat_of_zero_le w2.1
    go_wp2_with fail
    refine (hs.load (t : Int) (j : Int) (by omega) (by omega) (by rw [HZ.out]; exact HB.out.1) (by omega)).mono ?_
    rintro e' w5 ⟨r1, rfl, hr1, hrow1, hs5, hk5⟩
    rw [Int.toNat_natCast] at *
    have hrow1' : Row w5 r1 (seen s.mem t j) := hrow1
    go_wp2_with fail
    refine (hs5.zero (t : Int) (k : Int) (by omega) (by omega) (by show _ ≤ (s.pages : Int) * 4096; rw [HZ.out]; exact HB.out.2.1)).mono ?_
    rintro e' w6 ⟨rfl, hs6, hk6⟩
    go_wp2_with fail
    refine (hs6.load (t : Int) (j : Int) (by omega) (by omega) (by show _ ≤ (s.pages : Int) * 4096; rw [HZ.out]; exact HB.out.1) (by omega)).mono ?_
    rintro e' w7 ⟨r2, rfl, hr2, hrow2, hs7, hk7⟩
    rw [Int.toNat_natCast] at *
    have hrow2' : Row w7 r2 (seen (blank s.mem t k) t j) := hrow2
    obtain ⟨X, A5, A6, f1, f2, f3, f4, f5⟩ := zero_fin w7 r1 r2 s.mem t k j HJ.out ((hrow1'.kp hk6).kp hk7) hrow2'
    have HS7 := fun q => Lib.hid (hs7.dn q)
    have f5 := fun i hi q => f5 i hi q
    clear hrow1 hrow1' hrow2 hrow2' hs5 hs6 hk5 hk6 hk7 hr1 hr2 hs7 hs
    go_wp2_with fail
    have HF5 := Lib.hid f5
    clear f5
    go_quiet (fail)
    clear f1 f2 f3 f4
    have HC := Lib.hid (fun i hi => HF5.out i hi nq)
    have HS := HS7 nq
    clear HF5 HS7
    generalize w7.drewN nq = W7 at *
    go_wp2
    go_loop [19] (fun i => ∃ q : Nat, q ≤ k ∧ i = .int .i64 (q : Int)) (fun i => k - (intOf i).toNat)
    case atStart => exact ⟨0, Nat.zero_le _, rfl⟩
    case round =>
      obtain ⟨q, hq, rfl⟩ := hrel
      by_cases hlt : q < k
      · have hlti : (q : Int) < (k : Int) := by omega
        have hqj : q < j := by have := HJ.out; omega
        have hc := HC.out q hlt
        go_wp2
        go_round
        case rel => exact ⟨q + 1, by omega, by go_num⟩
        case measure => simp [intOf]; omega
      · have hlti : ¬ (q : Int) < (k : Int) := by omega
        clear hlt
        go_wp2_with fail
        refine (HS.out.size_v (z : Int) HZ.out).mono ?_
        rintro e' w8 ⟨rfl, rfl⟩
        go_wp2_with fail
        refine (HS.out.zero 0 (z : Int) (by omega) (by omega) (by show (0 : Int) + _ ≤ (s.pages : Int) * 4096; rw [HZ.out]; omega)).mono ?_
        rintro e' w9 ⟨rfl, hs9, hk9⟩
        go_wp2_with fail
        refine (hs9.load (t : Int) 64 (by omega) (by omega) (by show _ ≤ (s.pages : Int) * 4096; rw [HZ.out]; exact HB.out.2.2) (by omega)).mono ?_
        rintro e' w10 ⟨r3, rfl, hr3, hrow3, hs10, hk10⟩
        rw [Int.toNat_natCast] at *
        have hrow3' : Row w10 r3 (seen (blank (blank s.mem t k) 0 z) t 64) := hrow3
        rw [seen_blank_in _ _ _ _ _ (by have := HB.out; omega)] at hrow3'
        have HBB := Lib.hid hs10.below
        clear hrow3 hs9 hs10 hk9 hk10 hr3 HS HC HA HF h1 h1b h1c h1d
        go_wp2_with fail
        have hmk : ∀ V, (Instr.makeSlice 24 (.int .i64 64) (.int .i64 64)).run Try.prog V = .ok (.slice (some ⟨V.heap.size, 0, none⟩) 64 64) (V.alloc (.cells (madeCells #[.int .u8 0] 64) 5)) := run_make_bytes64 64 (by omega)
        have g1 := hrow3'.dr.string0 64 64 (by simp)
        have g2 := (hrow3'.al (.cells (madeCells #[.int .u8 0] 64) 5)).dr.string0 64 64 (by simp)
        have g3 := (Row.made w10 64).dr.string0 64 64 (by simp)
        have g3 : (convert 24 9 (.slice (some ⟨w10.heap.size, 0, none⟩) 64 64)).run Try.prog (w10.alloc (.cells (madeCells #[.int .u8 0] 64) 5)).drew = _ := g3
        generalize strOfNums (List.replicate 64 0) = X at g1 g2 g3
        generalize madeCells #[.int .u8 0] 64 = M at hmk g2 g3
        clear hrow3'
        go_region
        all_goals
          go_wp2
          go_ret
          exact ⟨rfl, (HBB.out.alloc HBB.out.size _).drew⟩

theorem SpaceZero_walk (a0 : Int) (A1 : Option Addr) (n1 c1 : Nat) (l1 : List Act3) (a2 a3 : Int) (w : World) (h0 : (Lit.int .u8 a0).wf = true) (h1 : l1.length = n1 ∧ n1 ≤ c1 ∧ n1 ≤ maxLen ∧ Lst KAct3 5 w A1 l1 ∧ ∀ p ∈ l1, wfAct3 p) (y1 : n1 * 56 ≤ 140737488351232) (h2 : (Lit.int .u16 a2).wf = true) (h3 : (Lit.int .u16 a3).wf = true) :
    Calls Try.prog 5 #[.int .u8 a0, .slice A1 n1 c1, .int .u16 a2, .int .u16 a3] w fun e w' => e = .returned (.bool true) ∧ Below w.heap.size w w' :=
  SpaceZero_any w a0 A1 n1 c1 l1 a2 a3 h1.1 (by omega) h1.2.2.2.1 h1.2.2.2.2 (u8_lit h0) (u16_lit h2) (u16_lit h3)
end Go.Proofs.Ytfggmddngbbljaa.Sp
