/- SpaceTicks: a load ticks as often as a store and a zero of as many bytes there; a copy as both of its ends; what touches one page ticks once. -/
import Derived.Test.YtfggmddngbbljaaSpaceAwake
namespace Go.Proofs.Ytfggmddngbbljaa.Sp
open Go.RowKit Go.WideMaps
set_option linter.unusedVariables false

theorem touched_le (t n : Int) (t0 : 0 ≤ t) (n0 : 0 ≤ n) (h : n ≤ 9000) : 1 ≤ touchedI t n ∧ touchedI t n ≤ 4 := by unfold touchedI; split <;> omega
theorem touched_one (t n : Int) (t0 : 0 ≤ t) (n0 : 0 ≤ n) : t % 4096 + n ≤ 4096 ↔ touchedI t n = 1 := by unfold touchedI; split <;> omega
theorem made_bytes (n : Nat) (W : World) : W.alloc (.cells (madeCells #[.int .u8 0] n) 5) = W.alloc (.cells ((List.replicate n (0 : Int)).map (Value.int .u8)).toArray 5) := by
  have := made_row n 0 (fun _ => 0)
  rw [this]
  congr 3
  unfold rowCells
  apply List.ext_getElem?
  intro i
  rcases Nat.lt_or_ge i n with h | h <;> simp [h]
theorem run_make_bytes64 (n : Nat) (hn : n ≤ 4294967296) (W : World) : (Instr.makeSlice 24 (.int .i64 (n : Int)) (.int .i64 (n : Int))).run Try.prog W = .ok (.slice (some ⟨W.heap.size, 0, none⟩) n n) (W.alloc (.cells (madeCells #[.int .u8 0] n) 5)) :=
  run_make_row' 24 5 (.int .u8 0) 1 (by kernel_rfl) (by kernel_rfl) rfl .i64 .i64 n (by omega) (by omega) W
theorem Row.made (W : World) (n : Nat) : Row (W.alloc (.cells (madeCells #[.int .u8 0] n) 5)) W.heap.size (List.replicate n 0) := by
  rw [made_bytes]
  exact Row.lit W _ (0, 0)

set_option maxRecDepth 100000 in
set_option maxHeartbeats 4000000 in
theorem SpaceTicks_any (a0 a1 a2 : Int) (w : World) (l0 : 0 ≤ a0) (u0 : a0 ≤ 65535) (l1 : 0 ≤ a1) (u1 : a1 ≤ 65535) (l2 : 0 ≤ a2) (u2 : a2 ≤ 65535) :
    Calls Try.prog 6 #[.int .u16 a0, .int .u16 a1, .int .u16 a2] w fun e w' => e = .returned (.bool true) ∧ Below w.heap.size w w' := by
  obtain ⟨k, hk, hk0, hk1⟩ : ∃ k : Nat, a2 % 9000 = (k : Int) ∧ (0 : Int) ≤ k ∧ (k : Int) ≤ 8999 := ⟨(a2 % 9000).toNat, by omega, by omega, by omega⟩
  have T1 := touched_le a0 k l0 hk0 (by omega)
  have T2 := touched_le a1 k l1 hk0 (by omega)
  have O1 := touched_one a0 k l0 hk0
  have HP : (((newS 64).pages : Nat) : Int) * 4096 = 262144 := by kernel_rfl
  have HA := Lib.hid (awake3_any w)
  have hmk := run_make_bytes64 k (by omega)
  obtain ⟨v0, e0⟩ : ∃ v : Int, (0 : Int) = v := ⟨_, rfl⟩
  obtain ⟨v1, e1⟩ : ∃ v : Int, touchedI a0 k = v := ⟨_, rfl⟩
  obtain ⟨v2, e2⟩ : ∃ v : Int, 2 * touchedI a0 k = v := ⟨_, rfl⟩
  obtain ⟨v3, e3⟩ : ∃ v : Int, 3 * touchedI a0 k = v := ⟨_, rfl⟩
  obtain ⟨v4, e4⟩ : ∃ v : Int, 3 * touchedI a0 k + touchedI a1 k = v := ⟨_, rfl⟩
  obtain ⟨v5, e5⟩ : ∃ v : Int, 4 * touchedI a0 k + 2 * touchedI a1 k = v := ⟨_, rfl⟩
  have E := Lib.hid (And.intro e0 (And.intro e1 (And.intro e2 (And.intro e3 (And.intro e4 e5)))))
  have HO := Lib.hid O1
  have HT1 := Lib.hid T1
  have HT2 := Lib.hid T2
  clear e0 e1 e2 e3 e4 e5 O1 T1 T2
  go_enter Try.func6, Try.ntmps6
  go_wp2_with fail
  refine HA.out.mono ?_
  rintro e w1 ⟨rfl, hb1⟩
  go_wp2_with fail
  refine (St.new 64 (hb1 : Below w.heap.size w w1)).mono ?_
  rintro e w2 ⟨g, rfl, hg, hs2, hb2⟩
  go_wp2_with fail
  refine (hs2.ticks_v v0 (by rw [← E.out.1]; kernel_rfl)).mono ?_
  rintro e w3 ⟨rfl, rfl⟩
  go_wp2_with fail
  refine (hs2.load a0 k l0 hk0 (by rw [HP]; omega) (by omega)).mono ?_
  rintro e w4 ⟨r4, rfl, hr4, hrow4, hs4, hk4⟩
  go_wp2_with fail
  refine (hs4.ticks_v v1 ?_).mono ?_
  · show wrap64 (0 + touchedI a0 k) = _
    have := E.out; have := HT1.out; have := HT2.out
    unfold wrap64; omega
  rintro e w5 ⟨rfl, rfl⟩
  go_wp2_with fail
  refine ((hs4.al _).store a0 _ k k (List.replicate k 0) List.length_replicate (Nat.le_refl _) (Row.srcW (Row.made _ k) (fun v hv => by rw [(List.mem_replicate.1 hv).2]; omega)) l0 (by show a0 + _ ≤ (((newS 64).pages : Nat) : Int) * 4096; rw [HP]; omega) (by omega)).mono ?_
  rintro e w6 ⟨rfl, hs6, hk6⟩
  go_wp2_with fail
  refine (hs6.ticks_v v2 ?_).mono ?_
  · show wrap64 (wrap64 (0 + touchedI a0 k) + touchedI a0 k) = _
    have := E.out; have := HT1.out; have := HT2.out
    unfold wrap64; omega
  rintro e w7 ⟨rfl, rfl⟩
  go_wp2_with fail
  refine (hs6.zero a0 k l0 hk0 (by show a0 + _ ≤ (((newS 64).pages : Nat) : Int) * 4096; rw [HP]; omega)).mono ?_
  rintro e w8 ⟨rfl, hs8, hk8⟩
  go_wp2_with fail
  refine (hs8.ticks_v v3 ?_).mono ?_
  · show wrap64 (wrap64 (wrap64 (0 + touchedI a0 k) + touchedI a0 k) + touchedI a0 k) = _
    have := E.out; have := HT1.out; have := HT2.out
    unfold wrap64; omega
  rintro e w9 ⟨rfl, rfl⟩
  go_wp2_with fail
  refine (hs8.load a1 k l1 hk0 (by show a1 + _ ≤ (((newS 64).pages : Nat) : Int) * 4096; rw [HP]; omega) (by omega)).mono ?_
  rintro e w10 ⟨r10, rfl, hr10, hrow10, hs10, hk10⟩
  go_wp2_with fail
  refine (hs10.ticks_v v4 ?_).mono ?_
  · show wrap64 (wrap64 (wrap64 (wrap64 (0 + touchedI a0 k) + touchedI a0 k) + touchedI a0 k) + touchedI a1 k) = _
    have := E.out; have := HT1.out; have := HT2.out
    unfold wrap64; omega
  rintro e w11 ⟨rfl, rfl⟩
  go_wp2_with fail
  refine (hs10.copy a0 a1 k l0 l1 hk0 (by show a0 + _ ≤ (((newS 64).pages : Nat) : Int) * 4096; rw [HP]; omega) (by show a1 + _ ≤ (((newS 64).pages : Nat) : Int) * 4096; rw [HP]; omega) (by omega)).mono ?_
  rintro e w12 ⟨rfl, hs12, hk12⟩
  go_wp2_with fail
  refine (hs12.ticks_v v5 ?_).mono ?_
  · show wrap64 (wrap64 (wrap64 (wrap64 (wrap64 (0 + touchedI a0 k) + touchedI a0 k) + touchedI a0 k) + touchedI a1 k) + wrap64 (touchedI a0 k + touchedI a1 k)) = _
    have := E.out; have := HT1.out; have := HT2.out
    unfold wrap64; omega
  rintro e w13 ⟨rfl, rfl⟩
  have HB := Lib.hid hs12.below
  clear hs12 hk12 hs10 hk10 hrow10 hr10 hs8 hk8 hs6 hk6 hs4 hk4 hrow4 hr4 hs2 hb2 hg hb1
  clear HP hk HA hmk
  have r0 : wrap64 (v1 - v0) = touchedI a0 k ∧ wrap64 (v2 - v1) = touchedI a0 k ∧ wrap64 (v3 - v2) = touchedI a0 k ∧ wrap64 (v5 - v4) = touchedI a0 k + touchedI a1 k ∧ wrap64 (wrap64 (touchedI a0 k + v4) - v3) = touchedI a0 k + touchedI a1 k := by
    have := E.out; have := HT1.out; have := HT2.out
    unfold wrap64
    omega
  have r1 : wrap64 (v1 - v0) = wrap64 (v2 - v1) := by rw [r0.1, r0.2.1]
  have r2 : wrap64 (v2 - v1) = wrap64 (v3 - v2) := by rw [r0.2.1, r0.2.2.1]
  have r3 : wrap64 (v5 - v4) = wrap64 (wrap64 (wrap64 (v3 - v2) + v4) - v3) := by rw [r0.2.2.1, r0.2.2.2.1, r0.2.2.2.2]
  have HR := Lib.hid r0.2.2.1
  clear r0
  go_wp2_with fail
  have hfin : (decide (a0 % 4096 + (k : Int) ≤ 4096) == (wrap64 (v3 - v2) == 1)) = true := by
    rw [HR.out]
    have h1 := HO.out
    by_cases c : a0 % 4096 + (k : Int) ≤ 4096
    · rw [h1.1 c]; simp [c]
    · have h2 : ¬ touchedI a0 k = 1 := fun e => c (h1.2 e)
      simp [c, h2]
  clear r1 r2 r3
  go_ret
  exact ⟨by rw [hfin]; rfl, HB.out⟩
theorem u16_of {a : Int} (h : (Lit.int .u16 a).wf = true) : 0 ≤ a ∧ a ≤ 65535 := by
  simp [Lit.wf, IntKind.min, IntKind.max, IntKind.signed, IntKind.bits] at h
  omega
theorem SpaceTicks_walk (a0 a1 a2 : Int) (w : World) (h0 : (Lit.int .u16 a0).wf = true) (h1 : (Lit.int .u16 a1).wf = true) (h2 : (Lit.int .u16 a2).wf = true) :
    Calls Try.prog 6 #[.int .u16 a0, .int .u16 a1, .int .u16 a2] w fun e w' => e = .returned (.bool true) ∧ Below w.heap.size w w' :=
  SpaceTicks_any a0 a1 a2 w (u16_of h0).1 (u16_of h0).2 (u16_of h1).1 (u16_of h1).2 (u16_of h2).1 (u16_of h2).2
end Go.Proofs.Ytfggmddngbbljaa.Sp
