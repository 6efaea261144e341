/- What Copy tells of a space, and what it leaves. -/
import Derived.Test.YtfdhjeeaigfmfaaSpaceStores
namespace Go.Proofs.Ytfdhjeeaigfmfaa.Sp
open Go.RowKit Go.WideMaps
set_option linter.unusedVariables false

theorem sstore_n {g m : Nat} {pg : List (Nat × Nat)} {s : SpS} (t n c : Nat) (Ao : Option Addr) (l : List Int) (w : World) (hl : l.length = n) (hs : Spc w g m pg s) (hr : Src w g m pg Ao l) (hnc : n ≤ c) (hn : t + n ≤ s.pages * 4096) :
    Calls Try.prog 63 #[.pointer (some ⟨g, 0, none⟩), .int .u64 (t : Int), .slice Ao n c] w fun e w' => e = .returned (.tuple #[]) ∧
      ∃ pg', Spc w' g m pg' { s with mem := lay s.mem t l } ∧ (∀ x ∈ pg', x ∈ pg ∨ w.heap.size ≤ x.2) ∧ Chg w w' (fun j => j = m ∨ j ∈ pg.map Prod.snd) := by
  subst hl
  exact sstore_any t c Ao l w hs hr hnc hn

set_option maxRecDepth 100000 in
set_option maxHeartbeats 2000000 in
theorem Copy_ok {g m : Nat} {pg : List (Nat × Nat)} {s : SpS} (t f n : Nat) (w : World) (hs : Spc w g m pg s) (hn : t + n ≤ s.pages * 4096) (hf : f + n ≤ s.pages * 4096) (hm : n ≤ 1048576) :
    Calls Try.prog 26 #[.pointer (some ⟨g, 0, none⟩), .int .u64 (t : Int), .int .u64 (f : Int), .int .u64 (n : Int)] w fun e w' => e = .returned (.int .i64 0) ∧
      ∃ pg', Spc w' g m pg' { s with mem := lay s.mem t (seen s.mem f n), ticks := wrap64 (s.ticks + wrap64 (touchedI t n + touchedI f n)) } ∧ (∀ x ∈ pg', x ∈ pg ∨ w.heap.size ≤ x.2) ∧ Chg w w' (Own g m pg) := by
  have hlim := hs.laid.lim
  have HF := fits_any (t : Int) (n : Int) (n : Int) w hs.head hs.laid.lim (by omega) (by omega)
  rw [fitsI_ok (by omega) (by omega)] at HF
  have HF1 := Lib.hid HF
  have HG := fits_any (f : Int) (n : Int) 1048576 w hs.head hs.laid.lim (by omega) (by omega)
  rw [fitsI_ok (by omega) (by omega)] at HG
  have HG1 := Lib.hid HG
  have HT := Lib.hid (fun W => touched_any (t : Int) (n : Int) W (by omega) (by omega) (by omega))
  have HT2 := Lib.hid (fun W => touched_any (f : Int) (n : Int) W (by omega) (by omega) (by omega))
  have h2 := hs.head.c2
  have f2 := hs.head.f2
  have HQ := Lib.hid (hs.ticked_drew (wrap64 (s.ticks + wrap64 (touchedI t n + touchedI f n))))
  have HL := Lib.hid (sload_any f n _ HQ.out.1 hf)
  have HZ : Hid (∀ r W, Below (w.setCell ⟨g, 2, none⟩ (.int .i64 (wrap64 (s.ticks + wrap64 (touchedI t n + touchedI f n))))).drew.heap.size (w.setCell ⟨g, 2, none⟩ (.int .i64 (wrap64 (s.ticks + wrap64 (touchedI t n + touchedI f n))))).drew W → RowAt W r (rowCells n n f s.mem) → Calls Try.prog 63 #[.pointer (some ⟨g, 0, none⟩), .int .u64 (t : Int), .slice (some ⟨r, 0, none⟩) n n] W fun e w' => e = .returned (.tuple #[]) ∧
      ∃ pg', Spc w' g m pg' { s with mem := lay s.mem t (seen s.mem f n), ticks := wrap64 (s.ticks + wrap64 (touchedI t n + touchedI f n)) } ∧ (∀ x ∈ pg', x ∈ pg ∨ W.heap.size ≤ x.2) ∧ Chg W w' (fun j => j = m ∨ j ∈ pg.map Prod.snd)) := by
    intro r W hb hrow
    have hs2 := HQ.out.1.below hb
    exact sstore_n t n n _ _ W (seen_length _ _ _) hs2 (src_new (s' := s) hs2 hrow hs.laid.range) (Nat.le_refl _) hn
  clear HF HG hs
  go_enter Try.func26, Try.ntmps26
  go_wp2_with (go_at_call 59; first | ((with_reducible refine HF1.out.mono ?_); rintro e w' ⟨rfl, rfl⟩) | ((with_reducible refine HG1.out.mono ?_); rintro e w' ⟨rfl, rfl⟩))
  go_region_with (go_at_call 60; first | ((with_reducible refine (HT.out _).mono ?_); rintro e w' ⟨rfl, rfl⟩) | ((with_reducible refine (HT2.out _).mono ?_); rintro e w' ⟨rfl, rfl⟩))
  all_goals
    go_wp2_with (first | (go_at_call 61; (with_reducible refine HL.out.mono ?_); rintro e w' ⟨r, rfl, hr, hrow, hb⟩) | (go_at_call 63; (with_reducible refine (HZ.out r w' hb hrow).mono ?_); rintro e w'' ⟨rfl, hH⟩))
    go_ret
    obtain ⟨pg', k1, k2, k3⟩ := hH
    exact ⟨rfl, pg', k1, fun x hx => (k2 x hx).imp_right (fun h => Nat.le_trans HQ.out.2.size (Nat.le_trans hb.size h)), ((HQ.out.2.then_below hb).mono (S2 := Own g m pg) (fun j hj => .inl hj)).trans k3 (fun j hj => .inl (.inr hj))⟩

theorem Copy_err1 {g m : Nat} {pg : List (Nat × Nat)} {s : SpS} (t f n k : Int) (w : World) (hs : Spc w g m pg s) (t0 : 0 ≤ t) (n0 : 0 ≤ n) (hf : fitsI ((s.pages : Int) * 4096) t n n = k) (hk : k ≠ 0) :
    Calls Try.prog 26 #[.pointer (some ⟨g, 0, none⟩), .int .u64 t, .int .u64 f, .int .u64 n] w fun e w' => e = .returned (.int .i64 k) ∧ w = w' := by
  have HF := fits_any t n n w hs.head hs.laid.lim t0 n0
  rw [hf] at HF
  have HF1 := Lib.hid HF
  have hc1 : (k == 0) = false := by simpa using hk
  have hc2 : (k != 0) = true := by simpa using hk
  clear HF hs hf
  go_enter Try.func26, Try.ntmps26
  go_wp2_with (go_at_call 59; (with_reducible refine HF1.out.mono ?_); rintro e w' ⟨rfl, rfl⟩)
  go_ret
  exact ⟨rfl, rfl⟩

theorem Copy_err2 {g m : Nat} {pg : List (Nat × Nat)} {s : SpS} (t f n k : Int) (w : World) (hs : Spc w g m pg s) (t0 : 0 ≤ t) (f0 : 0 ≤ f) (n0 : 0 ≤ n) (h0 : fitsI ((s.pages : Int) * 4096) t n n = 0) (hf : fitsI ((s.pages : Int) * 4096) f n 1048576 = k) (hk : k ≠ 0) :
    Calls Try.prog 26 #[.pointer (some ⟨g, 0, none⟩), .int .u64 t, .int .u64 f, .int .u64 n] w fun e w' => e = .returned (.int .i64 k) ∧ w = w' := by
  have HF := fits_any t n n w hs.head hs.laid.lim t0 n0
  rw [h0] at HF
  have HF1 := Lib.hid HF
  have HG := fits_any f n 1048576 w hs.head hs.laid.lim f0 n0
  rw [hf] at HG
  have HG1 := Lib.hid HG
  have hc1 : (k == 0) = false := by simpa using hk
  have hc2 : (k != 0) = true := by simpa using hk
  clear HF HG hs hf h0
  go_enter Try.func26, Try.ntmps26
  go_wp2_with (go_at_call 59; first | ((with_reducible refine HF1.out.mono ?_); rintro e w' ⟨rfl, rfl⟩) | ((with_reducible refine HG1.out.mono ?_); rintro e w' ⟨rfl, rfl⟩))
  go_ret
  exact ⟨rfl, rfl⟩

theorem Copy_nil (t f n : Int) (w : World) : Calls Try.prog 26 #[.pointer none, .int .u64 t, .int .u64 f, .int .u64 n] w fun e w' => e = .returned (.int .i64 3) ∧ w = w' := by
  go_enter Try.func26, Try.ntmps26
  go_wp2_with (go_at_call 59; refine (fits_nil _ _ _ _).mono ?_; rintro e w' ⟨rfl, rfl⟩)
  go_ret
  exact ⟨rfl, rfl⟩

end Go.Proofs.Ytfdhjeeaigfmfaa.Sp
