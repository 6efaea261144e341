/- What Load tells of a space, and what it leaves. -/
import Derived.Test.YtfdhjeeaigfmfaaSpaceLoad
namespace Go.Proofs.Ytfdhjeeaigfmfaa.Sp
open Go.RowKit Go.WideMaps
set_option linter.unusedVariables false

theorem touched_bd (t n : Int) (t0 : 0 ≤ t) (n0 : 0 ≤ n) : 1 ≤ touchedI t n := by unfold touchedI; split <;> omega

theorem fitsI_ok {size t n most : Int} (h : t + n ≤ size) (h2 : n ≤ most) : fitsI size t n most = 0 := by unfold fitsI; rw [if_pos h, if_neg (by omega)]

/-- The head behind a tick. -/
theorem Spc.ticked {w b : World} {g m : Nat} {pg : List (Nat × Nat)} {s : SpS} (h : Spc w g m pg s) (hb : Below w.heap.size w b) (k : Int) :
    Spc (b.setCell ⟨g, 2, none⟩ (.int .i64 k)) g m pg { s with ticks := k } ∧ Chg w (b.setCell ⟨g, 2, none⟩ (.int .i64 k)) (fun j => j = g) := by
  have hc : Chg w (b.setCell ⟨g, 2, none⟩ (.int .i64 k)) (fun j => j = g) := (Chg.of_below hb).set (S := fun j => j = g) (p := ⟨g, 2, none⟩) (.inl rfl) _
  have ha := h.apart
  refine ⟨⟨?_, h.laid.chg hc (fun e => ha.1 e.symm) (fun x hx e => ha.2.1 x hx e)⟩, hc⟩
  have hh : b.heap[g]? = some (.cells #[.int .i64 (s.pages : Int), .map (some m), .int .i64 s.ticks] 107 (0, 0)) := (hb.block g h.head.glt).trans h.head
  unfold Head
  simp only [World.setCell, Array.getElem?_modify, if_true, hh, Option.map_some]
  rfl

theorem Spc.ticked_drew {w : World} {g m : Nat} {pg : List (Nat × Nat)} {s : SpS} (h : Spc w g m pg s) (k : Int) :
    Spc (w.setCell ⟨g, 2, none⟩ (.int .i64 k)).drew g m pg { s with ticks := k } ∧ Chg w (w.setCell ⟨g, 2, none⟩ (.int .i64 k)).drew (fun j => j = g) := by
  have h1 := h.ticked (Below.refl _ _) k
  exact ⟨h1.1.below (Below.drew (Below.refl _ _)), h1.2.drew⟩

set_option maxRecDepth 100000 in
set_option maxHeartbeats 2000000 in
theorem Load_ok {g m : Nat} {pg : List (Nat × Nat)} {s : SpS} (t n : Nat) (w : World) (hs : Spc w g m pg s) (hn : t + n ≤ s.pages * 4096) (hm : n ≤ 1048576) :
    Calls Try.prog 20 #[.pointer (some ⟨g, 0, none⟩), .int .u64 (t : Int), .int .u64 (n : Int)] w fun e w' => ∃ r : Nat, e = .returned (.tuple #[.slice (some ⟨r, 0, none⟩) n n, .int .i64 0]) ∧ w.heap.size ≤ r ∧ RowAt w' r (rowCells n n t s.mem) ∧
      Spc w' g m pg { s with ticks := wrap64 (s.ticks + touchedI t n) } ∧ Chg w w' (fun j => j = g) := by
  have hlim := hs.laid.lim
  have HF := fits_any (t : Int) (n : Int) 1048576 w hs.head hs.laid.lim (by omega) (by omega)
  rw [fitsI_ok (by omega) (by omega)] at HF
  have HF1 := Lib.hid HF
  have HT := Lib.hid (fun W => touched_any (t : Int) (n : Int) W (by omega) (by omega) (by omega))
  have h2 := hs.head.c2
  have f2 := hs.head.f2
  have HQ := Lib.hid (hs.ticked_drew (wrap64 (s.ticks + touchedI t n)))
  clear HF hs
  have HL := Lib.hid (sload_any t n _ HQ.out.1 hn)
  go_enter Try.func20, Try.ntmps20
  go_wp2_with (go_at_call 59; refine HF1.out.mono ?_; rintro e w' ⟨rfl, rfl⟩)
  go_region_with (go_at_call 60; refine (HT.out _).mono ?_; rintro e w' ⟨rfl, rfl⟩)
  all_goals
    go_wp2_with (go_at_call 61; refine HL.out.mono ?_; rintro e w' ⟨r, rfl, hr, hrow, hb⟩)
    go_ret2
    exact ⟨r, rfl, Nat.le_trans HQ.out.2.size hr, hrow, HQ.out.1.below hb, HQ.out.2.then_below hb⟩

/-- What is beyond, or too much, is told; nothing is turned. -/
theorem Load_err {g m : Nat} {pg : List (Nat × Nat)} {s : SpS} (t n c : Int) (w : World) (hs : Spc w g m pg s) (t0 : 0 ≤ t) (n0 : 0 ≤ n) (hf : fitsI ((s.pages : Int) * 4096) t n 1048576 = c) (hc : c ≠ 0) :
    Calls Try.prog 20 #[.pointer (some ⟨g, 0, none⟩), .int .u64 t, .int .u64 n] w fun e w' => e = .returned (.tuple #[.slice none 0 0, .int .i64 c]) ∧ w = w' := by
  have HF := fits_any t n 1048576 w hs.head hs.laid.lim t0 n0
  rw [hf] at HF
  have HF1 := Lib.hid HF
  have hc1 : (c == 0) = false := by simpa using hc
  have hc2 : (c != 0) = true := by simpa using hc
  clear HF hs hf
  go_enter Try.func20, Try.ntmps20
  go_wp2_with (go_at_call 59; refine HF1.out.mono ?_; rintro e w' ⟨rfl, rfl⟩)
  go_ret2
  exact ⟨rfl, rfl⟩

theorem Load_nil (t n : Int) (w : World) : Calls Try.prog 20 #[.pointer none, .int .u64 t, .int .u64 n] w fun e w' => e = .returned (.tuple #[.slice none 0 0, .int .i64 3]) ∧ w = w' := by
  go_enter Try.func20, Try.ntmps20
  go_wp2_with (go_at_call 59; refine (fits_nil _ _ _ _).mono ?_; rintro e w' ⟨rfl, rfl⟩)
  go_ret2
  exact ⟨rfl, rfl⟩
end Go.Proofs.Ytfdhjeeaigfmfaa.Sp
