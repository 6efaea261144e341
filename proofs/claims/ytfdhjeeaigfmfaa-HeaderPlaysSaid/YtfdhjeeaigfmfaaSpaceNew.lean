/- A new space, a page's number, and what ticked. -/
import Derived.Test.YtfdhjeeaigfmfaaSpaceCopy
import Derived.Carry
namespace Go.Proofs.Ytfdhjeeaigfmfaa.Sp
open Go.RowKit Go.WideMaps
set_option linter.unusedVariables false

/-- A new space has at least one page, and no more than may be. -/
def clampP (n : Int) : Nat := if n < 1 then 1 else if n > 1048576 then 1048576 else n.toNat
theorem clampP_bd (n : Int) : 1 ≤ clampP n ∧ clampP n ≤ 1048576 := by 
  unfold clampP
  by_cases c1 : n < 1
  · rw [if_pos c1]; omega
  · rw [if_neg c1]
    by_cases c2 : n > 1048576
    · rw [if_pos c2]; omega
    · rw [if_neg c2]; omega
def newS (n : Int) : SpS := ⟨clampP n, fun _ => 0, 0⟩

theorem spc_new (n : Int) (w W : World) (hb : Below w.heap.size w W) (k : Int) (hk : k = (clampP n : Int)) :
    Spc ((W.alloc (.map #[] 0)).alloc (.cells #[.int .i64 k, .map (some W.heap.size), .int .i64 0] 107)) (W.heap.size + 1) W.heap.size [] (newS n) := by
  subst hk
  refine ⟨al_new (by simp), ⟨⟨#[], 0, al_old (al_new rfl), rfl, by simp, by simp⟩, by simp, by simp, by simp, fun _ _ _ _ _ => rfl, (clampP_bd n).2, (clampP_bd n).1, fun _ => ⟨Int.le_refl _, by show (0 : Int) ≤ 255; decide⟩⟩⟩

set_option maxRecDepth 100000 in
set_option maxHeartbeats 2000000 in
theorem New_any (n : Int) (w : World) : Calls Try.prog 17 #[.int .i64 n] w fun e w' => ∃ m : Nat, e = .returned (.pointer (some ⟨m + 1, 0, none⟩)) ∧ w.heap.size ≤ m ∧ Spc w' (m + 1) m [] (newS n) ∧ Below w.heap.size w w' := by
  have H := Lib.hid (fun k hk => spc_new n w w (Below.refl _ _) k hk)
  have hmm := @run_makeMap Try.prog
  by_cases c1 : n < 1
  · have HC := Lib.hid (show (1 : Int) = (clampP n : Int) by unfold clampP; rw [if_pos c1]; rfl)
    go_enter Try.func17, Try.ntmps17
    go_wp2
    go_ret
    exact ⟨w.heap.size, rfl, Nat.le_refl _, H.out _ HC.out, ((Below.refl _ _).alloc (Nat.le_refl _) _).alloc (by simp) _⟩
  · by_cases c2 : n > 1048576
    · have HC := Lib.hid (show (1048576 : Int) = (clampP n : Int) by unfold clampP; rw [if_neg c1, if_pos c2]; rfl)
      go_enter Try.func17, Try.ntmps17
      go_wp2
      go_ret
      exact ⟨w.heap.size, rfl, Nat.le_refl _, H.out _ HC.out, ((Below.refl _ _).alloc (Nat.le_refl _) _).alloc (by simp) _⟩
    · have HC := Lib.hid (show n = (clampP n : Int) by unfold clampP; rw [if_neg c1, if_neg c2]; omega)
      go_enter Try.func17, Try.ntmps17
      go_wp2
      go_ret
      exact ⟨w.heap.size, rfl, Nat.le_refl _, H.out _ HC.out, ((Below.refl _ _).alloc (Nat.le_refl _) _).alloc (by simp) _⟩

theorem Ticks_any {g m : Nat} {pg : List (Nat × Nat)} {s : SpS} (w : World) (hs : Spc w g m pg s) : Calls Try.prog 27 #[.pointer (some ⟨g, 0, none⟩)] w fun e w' => e = .returned (.int .i64 s.ticks) ∧ w = w' := by
  have h2 := hs.head.c2
  clear hs
  go_enter Try.func27, Try.ntmps27
  go_wp2
  go_ret
  exact ⟨rfl, rfl⟩
theorem Ticks_nil (w : World) : Calls Try.prog 27 #[.pointer none] w fun e w' => e = .returned (.int .i64 0) ∧ w = w' := by
  go_enter Try.func27, Try.ntmps27
  go_wp2
  go_ret
  exact ⟨rfl, rfl⟩

theorem number_bits (p : Nat) (h : p < 4294967296) : Go.bits .or .u64 (((p / 65536 % 65536 : Nat) : Int) * 65536) ((p % 65536 : Nat) : Int) = (p : Int) := by
  have e1 : ((p / 65536 % 65536 : Nat) : Int) * 65536 = ((p / 65536 % 65536 * 65536 : Nat) : Int) := by omega
  rw [e1, bits_or_u64_nat _ _ (by omega) (by omega)]
  have e3 := Nat.shiftLeft_add_eq_or_of_lt (b := p % 65536) (i := 16) (by omega) (p / 65536 % 65536)
  rw [Nat.shiftLeft_eq] at e3
  have e4 : (2 : Nat) ^ 16 = 65536 := by decide
  rw [e4] at e3
  rw [← e3]
  omega

set_option maxRecDepth 100000 in
set_option maxHeartbeats 2000000 in
theorem number_any (p : Nat) (w : World) (h : p < 4294967296) : Calls Try.prog 64 #[keyV p] w fun e w' => e = .returned (.int .u64 (p : Int)) ∧ Below w.heap.size w w' := by
  have hn := number_bits p h
  unfold keyV
  have q1 : p / 65536 % 65536 ≤ 65535 := by omega
  have q2 : p % 65536 ≤ 65535 := by omega
  generalize p / 65536 % 65536 = a at *
  generalize p % 65536 = b at *
  have qa : (a : Int) ≤ 65535 := by omega
  have qb : (b : Int) ≤ 65535 := by omega
  go_enter Try.func64, Try.ntmps64
  go_wp2
  go_ret
  exact ⟨rfl, by repeat (first | exact Below.refl _ _ | refine Below.setCell ?_ (by simp) _ | refine Below.alloc ?_ (by simp) _ | refine Below.drew ?_)⟩

end Go.Proofs.Ytfdhjeeaigfmfaa.Sp
