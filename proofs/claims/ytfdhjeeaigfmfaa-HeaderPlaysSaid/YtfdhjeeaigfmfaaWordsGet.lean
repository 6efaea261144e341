/- words.Get: the number that bytes are. -/
import Derived.Test.YtfdhjeeaigfmfaaWords
namespace Go.Proofs.Ytfdhjeeaigfmfaa.Sp
open Go.RowKit Go.WideMaps Go.Proofs.Ytfdhjeeaigfmfaa.In Go.Proofs.Ytfdhjeeaigfmfaa.Plain
set_option linter.unusedVariables false

theorem pow256_u64 {i : Nat} (h : i ≤ 8) : (256 : Int) ^ i ≤ 18446744073709551616 := by
  have : i = 0 ∨ i = 1 ∨ i = 2 ∨ i = 3 ∨ i = 4 ∨ i = 5 ∨ i = 6 ∨ i = 7 ∨ i = 8 := by omega
  rcases this with rfl | rfl | rfl | rfl | rfl | rfl | rfl | rfl | rfl <;> decide
theorem pow256_lt {i : Nat} (h : i ≤ 7) : (256 : Int) ^ i ≤ 72057594037927936 := by
  have : i = 0 ∨ i = 1 ∨ i = 2 ∨ i = 3 ∨ i = 4 ∨ i = 5 ∨ i = 6 ∨ i = 7 := by omega
  rcases this with rfl | rfl | rfl | rfl | rfl | rfl | rfl | rfl <;> decide
/-- A byte, shifted to its place. -/
theorem shl_byte {b : Int} {i : Nat} (hi : i ≤ 7) (b0 : 0 ≤ b) (b1 : b ≤ 255) : IntKind.u64.wrap (b * 2 ^ (8 * i)) = b * 256 ^ i := by
  rw [pow2_256]
  have hp := pow256_lt hi
  have hpp := pow256_pos i
  have hm : b * 256 ^ i ≤ 255 * 256 ^ i := Int.mul_le_mul_of_nonneg_right b1 (by omega)
  have hm0 : 0 ≤ b * 256 ^ i := Int.mul_nonneg b0 (by omega)
  show (b * 256 ^ i) % 18446744073709551616 = _
  exact Int.emod_eq_of_lt hm0 (by omega)
theorem num_snoc (l : List Int) (b : Int) : num (l ++ [b]) = num l + 256 ^ l.length * b := by
  rw [num_append]
  simp [num]
theorem take_next (l : List Int) (t i : Nat) (h : t + i < l.length) : (l.drop t).take (i + 1) = (l.drop t).take i ++ [l.getD (t + i) 0] := by
  rw [List.take_add_one, List.getElem?_drop, List.getD_eq_getElem?_getD, List.getElem?_eq_getElem h]
  rfl

set_option maxRecDepth 100000 in
set_option maxHeartbeats 4000000 in
theorem wGet_ok (r o n c t k : Nat) (l : List Int) (W : World) (hl : l.length = n) (hk : wideP (k : Int)) (ht : t + k ≤ n) (hn : n ≤ 9223372036854775807) (hb : Bs l) (hc : ∀ j, j < n → W.cell? ⟨r, o + j, none⟩ = some (.int .u8 (l.getD j 0))) :
    Calls Try.prog 38 #[.slice (some ⟨r, o, none⟩) n c, .int .i64 (t : Int), .int .i64 (k : Int)] W fun e w' => e = .returned (.tuple #[.int .u64 (num ((l.drop t).take k)), .bool true]) ∧ W = w' := by
  have HR := Lib.hid (right_any (n : Int) (t : Int) (k : Int) W (by omega))
  have hd : decide (rightP (n : Int) (t : Int) (k : Int)) = true := decide_eq_true (by unfold rightP; exact ⟨hk, by omega, by omega, by omega⟩)
  have hk8 := hk.bd
  have HK := Lib.hid hk
  have HC := Lib.hid hc
  have HB := Lib.hid hb
  have HL := Lib.hid hl
  clear hk hc hb hl
  go_enter Try.func38, Try.ntmps38
  go_wp2_with (go_at_call 70; (with_reducible refine HR.out.mono ?_); rintro e' w' ⟨rfl, rfl⟩)
  go_loop [8, 17] (fun v i => ∃ q : Nat, q ≤ k ∧ v = .int .u64 (num ((l.drop t).take q)) ∧ i = .int .i64 (q : Int)) (fun _ i => k - (intOf i).toNat)
  case atStart => exact ⟨0, Nat.zero_le _, by simp [num], rfl⟩
  case round =>
    obtain ⟨q, hq, rfl, rfl⟩ := hrel
    by_cases hlt : q < k
    · have hlti : (q : Int) < (k : Int) := by omega
      have hcl := HC.out (t + q) (by omega)
      have hx : 0 ≤ l.getD (t + q) 0 ∧ l.getD (t + q) 0 ≤ 255 := by
        rw [List.getD_eq_getElem?_getD, List.getElem?_eq_getElem (by rw [HL.out]; omega)]
        exact HB.out _ (List.getElem_mem _)
      have hnx := take_next l t q (by rw [HL.out]; omega)
      have hr := num_range (bs_take (bs_drop HB.out t) q)
      have hln : ((l.drop t).take q).length = q := by rw [List.length_take, List.length_drop, HL.out]; omega
      rw [hln] at hr
      have hsh := shl_byte (i := q) (by omega) hx.1 hx.2
      have hor := or_next (i := q) (by omega) hr.1 hr.2 hx.1 hx.2
      have hfin : num ((l.drop t).take q) + 256 ^ q * l.getD (t + q) 0 = num ((l.drop t).take (q + 1)) := by rw [hnx, num_snoc, hln]
      rw [hfin] at hor
      rw [List.getD_eq_getElem?_getD] at hsh hor hx
      have HF := Lib.hid (And.intro hsh hor)
      clear hsh hor hfin hr hnx hln
      go_wp2
      go_round
      case rel =>
        refine ⟨q + 1, by omega, ?_, by go_num⟩
        rw [HF.out.1, HF.out.2]
      case measure => simp [intOf]; omega
    · have hlti : ¬ (q : Int) < (k : Int) := by omega
      obtain rfl : q = k := by omega
      go_wp2
      go_ret2
      exact ⟨rfl, rfl⟩
end Go.Proofs.Ytfdhjeeaigfmfaa.Sp
