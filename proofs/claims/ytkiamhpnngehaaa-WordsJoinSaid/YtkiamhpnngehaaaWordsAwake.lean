/- words.Signed, words.Fits; the document's examples of words. -/
import Derived.Test.YtkiamhpnngehaaaWordsOne
namespace Go.Proofs.Ytkiamhpnngehaaa.Sp
open Go.RowKit Go.WideMaps Go.Proofs.Ytkiamhpnngehaaa.In Go.Proofs.Ytkiamhpnngehaaa.Plain
set_option linter.unusedVariables false

/-- A number with its sign. -/
def sgn (k n : Int) : Int := if k = 1 then (n + 128) % 256 - 128 else if k = 2 then (n + 32768) % 65536 - 32768 else if k = 4 then (n + 2147483648) % 4294967296 - 2147483648 else (n + 9223372036854775808) % 18446744073709551616 - 9223372036854775808

set_option maxRecDepth 100000 in
set_option maxHeartbeats 4000000 in
theorem signed_ok (k n : Int) (W : World) (hk : wideP k) (hn : 0 ≤ n ∧ n ≤ 18446744073709551615) :
    Calls Try.prog 17 #[.int .u64 n, .int .i64 k] W fun e w' => e = .returned (.int .i64 (sgn k n)) ∧ W = w' := by
  rcases hk with rfl | rfl | rfl | rfl
  all_goals
    go_enter Try.func17, Try.ntmps17
    go_wp2
    go_ret
    exact ⟨by simp [sgn, IntKind.wrap, IntKind.signed, IntKind.bits]; (try unfold wrap64); (try unfold wrap32); (try split) <;> omega, rfl⟩

set_option maxRecDepth 100000 in
set_option maxHeartbeats 4000000 in
theorem fits_ok (k m n : Int) (W : World) (hk : k = 1 ∧ m = 256 ∨ k = 2 ∧ m = 65536 ∨ k = 4 ∧ m = 4294967296 ∨ k = 8 ∧ m = 18446744073709551616) (hn : 0 ≤ n ∧ n ≤ 18446744073709551615) :
    Calls Try.prog 16 #[.int .u64 n, .int .i64 k] W fun e w' => e = .returned (.bool (decide (n < m))) ∧ W = w' := by
  have HW := Lib.hid (wide_any k W)
  have hd : decide (wideP k) = true := decide_eq_true (by unfold wideP; omega)
  rcases hk with ⟨rfl, rfl⟩ | ⟨rfl, rfl⟩ | ⟨rfl, rfl⟩ | ⟨rfl, rfl⟩
  all_goals
    go_enter Try.func16, Try.ntmps16
    go_wp2_with (go_at_call 58; (with_reducible refine HW.out.mono ?_); rintro e' w' ⟨rfl, rfl⟩)
    go_ret
    refine ⟨?_, rfl⟩
    show Ending.returned (Value.bool (_ == _)) = _
    congr 2
    rw [Bool.eq_iff_iff, beq_iff_eq, decide_eq_true_iff]
    omega

theorem lit0 (w : World) : RowZ (w.alloc (.cells #[.int .u8 0, .int .u8 0, .int .u8 0] 5)) w.heap.size [0, 0, 0] := by
  show (w.alloc (.cells (([0, 0, 0] : List Int).map (Value.int .u8)).toArray 5 (0, 0))).heap[_]? = _
  exact al_new rfl
theorem put0 : putL [0, 0, 0] 1 2 258 = [0, 2, 1] := by decide
theorem le2 : le 2 258 = [2, 1] := by decide
theorem num2 : num (([0, 2, 1] : List Int).drop 1 |>.take 2) = 258 := by decide
theorem wordsZ {W : World} {r : Nat} (h : RowZ W r [0, 2, 1]) : ∀ j, j < 3 → W.cell? ⟨r, 0 + j, none⟩ = some (.int .u8 (([0, 2, 1] : List Int).getD j 0)) := by
  intro j hj
  rw [Nat.zero_add]
  exact h.x.cell (by simpa using hj)

set_option maxRecDepth 100000 in
set_option maxHeartbeats 1000000 in
theorem awake2_any (w : World) : Calls Try.prog 11 #[] w fun e w' => e = .returned (.bool true) ∧ Below w.heap.size w w' := by
  have ht : (strOfNums [2, 1]).toList = [2, 1] := by first | rfl | decide | kernel_rfl
  have HB : RowKit.Hid (∀ W : World, Calls Try.prog 18 #[.int .i64 2, .slice (some ⟨W.heap.size, 0, none⟩) 1 1] (W.alloc (.cells #[.int .u64 258] 23)) fun e w' => ∃ r' : Nat, e = .returned (.slice (some ⟨r', 0, none⟩) 2 2) ∧ (convert 22 9 (.slice (some ⟨r', 0, none⟩) 2 2)).run Try.prog w' = .ok (.string (strOfNums [2, 1])) w' ∧ Below W.heap.size W w') := by
    refine Lib.hid (fun W => (bytes_one 2 258 W (by decide) (by decide)).mono ?_)
    rintro e w' ⟨r', he, hr', hz, hb⟩
    rw [le2] at hz
    exact ⟨r', he, hz.row.string0 2 2 rfl, hb⟩
  have HS : RowKit.Hid (∀ W : World, Calls Try.prog 17 #[.int .u64 255, .int .i64 1] W fun e w' => e = .returned (.int .i64 (-1)) ∧ W = w') := Lib.hid (fun W => signed_ok 1 255 W (.inl rfl) (by decide))
  have HF : RowKit.Hid (∀ W : World, Calls Try.prog 16 #[.int .u64 255, .int .i64 1] W fun e w' => e = .returned (.bool true) ∧ W = w') := Lib.hid (fun W => fits_ok 1 256 255 W (.inl ⟨rfl, rfl⟩) (by decide))
  have HP := Lib.hid (wPut_ok w.heap.size 3 3 1 2 [0, 0, 0] 258 _ rfl (by decide) (by decide) (by decide) (by decide) (lit0 w))
  rw [put0] at HP
  go_enter Try.func11, Try.ntmps11
  go_wp2_with (go_at_call 15; (refine HP.out.mono ?_); rintro e w1 ⟨rfl, hz, hc⟩)
  have HG := Lib.hid (wGet_ok w.heap.size 0 3 3 1 2 [0, 2, 1] w1 rfl (by decide) (by decide) (by decide) (by intro v hv; simp at hv; omega) (wordsZ hz))
  rw [num2] at HG
  have c1 : w1.cell? ⟨w.heap.size, 1, none⟩ = some (.int .u8 2) := hz.x.cell (j := 1) (by decide)
  have c2 : w1.cell? ⟨w.heap.size, 2, none⟩ = some (.int .u8 1) := hz.x.cell (j := 2) (by decide)
  have hb1 := Lib.hid (hc.below ((Below.refl w.heap.size w).alloc (Nat.le_refl _) _) (((Below.refl w.heap.size w).alloc (Nat.le_refl _) _).size) (fun i hi => by rw [hi]; exact Nat.le_refl _))
  clear hz hc HP
  go_wp2_with ((go_at_call 12; (refine HG.out.mono ?_); rintro e w2 ⟨rfl, rfl⟩))
  clear HG
  go_wp2_with (first | (go_at_call 17; ((refine (HS.out _).mono ?_); rintro e w7 ⟨rfl, rfl⟩)) | (go_at_call 16; ((refine (HF.out _).mono ?_); rintro e w7 ⟨rfl, rfl⟩)) | (go_at_call 18; ((refine (HB.out _).mono ?_); rintro e w7 ⟨r7, rfl, hcv, hb7⟩)))
  go_ret
  exact ⟨rfl, hb1.out.trans (hb7.mono hb1.out.size)⟩
end Go.Proofs.Ytkiamhpnngehaaa.Sp
