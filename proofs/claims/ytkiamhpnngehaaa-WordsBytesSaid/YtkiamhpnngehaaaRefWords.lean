/- The reference of words: Has, Get, Put over texts. -/
import Derived.Test.YtkiamhpnngehaaaRefNum
namespace Go.Proofs.Ytkiamhpnngehaaa.Sp
open Go.RowKit Go.WideMaps Go.Proofs.Ytkiamhpnngehaaa.In Go.Proofs.Ytkiamhpnngehaaa.Plain
set_option linter.unusedVariables false
set_option linter.unusedSimpArgs false

set_option maxRecDepth 100000 in
set_option maxHeartbeats 1000000 in
theorem ref02Has_any (n t k : Int) (W : World) (hn : 0 ≤ n ∧ n ≤ 9223372036854775807) : Calls Try.prog 55 #[.int .i64 n, .int .i64 t, .int .i64 k] W fun e w' => e = .returned (.bool (decide (rightP n t k))) ∧ W = w' := by
  have HW := Lib.hid (ref02Wide_any k W)
  by_cases hw : wideP k
  · have hb := hw.bd
    by_cases h1 : 0 ≤ t
    · by_cases h2 : t ≤ n
      · have e : decide (rightP n t k) = decide (k ≤ n - t) := decide_eq_decide.2 (by unfold rightP; constructor <;> intro h <;> (first | exact ⟨hw, by omega, by omega, by omega⟩ | omega))
        rw [e]
        have hd : decide (wideP k) = true := decide_eq_true hw
        clear e
        go_enter Try.func55, Try.ntmps55
        go_wp2_with (go_at_call 75; (with_reducible refine HW.out.mono ?_); rintro e' w' ⟨rfl, rfl⟩)
        go_ret
        exact ⟨rfl, rfl⟩
      · have e : decide (rightP n t k) = false := decide_eq_false (by unfold rightP; omega)
        rw [e]
        have hd : decide (wideP k) = true := decide_eq_true hw
        clear e
        go_enter Try.func55, Try.ntmps55
        go_wp2_with (go_at_call 75; (with_reducible refine HW.out.mono ?_); rintro e' w' ⟨rfl, rfl⟩)
        go_ret
        exact ⟨rfl, rfl⟩
    · have e : decide (rightP n t k) = false := decide_eq_false (by unfold rightP; omega)
      rw [e]
      have hd : decide (wideP k) = true := decide_eq_true hw
      clear e
      go_enter Try.func55, Try.ntmps55
      go_wp2_with (go_at_call 75; (with_reducible refine HW.out.mono ?_); rintro e' w' ⟨rfl, rfl⟩)
      go_ret
      exact ⟨rfl, rfl⟩
  · have e : decide (rightP n t k) = false := decide_eq_false (fun h => hw h.1)
    rw [e]
    have hd : decide (wideP k) = false := decide_eq_false hw
    clear e
    go_enter Try.func55, Try.ntmps55
    go_wp2_with (go_at_call 75; (with_reducible refine HW.out.mono ?_); rintro e' w' ⟨rfl, rfl⟩)
    go_ret
    exact ⟨rfl, rfl⟩

theorem strOfNums_extract (l : List Int) (a b : Nat) : (strOfNums l).extract a b = strOfNums ((l.take b).drop a) := by
  apply ByteArray.ext
  rw [ByteArray.data_extract]
  apply Array.ext'
  simp [strOfNums, List.map_drop, List.map_take, List.drop_take]

set_option maxRecDepth 100000 in
set_option maxHeartbeats 1000000 in
theorem ref02Get_err (l : List Int) (n : Nat) (t k : Int) (W : World) (hl : l.length = n) (hn : n ≤ 9223372036854775807) (h : ¬ rightP (n : Int) t k) :
    Calls Try.prog 13 #[.string (strOfNums l), .int .i64 t, .int .i64 k] W fun e w' => e = .returned (.tuple #[.int .u64 0, .bool false]) ∧ W = w' := by
  have HR := Lib.hid (ref02Has_any (n : Int) t k W (by omega))
  have hd : decide (rightP (n : Int) t k) = false := decide_eq_false h
  have hsz : ((strOfNums l).size : Int) = (n : Int) := by rw [strOfNums_size, hl]
  generalize strOfNums l = S at *
  clear h hl
  go_enter Try.func13, Try.ntmps13
  go_wp2_with (go_at_call 55; (with_reducible refine HR.out.mono ?_); rintro e' w' ⟨rfl, rfl⟩)
  go_ret2
  exact ⟨rfl, rfl⟩

set_option maxRecDepth 100000 in
set_option maxHeartbeats 1000000 in
theorem ref02Put_err (l : List Int) (n : Nat) (t k x : Int) (W : World) (hl : l.length = n) (hn : n ≤ 9223372036854775807) (h : ¬ rightP (n : Int) t k) :
    Calls Try.prog 14 #[.string (strOfNums l), .int .i64 t, .int .i64 k, .int .u64 x] W fun e w' => e = .returned (.tuple #[.string (strOfNums l), .bool false]) ∧ W = w' := by
  have HR := Lib.hid (ref02Has_any (n : Int) t k W (by omega))
  have hd : decide (rightP (n : Int) t k) = false := decide_eq_false h
  have hsz : ((strOfNums l).size : Int) = (n : Int) := by rw [strOfNums_size, hl]
  generalize strOfNums l = S at *
  clear h hl
  go_enter Try.func14, Try.ntmps14
  go_wp2_with (go_at_call 55; (with_reducible refine HR.out.mono ?_); rintro e' w' ⟨rfl, rfl⟩)
  go_ret2
  exact ⟨rfl, rfl⟩

set_option maxRecDepth 100000 in
set_option maxHeartbeats 1000000 in
theorem ref02Get_ok (l : List Int) (n t k : Nat) (W : World) (hl : l.length = n) (hn : n ≤ 9000) (hk : wideP (k : Int)) (ht : t + k ≤ n) (hb : Bs l) :
    Calls Try.prog 13 #[.string (strOfNums l), .int .i64 (t : Int), .int .i64 (k : Int)] W fun e w' => e = .returned (.tuple #[.int .u64 (num ((l.drop t).take k)), .bool true]) ∧ W = w' := by
  have HR := Lib.hid (ref02Has_any (n : Int) (t : Int) (k : Int) W (by omega))
  have hd : decide (rightP (n : Int) (t : Int) (k : Int)) = true := decide_eq_true (by unfold rightP; exact ⟨hk, by omega, by omega, by omega⟩)
  have hsz : ((strOfNums l).size : Int) = (n : Int) := by rw [strOfNums_size, hl]
  have hk8 := hk.bd
  have HN := Lib.hid (ref02Number_any ((l.drop t).take k) W (by rw [List.length_take]; omega) (bs_take (bs_drop hb _) _))
  obtain ⟨e, he⟩ : ∃ e : Nat, t + k = e := ⟨_, rfl⟩
  have hei : (t : Int) + (k : Int) = (e : Int) := by omega
  have hew : wrap64 ((t : Int) + (k : Int)) = (e : Int) := by rw [wrap_in (by omega) (by omega)]; exact hei
  have hx : (strOfNums l).extract t e = strOfNums ((l.drop t).take k) := by rw [strOfNums_extract, ← he, List.drop_take]; congr 2; omega
  have hte : (t : Int) ≤ (e : Int) := by omega
  have hen : (e : Int) ≤ (n : Int) := by omega
  generalize num ((l.drop t).take k) = X at *
  generalize strOfNums ((l.drop t).take k) = S2 at *
  generalize strOfNums l = S at *
  clear hl he ht hb hk
  go_enter Try.func13, Try.ntmps13
  go_wp2_with (go_at_call 55; (with_reducible refine HR.out.mono ?_); rintro e' w' ⟨rfl, rfl⟩)
  refine HN.out.mono ?_
  rintro e' w' ⟨rfl, rfl⟩
  go_wp2
  go_ret2
  exact ⟨rfl, rfl⟩

set_option maxRecDepth 100000 in
set_option maxHeartbeats 1000000 in
theorem ref02Put_ok (l : List Int) (n t k : Nat) (x : Int) (W : World) (hl : l.length = n) (hn : n ≤ 9000) (hk : wideP (k : Int)) (ht : t + k ≤ n) (hx : 0 ≤ x ∧ x ≤ 18446744073709551615) :
    Calls Try.prog 14 #[.string (strOfNums l), .int .i64 (t : Int), .int .i64 (k : Int), .int .u64 x] W fun e w' => e = .returned (.tuple #[.string (strOfNums (putL l t k x)), .bool true]) ∧ Below W.heap.size W w' := by
  have HR := Lib.hid (ref02Has_any (n : Int) (t : Int) (k : Int) W (by omega))
  have hd : decide (rightP (n : Int) (t : Int) (k : Int)) = true := decide_eq_true (by unfold rightP; exact ⟨hk, by omega, by omega, by omega⟩)
  have hsz : ((strOfNums l).size : Int) = (n : Int) := by rw [strOfNums_size, hl]
  have hszn : (strOfNums l).size = n := by rw [strOfNums_size, hl]
  have hk8 := hk.bd
  have HN := Lib.hid (fun W => ref02One_any k x W (by omega) hx)
  obtain ⟨e, he⟩ : ∃ e : Nat, t + k = e := ⟨_, rfl⟩
  have hei : (t : Int) + (k : Int) = (e : Int) := by omega
  have hew : wrap64 ((t : Int) + (k : Int)) = (e : Int) := by rw [wrap_in (by omega) (by omega)]; exact hei
  have hewi : IntKind.i64.wrap ((t : Int) + (k : Int)) = (e : Int) := by rw [hei]; simp [IntKind.wrap, IntKind.signed, IntKind.bits]; omega
  have hwe : IntKind.i64.wrap (e : Int) = (e : Int) := by rw [IntKind.wrap_i64]; omega
  clear hewi hew
  have x1 : (strOfNums l).extract 0 t = strOfNums (l.take t) := by rw [strOfNums_extract, List.drop_zero]
  have x3 : (strOfNums l).extract e n = strOfNums (l.drop e) := by rw [strOfNums_extract, List.take_of_length_le (by omega)]
  have c1 : ∀ W : World, (Instr.sliceAt 9 (.string (strOfNums l)) none (some (.int .i64 (t : Int))) none).run Try.prog W = .ok (.string (strOfNums (l.take t))) W := by
    intro W
    rw [run_sliceAt_string W _ _ _ _ _ (by kernel_rfl), run_slice_string_to_if W _ _ _ _ (by kernel_rfl), if_pos (by omega), Int.toNat_natCast, x1]
  have c3 : ∀ W : World, (Instr.sliceAt 9 (.string (strOfNums l)) (some (.int .i64 (e : Int))) none none).run Try.prog W = .ok (.string (strOfNums (l.drop e))) W := by
    intro W
    rw [run_sliceAt_string W _ _ _ _ _ (by kernel_rfl), run_slice_string_from_if W _ _ _ _ (by kernel_rfl), if_pos (by omega), Int.toNat_natCast, hszn, x3]
  have x4 : (strOfNums l).extract e (strOfNums l).size = strOfNums (l.drop e) := by rw [hszn, x3]
  have hts : (t : Int) ≤ ((strOfNums l).size : Int) := by omega
  have hes : (e : Int) ≤ ((strOfNums l).size : Int) := by omega
  have he0 : (0 : Int) ≤ (e : Int) := by omega
  have ht0 : (0 : Int) ≤ (t : Int) := by omega
  clear x3 hszn c1 c3
  have y1 : strOfNums (l.take t) ++ strOfNums (le k x) = strOfNums (l.take t ++ le k x) := (strOfNums_app _ _).symm
  have y2 : strOfNums (l.take t ++ le k x) ++ strOfNums (l.drop e) = strOfNums (putL l t k x) := by rw [← strOfNums_app, ← he]; rfl
  have z1 : (strOfNums (l.take t)).size + (strOfNums (le k x)).size ≤ 9223372036854775807 := by rw [strOfNums_size, strOfNums_size, List.length_take, le_length]; omega
  have z2 : (strOfNums (l.take t ++ le k x)).size + (strOfNums (l.drop e)).size ≤ 9223372036854775807 := by rw [strOfNums_size, strOfNums_size, List.length_append, List.length_take, le_length, List.length_drop]; omega
  have z1i : ((strOfNums (l.take t)).size : Int) + ((strOfNums (le k x)).size : Int) ≤ 9223372036854775807 := by omega
  have z2i : ((strOfNums (l.take t ++ le k x)).size : Int) + ((strOfNums (l.drop e)).size : Int) ≤ 9223372036854775807 := by omega
  have htn : (t : Int) ≤ (n : Int) := by omega
  have hen : (e : Int) ≤ (n : Int) := by omega
  generalize strOfNums (putL l t k x) = R at *
  generalize strOfNums (l.take t ++ le k x) = S4 at *
  generalize strOfNums (l.take t) = S1 at *
  generalize strOfNums (le k x) = S2 at *
  generalize strOfNums (l.drop e) = S3 at *
  generalize strOfNums l = S at *
  clear hl he ht hk hx
  go_enter Try.func14, Try.ntmps14
  go_wp2_with (go_at_call 55; (with_reducible refine HR.out.mono ?_); rintro e' w' ⟨rfl, rfl⟩)
  clear hsz htn hen
  go_region_with (go_at_call 57; ((refine (HN.out _).mono ?_); rintro e' w' ⟨rfl, hb⟩))
  all_goals
    go_wp2
    go_ret2
    exact ⟨rfl, by first | assumption | exact (Below.refl W.heap.size W).drew.trans hb | exact hb.drew⟩
end Go.Proofs.Ytkiamhpnngehaaa.Sp
