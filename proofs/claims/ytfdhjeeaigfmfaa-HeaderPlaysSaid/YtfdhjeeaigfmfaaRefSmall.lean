/- The reference's space: what its small functions tell. -/
import Derived.Test.YtfdhjeeaigfmfaaRef
namespace Go.Proofs.Ytfdhjeeaigfmfaa.Sp
open Go.RowKit Go.WideMaps Go.Proofs.Ytfdhjeeaigfmfaa.In Go.Proofs.Ytfdhjeeaigfmfaa.Plain
set_option linter.unusedVariables false

set_option maxRecDepth 100000 in
set_option maxHeartbeats 4000000 in
theorem ref01Add_any (a b : Int) (W : World) (ha : 0 ≤ a ∧ a ≤ 18446744073709551615) (hb : 0 ≤ b ∧ b ≤ 18446744073709551615) :
    Calls Try.prog 90 #[.int .u64 a, .int .u64 b] W fun e w' => e = .returned (.tuple #[.int .u64 (if a + b ≤ 18446744073709551615 then a + b else 0), .bool (decide (a + b ≤ 18446744073709551615))]) ∧ W = w' := by
  by_cases h : a + b ≤ 18446744073709551615
  · rw [if_pos h, decide_eq_true h]
    have h2 : ¬ 18446744073709551615 - a < b := by omega
    go_enter Try.func90, Try.ntmps90
    go_wp2
    go_ret2
    exact ⟨rfl, rfl⟩
  · rw [if_neg h, decide_eq_false h]
    have h2 : 18446744073709551615 - a < b := by omega
    clear h
    go_enter Try.func90, Try.ntmps90
    go_wp2
    go_ret2
    exact ⟨rfl, rfl⟩

set_option maxRecDepth 100000 in
set_option maxHeartbeats 4000000 in
theorem ref01In_any (t n s : Int) (W : World) (ht : 0 ≤ t ∧ t ≤ 18446744073709551615) (hn : 0 ≤ n ∧ n ≤ 18446744073709551615) (hs : s ≤ 18446744073709551615) :
    Calls Try.prog 83 #[.int .u64 t, .int .u64 n, .int .u64 s] W fun e w' => e = .returned (.bool (decide (t + n ≤ s))) ∧ W = w' := by
  have HA := Lib.hid (ref01Add_any t n W ht hn)
  by_cases h : t + n ≤ 18446744073709551615
  · rw [if_pos h, decide_eq_true h] at HA
    go_enter Try.func83, Try.ntmps83
    go_wp2_with (go_at_call 90; (with_reducible refine HA.out.mono ?_); rintro e' w' ⟨rfl, rfl⟩)
    go_ret
    exact ⟨rfl, rfl⟩
  · rw [if_neg h, decide_eq_false h] at HA
    have hd : decide (t + n ≤ s) = false := decide_eq_false (by omega)
    rw [hd]
    clear hd h
    go_enter Try.func83, Try.ntmps83
    go_wp2_with (go_at_call 90; (with_reducible refine HA.out.mono ?_); rintro e' w' ⟨rfl, rfl⟩)
    go_ret
    exact ⟨rfl, rfl⟩

set_option maxRecDepth 100000 in
set_option maxHeartbeats 4000000 in
theorem ref03Size_any (pg tk : Int) (lv : Value) (W : World) (hp : 0 ≤ pg ∧ pg ≤ 1048576) : Calls Try.prog 28 #[.agg #[.int .i64 pg, lv, .int .i64 tk]] W fun e w' => e = .returned (.int .u64 (pg * 4096)) ∧ Below W.heap.size W w' := by
  go_enter Try.func28, Try.ntmps28
  go_wp2
  go_ret
  exact ⟨rfl, (Below.refl _ _).alloc (Nat.le_refl _) _⟩

set_option maxRecDepth 100000 in
set_option maxHeartbeats 4000000 in
theorem ref03in_any (pg tk t n : Int) (lv : Value) (W : World) (hp : 0 ≤ pg ∧ pg ≤ 1048576) (ht : 0 ≤ t ∧ t ≤ 18446744073709551615) (hn : 0 ≤ n ∧ n ≤ 18446744073709551615) :
    Calls Try.prog 57 #[.agg #[.int .i64 pg, lv, .int .i64 tk], .int .u64 t, .int .u64 n] W fun e w' => e = .returned (.bool (decide (t + n ≤ pg * 4096))) ∧ Below W.heap.size W w' := by
  have HS := Lib.hid (fun W => ref03Size_any pg tk lv W hp)
  have HI := Lib.hid (fun W => ref01In_any t n (pg * 4096) W ht hn (by omega))
  go_enter Try.func57, Try.ntmps57
  go_wp2_with (first | (go_at_call 28; (with_reducible refine (HS.out _).mono ?_); rintro e' w1 ⟨rfl, hb⟩) | (go_at_call 83; (with_reducible refine (HI.out _).mono ?_); rintro e' w2 ⟨rfl, rfl⟩))
  go_ret
  have h0 : Below W.heap.size W (W.alloc (.cells #[.int .i64 pg, lv, .int .i64 tk] 29)) := (Below.refl _ _).alloc (Nat.le_refl _) _
  exact ⟨rfl, h0.trans (hb.mono h0.size)⟩

set_option maxRecDepth 100000 in
set_option maxHeartbeats 4000000 in
theorem ref03Touched_any (t n : Int) (W : World) (t0 : 0 ≤ t) (n0 : 0 ≤ n) (h : t + n ≤ 4294967296) : Calls Try.prog 58 #[.int .u64 t, .int .u64 n] W fun e w' => e = .returned (.int .i64 (touchedI t n)) ∧ W = w' := by
  by_cases c : n = 0
  · have HT := Lib.hid (show touchedI t n = 1 from if_pos c)
    have hc : (n == 0) = true := by simpa using c
    clear c
    go_enter Try.func58, Try.ntmps58
    go_wp2
    go_ret
    exact ⟨by rw [HT.out]; rfl, rfl⟩
  · have HT := Lib.hid (show touchedI t n = (t + n - 1) / 4096 - t / 4096 + 1 from if_neg c)
    have hc : (n == 0) = false := by simpa using c
    have h1 : 1 ≤ n := by omega
    have h2 : t / 4096 ≤ (t + n - 1) / 4096 := by omega
    have h3 : (t + n - 1) / 4096 ≤ 1048576 := by omega
    have h4 : 0 ≤ t / 4096 := by omega
    clear c
    go_enter Try.func58, Try.ntmps58
    go_wp2
    go_ret
    exact ⟨by rw [HT.out]; rfl, rfl⟩

set_option maxRecDepth 100000 in
set_option maxHeartbeats 4000000 in
theorem ref03New_any (n : Int) (W : World) : Calls Try.prog 18 #[.int .i64 n] W fun e w' => ∃ v, e = .returned v ∧ RefS W.heap.size 0 w' v (newS n) ∧ Below W.heap.size W w' := by
  have key : ∀ (w' : World) (p : Int), ((newS n).pages : Int) = p → RefS W.heap.size 0 w' (.agg #[.int .i64 p, .slice none 0 0, .int .i64 0]) (newS n) := by
    intro w' p hp
    refine ⟨.slice none 0 0, [], by rw [← hp]; rfl, World.ownsRow_nil _ _ _ _, (fun x hx => by simp at hx), rfl, Nat.le_refl _, ?_, ?_⟩
    · show 1 ≤ clampP n
      unfold clampP
      split <;> (try split) <;> omega
    · show clampP n ≤ 1048576
      unfold clampP
      split <;> (try split) <;> omega
  have HK := Lib.hid key
  clear key
  by_cases h1 : n < 1
  · have hp : ((newS n).pages : Int) = 1 := by
      show ((clampP n : Nat) : Int) = 1
      unfold clampP
      split <;> (try split) <;> omega
    have HKP := Lib.hid (fun w' => HK.out w' 1 hp)
    clear hp
    go_enter Try.func18, Try.ntmps18
    go_wp2
    refine bodyPost_ret (v := .agg #[.int .i64 1, .slice none 0 0, .int .i64 0]) ?_ rfl ?_
    · simp [results, Try.results18, go_sem]
    · exact ⟨_, rfl, HKP.out _, (Below.refl _ _).alloc (Nat.le_refl _) _⟩
  · by_cases h2 : 1048576 < n
    · have hp : ((newS n).pages : Int) = 1048576 := by
        show ((clampP n : Nat) : Int) = 1048576
        unfold clampP
        split <;> (try split) <;> omega
      have HKP := Lib.hid (fun w' => HK.out w' 1048576 hp)
      clear hp
      go_enter Try.func18, Try.ntmps18
      go_wp2
      refine bodyPost_ret (v := .agg #[.int .i64 1048576, .slice none 0 0, .int .i64 0]) ?_ rfl ?_
      · simp [results, Try.results18, go_sem]
      · exact ⟨_, rfl, HKP.out _, (Below.refl _ _).alloc (Nat.le_refl _) _⟩
    · have hp : ((newS n).pages : Int) = n := by
        show ((clampP n : Nat) : Int) = n
        unfold clampP
        split <;> (try split) <;> omega
      have HKP := Lib.hid (fun w' => HK.out w' n hp)
      clear hp
      go_enter Try.func18, Try.ntmps18
      go_wp2
      refine bodyPost_ret (v := .agg #[.int .i64 n, .slice none 0 0, .int .i64 0]) ?_ rfl ?_
      · simp [results, Try.results18, go_sem]
      · exact ⟨_, rfl, HKP.out _, (Below.refl _ _).alloc (Nat.le_refl _) _⟩
end Go.Proofs.Ytfdhjeeaigfmfaa.Sp
