/- What the small functions of a space tell: whether bytes lie within, how many pages they touch, how many there are. -/
import Derived.Test.YtfdhjeeaigfmfaaSpaceHeap
import Derived.Deep.QuietTactic
import Derived.BigQuiet
namespace Go.Proofs.Ytfdhjeeaigfmfaa.Sp
open Go.RowKit Go.WideMaps
set_option linter.unusedVariables false

set_option maxHeartbeats 400000 in
theorem in_any (t n s : Int) (w : World) (t0 : 0 ≤ t) (n0 : 0 ≤ n) (s1 : s ≤ 18446744073709551615) :
    Calls Try.prog 84 #[.int .u64 t, .int .u64 n, .int .u64 s] w fun e w' => e = .returned (.bool (decide (t + n ≤ s))) ∧ w = w' := by
  by_cases c : n ≤ s
  · have hd : decide (t ≤ s - n) = decide (t + n ≤ s) := by
      rw [Bool.eq_iff_iff, decide_eq_true_eq, decide_eq_true_eq]; omega
    have HD := Lib.hid hd
    clear hd
    go_enter Try.func84, Try.ntmps84
    go_wp2
    go_ret
    exact ⟨by rw [← HD.out]; rfl, rfl⟩
  · have hd : decide (t + n ≤ s) = false := decide_eq_false (by omega)
    rw [hd]
    clear hd
    go_enter Try.func84, Try.ntmps84
    go_wp2
    go_ret
    exact ⟨rfl, rfl⟩

def touchedI (t n : Int) : Int := if n = 0 then 1 else (t + n - 1) / 4096 - t / 4096 + 1

set_option maxHeartbeats 400000 in
theorem touched_any (t n : Int) (w : World) (t0 : 0 ≤ t) (n0 : 0 ≤ n) (h : t + n ≤ 4294967296) :
    Calls Try.prog 60 #[.int .u64 t, .int .u64 n] w fun e w' => e = .returned (.int .i64 (touchedI t n)) ∧ w = w' := by
  by_cases c : n = 0
  · have HT := Lib.hid (show touchedI t n = 1 from if_pos c)
    have hc : (n == 0) = true := by simpa using c
    clear c
    go_enter Try.func60, Try.ntmps60
    go_wp2
    go_ret
    exact ⟨by rw [HT.out]; rfl, rfl⟩
  · have HT := Lib.hid (show touchedI t n = (t + n - 1) / 4096 - t / 4096 + 1 from if_neg c)
    have hc : (n == 0) = false := by simpa using c
    have h1 : 1 ≤ n := by omega
    have h2 : t / 4096 ≤ (t + n - 1) / 4096 := by omega
    have h3 : (t + n - 1) / 4096 ≤ 1048576 := by omega
    have h4 : 0 ≤ t / 4096 := by omega
    clear c
    go_enter Try.func60, Try.ntmps60
    go_wp2
    go_ret
    exact ⟨by rw [HT.out]; rfl, rfl⟩

set_option maxHeartbeats 400000 in
theorem keyOf_any (p : Nat) (w : World) (h : p < 4294967296) :
    Calls Try.prog 87 #[.int .u64 (p : Int)] w fun e w' => e = .returned (keyV p) ∧ Below w.heap.size w w' := by
  have e1 : ((p : Int) / 65536) = ((p / 65536 % 65536 : Nat) : Int) := by omega
  have e2 : IntKind.u16.wrap (p : Int) = ((p % 65536 : Nat) : Int) := by rw [IntKind.wrap_u16]; omega
  have HK := Lib.hid (show keyV p = .agg #[.int .u16 ((p : Int) / 65536), .int .u16 (IntKind.u16.wrap (p : Int))] by rw [e1, e2]; rfl)
  clear e1 e2
  go_enter Try.func87, Try.ntmps87
  go_wp2
  refine bodyPost_ret (v := .agg #[.int .u16 ((p : Int) / 65536), .int .u16 (IntKind.u16.wrap (p : Int))]) ?_ rfl ?_
  · simp [results, Try.results87, go_sem]
  · exact ⟨by rw [HK.out], by repeat (first | exact Below.refl _ _ | refine Below.setCell ?_ (by simp) _ | refine Below.alloc ?_ (by simp) _ | refine Below.drew ?_)⟩

/-- a space's own block: how many pages, the map, what ticked -/
def Head (w : World) (g pages m : Nat) (ticks : Int) : Prop := w.heap[g]? = some (.cells #[.int .i64 (pages : Int), .map (some m), .int .i64 ticks] 107 (0, 0))
theorem Head.c0 {w : World} {g pages m : Nat} {ticks : Int} (h : Head w g pages m ticks) : w.cell? ⟨g, 0, none⟩ = some (.int .i64 (pages : Int)) := by unfold Head at h; simp [World.cell?, h]
theorem Head.c1 {w : World} {g pages m : Nat} {ticks : Int} (h : Head w g pages m ticks) : w.cell? ⟨g, 1, none⟩ = some (.map (some m)) := by unfold Head at h; simp [World.cell?, h]
theorem Head.c2 {w : World} {g pages m : Nat} {ticks : Int} (h : Head w g pages m ticks) : w.cell? ⟨g, 2, none⟩ = some (.int .i64 ticks) := by unfold Head at h; simp [World.cell?, h]
theorem Head.f2 {w : World} {g pages m : Nat} {ticks : Int} (h : Head w g pages m ticks) : w.frozen? ⟨g, 2, none⟩ = false := by unfold Head at h; simp [World.frozen?, h]

set_option maxHeartbeats 400000 in
theorem pages_any {g pages m : Nat} {ticks : Int} (w : World) (h : Head w g pages m ticks) :
    Calls Try.prog 30 #[.pointer (some ⟨g, 0, none⟩)] w fun e w' => e = .returned (.int .i64 (pages : Int)) ∧ w = w' := by
  have h0 := h.c0
  go_enter Try.func30, Try.ntmps30
  go_wp2
  go_ret
  exact ⟨rfl, rfl⟩
theorem pages_nil (w : World) : Calls Try.prog 30 #[.pointer none] w fun e w' => e = .returned (.int .i64 0) ∧ w = w' := by
  go_enter Try.func30, Try.ntmps30
  go_wp2
  go_ret
  exact ⟨rfl, rfl⟩

set_option maxHeartbeats 400000 in
theorem size_any {g pages m : Nat} {ticks : Int} (w : World) (h : Head w g pages m ticks) (hp : pages ≤ 1048576) :
    Calls Try.prog 31 #[.pointer (some ⟨g, 0, none⟩)] w fun e w' => e = .returned (.int .u64 ((pages : Int) * 4096)) ∧ w = w' := by
  have HP := Lib.hid (pages_any w h)
  go_enter Try.func31, Try.ntmps31
  go_wp2_with (go_at_call 30; refine HP.out.mono ?_; rintro e w' ⟨rfl, rfl⟩)
  go_ret
  exact ⟨rfl, rfl⟩
theorem size_nil (w : World) : Calls Try.prog 31 #[.pointer none] w fun e w' => e = .returned (.int .u64 0) ∧ w = w' := by
  go_enter Try.func31, Try.ntmps31
  go_wp2_with (go_at_call 30; refine (pages_nil _).mono ?_; rintro e w' ⟨rfl, rfl⟩)
  go_ret
  exact ⟨rfl, rfl⟩

/-- what is wrong with some bytes -/
def fitsI (size t n most : Int) : Int := if t + n ≤ size then (if most < n then 1 else 0) else 3

set_option maxHeartbeats 400000 in
theorem fits_any {g pages m : Nat} {ticks : Int} (t n most : Int) (w : World) (h : Head w g pages m ticks) (hp : pages ≤ 1048576) (t0 : 0 ≤ t) (n0 : 0 ≤ n) :
    Calls Try.prog 59 #[.pointer (some ⟨g, 0, none⟩), .int .u64 t, .int .u64 n, .int .u64 most] w fun e w' => e = .returned (.int .i64 (fitsI ((pages : Int) * 4096) t n most)) ∧ w = w' := by
  have HS := Lib.hid (size_any w h hp)
  by_cases c : t + n ≤ (pages : Int) * 4096
  · have hin := in_any t n ((pages : Int) * 4096) w t0 n0 (by omega)
    rw [decide_eq_true c] at hin
    have HI := Lib.hid hin
    by_cases d : most < n
    · have HF := Lib.hid (show fitsI ((pages : Int) * 4096) t n most = 1 from by unfold fitsI; rw [if_pos c, if_pos d])
      clear hin c
      go_enter Try.func59, Try.ntmps59
      go_wp2_with (first | (go_at_call 31; refine HS.out.mono ?_; rintro e w' ⟨rfl, rfl⟩) | (go_at_call 84; refine HI.out.mono ?_; rintro e w' ⟨rfl, rfl⟩))
      go_ret
      exact ⟨by rw [HF.out]; rfl, rfl⟩
    · have HF := Lib.hid (show fitsI ((pages : Int) * 4096) t n most = 0 from by unfold fitsI; rw [if_pos c, if_neg d])
      clear hin c
      go_enter Try.func59, Try.ntmps59
      go_wp2_with (first | (go_at_call 31; refine HS.out.mono ?_; rintro e w' ⟨rfl, rfl⟩) | (go_at_call 84; refine HI.out.mono ?_; rintro e w' ⟨rfl, rfl⟩))
      go_ret
      exact ⟨by rw [HF.out]; rfl, rfl⟩
  · have hin := in_any t n ((pages : Int) * 4096) w t0 n0 (by omega)
    rw [decide_eq_false c] at hin
    have HI := Lib.hid hin
    have HF := Lib.hid (show fitsI ((pages : Int) * 4096) t n most = 3 from by unfold fitsI; rw [if_neg c])
    clear hin c
    go_enter Try.func59, Try.ntmps59
    go_wp2_with (first | (go_at_call 31; refine HS.out.mono ?_; rintro e w' ⟨rfl, rfl⟩) | (go_at_call 84; refine HI.out.mono ?_; rintro e w' ⟨rfl, rfl⟩))
    go_ret
    exact ⟨by rw [HF.out]; rfl, rfl⟩

theorem fits_nil (t n most : Int) (w : World) : Calls Try.prog 59 #[.pointer none, .int .u64 t, .int .u64 n, .int .u64 most] w fun e w' => e = .returned (.int .i64 3) ∧ w = w' := by
  go_enter Try.func59, Try.ntmps59
  go_wp2_with fail
  go_ret
  exact ⟨rfl, rfl⟩

end Go.Proofs.Ytfdhjeeaigfmfaa.Sp
