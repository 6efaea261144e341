/- cells: a number in a space is got, put. -/
import Derived.Test.YtfdhjeeaigfmfaaCells
namespace Go.Proofs.Ytfdhjeeaigfmfaa.Sp
open Go.RowKit Go.WideMaps Go.Proofs.Ytfdhjeeaigfmfaa.In Go.Proofs.Ytfdhjeeaigfmfaa.Plain
set_option linter.unusedVariables false

theorem St.bs {w0 W : World} {g : Nat} {s : SpS} (hs : St w0 W g s) (t n : Nat) : Bs (seen s.mem t n) := by
  intro x hx
  unfold seen at hx
  obtain ⟨i, _, rfl⟩ := List.mem_map.1 hx
  exact hs.range _

set_option maxRecDepth 100000 in
set_option maxHeartbeats 4000000 in
theorem wGet_nil (k : Int) (W : World) : Calls Try.prog 38 #[.slice none 0 0, .int .i64 0, .int .i64 k] W fun e w' => e = .returned (.tuple #[.int .u64 0, .bool false]) ∧ W = w' := by
  have HR := Lib.hid (right_any 0 0 k W (by omega))
  have hd : decide (rightP 0 0 k) = false := decide_eq_false (fun h => by have := h.1.bd; have := h.2.2.1; omega)
  go_enter Try.func38, Try.ntmps38
  go_wp2_with (go_at_call 70; (with_reducible refine HR.out.mono ?_); rintro e' w' ⟨rfl, rfl⟩)
  go_ret2
  exact ⟨rfl, rfl⟩

set_option maxRecDepth 100000 in
set_option maxHeartbeats 4000000 in
theorem cGet_arg (p : Option Addr) (t k : Int) (W : World) (ht : 0 ≤ t ∧ t ≤ 18446744073709551615) (h : ¬ rightC t k) : Calls Try.prog 35 #[.pointer p, .int .u64 t, .int .i64 k] W fun e w' => e = .returned (.tuple #[.int .u64 0, .int .i64 1]) ∧ W = w' := by
  have HR := Lib.hid (cright_any t k W ht)
  have hd : decide (rightC t k) = false := decide_eq_false h
  go_enter Try.func35, Try.ntmps35
  go_wp2_with (go_at_call 66; (with_reducible refine HR.out.mono ?_); rintro e' w' ⟨rfl, rfl⟩)
  go_ret2
  exact ⟨rfl, rfl⟩

set_option maxRecDepth 100000 in
set_option maxHeartbeats 4000000 in
theorem St.get {w0 W : World} {g : Nat} {s : SpS} (hs : St w0 W g s) (t k : Nat) (h : rightC (t : Int) (k : Int)) (hb : t + k ≤ s.pages * 4096) :
    Calls Try.prog 35 #[.pointer (some ⟨g, 0, none⟩), .int .u64 (t : Int), .int .i64 (k : Int)] W fun e w' => e = .returned (.tuple #[.int .u64 (num (seen s.mem t k)), .int .i64 0]) ∧ St w0 w' g (tick s (touchedI t k)) ∧ KpT W w' := by
  have hk := h.1.bd
  have hp := hs.pages
  have HR := Lib.hid (cright_any (t : Int) (k : Int) W (by omega))
  have hd : decide (rightC (t : Int) (k : Int)) = true := decide_eq_true h
  have HL := Lib.hid (hs.load (t : Int) (k : Int) (by omega) (by omega) (by omega) (by omega))
  have HBS := Lib.hid (hs.bs t k)
  have HW := Lib.hid h.1
  obtain ⟨x, hx⟩ : ∃ x, num (seen s.mem t k) = x := ⟨_, rfl⟩
  rw [hx]
  have HX := Lib.hid hx
  clear h hs hx
  go_enter Try.func35, Try.ntmps35
  go_wp2_with (go_at_call 66; (with_reducible refine HR.out.mono ?_); rintro e' w' ⟨rfl, rfl⟩)
  refine HL.out.mono ?_
  rintro e' w1 ⟨r, rfl, hr, hrow, hs1, hk1⟩
  rw [Int.toNat_natCast] at *
  have hrow : Row w1 r (seen s.mem t k) := hrow
  have HG := Lib.hid (wGet_ok r 0 k k 0 k (seen s.mem t k) w1 (seen_length _ _ _) HW.out (by omega) (by omega) HBS.out (fun j hj => by rw [Nat.zero_add]; exact hrow.cell (by rw [seen_length]; exact hj)))
  have HS := Lib.hid (And.intro hs1 hk1)
  have HN := Lib.hid (show ((seen s.mem t k).drop 0).take k = seen s.mem t k by rw [List.drop_zero, List.take_of_length_le (by rw [seen_length]; exact Nat.le_refl _)])
  clear hrow hs1 hk1 hr
  go_wp2_with fail
  refine HG.out.mono ?_
  rintro e' w2 ⟨rfl, rfl⟩
  rw [HN.out, HX.out]
  go_wp2
  go_ret2
  exact ⟨rfl, HS.out⟩

set_option maxRecDepth 100000 in
set_option maxHeartbeats 4000000 in
theorem cGet_range (p : Option Addr) (t k : Int) (W : World) (ht : 0 ≤ t ∧ t ≤ 18446744073709551615) (h : rightC t k)
    (hL : Calls Try.prog 20 #[.pointer p, .int .u64 t, .int .u64 k] W fun e w' => e = .returned (.tuple #[.slice none 0 0, .int .i64 3]) ∧ W = w') :
    Calls Try.prog 35 #[.pointer p, .int .u64 t, .int .i64 k] W fun e w' => e = .returned (.tuple #[.int .u64 0, .int .i64 3]) ∧ W = w' := by
  have hk := h.1.bd
  have HR := Lib.hid (cright_any t k W ht)
  have hd : decide (rightC t k) = true := decide_eq_true h
  have HL := Lib.hid hL
  have HG := Lib.hid (wGet_nil k W)
  clear hL h
  go_enter Try.func35, Try.ntmps35
  go_wp2_with (first | (go_at_call 66; (with_reducible refine HR.out.mono ?_); rintro e' w' ⟨rfl, rfl⟩) | (go_at_call 20; (with_reducible refine HL.out.mono ?_); rintro e' w' ⟨rfl, rfl⟩) | (go_at_call 38; (with_reducible refine HG.out.mono ?_); rintro e' w' ⟨rfl, rfl⟩))
  go_ret2
  exact ⟨rfl, rfl⟩

set_option maxRecDepth 100000 in
set_option maxHeartbeats 4000000 in
theorem cPut_arg (p : Option Addr) (t k n : Int) (W : World) (ht : 0 ≤ t ∧ t ≤ 18446744073709551615) (h : ¬ rightC t k) : Calls Try.prog 34 #[.pointer p, .int .u64 t, .int .i64 k, .int .u64 n] W fun e w' => e = .returned (.int .i64 1) ∧ W = w' := by
  have HR := Lib.hid (cright_any t k W ht)
  have hd : decide (rightC t k) = false := decide_eq_false h
  go_enter Try.func34, Try.ntmps34
  go_wp2_with (go_at_call 66; (with_reducible refine HR.out.mono ?_); rintro e' w' ⟨rfl, rfl⟩)
  go_ret
  exact ⟨rfl, rfl⟩
theorem bytesL_one (k : Nat) (n : Int) : bytesL k [n] = le k n := by simp [bytesL]

set_option maxRecDepth 100000 in
set_option maxHeartbeats 4000000 in
theorem St.put {w0 W : World} {g : Nat} {s : SpS} (hs : St w0 W g s) (t k : Nat) (n : Int) (h : rightC (t : Int) (k : Int)) (hn : 0 ≤ n ∧ n ≤ 18446744073709551615) (hb : t + k ≤ s.pages * 4096) :
    Calls Try.prog 34 #[.pointer (some ⟨g, 0, none⟩), .int .u64 (t : Int), .int .i64 (k : Int), .int .u64 n] W fun e w' => e = .returned (.int .i64 0) ∧ St w0 w' g (tick { s with mem := lay s.mem t (le k n) } (touchedI t k)) ∧ KpT W w' := by
  have hk := h.1.bd
  have hp := hs.pages
  have HR := Lib.hid (cright_any (t : Int) (k : Int) W (by omega))
  have hd : decide (rightC (t : Int) (k : Int)) = true := decide_eq_true h
  have HB := Lib.hid (wBytes_ok k 1 1 (some ⟨W.heap.size, 0, none⟩) [n] (W.alloc (.cells #[.int .u64 n] 31)) rfl h.1 (by omega) (fun v hv => by rw [List.mem_singleton.1 hv]; exact hn) (fun _ => ⟨_, _, rfl, fun j hj => by
    obtain rfl : j = 0 := by omega
    exact cell_one (al_new rfl)⟩))
  have HS := Lib.hid hs
  have HBD := Lib.hid hb
  clear h hs hb
  go_enter Try.func34, Try.ntmps34
  go_wp2_with (go_at_call 66; (with_reducible refine HR.out.mono ?_); rintro e' w' ⟨rfl, rfl⟩)
  refine HB.out.mono ?_
  rintro e' w1 ⟨r, rfl, hr, hz, hb1⟩
  rw [bytesL_one] at hz
  rw [Nat.mul_one]
  have hs1 := (HS.out.al (.cells #[.int .u64 n] 31)).step hb1
  have hkp : KpT W w1 := ((KpT.refl W).al (.cells #[.int .u64 n] 31)).trans (KpT.of_below hb1)
  have HC := Lib.hid (hs1.store (t : Int) (some ⟨r, 0, none⟩) k k (le k n) (le_length k n) (Nat.le_refl _) (Row.srcW hz.row (le_bs k n)) (by omega) (by have := HBD.out; omega) (by omega))
  have HKP := Lib.hid hkp
  clear hz hb1 hs1 hkp hr
  go_wp2_with fail
  refine HC.out.mono ?_
  rintro e' w2 ⟨rfl, hs2, hk2⟩
  have H2 := Lib.hid (And.intro hs2 (HKP.out.trans hk2))
  clear hs2 hk2
  go_wp2
  go_ret
  exact ⟨rfl, H2.out⟩
end Go.Proofs.Ytfdhjeeaigfmfaa.Sp
