/- cells over whatever a space's Load and Store tell; over one of two spaces. -/
import Derived.Test.YtfdhjeeaigfmfaaCellsFill
import Derived.Test.YtfdhjeeaigfmfaaWordsOne
import Derived.Test.YtfdhjeeaigfmfaaSpaceTwo
namespace Go.Proofs.Ytfdhjeeaigfmfaa.Sp
open Go.RowKit Go.WideMaps Go.Proofs.Ytfdhjeeaigfmfaa.In Go.Proofs.Ytfdhjeeaigfmfaa.Plain
set_option linter.unusedVariables false

set_option maxRecDepth 100000 in
set_option maxHeartbeats 4000000 in
theorem cPut_gen (p : Option Addr) (t k : Nat) (n c : Int) (W : World) (Q : World → Prop) (ht : t ≤ 18446744073709551615) (h : rightC (t : Int) (k : Int)) (hn : 0 ≤ n ∧ n ≤ 18446744073709551615)
    (hS : ∀ (r : Nat) (w1 : World), RowZ w1 r (le k n) → Below W.heap.size W w1 → Calls Try.prog 22 #[.pointer p, .int .u64 (t : Int), .slice (some ⟨r, 0, none⟩) k k] w1 fun e w' => e = .returned (.int .i64 c) ∧ Q w') :
    Calls Try.prog 34 #[.pointer p, .int .u64 (t : Int), .int .i64 (k : Int), .int .u64 n] W fun e w' => e = .returned (.int .i64 c) ∧ Q w' := by
  have hk := h.1.bd
  have HR := Lib.hid (cright_any (t : Int) (k : Int) W (by omega))
  have hd : decide (rightC (t : Int) (k : Int)) = true := decide_eq_true h
  have HB := Lib.hid (bytes_one k n W h.1 hn)
  have HS := Lib.hid hS
  clear h hS
  go_enter Try.func34, Try.ntmps34
  go_wp2_with (go_at_call 66; (with_reducible refine HR.out.mono ?_); rintro e' w' ⟨rfl, rfl⟩)
  refine HB.out.mono ?_
  rintro e' w1 ⟨r, rfl, hr, hz, hb1⟩
  have HC := Lib.hid (HS.out r w1 hz hb1)
  clear hz hb1 hr
  go_wp2_with fail
  refine HC.out.mono ?_
  rintro e' w2 ⟨rfl, h2⟩
  have H2 := Lib.hid h2
  clear h2
  go_wp2
  go_ret
  exact ⟨rfl, H2.out⟩

set_option maxRecDepth 100000 in
set_option maxHeartbeats 4000000 in
theorem cGet_gen (p : Option Addr) (t k : Nat) (x : Int) (l : List Int) (W : World) (Q : World → Prop) (ht : t ≤ 18446744073709551615) (h : rightC (t : Int) (k : Int)) (hl : l.length = k) (hb : Bs l) (hx : num l = x)
    (hL : Calls Try.prog 20 #[.pointer p, .int .u64 (t : Int), .int .u64 (k : Int)] W fun e w' => ∃ r : Nat, e = .returned (.tuple #[.slice (some ⟨r, 0, none⟩) k k, .int .i64 0]) ∧ Row w' r l ∧ Q w') :
    Calls Try.prog 35 #[.pointer p, .int .u64 (t : Int), .int .i64 (k : Int)] W fun e w' => e = .returned (.tuple #[.int .u64 x, .int .i64 0]) ∧ Q w' := by
  subst hx
  have hk := h.1.bd
  have HR := Lib.hid (cright_any (t : Int) (k : Int) W (by omega))
  have hd : decide (rightC (t : Int) (k : Int)) = true := decide_eq_true h
  have HL := Lib.hid hL
  have HBS := Lib.hid hb
  have HW := Lib.hid h.1
  have HLL := Lib.hid hl
  obtain ⟨x, hx⟩ : ∃ x, num l = x := ⟨_, rfl⟩
  rw [hx]
  have HX := Lib.hid hx
  clear h hL hb hx hl
  go_enter Try.func35, Try.ntmps35
  go_wp2_with (go_at_call 66; (with_reducible refine HR.out.mono ?_); rintro e' w' ⟨rfl, rfl⟩)
  refine HL.out.mono ?_
  rintro e' w1 ⟨r, rfl, hrow, hq⟩
  have HG := Lib.hid (wGet_ok r 0 k k 0 k l w1 HLL.out HW.out (by omega) (by omega) HBS.out (fun j hj => by rw [Nat.zero_add]; exact hrow.cell (by rw [HLL.out]; exact hj)))
  have HQ := Lib.hid hq
  have HN := Lib.hid (show (l.drop 0).take k = l by rw [List.drop_zero, List.take_of_length_le (by rw [HLL.out]; exact Nat.le_refl _)])
  clear hrow hq
  go_wp2_with fail
  refine HG.out.mono ?_
  rintro e' w2 ⟨rfl, rfl⟩
  rw [HN.out, HX.out]
  go_wp2
  go_ret2
  exact ⟨rfl, HQ.out⟩

theorem Two.step {w0 W W' : World} {g1 g2 : Nat} {s1 s2 : SpS} (h : Two w0 W g1 s1 g2 s2) (hb : Below W.heap.size W W') : Two w0 W' g1 s1 g2 s2 := by
  obtain ⟨m1, p1, m2, p2, h1, h2, h3, h4, h5, h6⟩ := h
  exact ⟨m1, p1, m2, p2, h1.below hb, h2.below hb, h3, h4, h5, h6.trans (hb.mono h6.size)⟩
theorem Two.put {w0 W : World} {g1 g2 : Nat} {s1 s2 : SpS} (h : Two w0 W g1 s1 g2 s2) (t k : Nat) (n : Int) (hr : rightC (t : Int) (k : Int)) (hn : 0 ≤ n ∧ n ≤ 18446744073709551615) (hb : t + k ≤ s1.pages * 4096) :
    Calls Try.prog 34 #[.pointer (some ⟨g1, 0, none⟩), .int .u64 (t : Int), .int .i64 (k : Int), .int .u64 n] W fun e w' => e = .returned (.int .i64 0) ∧ Two w0 w' g1 (tick { s1 with mem := lay s1.mem t (le k n) } (touchedI t k)) g2 s2 ∧ KpT W w' := by
  have hp := h.fst.pages
  have hk := hr.1.bd
  refine cPut_gen (some ⟨g1, 0, none⟩) t k n 0 W (fun w' => Two w0 w' g1 (tick { s1 with mem := lay s1.mem t (le k n) } (touchedI t k)) g2 s2 ∧ KpT W w') (by omega) hr hn (fun r w1 hz hb1 => ?_)
  refine ((h.step hb1).store (t : Int) (some ⟨r, 0, none⟩) k k (le k n) (le_length k n) (Nat.le_refl _) (Row.srcW hz.row (le_bs k n)) (by omega) (by omega) (by omega)).mono ?_
  rintro e w' ⟨he, h2, hk2⟩
  exact ⟨he, h2, (KpT.of_below hb1).trans hk2⟩
theorem Two.fill {w0 W : World} {g1 g2 : Nat} {s1 s2 : SpS} (h : Two w0 W g1 s1 g2 s2) (t k q : Nat) (n : Int) (hr : rightC (t : Int) (k : Int)) (hn : 0 ≤ n ∧ n ≤ 18446744073709551615) (hq : k * q ≤ 1048576) (hb : t + k * q ≤ s1.pages * 4096) :
    Calls Try.prog 45 #[.pointer (some ⟨g1, 0, none⟩), .int .u64 (t : Int), .int .i64 (k : Int), .int .u64 n, .int .i64 (q : Int)] W fun e w' => e = .returned (.int .i64 0) ∧ Two w0 w' g1 (tick { s1 with mem := lay s1.mem t (bytesL k (List.replicate q n)) } (touchedI t ((k * q : Nat) : Int))) g2 s2 ∧ KpT W w' := by
  have hp := h.fst.pages
  refine cFill_gen (some ⟨g1, 0, none⟩) t k q n 0 W (fun w' => Two w0 w' g1 (tick { s1 with mem := lay s1.mem t (bytesL k (List.replicate q n)) } (touchedI t ((k * q : Nat) : Int))) g2 s2 ∧ KpT W w') hr hn (by omega) hq (fun r w1 hz hb1 => ?_)
  refine ((h.step hb1).store (t : Int) (some ⟨r, 0, none⟩) (k * q) (k * q) (bytesL k (List.replicate q n)) (by rw [bytesL_length, List.length_replicate]) (Nat.le_refl _) (Row.srcW hz.row (bytesL_bs k _)) (by omega) (by omega) (by omega)).mono ?_
  rintro e w' ⟨he, h2, hk2⟩
  exact ⟨he, h2, (KpT.of_below hb1).trans hk2⟩
theorem Two.get {w0 W : World} {g1 g2 : Nat} {s1 s2 : SpS} (h : Two w0 W g1 s1 g2 s2) (t k : Nat) (x : Int) (hr : rightC (t : Int) (k : Int)) (hb : t + k ≤ s1.pages * 4096) (hx : num (seen s1.mem t k) = x) :
    Calls Try.prog 35 #[.pointer (some ⟨g1, 0, none⟩), .int .u64 (t : Int), .int .i64 (k : Int)] W fun e w' => e = .returned (.tuple #[.int .u64 x, .int .i64 0]) ∧ Two w0 w' g1 (tick s1 (touchedI t k)) g2 s2 ∧ KpT W w' := by
  have hp := h.fst.pages
  have hk := hr.1.bd
  refine cGet_gen (some ⟨g1, 0, none⟩) t k x (seen s1.mem t k) W (fun w' => Two w0 w' g1 (tick s1 (touchedI t k)) g2 s2 ∧ KpT W w') (by omega) hr (seen_length _ _ _) (h.fst.bs t k) hx ?_
  refine (h.load (t : Int) (k : Int) (by omega) (by omega) (by omega) (by omega)).mono ?_
  rintro e w' ⟨r, he, hr, hrow, h2, hk2⟩
  exact ⟨r, he, hrow, h2, hk2⟩
end Go.Proofs.Ytfdhjeeaigfmfaa.Sp
