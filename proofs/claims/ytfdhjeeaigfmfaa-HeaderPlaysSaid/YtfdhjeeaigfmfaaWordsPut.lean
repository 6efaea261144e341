/- words.Put: a number's bytes, laid into a row. -/
import Derived.Test.YtfdhjeeaigfmfaaWordsGet
namespace Go.Proofs.Ytfdhjeeaigfmfaa.Sp
open Go.RowKit Go.WideMaps Go.Proofs.Ytfdhjeeaigfmfaa.In Go.Proofs.Ytfdhjeeaigfmfaa.Plain
set_option linter.unusedVariables false

/-- A row of bytes that bears no mark. -/
def RowZ (w : World) (r : Nat) (l : List Int) : Prop := w.heap[r]? = some (.cells (l.map (Value.int .u8)).toArray 5 (0, 0))
theorem RowZ.row {w : World} {r : Nat} {l : List Int} (h : RowZ w r l) : Row w r l := ⟨_, h⟩
theorem RowZ.frozen {w : World} {r : Nat} {l : List Int} (h : RowZ w r l) (j : Nat) : w.frozen? ⟨r, j, none⟩ = false := by
  unfold RowZ at h
  unfold World.frozen?
  rw [h]
  simp
theorem RowZ.set {w : World} {r : Nat} {l : List Int} (h : RowZ w r l) (j : Nat) (v : Int) : RowZ (w.setCell ⟨r, j, none⟩ (.int .u8 v)) r (l.set j v) := by
  unfold RowZ at h ⊢
  simp only [World.setCell, Array.getElem?_modify, if_true, h, Option.map_some]
  simp
/-- A number's byte. -/
theorem shr_byte {x : Int} {i : Nat} (h0 : 0 ≤ x) : IntKind.u8.wrap (x / 2 ^ (8 * i)) = x / 256 ^ i % 256 := by
  rw [pow2_256]
  rfl

/-- A row of bytes, and more behind it, of any mark that lies behind it. -/
def RowX (w : World) (r : Nat) (T : List Int) (fr : Nat × Nat) (l : List Int) : Prop := w.heap[r]? = some (.cells ((l ++ T).map (Value.int .u8)).toArray 5 fr)
theorem RowZ.x {w : World} {r : Nat} {l : List Int} (h : RowZ w r l) : RowX w r [] (0, 0) l := by
  unfold RowX
  rw [List.append_nil]
  exact h
theorem RowX.z {w : World} {r : Nat} {l : List Int} (h : RowX w r [] (0, 0) l) : RowZ w r l := by
  unfold RowX at h
  rw [List.append_nil] at h
  exact h
theorem RowX.whole {w : World} {r : Nat} {T : List Int} {fr : Nat × Nat} {l : List Int} (h : RowX w r T fr l) : Row w r (l ++ T) := ⟨_, h⟩
theorem RowX.cell {w : World} {r : Nat} {T : List Int} {fr : Nat × Nat} {l : List Int} (h : RowX w r T fr l) {j : Nat} (hj : j < l.length) : w.cell? ⟨r, j, none⟩ = some (.int .u8 (l.getD j 0)) := by
  have := h.whole.cell (j := j) (by rw [List.length_append]; omega)
  rw [this, List.getD_eq_getElem?_getD, List.getD_eq_getElem?_getD, List.getElem?_append_left hj]
theorem RowX.frozen {w : World} {r : Nat} {T : List Int} {fr : Nat × Nat} {l : List Int} (h : RowX w r T fr l) (hf : fr.1 < fr.2 → l.length ≤ fr.1) {j : Nat} (hj : j < l.length) : w.frozen? ⟨r, j, none⟩ = false := by
  unfold RowX at h
  unfold World.frozen?
  rw [h]
  obtain ⟨lo, hi⟩ := fr
  simp only at hf ⊢
  simp
  omega
theorem RowX.set {w : World} {r : Nat} {T : List Int} {fr : Nat × Nat} {l : List Int} (h : RowX w r T fr l) {j : Nat} (hj : j < l.length) (v : Int) : RowX (w.setCell ⟨r, j, none⟩ (.int .u8 v)) r T fr (l.set j v) := by
  unfold RowX at h ⊢
  simp only [World.setCell, Array.getElem?_modify, if_true, h, Option.map_some]
  rw [← List.set_append_left _ _ hj]
  simp

set_option maxRecDepth 100000 in
set_option maxHeartbeats 4000000 in
theorem wPut_x (r n c t k : Nat) (b : List Int) (x : Int) (W : World) (hl : b.length = n) (hk : wideP (k : Int)) (ht : t + k ≤ n) (hn : n ≤ 9223372036854775807) (hx : 0 ≤ x ∧ x ≤ 18446744073709551615) (T : List Int) (fr : Nat × Nat) (hR : RowX W r T fr b) (hf : fr.1 < fr.2 → b.length ≤ fr.1) :
    Calls Try.prog 71 #[.slice (some ⟨r, 0, none⟩) n c, .int .i64 (t : Int), .int .i64 (k : Int), .int .u64 x] W fun e w' => e = .returned (.bool true) ∧ RowX w' r T fr (putL b t k x) ∧ Chg W w' (fun j => j = r) := by
  have HR := Lib.hid (right_any (n : Int) (t : Int) (k : Int) W (by omega))
  have hd : decide (rightP (n : Int) (t : Int) (k : Int)) = true := decide_eq_true (by unfold rightP; exact ⟨hk, by omega, by omega, by omega⟩)
  have hk8 := hk.bd
  have HRZ := Lib.hid hR
  have HL := Lib.hid hl
  have HFR := Lib.hid hf
  clear hk hl hR hf
  go_enter Try.func71, Try.ntmps71
  go_wp2_with (go_at_call 70; (with_reducible refine HR.out.mono ?_); rintro e' w' ⟨rfl, rfl⟩)
  go_loopw [17] (fun i wr => ∃ q : Nat, q ≤ k ∧ i = .int .i64 (q : Int) ∧ RowX wr r T fr (putL b t q x) ∧ Chg W wr (fun j => j = r)) (fun i _ => k - (intOf i).toNat)
  case atStart => exact ⟨0, Nat.zero_le _, rfl, by rw [putL_zero]; exact HRZ.out, Chg.refl _ _⟩
  case round =>
    obtain ⟨q, hq, rfl, hz, hc⟩ := hrel
    have HZ := Lib.hid hz
    have HC := Lib.hid hc
    by_cases hlt : q < k
    · have hlti : (q : Int) < (k : Int) := by omega
      have hcl := hz.cell (j := t + q) (by rw [putL_length _ (by rw [HL.out]; omega), HL.out]; omega)
      have hfr := hz.frozen (j := t + q) (by rw [putL_length _ (by rw [HL.out]; omega)]; exact HFR.out) (by rw [putL_length _ (by rw [HL.out]; omega), HL.out]; omega)
      have hst := Lib.hid (putL_step (b := b) (t := t) (i := q) x (by rw [HL.out]; omega))
      have hsh := shr_byte (i := q) hx.1
      clear hz hc
      go_wp2
      go_round
      case rel => exact ⟨q + 1, by omega, by go_num, hst.out ▸ HZ.out.set (j := t + q) (by rw [putL_length _ (by rw [HL.out]; omega), HL.out]; omega) (x / 256 ^ q % 256), HC.out.set (p := ⟨r, t + q, none⟩) (.inl rfl) _⟩
      case measure => simp [intOf]; omega
    · have hlti : ¬ (q : Int) < (k : Int) := by omega
      obtain rfl : q = k := by omega
      clear hz hc
      go_wp2
      go_ret
      exact ⟨rfl, HZ.out, HC.out⟩
theorem wPut_ok (r n c t k : Nat) (b : List Int) (x : Int) (W : World) (hl : b.length = n) (hk : wideP (k : Int)) (ht : t + k ≤ n) (hn : n ≤ 9223372036854775807) (hx : 0 ≤ x ∧ x ≤ 18446744073709551615) (hR : RowZ W r b) :
    Calls Try.prog 71 #[.slice (some ⟨r, 0, none⟩) n c, .int .i64 (t : Int), .int .i64 (k : Int), .int .u64 x] W fun e w' => e = .returned (.bool true) ∧ RowZ w' r (putL b t k x) ∧ Chg W w' (fun j => j = r) :=
  (wPut_x r n c t k b x W hl hk ht hn hx [] (0, 0) hR.x (fun h => absurd h (by decide))).mono (fun e w' h => ⟨h.1, h.2.1.z, h.2.2⟩)

set_option maxRecDepth 100000 in
set_option maxHeartbeats 4000000 in
theorem wPut_err (A : Option Addr) (n c : Nat) (t k x : Int) (W : World) (hn : n ≤ 9223372036854775807) (h : ¬ rightP (n : Int) t k) :
    Calls Try.prog 71 #[.slice A n c, .int .i64 t, .int .i64 k, .int .u64 x] W fun e w' => e = .returned (.bool false) ∧ W = w' := by
  have HR := Lib.hid (right_any (n : Int) t k W (by omega))
  have hd : decide (rightP (n : Int) t k) = false := decide_eq_false h
  clear h
  go_enter Try.func71, Try.ntmps71
  go_wp2_with (go_at_call 70; (with_reducible refine HR.out.mono ?_); rintro e' w' ⟨rfl, rfl⟩)
  go_ret
  exact ⟨rfl, rfl⟩
set_option maxRecDepth 100000 in
set_option maxHeartbeats 4000000 in
theorem wGet_err (A : Option Addr) (n c : Nat) (t k : Int) (W : World) (hn : n ≤ 9223372036854775807) (h : ¬ rightP (n : Int) t k) :
    Calls Try.prog 38 #[.slice A n c, .int .i64 t, .int .i64 k] W fun e w' => e = .returned (.tuple #[.int .u64 0, .bool false]) ∧ W = w' := by
  have HR := Lib.hid (right_any (n : Int) t k W (by omega))
  have hd : decide (rightP (n : Int) t k) = false := decide_eq_false h
  clear h
  go_enter Try.func38, Try.ntmps38
  go_wp2_with (go_at_call 70; (with_reducible refine HR.out.mono ?_); rintro e' w' ⟨rfl, rfl⟩)
  go_ret2
  exact ⟨rfl, rfl⟩
end Go.Proofs.Ytfdhjeeaigfmfaa.Sp
