/- cells: a number that is filled. -/
import Derived.Test.YtfdhjeeaigfmfaaCellsAdd
namespace Go.Proofs.Ytfdhjeeaigfmfaa.Sp
open Go.RowKit Go.WideMaps Go.Proofs.Ytfdhjeeaigfmfaa.In Go.Proofs.Ytfdhjeeaigfmfaa.Plain
set_option linter.unusedVariables false

def RowU (w : World) (r : Nat) (l : List Int) : Prop := w.heap[r]? = some (.cells (l.map (Value.int .u64)).toArray 31 (0, 0))
theorem RowU.cell {w : World} {r : Nat} {l : List Int} (h : RowU w r l) {j : Nat} (hj : j < l.length) : w.cell? ⟨r, j, none⟩ = some (.int .u64 (l.getD j 0)) := by
  unfold RowU at h
  simp [World.cell?, h, List.getD_eq_getElem?_getD, List.getElem?_eq_getElem hj]
theorem RowU.frozen {w : World} {r : Nat} {l : List Int} (h : RowU w r l) (j : Nat) : w.frozen? ⟨r, j, none⟩ = false := by
  unfold RowU at h
  unfold World.frozen?
  rw [h]
  simp
theorem RowU.set {w : World} {r : Nat} {l : List Int} (h : RowU w r l) (j : Nat) (v : Int) : RowU (w.setCell ⟨r, j, none⟩ (.int .u64 v)) r (l.set j v) := by
  unfold RowU at h ⊢
  simp only [World.setCell, Array.getElem?_modify, if_true, h, Option.map_some]
  simp
theorem run_make_u64s (n : Nat) (hn : n ≤ 4294967296) (W : World) : (Instr.makeSlice 59 (.int .i64 (n : Int)) (.int .i64 (n : Int))).run Try.prog W = .ok (.slice (some ⟨W.heap.size, 0, none⟩) n n) (W.alloc (.cells (madeCells #[.int .u64 0] n) 31)) :=
  run_make_row' 59 31 (.int .u64 0) 8 (by kernel_rfl) (by kernel_rfl) rfl .i64 .i64 n (by omega) (by omega) W
theorem made_u64s (n : Nat) (W : World) : RowU (W.alloc (.cells (madeCells #[.int .u64 0] n) 31)) W.heap.size (List.replicate n 0) := by
  have : madeCells #[.int .u64 0] n = ((List.replicate n (0 : Int)).map (Value.int .u64)).toArray := by
    rw [← Array.toArray_toList (xs := madeCells #[.int .u64 0] n)]
    congr 1
    apply List.ext_getElem?
    intro i
    rcases Nat.lt_or_ge i n with h | h
    · simp [madeCells, h, Nat.mod_one]
    · simp [madeCells, h]
  rw [this]
  exact al_new rfl
/-- So far filled. -/
def filled (n : Int) (m q : Nat) : List Int := List.replicate q n ++ List.replicate (m - q) 0
theorem filled_zero (n : Int) (m : Nat) : filled n m 0 = List.replicate m 0 := by simp [filled]
theorem filled_all (n : Int) (m : Nat) : filled n m m = List.replicate m n := by simp [filled]
theorem filled_length (n : Int) {m q : Nat} (h : q ≤ m) : (filled n m q).length = m := by simp [filled]; omega
theorem filled_set (n : Int) {m q : Nat} (h : q < m) : (filled n m q).set q n = filled n m (q + 1) := by
  unfold filled
  rw [List.set_append_right _ _ (by simp), List.length_replicate, Nat.sub_self, show m - q = (m - (q + 1)) + 1 by omega, List.replicate_succ, List.set_cons_zero, List.replicate_succ', List.append_assoc]
  rfl

set_option maxRecDepth 100000 in
set_option maxHeartbeats 4000000 in
theorem cFill_arg (p : Option Addr) (t k n q : Int) (W : World) (ht : 0 ≤ t ∧ t ≤ 18446744073709551615) (h : ¬ (rightC t k ∧ 0 ≤ q ∧ q ≤ 1048576 / k)) :
    Calls Try.prog 45 #[.pointer p, .int .u64 t, .int .i64 k, .int .u64 n, .int .i64 q] W fun e w' => e = .returned (.int .i64 1) ∧ W = w' := by
  have HR := Lib.hid (cright_any t k W ht)
  by_cases hr : rightC t k
  · have hd : decide (rightC t k) = true := decide_eq_true hr
    have hk := hr.1.bd
    by_cases h0 : q < 0
    · clear h
      go_enter Try.func45, Try.ntmps45
      go_wp2_with (go_at_call 66; (with_reducible refine HR.out.mono ?_); rintro e' w' ⟨rfl, rfl⟩)
      go_ret
      exact ⟨rfl, rfl⟩
    · have h1 : ¬ q ≤ 1048576 / k := fun h2 => h ⟨hr, by omega, h2⟩
      obtain ⟨M, hM⟩ : ∃ M : Int, 1048576 / k = M := ⟨_, rfl⟩
      have h2 : ¬ q ≤ M := by omega
      have hk0 : k ≠ 0 := by omega
      clear h h1
      go_enter Try.func45, Try.ntmps45
      go_wp2_with (go_at_call 66; (with_reducible refine HR.out.mono ?_); rintro e' w' ⟨rfl, rfl⟩)
      go_ret
      exact ⟨rfl, rfl⟩
  · have hd : decide (rightC t k) = false := decide_eq_false hr
    clear h
    go_enter Try.func45, Try.ntmps45
    go_wp2_with (go_at_call 66; (with_reducible refine HR.out.mono ?_); rintro e' w' ⟨rfl, rfl⟩)
    go_ret
    exact ⟨rfl, rfl⟩

set_option maxRecDepth 100000 in
set_option maxHeartbeats 4000000 in
theorem cFill_gen (p : Option Addr) (t k q : Nat) (n c : Int) (W : World) (Q : World → Prop) (h : rightC (t : Int) (k : Int)) (hn : 0 ≤ n ∧ n ≤ 18446744073709551615) (ht : t ≤ 18446744073709551615) (hq : k * q ≤ 1048576)
    (hS : ∀ (r : Nat) (w1 : World), RowZ w1 r (bytesL k (List.replicate q n)) → Below W.heap.size W w1 → Calls Try.prog 22 #[.pointer p, .int .u64 (t : Int), .slice (some ⟨r, 0, none⟩) (k * q) (k * q)] w1 fun e w' => e = .returned (.int .i64 c) ∧ Q w') :
    Calls Try.prog 45 #[.pointer p, .int .u64 (t : Int), .int .i64 (k : Int), .int .u64 n, .int .i64 (q : Int)] W fun e w' => e = .returned (.int .i64 c) ∧ Q w' := by
  have hk := h.1.bd
  have HR := Lib.hid (cright_any (t : Int) (k : Int) W (by omega))
  have hd : decide (rightC (t : Int) (k : Int)) = true := decide_eq_true h
  have hk0 : (k : Int) ≠ 0 := by omega
  obtain ⟨M, hM⟩ : ∃ M : Int, 1048576 / (k : Int) = M := ⟨_, rfl⟩
  have hqm : (q : Int) ≤ M := by
    rw [← hM]
    have h1 : ((k * q : Nat) : Int) ≤ 1048576 := by omega
    rw [Int.natCast_mul] at h1
    exact (Int.le_ediv_iff_mul_le (by omega)).2 (by rw [Int.mul_comm]; exact h1)
  have hMu : M ≤ 1048576 := by
    rw [← hM]
    exact Int.ediv_le_self _ (by decide)
  have hq1 : (q : Int) ≤ 1048576 := by omega
  have hmk := run_make_u64s q (by omega)
  have HS := Lib.hid hS
  have HH := Lib.hid h
  have HQ := Lib.hid hq
  have HN := Lib.hid hn
  clear hS h hq hn
  go_enter Try.func45, Try.ntmps45
  go_wp2_with (go_at_call 66; (with_reducible refine HR.out.mono ?_); rintro e' w' ⟨rfl, rfl⟩)
  go_loopw [31] (fun i wr => ∃ j : Nat, j ≤ q ∧ i = .int .i64 (j : Int) ∧ RowU wr W.heap.size (filled n q j) ∧ Below W.heap.size W wr) (fun i _ => q - (intOf i).toNat)
  case atStart => exact ⟨0, Nat.zero_le _, rfl, by rw [filled_zero]; exact made_u64s q W, (Below.refl _ _).alloc (Nat.le_refl _) _⟩
  case round =>
    obtain ⟨j, hj, rfl, hz, hb⟩ := hrel
    have HZ := Lib.hid hz
    have HB2 := Lib.hid hb
    clear hb
    by_cases hlt : j < q
    · have hlti : (j : Int) < (q : Int) := by omega
      have hcl := hz.cell (j := j) (by rw [filled_length _ hj]; exact hlt)
      have hfr := hz.frozen j
      clear hz
      go_wp2
      go_roundw
      case rel => exact ⟨j + 1, by omega, by go_num, by rw [← filled_set _ hlt]; exact HZ.out.set j n, HB2.out.setCell (Nat.le_refl _) _⟩
      case measure => simp [intOf]; omega
    · have hlti : ¬ (j : Int) < (q : Int) := by omega
      obtain rfl : j = q := by omega
      have hz2 : RowU wr W.heap.size (List.replicate j n) := by rw [← filled_all]; exact HZ.out
      have HW := Lib.hid (wBytes_ok k j j (some ⟨W.heap.size, 0, none⟩) (List.replicate j n) wr List.length_replicate HH.out.1 (by have := HQ.out; omega) (fun v hv => by rw [(List.mem_replicate.1 hv).2]; exact HN.out) (fun _ => ⟨_, _, rfl, fun i hi => by rw [Nat.zero_add]; exact hz2.cell (by rw [List.length_replicate]; exact hi)⟩))
      clear hz hz2
      go_wp2_with fail
      refine HW.out.mono ?_
      rintro e w1 ⟨r, rfl, hr, hrow, hb1⟩
      have HC := Lib.hid (HS.out r w1 hrow (HB2.out.trans (hb1.mono HB2.out.size)))
      obtain ⟨m, hm⟩ : ∃ m : Nat, k * j = m := ⟨_, rfl⟩
      rw [hm] at HC ⊢
      clear hrow hb1 hr hm
      go_wp2_with fail
      refine HC.out.mono ?_
      rintro e' w2 ⟨rfl, h2⟩
      have H2 := Lib.hid h2
      clear h2
      go_wp2
      go_ret
      exact ⟨rfl, H2.out⟩

theorem St.fill {w0 W : World} {g : Nat} {s : SpS} (hs : St w0 W g s) (t k q : Nat) (n : Int) (h : rightC (t : Int) (k : Int)) (hn : 0 ≤ n ∧ n ≤ 18446744073709551615) (hq : k * q ≤ 1048576) (hb : t + k * q ≤ s.pages * 4096) :
    Calls Try.prog 45 #[.pointer (some ⟨g, 0, none⟩), .int .u64 (t : Int), .int .i64 (k : Int), .int .u64 n, .int .i64 (q : Int)] W fun e w' => e = .returned (.int .i64 0) ∧ St w0 w' g (tick { s with mem := lay s.mem t (bytesL k (List.replicate q n)) } (touchedI t ((k * q : Nat) : Int))) ∧ KpT W w' := by
  have hp := hs.pages
  refine cFill_gen (some ⟨g, 0, none⟩) t k q n 0 W (fun w' => St w0 w' g (tick { s with mem := lay s.mem t (bytesL k (List.replicate q n)) } (touchedI t ((k * q : Nat) : Int))) ∧ KpT W w') h hn (by omega) hq (fun r w1 hrow hb1 => ?_)
  refine ((hs.step hb1).store (t : Int) (some ⟨r, 0, none⟩) (k * q) (k * q) (bytesL k (List.replicate q n)) (by rw [bytesL_length, List.length_replicate]) (Nat.le_refl _) (Row.srcW hrow.row (bytesL_bs k _)) (by omega) (by omega) (by omega)).mono ?_
  rintro e w' ⟨he, hs2, hk2⟩
  exact ⟨he, hs2, (KpT.of_below hb1).trans hk2⟩
theorem St.fill_range {w0 W : World} {g : Nat} {s : SpS} (hs : St w0 W g s) (t k q : Nat) (n : Int) (h : rightC (t : Int) (k : Int)) (hn : 0 ≤ n ∧ n ≤ 18446744073709551615) (ht : t ≤ 18446744073709551615) (hq : k * q ≤ 1048576) (hb : ¬ t + k * q ≤ s.pages * 4096) :
    Calls Try.prog 45 #[.pointer (some ⟨g, 0, none⟩), .int .u64 (t : Int), .int .i64 (k : Int), .int .u64 n, .int .i64 (q : Int)] W fun e w' => e = .returned (.int .i64 3) ∧ Below W.heap.size W w' := by
  refine cFill_gen (some ⟨g, 0, none⟩) t k q n 3 W (fun w' => Below W.heap.size W w') h hn ht hq (fun r w1 hrow hb1 => ?_)
  refine ((hs.step hb1).store_err (t : Int) 3 (some ⟨r, 0, none⟩) (k * q) (k * q) (by omega) (by omega) (by unfold fitsI; rw [if_neg (by omega)]) (by decide)).mono ?_
  rintro e w' ⟨he, rfl⟩
  exact ⟨he, hb1⟩
end Go.Proofs.Ytfdhjeeaigfmfaa.Sp
