/- The reference's numbers in a space: filled. -/
import Derived.Test.YtfdhjeeaigfmfaaRefAdd
namespace Go.Proofs.Ytfdhjeeaigfmfaa.Sp
open Go.RowKit Go.WideMaps Go.Proofs.Ytfdhjeeaigfmfaa.In Go.Proofs.Ytfdhjeeaigfmfaa.Plain
set_option linter.unusedVariables false
set_option linter.unusedSimpArgs false

theorem bytesL_snoc2 (k c : Nat) (n : Int) : bytesL k (List.replicate (c + 1) n) = bytesL k (List.replicate c n) ++ le k n := by
  unfold bytesL
  rw [List.replicate_succ', List.flatMap_append]
  simp

set_option maxRecDepth 100000 in
set_option maxHeartbeats 4000000 in
theorem ref04Fill_arg {base q : Nat} {v : Value} {s : SpS} (t k n m : Int) (W : World) (hs : RefS base q W v s) (ht : 0 ≤ t ∧ t ≤ 18446744073709551615) (h : ¬ (rightC t k ∧ 0 ≤ m ∧ m ≤ 1048576 / k)) :
    Calls Try.prog 44 #[v, .int .u64 t, .int .i64 k, .int .u64 n, .int .i64 m] W fun e w' => e = .returned (.tuple #[v, .int .i64 1]) ∧ Below W.heap.size W w' := by
  have HR := Lib.hid (fun W1 => ref04Right_any t k W1 ht)
  obtain ⟨LA, Lm, Lc, rfl⟩ := refS_form hs
  generalize (s.pages : Int) = pg at *
  generalize s.ticks = tk at *
  clear hs
  by_cases hr : rightC t k
  · have hd : decide (rightC t k) = true := decide_eq_true hr
    have hk := hr.1.bd
    by_cases h0 : m < 0
    · clear h
      go_enter Try.func44, Try.ntmps44
      go_wp2_with (go_at_call 72; (with_reducible refine (HR.out _).mono ?_); rintro e' w1 ⟨rfl, rfl⟩)
      refine bodyPost_ret (v := .tuple #[.agg #[.int .i64 pg, .slice LA Lm Lc, .int .i64 tk], .int .i64 1]) ?_ rfl ?_
      · simp [results, Try.results44, go_sem]
      · exact ⟨rfl, ((Below.refl _ _).alloc (Nat.le_refl _) _).alloc (by simp) _⟩
    · have h1 : ¬ m ≤ 1048576 / k := fun h2 => h ⟨hr, by omega, h2⟩
      obtain ⟨M, hM⟩ : ∃ M : Int, 1048576 / k = M := ⟨_, rfl⟩
      have h2 : ¬ m ≤ M := by omega
      have hk0 : k ≠ 0 := by omega
      clear h h1
      go_enter Try.func44, Try.ntmps44
      go_wp2_with (go_at_call 72; (with_reducible refine (HR.out _).mono ?_); rintro e' w1 ⟨rfl, rfl⟩)
      refine bodyPost_ret (v := .tuple #[.agg #[.int .i64 pg, .slice LA Lm Lc, .int .i64 tk], .int .i64 1]) ?_ rfl ?_
      · simp [results, Try.results44, go_sem]
      · exact ⟨rfl, ((Below.refl _ _).alloc (Nat.le_refl _) _).alloc (by simp) _⟩
  · have hd : decide (rightC t k) = false := decide_eq_false hr
    clear h
    go_enter Try.func44, Try.ntmps44
    go_wp2_with (go_at_call 72; (with_reducible refine (HR.out _).mono ?_); rintro e' w1 ⟨rfl, rfl⟩)
    refine bodyPost_ret (v := .tuple #[.agg #[.int .i64 pg, .slice LA Lm Lc, .int .i64 tk], .int .i64 1]) ?_ rfl ?_
    · simp [results, Try.results44, go_sem]
    · exact ⟨rfl, ((Below.refl _ _).alloc (Nat.le_refl _) _).alloc (by simp) _⟩

set_option maxRecDepth 100000 in
set_option maxHeartbeats 4000000 in
theorem ref04Fill_gen {base q q' : Nat} {v : Value} {s s1 : SpS} (t : Int) (k m : Nat) (n c : Int) (W : World) (hs : RefS base q W v s) (h : rightC t (k : Int)) (ht : 0 ≤ t ∧ t ≤ 18446744073709551615) (hn : 0 ≤ n ∧ n ≤ 18446744073709551615) (hm : k * m ≤ 1048576)
    (hL : ∀ W1, Below W.heap.size W W1 → Calls Try.prog 21 #[v, .int .u64 t, .string (strOfNums (bytesL k (List.replicate m n)))] W1 fun e w' => ∃ v', e = .returned (.tuple #[v', .int .i64 c]) ∧ RefS base q' w' v' s1 ∧ Below W1.heap.size W1 w') :
    Calls Try.prog 44 #[v, .int .u64 t, .int .i64 (k : Int), .int .u64 n, .int .i64 (m : Int)] W fun e w' => ∃ v', e = .returned (.tuple #[v', .int .i64 c]) ∧ RefS base q' w' v' s1 ∧ Below W.heap.size W w' := by
  have hk := h.1.bd
  have HR := Lib.hid (fun W1 => ref04Right_any t (k : Int) W1 ht)
  have hd : decide (rightC t (k : Int)) = true := decide_eq_true h
  have HL := Lib.hid hL
  have HN := Lib.hid (fun W1 => ref02One_any k n W1 (by omega) hn)
  obtain ⟨LA, Lm, Lc, rfl⟩ := refS_form hs
  generalize (s.pages : Int) = pg at *
  generalize s.ticks = tk at *
  have hk0 : (k : Int) ≠ 0 := by omega
  obtain ⟨M, hM⟩ : ∃ M : Int, 1048576 / (k : Int) = M := ⟨_, rfl⟩
  have hqm : (m : Int) ≤ M := by
    rw [← hM]
    have h1 : ((k * m : Nat) : Int) ≤ 1048576 := by omega
    rw [Int.natCast_mul] at h1
    exact (Int.le_ediv_iff_mul_le (by omega)).2 (by rw [Int.mul_comm]; exact h1)
  have hMu : M ≤ 1048576 := by
    rw [← hM]
    exact Int.ediv_le_self _ (by decide)
  have HM := Lib.hid hm
  have HK := Lib.hid (show k ≤ 8 by omega)
  have hE0 : ((W.alloc (.cells #[.int .i64 pg, .slice LA Lm Lc, .int .i64 tk] 29)).alloc (.cells #[.int .i64 0, .slice none 0 0, .int .i64 0] 29)).heap[W.heap.size]? = some (.cells #[.int .i64 pg, .slice LA Lm Lc, .int .i64 tk] 29 (0, 0)) := al_old (al_new rfl)
  have hE1 : ((W.alloc (.cells #[.int .i64 pg, .slice LA Lm Lc, .int .i64 tk] 29)).alloc (.cells #[.int .i64 0, .slice none 0 0, .int .i64 0] 29)).heap[W.heap.size + 1]? = some (.cells #[.int .i64 0, .slice none 0 0, .int .i64 0] 29 (0, 0)) := al_new (by simp)
  have hBW : Below W.heap.size W ((W.alloc (.cells #[.int .i64 pg, .slice LA Lm Lc, .int .i64 tk] 29)).alloc (.cells #[.int .i64 0, .slice none 0 0, .int .i64 0] 29)) := ((Below.refl _ _).alloc (Nat.le_refl _) _).alloc (by simp) _
  have HE0 := Lib.hid hE0
  have HE1 := Lib.hid hE1
  have HBW := Lib.hid hBW
  clear hs h hL hE0 hE1 hBW hm
  go_enter Try.func44, Try.ntmps44
  go_wp2_with (go_at_call 72; (with_reducible refine (HR.out _).mono ?_); rintro e' w1 ⟨rfl, rfl⟩)
  generalize (W.alloc (.cells #[.int .i64 pg, .slice LA Lm Lc, .int .i64 tk] 29)).alloc (.cells #[.int .i64 0, .slice none 0 0, .int .i64 0] 29) = W2 at *
  go_loopw [13, 14] (fun b i wr => ∃ j : Nat, j ≤ m ∧ b = .string (strOfNums (bytesL k (List.replicate j n))) ∧ i = .int .i64 (j : Int) ∧ Below W2.heap.size W2 wr) (fun _ i _ => m - (intOf i).toNat)
  case atStart => exact ⟨0, Nat.zero_le _, rfl, rfl, Below.refl _ _⟩
  case round =>
    obtain ⟨j, hj, rfl, rfl, hb⟩ := hrel
    have HB := Lib.hid hb
    by_cases hlt : j < m
    · have hlti : (j : Int) < (m : Int) := by omega
      have happ : strOfNums (bytesL k (List.replicate j n)) ++ strOfNums (le k n) = strOfNums (bytesL k (List.replicate (j + 1) n)) := by rw [← strOfNums_app, bytesL_snoc2]
      have hs1 : (strOfNums (bytesL k (List.replicate j n))).size ≤ 1048576 := by
        rw [strOfNums_size, bytesL_length, List.length_replicate]
        have := Nat.mul_le_mul_left k hj
        have := HM.out
        omega
      have hs2 : (strOfNums (le k n)).size ≤ 8 := by rw [strOfNums_size, le_length]; exact HK.out
      have HH := Lib.hid happ
      have HN2 := Lib.hid (HN.out wr)
      obtain ⟨a, ha⟩ : ∃ a, strOfNums (bytesL k (List.replicate j n)) = a := ⟨_, rfl⟩
      obtain ⟨b, hbb⟩ : ∃ b, strOfNums (le k n) = b := ⟨_, rfl⟩
      rw [ha, hbb] at HH
      rw [ha] at hs1 ⊢
      rw [hbb] at HN2 hs2
      have h63 : a.size + b.size ≤ 9223372036854775807 := by omega
      have h63i : (a.size : Int) + (b.size : Int) ≤ 9223372036854775807 := by omega
      clear happ hs1 hs2 ha hbb hb
      go_wp2_with (go_at_call 74; (with_reducible refine HN2.out.mono ?_); rintro e' w3 ⟨rfl, hb3⟩; have HB3 := Lib.hid (HB.out.trans (hb3.mono HB.out.size)); clear hb3)
      go_roundw
      case rel => exact ⟨j + 1, by omega, by rw [HH.out], by go_num, HB3.out⟩
      case measure => simp [intOf]; omega
    · have hlti : ¬ (j : Int) < (m : Int) := by omega
      obtain rfl : j = m := by omega
      have e0 := (hb.block _ (Array.getElem?_eq_some_iff.1 HE0.out).1).trans HE0.out
      obtain ⟨a0, a1, a2, f1, f2, f0⟩ := box3 e0
      have HBB := Lib.hid (HBW.out.trans (hb.mono HBW.out.size))
      clear e0 hb
      go_wp2_with fail
      refine (HL.out wr HBB.out).mono ?_
      rintro e' w4 ⟨v', rfl, hs4, hb4⟩
      obtain ⟨lA2, lm2, lc2, rfl⟩ := refS_form hs4
      have B4 := Lib.hid (HB.out.trans (hb4.mono HB.out.size))
      obtain ⟨m0, m1, m2, m3, m4, m5⟩ := box3 ((B4.out.block _ (Array.getElem?_eq_some_iff.1 HE1.out).1).trans HE1.out)
      have HB4 := Lib.hid (HBW.out.trans (B4.out.mono HBW.out.size))
      have HS4 := Lib.hid (refS_set3 (x := .int .i64 (s1.pages : Int)) (y := .slice lA2 lm2 lc2) (z := .int .i64 s1.ticks) hs4 ((B4.out.block _ (Array.getElem?_eq_some_iff.1 HE1.out).1).trans HE1.out) (by decide))
      clear hb4 hs4
      go_wp2
      refine bodyPost_ret (v := .tuple #[.agg #[.int .i64 (s1.pages : Int), .slice lA2 lm2 lc2, .int .i64 s1.ticks], .int .i64 c]) ?_ rfl ?_
      · simp [results, Try.results44, go_sem, Act.put, m0, m1, m2]
      · exact ⟨_, rfl, HS4.out, ((HB4.out.setCell (by show W.heap.size ≤ W.heap.size + 1; omega) _).setCell (by show W.heap.size ≤ W.heap.size + 1; omega) _).setCell (by show W.heap.size ≤ W.heap.size + 1; omega) _⟩
end Go.Proofs.Ytfdhjeeaigfmfaa.Sp
