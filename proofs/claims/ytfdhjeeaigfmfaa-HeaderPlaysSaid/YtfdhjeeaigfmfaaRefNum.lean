/- The reference's numbers as bytes. -/
import Derived.Test.YtfdhjeeaigfmfaaWordsOne
import Derived.Laws.Concat
namespace Go.Proofs.Ytfdhjeeaigfmfaa.Sp
open Go.RowKit Go.WideMaps Go.Proofs.Ytfdhjeeaigfmfaa.In Go.Proofs.Ytfdhjeeaigfmfaa.Plain
set_option linter.unusedVariables false
set_option linter.unusedSimpArgs false

theorem str_atN {l : List Int} (hl : Bs l) {q : Nat} (h : q < (strOfNums l).size) : (((strOfNums l)[q]'h).toNat : Int) = l.getD q 0 := by
  have hq : q < l.length := by rw [strOfNums_size] at h; exact h
  have e1 : (strOfNums l)[q]'h = (strOfNums l).data.toList[q]'(by rw [strOfNums_data, List.length_map]; exact hq) := by
    rw [Array.getElem_toList]; rfl
  rw [e1]
  simp only [strOfNums_data, List.getElem_map]
  have hb := hl _ (List.getElem_mem hq)
  rw [List.getD_eq_getElem?_getD, List.getElem?_eq_getElem hq]
  show ((UInt8.ofNat (l[q]).toNat).toNat : Int) = l[q]
  rw [UInt8.toNat_ofNat']
  omega

set_option maxRecDepth 100000 in
set_option maxHeartbeats 4000000 in
theorem ref02Wide_any (k : Int) (W : World) : Calls Try.prog 89 #[.int .i64 k] W fun e w' => e = .returned (.bool (decide (wideP k))) ∧ W = w' := by
  by_cases h1 : k = 1
  · subst h1
    go_enter Try.func89, Try.ntmps89
    go_wp2
    go_ret
    exact ⟨rfl, rfl⟩
  by_cases h2 : k = 2
  · subst h2
    go_enter Try.func89, Try.ntmps89
    go_wp2
    go_ret
    exact ⟨rfl, rfl⟩
  by_cases h4 : k = 4
  · subst h4
    go_enter Try.func89, Try.ntmps89
    go_wp2
    go_ret
    exact ⟨rfl, rfl⟩
  by_cases h8 : k = 8
  · subst h8
    go_enter Try.func89, Try.ntmps89
    go_wp2
    go_ret
    exact ⟨rfl, rfl⟩
  have hd : decide (wideP k) = false := decide_eq_false (by unfold wideP; omega)
  rw [hd]
  have b1 : (k == 1) = false := by simpa using h1
  have b2 : (k == 2) = false := by simpa using h2
  have b4 : (k == 4) = false := by simpa using h4
  have b8 : (k == 8) = false := by simpa using h8
  clear hd h1 h2 h4 h8
  go_enter Try.func89, Try.ntmps89
  go_wp2
  go_ret
  exact ⟨rfl, rfl⟩

theorem strOfNums_app (a b : List Int) : strOfNums (a ++ b) = strOfNums a ++ strOfNums b := by
  apply ByteArray.ext
  simp [strOfNums, ByteArray.data_append]

set_option maxRecDepth 100000 in
set_option maxHeartbeats 4000000 in
theorem ref02One_any (k : Nat) (n : Int) (W : World) (hk : k ≤ 8) (hn : 0 ≤ n ∧ n ≤ 18446744073709551615) : Calls Try.prog 74 #[.int .i64 (k : Int), .int .u64 n] W fun e w' => e = .returned (.string (strOfNums (le k n))) ∧ Below W.heap.size W w' := by
  have HN := Lib.hid hn
  go_enter Try.func74, Try.ntmps74
  go_wp2
  go_loopw [1, 5, 6] (fun v s i wr => ∃ j : Nat, j ≤ k ∧ v = .int .u64 (n / 256 ^ j) ∧ s = .string (strOfNums (le j n)) ∧ i = .int .i64 (j : Int) ∧ Below W.heap.size W wr) (fun _ _ i _ => k - (intOf i).toNat)
  case atStart => exact ⟨0, Nat.zero_le _, by simp, rfl, rfl, Below.refl _ _⟩
  case round =>
    obtain ⟨j, hj, rfl, rfl, rfl, hb⟩ := hrel
    have HB := Lib.hid hb
    obtain ⟨x, hx⟩ : ∃ x : Int, n / 256 ^ j = x := ⟨_, rfl⟩
    have hp := pow256_pos j
    have hx0 : 0 ≤ x := by rw [← hx]; exact Int.ediv_nonneg HN.out.1 (by omega)
    have hx1 : x ≤ 18446744073709551615 := by
      rw [← hx]
      exact Int.le_trans (Int.ediv_le_self _ HN.out.1) HN.out.2
    obtain ⟨d, hd⟩ : ∃ d : Int, x % 256 = d := ⟨_, rfl⟩
    have hd0 : 0 ≤ d ∧ d ≤ 255 := by omega
    have hxx : x / 256 = n / 256 ^ (j + 1) := by rw [← hx, Int.ediv_ediv_of_nonneg (by omega), ← Int.pow_succ]
    have hcv : (convert 32 9 (.slice (some ⟨wr.heap.size, 0, none⟩) 1 1)).run Try.prog (wr.alloc (.cells #[.int .u8 d] 5)) = .ok (.string (strOfNums [d])) (wr.alloc (.cells #[.int .u8 d] 5)) := (Row.lit wr [d] (0, 0)).string0 1 1 rfl
    have happ : strOfNums (le j n) ++ strOfNums [d] = strOfNums (le (j + 1) n) := by rw [← strOfNums_app, le_snoc, hx, hd]
    have hs1 : (strOfNums (le j n)).size = j := by rw [strOfNums_size, le_length]
    have hs2 : (strOfNums [d]).size = 1 := by rw [strOfNums_size]; rfl
    have HH := Lib.hid (And.intro hxx happ)
    rw [hx]
    obtain ⟨a, ha⟩ : ∃ a, strOfNums (le j n) = a := ⟨_, rfl⟩
    have HAA := Lib.hid ha
    rw [ha] at hs1 HH ⊢
    generalize strOfNums [d] = b at *
    have h63 : a.size + b.size ≤ 9223372036854775807 := by omega
    have h63i : (a.size : Int) + (b.size : Int) ≤ 9223372036854775807 := by omega
    clear hb hx hxx happ hp hs1 hs2 ha
    by_cases hlt : j < k
    · have hlti : (j : Int) < (k : Int) := by omega
      go_wp2
      go_roundw
      case rel => exact ⟨j + 1, by omega, by rw [HH.out.1], by rw [HH.out.2], by go_num, HB.out.alloc HB.out.size _⟩
      case measure => simp [intOf]; omega
    · have hlti : ¬ (j : Int) < (k : Int) := by omega
      obtain rfl : j = k := by omega
      go_wp2
      go_ret
      exact ⟨by rw [HAA.out]; rfl, HB.out⟩

theorem num_drop {l : List Int} {j : Nat} (h : j < l.length) : num (l.drop j) = l.getD j 0 + 256 * num (l.drop (j + 1)) := by
  rw [List.drop_eq_getElem_cons h, num, List.getD_eq_getElem?_getD, List.getElem?_eq_getElem h]
  rfl

set_option maxRecDepth 100000 in
set_option maxHeartbeats 4000000 in
theorem ref02Number_any (l : List Int) (W : World) (hl : l.length ≤ 8) (hb : Bs l) : Calls Try.prog 73 #[.string (strOfNums l)] W fun e w' => e = .returned (.int .u64 (num l)) ∧ W = w' := by
  have HL := Lib.hid hl
  have HB := Lib.hid hb
  obtain ⟨m, hm⟩ : ∃ m : Nat, l.length = m := ⟨_, rfl⟩
  have HM := Lib.hid hm
  have hsz : ((strOfNums l).size : Int) = (m : Int) := by rw [strOfNums_size, hm]
  have hm8 : (m : Int) ≤ 8 := by omega
  clear hl hb hm
  go_enter Try.func73, Try.ntmps73
  go_wp2
  go_loop [3, 4] (fun v i => ∃ z : Int, -1 ≤ z ∧ z < m ∧ v = .int .u64 (num (l.drop (z + 1).toNat)) ∧ i = .int .i64 z) (fun _ i => (intOf i + 1).toNat)
  case atStart => exact ⟨(m : Int) - 1, by omega, by omega, by rw [List.drop_of_length_le (by rw [HM.out]; omega)]; rfl, rfl⟩
  case round =>
    obtain ⟨z, hz0, hzm, rfl, rfl⟩ := hrel
    by_cases hz : 0 ≤ z
    · obtain ⟨j, rfl⟩ := Int.eq_ofNat_of_zero_le hz
      have hjm : j < m := by omega
      have e1 : ((j : Int) + 1).toNat = j + 1 := by omega
      rw [e1]
      have hjl : j < l.length := by rw [HM.out]; exact hjm
      have hN := num_range (bs_drop HB.out (j + 1))
      rw [List.length_drop] at hN
      have hp := pow256_lt (i := l.length - (j + 1)) (by have := HL.out; omega)
      have hnd := num_drop hjl
      have hjs : j < (strOfNums l).size := by rw [strOfNums_size]; exact hjl
      have hat := str_atN HB.out hjs
      obtain ⟨x, hx⟩ : ∃ x, l.getD j 0 = x := ⟨_, rfl⟩
      have hx0 : 0 ≤ x ∧ x ≤ 255 := by
        rw [← hx, List.getD_eq_getElem?_getD, List.getElem?_eq_getElem hjl]
        exact HB.out _ (List.getElem_mem _)
      obtain ⟨N, hNN⟩ : ∃ N, num (l.drop (j + 1)) = N := ⟨_, rfl⟩
      rw [hx] at hat hnd
      rw [hNN] at hN hnd
      rw [hNN]
      have hN0 : 0 ≤ N ∧ N ≤ 72057594037927935 := by omega
      have HND := Lib.hid hnd
      clear hN hp hnd hx hNN e1 hjl
      go_wp2
      go_round
      case rel => exact ⟨(j : Int) - 1, by omega, by omega, by rw [show ((j : Int) - 1 + 1).toNat = j by omega, HND.out, Int.mul_comm, Int.add_comm], rfl⟩
      case measure => simp [intOf] <;> omega
    · have hzi : z < 0 := by omega
      have HZ := Lib.hid (show (z + 1).toNat = 0 by omega)
      go_wp2
      go_ret
      exact ⟨by rw [HZ.out]; rfl, rfl⟩
end Go.Proofs.Ytfdhjeeaigfmfaa.Sp
