/- Plain facts on numbers as bytes, the lowest first; no program. -/
import Derived.WalkKit
import Derived.Test.YtfdhjeeaigfmfaaBitsPlain
namespace Go.Proofs.Ytfdhjeeaigfmfaa.Plain
open Go.RowKit
set_option linter.unusedVariables false

/-- a number's bytes, the lowest first -/
def le : Nat → Int → List Int
  | 0, _ => []
  | w + 1, n => n % 256 :: le w (n / 256)
/-- the number that bytes are -/
def num : List Int → Int
  | [] => 0
  | b :: l => b + 256 * num l
def Bs (l : List Int) : Prop := ∀ x ∈ l, 0 ≤ x ∧ x ≤ 255

theorem le_length (w : Nat) : ∀ n, (le w n).length = w := by
  induction w with
  | zero => intro n; rfl
  | succ w ih => intro n; simp [le, ih]
theorem le_bs (w : Nat) : ∀ n, Bs (le w n) := by
  induction w with
  | zero => intro n x hx; cases hx
  | succ w ih =>
    intro n x hx
    simp only [le, List.mem_cons] at hx
    rcases hx with rfl | hx
    · omega
    · exact ih _ x hx
theorem pow256_pos (w : Nat) : (0 : Int) < 256 ^ w := Int.pow_pos (by decide)
theorem num_le (w : Nat) : ∀ n, num (le w n) = n % 256 ^ w := by
  induction w with
  | zero => intro n; simp [le, num, Int.emod_one]
  | succ w ih =>
    intro n
    simp only [le, num]
    rw [ih]
    have hp := pow256_pos w
    have h1 := Int.emod_add_mul_ediv n 256
    have h2 := Int.emod_add_mul_ediv (n / 256) (256 ^ w)
    have h3 := Int.emod_nonneg (n / 256) (show (256 : Int) ^ w ≠ 0 by omega)
    have h4 := Int.emod_lt_of_pos (n / 256) hp
    have h5 : (256 : Int) ^ (w + 1) = 256 * 256 ^ w := by rw [Int.pow_succ, Int.mul_comm]
    rw [h5]
    have e : n = (n % 256 + 256 * (n / 256 % 256 ^ w)) + 256 * 256 ^ w * (n / 256 / 256 ^ w) := by
      have : 256 * (n / 256) = 256 * (n / 256 % 256 ^ w) + 256 * (256 ^ w * (n / 256 / 256 ^ w)) := by rw [← Int.mul_add, h2]
      rw [Int.mul_assoc]
      omega
    have hlt : n % 256 + 256 * (n / 256 % 256 ^ w) < 256 * 256 ^ w := by omega
    have h0 : 0 ≤ n % 256 + 256 * (n / 256 % 256 ^ w) := by omega
    conv => rhs; rw [e]
    rw [Int.add_mul_emod_self_left, Int.emod_eq_of_lt h0 hlt]
theorem num_range {l : List Int} (h : Bs l) : 0 ≤ num l ∧ num l < 256 ^ l.length := by
  induction l with
  | nil => simp [num]
  | cons b l ih =>
    have hb := h b (List.mem_cons_self)
    obtain ⟨h1, h2⟩ := ih (fun x hx => h x (List.mem_cons_of_mem _ hx))
    simp only [num, List.length_cons]
    rw [Int.pow_succ]
    omega
theorem le_num {l : List Int} (h : Bs l) : le l.length (num l) = l := by
  induction l with
  | nil => rfl
  | cons b l ih =>
    have hb := h b (List.mem_cons_self)
    have hl : Bs l := fun x hx => h x (List.mem_cons_of_mem _ hx)
    have := num_range hl
    simp only [num, List.length_cons, le]
    rw [show (b + 256 * num l) % 256 = b from by omega, show (b + 256 * num l) / 256 = num l from by omega, ih hl]
theorem num_append (l m : List Int) : num (l ++ m) = num l + 256 ^ l.length * num m := by
  induction l with
  | nil => simp [num]
  | cons b l ih =>
    simp only [List.cons_append, num, List.length_cons, ih]
    rw [Int.pow_succ, Int.mul_add, Int.mul_comm (256 ^ l.length) 256, Int.mul_assoc]
    omega
theorem le_snoc (w : Nat) : ∀ n, le (w + 1) n = le w n ++ [n / 256 ^ w % 256] := by
  induction w with
  | zero => intro n; simp [le]
  | succ w ih =>
    intro n
    rw [le, ih]
    simp only [le, List.cons_append]
    rw [Int.pow_succ, Int.mul_comm, ← Int.ediv_ediv_of_nonneg (by decide)]
theorem le_inj_mod {w : Nat} {n m : Int} : le w n = le w m ↔ n % 256 ^ w = m % 256 ^ w := by
  constructor
  · intro h
    rw [← num_le, ← num_le, h]
  · intro h
    have h1 := le_num (le_bs w n)
    have h2 := le_num (le_bs w m)
    rw [le_length, num_le] at h1 h2
    rw [← h1, ← h2, h]
theorem bs_append {l m : List Int} (h1 : Bs l) (h2 : Bs m) : Bs (l ++ m) := by
  intro x hx
  rcases List.mem_append.1 hx with h | h
  · exact h1 x h
  · exact h2 x h
theorem bs_take {l : List Int} (h : Bs l) (n : Nat) : Bs (l.take n) := fun x hx => h x (List.mem_of_mem_take hx)
theorem bs_drop {l : List Int} (h : Bs l) (n : Nat) : Bs (l.drop n) := fun x hx => h x (List.mem_of_mem_drop hx)

/-- bytes behind a number that is put -/
def putL (b : List Int) (t w : Nat) (n : Int) : List Int := b.take t ++ le w n ++ b.drop (t + w)
theorem putL_zero (b : List Int) (t : Nat) (n : Int) : putL b t 0 n = b := by simp [putL, le]
theorem putL_length {b : List Int} {t w : Nat} (n : Int) (h : t + w ≤ b.length) : (putL b t w n).length = b.length := by
  simp [putL, le_length]; omega
theorem putL_step {b : List Int} {t i : Nat} (n : Int) (h : t + i < b.length) : (putL b t i n).set (t + i) (n / 256 ^ i % 256) = putL b t (i + 1) n := by
  unfold putL
  have h1 : (b.take t ++ le i n).length = t + i := by simp [le_length]; omega
  rw [List.set_append_right _ _ (by omega), h1, Nat.sub_self, le_snoc]
  have h2 : b.drop (t + i) = b[t + i] :: b.drop (t + i + 1) := List.drop_eq_getElem_cons h
  rw [h2, List.set_cons_zero]
  simp [Nat.add_assoc]
theorem putL_take (b : List Int) (t w : Nat) (n : Int) (h : t + w ≤ b.length) : (putL b t w n).take t = b.take t := by
  unfold putL
  rw [List.append_assoc, List.take_append_of_le_length (by simp; omega), List.take_take, Nat.min_self]
theorem putL_drop (b : List Int) (t w : Nat) (n : Int) (h : t + w ≤ b.length) : (putL b t w n).drop (t + w) = b.drop (t + w) := by
  unfold putL
  rw [List.drop_left' (by simp [le_length]; omega)]
theorem putL_mid (b : List Int) (t w : Nat) (n : Int) (h : t + w ≤ b.length) : ((putL b t w n).drop t).take w = le w n := by
  unfold putL
  rw [List.append_assoc, List.drop_left' (by simp; omega), List.take_left' (le_length w n)]
theorem putL_bs {b : List Int} (hb : Bs b) (t w : Nat) (n : Int) : Bs (putL b t w n) := bs_append (bs_append (bs_take hb _) (le_bs _ _)) (bs_drop hb _)

/-- one byte more in front of what was read -/
theorem or_next {acc b : Int} {i : Nat} (hi : i < 8) (a0 : 0 ≤ acc) (a1 : acc < 256 ^ i) (b0 : 0 ≤ b) (b1 : b ≤ 255) :
    Go.bits .or .u64 acc (b * 256 ^ i) = acc + 256 ^ i * b := by
  have hp : (256 : Int) ^ i ≤ 72057594037927936 := by
    have : i = 0 ∨ i = 1 ∨ i = 2 ∨ i = 3 ∨ i = 4 ∨ i = 5 ∨ i = 6 ∨ i = 7 := by omega
    rcases this with rfl | rfl | rfl | rfl | rfl | rfl | rfl | rfl <;> decide
  have hpp := pow256_pos i
  have hm : b * 256 ^ i ≤ 255 * 256 ^ i := Int.mul_le_mul_of_nonneg_right b1 (by omega)
  have hm0 : 0 ≤ b * 256 ^ i := Int.mul_nonneg b0 (by omega)
  obtain ⟨A, rfl⟩ := Int.eq_ofNat_of_zero_le a0
  obtain ⟨B, rfl⟩ := Int.eq_ofNat_of_zero_le b0
  have hc : ((2 ^ (8 * i) : Nat) : Int) = 256 ^ i := by
    rw [Nat.pow_mul]; simp
  have hA : A < 2 ^ (8 * i) := by rw [← hc] at a1; omega
  rw [← hc, ← Int.natCast_mul, u64_or_nat A _ (by rw [← hc] at hp; omega) (by rw [← hc, ← Int.natCast_mul] at hm; rw [← hc] at hp; omega)]
  have := Nat.two_pow_add_eq_or_of_lt hA B
  rw [Nat.or_comm, Nat.mul_comm B, ← this, Int.natCast_add, Int.natCast_mul]
  omega
theorem pow2_256 (i : Nat) : (2 : Int) ^ (8 * i) = 256 ^ i := by rw [Int.pow_mul]; rfl

end Go.Proofs.Ytfdhjeeaigfmfaa.Plain
