/- For every number, every width and up to a hundred numbers, whether it fits, what it is with a sign, and the numbers as bytes are the document's; no further condition. -/
import Derived.Test.YtklccppfofhplaaPWordsNumbersx3
import Derived.Test.YtklccppfofhplaaBitsFacts
import Derived.Test.YtklccppfofhplaaWordsPlain
import Derived.Lib.Strings
namespace Go.Proofs.Ytklccppfofhplaa.Pure
open Go.RowKit Go.Proofs.Ytklccppfofhplaa.PWordsNumbers Go.Proofs.YtklccppfofhplaaW.PrintWords Go.Proofs.YtklccppfofhplaaW.PrintLast Go.Proofs.YtklccppfofhplaaW.PrintMore Go.Proofs.Ytklccppfofhplaa.Plain
set_option linter.unusedVariables false
set_option linter.unusedSimpArgs false
namespace WordsNumbersP

def wideB (w : Int) : Bool := decide (w = 1 ∨ w = 2 ∨ w = 4 ∨ w = 8)
theorem wide_no {w : Int} (h : ¬ (w = 1 ∨ w = 2 ∨ w = 4 ∨ w = 8)) : wideB w = false := decide_eq_false h
theorem wide_nat {w : Int} (h : wideB w = true) : ∃ W : Nat, w = W ∧ 1 ≤ W ∧ W ≤ 8 ∧ (W = 1 ∨ W = 2 ∨ W = 4 ∨ W = 8) := by
  have h := of_decide_eq_true h
  exact ⟨w.toNat, by omega, by omega, by omega, by omega⟩
theorem wide_f (w : Int) : words_wide.f w = some (wideB w) := by
  unfold words_wide.f
  by_cases c1 : w > 0
  · rw [if_pos c1]
    by_cases c2 : w ≤ 8
    · rw [if_pos c2]
      have h : w = 1 ∨ w = 2 ∨ w = 3 ∨ w = 4 ∨ w = 5 ∨ w = 6 ∨ w = 7 ∨ w = 8 := by omega
      rcases h with rfl | rfl | rfl | rfl | rfl | rfl | rfl | rfl <;> decide +kernel
    · rw [if_neg c2, wide_no (by omega)]
  · rw [if_neg c1, wide_no (by omega)]
def rightB (n t w : Int) : Bool := decide (wideB w = true ∧ 0 ≤ t ∧ t + w ≤ n)
theorem right_f {n t w : Int} (n0 : 0 ≤ n) (n1 : n ≤ 9223372036854775807) (t1 : t ≤ 9223372036854775807) : words_right.f n t w = some (rightB n t w) := by
  unfold words_right.f rightB
  rw [wide_f]
  simp only [Option.bind_some]
  by_cases c1 : wideB w = true
  · obtain ⟨W, rfl, h1, h2, _⟩ := wide_nat c1
    rw [if_pos c1]
    by_cases c2 : t ≥ 0
    · rw [if_pos c2]
      by_cases c3 : n ≥ (W : Int)
      · rw [if_pos c3, show wrap64 (n - W) = n - W from by unfold wrap64; omega]
        congr 1
        rw [Bool.eq_iff_iff, decide_eq_true_eq, decide_eq_true_eq]
        constructor
        · intro h; exact ⟨c1, by omega, by omega⟩
        · intro h; omega
      · rw [if_neg c3, decide_eq_false (fun h => by omega)]
    · rw [if_neg c2, decide_eq_false (fun h => by omega)]
  · rw [if_neg c1, decide_eq_false (fun h => c1 h.1)]
theorem put_loop (b : List Int) (hl : (b.length : Int) ≤ 9223372036854775807) (t W : Nat) (n : Int) (n0 : 0 ≤ n) (hW : W ≤ 8) (h : t + W ≤ b.length) (d : Nat) :
    ∀ (k i : Nat), i + d = W → d < k → words_Put.l0 k (putL b t i n) (t : Int) n (W : Int) (i : Int) = some (true, putL b t W n) := by
  induction d with
  | zero =>
    intro k i hi hk
    obtain ⟨k, rfl⟩ : ∃ m, k = m + 1 := ⟨k - 1, by omega⟩
    simp only [words_Put.l0]
    rw [if_neg (by omega), show i = W from by omega]
  | succ d ih =>
    intro k i hi hk
    obtain ⟨k, rfl⟩ : ∃ m, k = m + 1 := ⟨k - 1, by omega⟩
    simp only [words_Put.l0]
    rw [if_pos (by omega), show wrap64 (8 * (i : Int)) = ((8 * i : Nat) : Int) from by unfold wrap64; omega, if_pos (by omega), show wrap64 ((t : Int) + i) = ((t + i : Nat) : Int) from by unfold wrap64; omega, if_pos (by omega), putL_length n (by omega), if_pos (by omega)]
    have hs : shr .u64 n ((8 * i : Nat) : Int) = n / 256 ^ i := by
      unfold shr
      rw [Int.toNat_natCast, show min (8 * i) IntKind.u64.bits = 8 * i from by show min (8 * i) 64 = _; omega, pow2_256]
    rw [hs, Int.toNat_natCast, putL_step n (by omega), show wrap64 ((i : Int) + 1) = ((i + 1 : Nat) : Int) from by unfold wrap64; omega]
    exact ih k (i + 1) (by omega) (by omega)
theorem put_f (k : Nat) (hk : 9 ≤ k) {b : List Int} {t w n : Int} (hl : (b.length : Int) ≤ 9223372036854775807) (t1 : t ≤ 9223372036854775807) (n0 : 0 ≤ n) :
    words_Put.f k b t w n = some (if rightB b.length t w = true then (true, putL b t.toNat w.toNat n) else (false, b)) := by
  unfold words_Put.f
  rw [right_f (by omega) hl t1]
  simp only [Option.bind_some]
  by_cases c : rightB b.length t w = true
  · rw [if_pos c, if_pos c]
    obtain ⟨c1, c2, c3⟩ := of_decide_eq_true c
    obtain ⟨W, rfl, h1, h2, _⟩ := wide_nat c1
    obtain ⟨T, rfl⟩ := Int.eq_ofNat_of_zero_le c2
    have := put_loop b hl T W n n0 h2 (by omega) W k 0 (by omega) (by omega)
    rw [putL_zero] at this
    exact this
  · rw [if_neg c, if_neg c]
theorem rd_nat (l : List Int) (i : Nat) : rd l (i : Int) = l.getD i 0 := by unfold rd; rw [Int.toNat_natCast]
theorem get_loop (b : List Int) (hb : Bs b) (hl : (b.length : Int) ≤ 9223372036854775807) (t W : Nat) (hW : W ≤ 8) (h : t + W ≤ b.length) (d : Nat) :
    ∀ (k i : Nat), i + d = W → d < k → words_Get.l0 k b (t : Int) (num ((b.drop t).take i)) (W : Int) (i : Int) = some (num ((b.drop t).take W), true) := by
  induction d with
  | zero =>
    intro k i hi hk
    obtain ⟨k, rfl⟩ : ∃ m, k = m + 1 := ⟨k - 1, by omega⟩
    simp only [words_Get.l0]
    rw [if_neg (by omega), show i = W from by omega]
  | succ d ih =>
    intro k i hi hk
    obtain ⟨k, rfl⟩ : ∃ m, k = m + 1 := ⟨k - 1, by omega⟩
    simp only [words_Get.l0]
    rw [if_pos (by omega), show wrap64 ((t : Int) + i) = ((t + i : Nat) : Int) from by unfold wrap64; omega, if_pos (by omega), if_pos (by omega), show wrap64 (8 * (i : Int)) = ((8 * i : Nat) : Int) from by unfold wrap64; omega, if_pos (by omega), show wrap64 ((i : Int) + 1) = ((i + 1 : Nat) : Int) from by unfold wrap64; omega]
    have hlt : t + i < b.length := by omega
    have hx : (b.drop t).take (i + 1) = (b.drop t).take i ++ [b[t + i]] := by
      rw [List.take_succ_eq_append_getElem (by simp; omega)]
      simp
    have hr : rd b ((t + i : Nat) : Int) = b[t + i] := by
      rw [rd_nat, List.getD_eq_getElem?_getD, List.getElem?_eq_getElem hlt]; rfl
    obtain ⟨x0, x1⟩ := hb b[t + i] (List.getElem_mem hlt)
    have hacc := num_range (bs_take (bs_drop hb t) i)
    have hlen : ((b.drop t).take i).length = i := by simp; omega
    rw [hlen] at hacc
    have hp : (256 : Int) ^ i ≤ 72057594037927936 := by
      have : i = 0 ∨ i = 1 ∨ i = 2 ∨ i = 3 ∨ i = 4 ∨ i = 5 ∨ i = 6 ∨ i = 7 := by omega
      rcases this with rfl | rfl | rfl | rfl | rfl | rfl | rfl | rfl <;> decide
    have hpp := pow256_pos i
    have hm : b[t + i] * 256 ^ i ≤ 255 * 256 ^ i := Int.mul_le_mul_of_nonneg_right x1 (by omega)
    have hm0 : 0 ≤ b[t + i] * 256 ^ i := Int.mul_nonneg x0 (by omega)
    have hs : shl .u64 (IntKind.u64.wrap b[t + i]) ((8 * i : Nat) : Int) = b[t + i] * 256 ^ i := by
      unfold shl
      rw [Int.toNat_natCast, show min (8 * i) IntKind.u64.bits = 8 * i from by show min (8 * i) 64 = _; omega, pow2_256, u64w x0 (by omega), u64w hm0 (by omega)]
    rw [hr, hs, or_next (by omega) hacc.1 hacc.2 x0 x1]
    have := ih k (i + 1) (by omega) (by omega)
    rw [hx, num_append, hlen] at this
    simpa [num] using this
theorem get_f (k : Nat) (hk : 9 ≤ k) {b : List Int} {t w : Int} (hb : Bs b) (hl : (b.length : Int) ≤ 9223372036854775807) (t1 : t ≤ 9223372036854775807) :
    words_Get.f k b t w = some (if rightB b.length t w = true then (num ((b.drop t.toNat).take w.toNat), true) else (0, false)) := by
  unfold words_Get.f
  rw [right_f (by omega) hl t1]
  simp only [Option.bind_some]
  by_cases c : rightB b.length t w = true
  · rw [if_pos c, if_pos c]
    obtain ⟨c1, c2, c3⟩ := of_decide_eq_true c
    obtain ⟨W, rfl, h1, h2, _⟩ := wide_nat c1
    obtain ⟨T, rfl⟩ := Int.eq_ofNat_of_zero_le c2
    have := get_loop b hb hl T W h2 (by omega) W k 0 (by omega) (by omega)
    simpa [num] using this
  · rw [if_neg c, if_neg c]
theorem shr_7 (n : Int) : shr .u64 n 7 = n / 128 := by unfold shr; rw [show (2 : Int) ^ min ((7 : Int).toNat) IntKind.u64.bits = 128 from by decide +kernel]
theorem shr_15 (n : Int) : shr .u64 n 15 = n / 32768 := by unfold shr; rw [show (2 : Int) ^ min ((15 : Int).toNat) IntKind.u64.bits = 32768 from by decide +kernel]
theorem shr_31 (n : Int) : shr .u64 n 31 = n / 2147483648 := by unfold shr; rw [show (2 : Int) ^ min ((31 : Int).toNat) IntKind.u64.bits = 2147483648 from by decide +kernel]
theorem shr_63 (n : Int) : shr .u64 n 63 = n / 9223372036854775808 := by unfold shr; rw [show (2 : Int) ^ min ((63 : Int).toNat) IntKind.u64.bits = 9223372036854775808 from by decide +kernel]
def fitsB (n w : Int) : Bool := decide (wideB w = true ∧ n < 256 ^ w.toNat)
theorem fits_f {n w : Int} (n0 : 0 ≤ n) (n1 : n ≤ 18446744073709551615) : words_Fits.f n w = some (fitsB n w) := by
  unfold words_Fits.f fitsB
  rw [wide_f]
  simp only [Option.bind_some]
  by_cases c : wideB w = true
  · rw [if_pos c]
    have h := of_decide_eq_true c
    have e : ∀ m : Int, 0 < m → ∀ q : Int, q = 2 * m → ((n / m / 2) == 0) = decide (wideB w = true ∧ n < q) := by
      intro m hm q hq
      rw [Bool.eq_iff_iff, beq_iff_eq, decide_eq_true_eq, Int.ediv_ediv_of_nonneg (by omega)]
      rw [show m * 2 = q from by omega]
      constructor
      · intro h0
        refine ⟨c, ?_⟩
        have h1 := Int.emod_add_mul_ediv n q
        have h2 := Int.emod_lt_of_pos n (show 0 < q by omega)
        rw [h0] at h1
        omega
      · intro h0
        exact Int.ediv_eq_zero_of_lt n0 h0.2
    rcases h with rfl | rfl | rfl | rfl
    · rw [show wrap64 (wrap64 (8 * 1) - 1) = 7 from by decide +kernel, if_pos (by omega), shr_7, show (256 : Int) ^ Int.toNat 1 = 256 from by decide +kernel]; congr 1; exact e 128 (by omega) 256 (by omega)
    · rw [show wrap64 (wrap64 (8 * 2) - 1) = 15 from by decide +kernel, if_pos (by omega), shr_15, show (256 : Int) ^ Int.toNat 2 = 65536 from by decide +kernel]; congr 1; exact e 32768 (by omega) 65536 (by omega)
    · rw [show wrap64 (wrap64 (8 * 4) - 1) = 31 from by decide +kernel, if_pos (by omega), shr_31, show (256 : Int) ^ Int.toNat 4 = 4294967296 from by decide +kernel]; congr 1; exact e 2147483648 (by omega) 4294967296 (by omega)
    · rw [show wrap64 (wrap64 (8 * 8) - 1) = 63 from by decide +kernel, if_pos (by omega), shr_63, show (256 : Int) ^ Int.toNat 8 = 18446744073709551616 from by decide +kernel]; congr 1; exact e 9223372036854775808 (by omega) 18446744073709551616 (by omega)
  · rw [if_neg c, decide_eq_false (fun h => c h.1)]
/-- numbers as bytes, one behind the other -/
def les (W : Nat) : List Int → List Int
  | [] => []
  | n :: l => le W n ++ les W l
theorem les_length (W : Nat) (l : List Int) : (les W l).length = W * l.length := by
  induction l with
  | nil => simp [les]
  | cons n l ih => simp [les, le_length, ih, Nat.mul_add]; omega
theorem les_snoc (W : Nat) (l : List Int) (n : Int) : les W (l ++ [n]) = les W l ++ le W n := by
  induction l with
  | nil => simp [les]
  | cons m l ih => simp [les, ih]
theorem les_bs (W : Nat) (l : List Int) : Bs (les W l) := by
  induction l with
  | nil => intro x hx; cases hx
  | cons n l ih => exact bs_append (le_bs _ _) ih
def Us (l : List Int) : Prop := ∀ x ∈ l, 0 ≤ x ∧ x ≤ 18446744073709551615
theorem bytes_loop (l : List Int) (hu : Us l) (hl : (l.length : Int) ≤ 1000) (W : Nat) (hw : wideB (W : Int) = true) (hW : W ≤ 8) (d : Nat) :
    ∀ (k i : Nat), i + d = l.length → d + 10 < k → words_Bytes.l0 k (W : Int) (les W (l.take i) ++ List.replicate (W * (l.length - i)) 0) l (l.length : Int) (i : Int) = some (les W l) := by
  induction d with
  | zero =>
    intro k i hi hk
    obtain ⟨k, rfl⟩ : ∃ m, k = m + 1 := ⟨k - 1, by omega⟩
    simp only [words_Bytes.l0]
    rw [if_neg (by omega), show i = l.length from by omega]
    simp
  | succ d ih =>
    intro k i hi hk
    obtain ⟨k, rfl⟩ : ∃ m, k = m + 1 := ⟨k - 1, by omega⟩
    have hlt : i < l.length := by omega
    have hr : rd l (i : Int) = l[i] := by rw [rd_nat, List.getD_eq_getElem?_getD, List.getElem?_eq_getElem hlt]; rfl
    obtain ⟨x0, x1⟩ := hu l[i] (List.getElem_mem hlt)
    have hmul : W * i ≤ 8 * i := Nat.mul_le_mul_right _ hW
    have hmul2 : W * (l.length - i) ≤ 8 * (l.length - i) := Nat.mul_le_mul_right _ hW
    have hst : W * (l.length - i) = W + W * (l.length - (i + 1)) := by
      rw [show l.length - i = 1 + (l.length - (i + 1)) from by omega, Nat.mul_add, Nat.mul_one]
    have hlen : (les W (l.take i) ++ List.replicate (W * (l.length - i)) (0 : Int)).length = W * i + W * (l.length - i) := by
      simp [les_length]; rw [Nat.min_eq_left (by omega)]
    simp only [words_Bytes.l0]
    rw [if_pos (by omega), if_pos (by omega), if_pos (by omega), hr, show wrap64 ((i : Int) * (W : Int)) = ((W * i : Nat) : Int) from by rw [Int.natCast_mul, Int.mul_comm]; have : ((W * i : Nat) : Int) = (W : Int) * i := Int.natCast_mul _ _; unfold wrap64; omega, put_f k (by omega) (by rw [hlen]; omega) (by omega) x0]
    have hright : rightB ((les W (l.take i) ++ List.replicate (W * (l.length - i)) (0 : Int)).length : Int) ((W * i : Nat) : Int) (W : Int) = true := by
      refine decide_eq_true ⟨hw, by omega, ?_⟩
      rw [hlen]; omega
    rw [if_pos hright]
    simp only [Option.bind_some]
    rw [Int.toNat_natCast, Int.toNat_natCast, show wrap64 ((i : Int) + 1) = ((i + 1 : Nat) : Int) from by unfold wrap64; omega]
    have hput : putL (les W (l.take i) ++ List.replicate (W * (l.length - i)) 0) (W * i) W l[i] = les W (l.take (i + 1)) ++ List.replicate (W * (l.length - (i + 1))) 0 := by
      have h1 : (les W (l.take i)).length = W * i := by rw [les_length, List.length_take, Nat.min_eq_left (by omega)]
      unfold putL
      rw [List.take_left' h1, List.take_succ_eq_append_getElem hlt, les_snoc, hst]
      rw [List.drop_append, h1, List.drop_eq_nil_of_le (by rw [h1]; omega), Nat.add_sub_cancel_left, List.drop_replicate, Nat.add_sub_cancel_left, List.nil_append]
    rw [hput]
    exact ih k (i + 1) (by omega) (by omega)
theorem bytes_f (k : Nat) {w : Int} {l : List Int} (hu : Us l) (hl : l.length ≤ 1000) (hk : l.length + 20 ≤ k) : words_Bytes.f k w l = some (if wideB w = true then les w.toNat l else []) := by
  unfold words_Bytes.f
  rw [wide_f]
  simp only [Option.bind_some]
  by_cases c : wideB w = true
  · rw [if_pos c, if_pos c]
    obtain ⟨W, rfl, h1, h2, _⟩ := wide_nat c
    have hmul : W * l.length ≤ 8 * l.length := Nat.mul_le_mul_right _ h2
    have hw : wrap64 ((W : Int) * (l.length : Int)) = ((W * l.length : Nat) : Int) := by
      rw [Int.natCast_mul]
      have : ((W * l.length : Nat) : Int) = (W : Int) * l.length := Int.natCast_mul _ _
      unfold wrap64; omega
    rw [hw, if_pos (by omega), Int.toNat_natCast, if_pos (by omega), Int.toNat_natCast]
    have := bytes_loop l hu (by omega) W c h2 l.length k 0 (by omega) (by omega)
    simpa [les] using this
  · rw [if_neg c, if_neg c]
theorem signed_255 : words_Signed.f 255 1 = some (-1) := by decide +kernel
theorem strOfNums_21 : (strOfNums [2, 1]).toList = ([2, 1] : List UInt8) := by decide +kernel
theorem awake_f (k : Nat) (hk : 30 ≤ k) : steadinglaw02_awake.f k = some true := by
  have bs3 : Bs ([0, 0, 0] : List Int) := by intro x hx; simp at hx; omega
  have r3 : rightB (([0, 0, 0] : List Int).length : Int) 1 2 = true := by decide
  have e1 : putL ([0, 0, 0] : List Int) (1 : Int).toNat (2 : Int).toNat 258 = [0, 2, 1] := by decide
  have bs4 : Bs ([0, 2, 1] : List Int) := by intro x hx; simp at hx; omega
  have r4 : rightB (([0, 2, 1] : List Int).length : Int) 1 2 = true := by decide
  have e2 : num ((([0, 2, 1] : List Int).drop (1 : Int).toNat).take (2 : Int).toNat) = 258 := by decide
  have us : Us ([258] : List Int) := by intro x hx; simp at hx; omega
  unfold steadinglaw02_awake.f
  simp only [Option.bind_some]
  rw [put_f k (by omega) (by decide) (by omega) (by omega), if_pos r3, e1]
  simp only [Option.bind_some]
  rw [get_f k (by omega) bs4 (by decide) (by omega), if_pos r4, e2]
  simp only [Option.bind_some]
  rw [if_pos trivial, if_pos trivial, if_pos trivial, if_pos (by decide), if_pos (by decide), if_pos (by decide), if_pos (by decide), signed_255]
  simp only [Option.bind_some]
  rw [if_pos trivial, bytes_f k us (by decide) (by simp; omega)]
  simp only [Option.bind_some]
  rw [if_pos (show wideB 2 = true by decide), show les (2 : Int).toNat [258] = [2, 1] from by decide, if_pos strOfNums_21, fits_f (by omega) (by omega)]
  rfl

theorem str_append (l m : List Int) : strOfNums l ++ strOfNums m = strOfNums (l ++ m) := by
  apply ByteArray.ext
  rw [ByteArray.data_append]
  unfold strOfNums
  simp
theorem str_nil : strOfNums [] = (⟨#[]⟩ : ByteArray) := rfl
theorem bt_str {l : List Int} (h : Bs l) (i : Nat) (hi : i < l.length) : bt (strOfNums l) (i : Int) = l[i] := by
  unfold bt
  have hs : (strOfNums l).size = l.length := strOfNums_size l
  rw [dif_pos (by rw [hs]; omega)]
  have hx := h l[i] (List.getElem_mem hi)
  have : ((strOfNums l)[(i : Int).toNat]'(by rw [hs]; omega)) = UInt8.ofNat (l[i]).toNat := by
    show (strOfNums l).data[(i : Int).toNat]'(by show (i : Int).toNat < (strOfNums l).size; rw [hs]; omega) = _
    unfold strOfNums
    simp
  rw [this]
  simp
  omega
theorem str_toList_inj {l m : List Int} (hl : Bs l) (hm : Bs m) (h : (strOfNums l).toList = (strOfNums m).toList) : l = m := by
  have h1 : (strOfNums l).data.toList = (strOfNums m).data.toList := by
    rw [← Lib.toList_data, ← Lib.toList_data]
    exact h
  rw [strOfNums_data, strOfNums_data] at h1
  have key : ∀ {a b : List Int}, Bs a → Bs b → a.map (fun n => UInt8.ofNat n.toNat) = b.map (fun n => UInt8.ofNat n.toNat) → a = b := by
    intro a
    induction a with
    | nil => intro b _ _ h; cases b with
      | nil => rfl
      | cons y b => cases h
    | cons x a ih =>
      intro b ha hb h
      cases b with
      | nil => cases h
      | cons y b =>
        simp only [List.map_cons, List.cons.injEq] at h
        have hx := ha x List.mem_cons_self
        have hy := hb y List.mem_cons_self
        have h0 := congrArg UInt8.toNat h.1
        simp at h0
        have : x = y := by omega
        rw [this, ih (fun z hz => ha z (List.mem_cons_of_mem _ hz)) (fun z hz => hb z (List.mem_cons_of_mem _ hz)) h.2]
  exact key hl hm h1

theorem rwide_f (w : Int) : steadingref02_Wide.f w = some (wideB w) := by
  unfold steadingref02_Wide.f
  by_cases c1 : w = 1
  · subst c1; rfl
  · rw [if_neg c1]
    by_cases c2 : w = 2
    · subst c2; rfl
    · rw [if_neg c2]
      by_cases c4 : w = 4
      · subst c4; rfl
      · rw [if_neg c4]
        congr 1
        unfold wideB
        rw [Bool.eq_iff_iff, beq_iff_eq, decide_eq_true_eq]
        omega
theorem one_loop (W : Nat) (hW : W ≤ 8) (n : Int) (n0 : 0 ≤ n) (n1 : n ≤ 18446744073709551615) (d : Nat) :
    ∀ (k i : Nat), i + d = W → d < k → steadingref02_One.l0 k (W : Int) (n / 256 ^ i) (strOfNums (le i n)) (i : Int) = some (strOfNums (le W n)) := by
  induction d with
  | zero =>
    intro k i hi hk
    obtain ⟨k, rfl⟩ : ∃ m, k = m + 1 := ⟨k - 1, by omega⟩
    simp only [steadingref02_One.l0]
    rw [if_neg (by omega), show i = W from by omega]
  | succ d ih =>
    intro k i hi hk
    obtain ⟨k, rfl⟩ : ∃ m, k = m + 1 := ⟨k - 1, by omega⟩
    simp only [steadingref02_One.l0]
    have hp := pow256_pos i
    have q0 : 0 ≤ n / 256 ^ i := Int.ediv_nonneg n0 (by omega)
    have q1 : n / 256 ^ i ≤ n := Int.ediv_le_self _ n0
    have e1 : n / 256 ^ i / 256 = n / 256 ^ (i + 1) := by rw [Int.pow_succ, Int.ediv_ediv_of_nonneg (by omega)]
    rw [if_pos (by omega), Int.tmod_eq_emod_of_nonneg q0, Int.tdiv_eq_ediv_of_nonneg q0, u64w (n := n / 256 ^ i / 256) (by omega) (by omega)]
    simp only [Option.bind_some]
    rw [strOfNums_size, strOfNums_size, le_length, if_pos (by simp; omega), str_append, show n / 256 ^ i % 256 % 256 = n / 256 ^ i % 256 from by omega, ← le_snoc, e1, show wrap64 ((i : Int) + 1) = ((i + 1 : Nat) : Int) from by unfold wrap64; omega]
    exact ih k (i + 1) (by omega) (by omega)
theorem one_f (k : Nat) (hk : 9 ≤ k) {W : Nat} (hW : W ≤ 8) {n : Int} (n0 : 0 ≤ n) (n1 : n ≤ 18446744073709551615) : steadingref02_One.f k (W : Int) n = some (strOfNums (le W n)) := by
  have := one_loop W hW n n0 n1 W k 0 (by omega) (by omega)
  unfold steadingref02_One.f
  simpa [le, str_nil] using this
theorem number_loop (l : List Int) (hb : Bs l) (hl : l.length ≤ 8) (d : Nat) :
    ∀ (k i : Nat), i = d → i ≤ l.length → d < k → steadingref02_Number.l0 k (strOfNums l) (num (l.drop i)) ((i : Int) - 1) = some (num l) := by
  induction d with
  | zero =>
    intro k i hi hle hk
    obtain ⟨k, rfl⟩ : ∃ m, k = m + 1 := ⟨k - 1, by omega⟩
    simp only [steadingref02_Number.l0]
    rw [if_neg (by omega), hi]
    rfl
  | succ d ih =>
    intro k i hi hle hk
    obtain ⟨k, rfl⟩ : ∃ m, k = m + 1 := ⟨k - 1, by omega⟩
    simp only [steadingref02_Number.l0]
    have hlt : d < l.length := by omega
    have hx := hb l[d] (List.getElem_mem hlt)
    have hr := num_range (bs_drop hb i)
    have hp : (256 : Int) ^ (l.drop i).length ≤ 72057594037927936 := by
      have : (l.drop i).length ≤ 7 := by simp; omega
      generalize (l.drop i).length = j at *
      have : j = 0 ∨ j = 1 ∨ j = 2 ∨ j = 3 ∨ j = 4 ∨ j = 5 ∨ j = 6 ∨ j = 7 := by omega
      rcases this with rfl | rfl | rfl | rfl | rfl | rfl | rfl | rfl <;> decide
    rw [show ((i : Int) - 1) = (d : Int) from by omega, strOfNums_size, if_pos (by omega), if_pos (by omega), if_pos (by omega), bt_str hb d hlt, u64w (n := num (l.drop i) * 256) (by omega) (by omega), u64w (n := l[d]) (by omega) (by omega), u64w (by omega) (by omega), show wrap64 ((d : Int) - 1) = (d : Int) - 1 from by unfold wrap64; omega]
    have e : num (l.drop i) * 256 + l[d] = num (l.drop d) := by
      rw [List.drop_eq_getElem_cons hlt, hi]
      simp only [num]
      omega
    rw [e]
    exact ih k d rfl (by omega) (by omega)
theorem number_f (k : Nat) (hk : 9 ≤ k) {l : List Int} (hb : Bs l) (hl : l.length ≤ 8) : steadingref02_Number.f k (strOfNums l) = some (num l) := by
  have := number_loop l hb hl l.length k l.length rfl (Nat.le_refl _) (by omega)
  unfold steadingref02_Number.f
  rw [strOfNums_size, show wrap64 ((l.length : Int) - 1) = (l.length : Int) - 1 from by unfold wrap64; omega]
  simpa [num] using this

theorem rfits_f (k : Nat) (hk : 9 ≤ k) {n w : Int} (n0 : 0 ≤ n) (n1 : n ≤ 18446744073709551615) : steadingref02_Fits.f k n w = some (fitsB n w) := by
  unfold steadingref02_Fits.f fitsB
  rw [rwide_f]
  simp only [Option.bind_some]
  by_cases c : wideB w = true
  · obtain ⟨W, rfl, h1, h2, _⟩ := wide_nat c
    rw [if_pos c, one_f k hk h2 n0 n1]
    simp only [Option.bind_some]
    rw [number_f k hk (le_bs W n) (by rw [le_length]; exact h2)]
    simp only [Option.bind_some]
    rw [num_le, Int.toNat_natCast]
    congr 1
    rw [Bool.eq_iff_iff, beq_iff_eq, decide_eq_true_eq]
    have hp := pow256_pos W
    constructor
    · intro h
      refine ⟨c, ?_⟩
      have := Int.emod_lt_of_pos n hp
      omega
    · intro h
      exact Int.emod_eq_of_lt n0 h.2
  · rw [if_neg c, decide_eq_false (fun h => c h.1)]
def comp (l : List Int) : List Int := l.map fun b => 255 - b
theorem comp_bs {l : List Int} (h : Bs l) : Bs (comp l) := by
  intro x hx
  obtain ⟨y, hy, rfl⟩ := List.mem_map.1 hx
  have := h y hy
  omega
theorem num_comp (l : List Int) : num (comp l) = 256 ^ l.length - 1 - num l := by
  induction l with
  | nil => rfl
  | cons b l ih =>
    have : comp (b :: l) = (255 - b) :: comp l := rfl
    rw [this]
    simp only [num, List.length_cons]
    rw [ih, Int.pow_succ]
    omega
theorem signed_loop (l : List Int) (hb : Bs l) (hl : l.length ≤ 8) (d : Nat) :
    ∀ (k i : Nat), i + d = l.length → d + 10 < k → steadingref02_Signed.l0 k (l.length : Int) (strOfNums l) (strOfNums (comp (l.take i))) (i : Int) = some (wrap64 ((-1) - wrap64 (num (comp l)))) := by
  induction d with
  | zero =>
    intro k i hi hk
    obtain ⟨k, rfl⟩ : ∃ m, k = m + 1 := ⟨k - 1, by omega⟩
    simp only [steadingref02_Signed.l0]
    rw [if_neg (by omega), show i = l.length from by omega, List.take_length, number_f k (by omega) (comp_bs hb) (by simpa [comp] using hl)]
    simp only [Option.bind_some]
  | succ d ih =>
    intro k i hi hk
    obtain ⟨k, rfl⟩ : ∃ m, k = m + 1 := ⟨k - 1, by omega⟩
    have hlt : i < l.length := by omega
    have hx := hb l[i] (List.getElem_mem hlt)
    simp only [steadingref02_Signed.l0]
    rw [if_pos (by omega), if_pos (by omega), strOfNums_size, if_pos (by omega), bt_str hb i hlt]
    simp only [Option.bind_some]
    have e : comp (l.take i) ++ [255 - l[i]] = comp (l.take (i + 1)) := by
      rw [List.take_succ_eq_append_getElem hlt]
      unfold comp
      rw [List.map_append]
      rfl
    rw [strOfNums_size, strOfNums_size, if_pos (by simp [comp]; omega), str_append, show (255 - l[i]) % 256 = 255 - l[i] from by omega, e, show wrap64 ((i : Int) + 1) = ((i + 1 : Nat) : Int) from by unfold wrap64; omega]
    exact ih k (i + 1) (by omega) (by omega)
theorem last_byte (W : Nat) (n : Int) (h : W < (le (W + 1) n).length) : (le (W + 1) n)[W] = n / 256 ^ W % 256 := by
  have h2 : (le (W + 1) n)[W]? = some (n / 256 ^ W % 256) := by
    rw [le_snoc, List.getElem?_append_right (by rw [le_length]; exact Nat.le_refl _), le_length, Nat.sub_self]
    rfl
  rw [List.getElem?_eq_getElem h] at h2
  exact Option.some.inj h2
theorem rsigned_f (k : Nat) (hk : 30 ≤ k) {n w : Int} (n0 : 0 ≤ n) (n1 : n ≤ 18446744073709551615) : steadingref02_Signed.f k n w = words_Signed.f n w := by
  unfold steadingref02_Signed.f
  rw [rwide_f]
  simp only [Option.bind_some]
  by_cases c : wideB w = true
  · obtain ⟨W, rfl, h1, h2, h3⟩ := wide_nat c
    rw [if_pos c, one_f k (by omega) h2 n0 n1]
    simp only [Option.bind_some]
    have hl := le_length W n
    have hb := le_bs W n
    obtain ⟨V, rfl⟩ : ∃ V, W = V + 1 := ⟨W - 1, by omega⟩
    rw [show wrap64 (((V + 1 : Nat) : Int) - 1) = (V : Int) from by unfold wrap64; omega, if_pos (by omega), strOfNums_size, hl, if_pos (by omega), bt_str hb V (by omega), last_byte, number_f k (by omega) hb (by omega)]
    have hs := signed_loop (le (V + 1) n) hb (by omega) (V + 1) k 0 (by omega) (by omega)
    rw [hl, num_comp, num_le, hl] at hs
    have hs' : steadingref02_Signed.l0 k ((V + 1 : Nat) : Int) (strOfNums (le (V + 1) n)) (⟨#[]⟩ : ByteArray) 0 = some (wrap64 (-1 - wrap64 (256 ^ (V + 1) - 1 - n % 256 ^ (V + 1)))) := by
      simpa [comp, str_nil] using hs
    rw [hs', num_le]
    simp only [Option.bind_some]
    unfold words_Signed.f
    have hV : V = 0 ∨ V = 1 ∨ V = 3 ∨ V = 7 := by omega
    rcases hV with rfl | rfl | rfl | rfl
    · rw [show (256 : Int) ^ 0 = 1 from rfl, show (256 : Int) ^ (0 + 1) = 256 from rfl, if_pos (show (((0 + 1 : Nat) : Int)) = 1 from rfl)]
      have hw : IntKind.i8.wrap n = (n + 128) % 256 - 128 := by simp [IntKind.wrap, IntKind.bits, IntKind.signed]; split <;> omega
      rw [hw]
      split <;> (congr 1; unfold wrap64; omega)
    · rw [show (256 : Int) ^ 1 = 256 from rfl, show (256 : Int) ^ (1 + 1) = 65536 from rfl, if_neg (show ¬ ((1 + 1 : Nat) : Int) = 1 by omega), if_pos (show (((1 + 1 : Nat) : Int)) = 2 from rfl)]
      have hw : IntKind.i16.wrap n = (n + 32768) % 65536 - 32768 := by simp [IntKind.wrap, IntKind.bits, IntKind.signed]; split <;> omega
      rw [hw]
      split <;> (congr 1; unfold wrap64; omega)
    · rw [show (256 : Int) ^ 3 = 16777216 from rfl, show (256 : Int) ^ (3 + 1) = 4294967296 from rfl, if_neg (show ¬ ((3 + 1 : Nat) : Int) = 1 by omega), if_neg (show ¬ ((3 + 1 : Nat) : Int) = 2 by omega), if_pos (show (((3 + 1 : Nat) : Int)) = 4 from rfl)]
      split <;> (congr 1; unfold wrap64 wrap32; omega)
    · rw [show (256 : Int) ^ 7 = 72057594037927936 from rfl, show (256 : Int) ^ (7 + 1) = 18446744073709551616 from rfl, if_neg (show ¬ ((7 + 1 : Nat) : Int) = 1 by omega), if_neg (show ¬ ((7 + 1 : Nat) : Int) = 2 by omega), if_neg (show ¬ ((7 + 1 : Nat) : Int) = 4 by omega), if_pos (show (((7 + 1 : Nat) : Int)) = 8 from rfl)]
      split <;> (congr 1; unfold wrap64; omega)
  · rw [if_neg c]
    unfold words_Signed.f
    have h : ¬ (w = 1 ∨ w = 2 ∨ w = 4 ∨ w = 8) := fun h => c (decide_eq_true h)
    rw [if_neg (by omega), if_neg (by omega), if_neg (by omega), if_neg (by omega)]
theorem rbytes_loop (l : List Int) (hu : Us l) (hl : l.length ≤ 1000) (W : Nat) (hW : W ≤ 8) (d : Nat) :
    ∀ (k i : Nat), i + d = l.length → d + 10 < k → steadingref02_Bytes.l0 k (W : Int) l true (strOfNums (les W (l.take i))) (i : Int) = some (strOfNums (les W l)) := by
  induction d with
  | zero =>
    intro k i hi hk
    obtain ⟨k, rfl⟩ : ∃ m, k = m + 1 := ⟨k - 1, by omega⟩
    simp only [steadingref02_Bytes.l0]
    rw [if_neg (by omega), show i = l.length from by omega, List.take_length]
  | succ d ih =>
    intro k i hi hk
    obtain ⟨k, rfl⟩ : ∃ m, k = m + 1 := ⟨k - 1, by omega⟩
    have hlt : i < l.length := by omega
    have hx := hu l[i] (List.getElem_mem hlt)
    have hr : rd l (i : Int) = l[i] := by rw [rd_nat, List.getD_eq_getElem?_getD, List.getElem?_eq_getElem hlt]; rfl
    have hmul : W * i ≤ 8 * i := Nat.mul_le_mul_right _ hW
    simp only [steadingref02_Bytes.l0]
    rw [if_pos (by omega), if_pos trivial, if_pos (by omega), hr, one_f k (by omega) hW hx.1 hx.2]
    simp only [Option.bind_some]
    have hll : (les W (l.take i)).length = W * i := by rw [les_length, List.length_take, Nat.min_eq_left (by omega)]
    rw [strOfNums_size, strOfNums_size, le_length, hll, if_pos (by omega), str_append, ← les_snoc, ← List.take_succ_eq_append_getElem hlt, show wrap64 ((i : Int) + 1) = ((i + 1 : Nat) : Int) from by unfold wrap64; omega]
    exact ih k (i + 1) (by omega) (by omega)
theorem rbytes_f (k : Nat) {w : Int} {l : List Int} (hu : Us l) (hl : l.length ≤ 1000) (hk : l.length + 20 ≤ k) : steadingref02_Bytes.f k w l = some (strOfNums (if wideB w = true then les w.toNat l else [])) := by
  unfold steadingref02_Bytes.f
  rw [rwide_f]
  simp only [Option.bind_some]
  by_cases c : wideB w = true
  · obtain ⟨W, rfl, h1, h2, h3⟩ := wide_nat c
    rw [if_pos c, c, Int.toNat_natCast]
    have := rbytes_loop l hu hl W h2 l.length k 0 (by omega) (by omega)
    simpa [les, str_nil] using this
  · obtain ⟨k, rfl⟩ : ∃ m, k = m + 1 := ⟨k - 1, by omega⟩
    rw [if_neg c]
    simp only [steadingref02_Bytes.l0]
    by_cases h : (0 : Int) < l.length
    · rw [if_pos h, if_neg c]; rfl
    · rw [if_neg h]; rfl
end WordsNumbersP
open WordsNumbersP
theorem WordsNumbers : steadinglaw02_WordsNumbers.Pure := by
  intro n w l wn ww _ _ hw
  obtain ⟨n0, n1⟩ := wf_u64 wn
  have hu : Us l := fun x hx => wf_u64 (hw x hx)
  refine ⟨200, ?_⟩
  unfold steadinglaw02_WordsNumbers.f
  rw [awake_f 200 (by omega)]
  simp only [Option.bind_some]
  rw [if_pos trivial]
  by_cases c : (l.length : Int) > 100
  · rw [if_pos c]
  · have hs : ∃ z, words_Signed.f n w = some z := by
      unfold words_Signed.f
      split
      · exact ⟨_, rfl⟩
      split
      · exact ⟨_, rfl⟩
      split
      · exact ⟨_, rfl⟩
      split
      · exact ⟨_, rfl⟩
      · exact ⟨_, rfl⟩
    obtain ⟨z, hz⟩ := hs
    rw [if_neg c, fits_f n0 n1, rfits_f 200 (by omega) n0 n1, rsigned_f 200 (by omega) n0 n1, hz, bytes_f 200 hu (by omega) (by omega), rbytes_f 200 hu (by omega) (by omega)]
    simp

end Go.Proofs.Ytklccppfofhplaa.Pure
