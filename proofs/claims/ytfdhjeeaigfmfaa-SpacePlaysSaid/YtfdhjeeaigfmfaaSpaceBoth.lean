/- A load, a store, a zero and a copy: the program's space and the reference's do alike. -/
import Derived.Test.YtfdhjeeaigfmfaaLawCPlays
import Derived.Test.YtfdhjeeaigfmfaaSpaceCuts
namespace Go.Proofs.Ytfdhjeeaigfmfaa.Sp
open Go.RowKit Go.WideMaps Go.Proofs.Ytfdhjeeaigfmfaa.In Go.Proofs.Ytfdhjeeaigfmfaa.Plain
set_option linter.unusedVariables false
set_option linter.unusedSimpArgs false

/-- What a load does to the program's space: what is told is, as a text, the bytes. -/
def StLd (w0 W : World) (g : Nat) (s s' : SpS) (t n : Int) (x : List Int) (c : Int) : Prop :=
  Calls Try.prog 20 #[.pointer (some ⟨g, 0, none⟩), .int .u64 t, .int .u64 n] W fun e w' => ∃ (A : Option Addr) (m k : Nat), e = .returned (.tuple #[.slice A m k, .int .i64 c]) ∧ (∀ q, (convert 32 9 (.slice A m k)).run Try.prog (w'.drewN q) = .ok (.string (strOfNums x)) (w'.drewN q)) ∧ St w0 w' g s' ∧ KpT W w'
theorem load_both (s : SpS) (t n : Int) (ht : 0 ≤ t ∧ t ≤ 18446744073709551615) (hn : 0 ≤ n ∧ n ≤ 18446744073709551615) :
    ∃ (x : List Int) (c : Int) (s' : SpS), (∀ base q W v, RefS base q W v s → q ≤ 100000 → RefTo base q W v s s' 19 #[.int .u64 t, .int .u64 n] [.string (strOfNums x), .int .i64 c]) ∧ (∀ w0 W g, St w0 W g s → StLd w0 W g s s' t n x c) := by
  by_cases h : fitsI ((s.pages : Int) * 4096) t n 1048576 = 0
  · have hh : t + n ≤ (s.pages : Int) * 4096 ∧ n ≤ 1048576 := by
      rcases fits_cases ((s.pages : Int) * 4096) t n 1048576 with h1 | h1
      · exact ⟨h1.2.1, h1.2.2⟩
      · exact absurd h h1
    obtain ⟨a, rfl⟩ := Int.eq_ofNat_of_zero_le ht.1
    obtain ⟨m, rfl⟩ := Int.eq_ofNat_of_zero_le hn.1
    refine ⟨seen s.mem a m, 0, tick s (touchedI a m), fun base q W v hs hq => refTo_of (Nat.le_succ _) (ref03Load_ok a m W hs hq (by omega) (by omega)), fun w0 W g hs => ?_⟩
    refine (hs.load (a : Int) (m : Int) (by omega) (by omega) hh.1 hh.2).mono ?_
    rintro e w' ⟨r, rfl, hr, hrow, hs', hk⟩
    rw [Int.toNat_natCast, Int.toNat_natCast] at *
    exact ⟨_, _, _, rfl, fun q => (hrow.dn q).string0 m m (seen_length _ _ _), hs', hk⟩
  · refine ⟨[], fitsI ((s.pages : Int) * 4096) t n 1048576, s, fun base q W v hs hq => ?_, fun w0 W g hs => ?_⟩
    · refine (ref03Load_err t n W hs ht hn _ rfl h).mono ?_
      rintro e w' ⟨he, hb⟩
      exact ⟨v, he, (hs.below hb).mono (Nat.le_succ _), hb⟩
    · refine (hs.load_err t n _ ht.1 hn.1 rfl h).mono ?_
      rintro e w' ⟨rfl, rfl⟩
      exact ⟨none, 0, 0, rfl, fun q => conv_empty none 0 _, hs, KpT.refl _⟩
theorem store_both (s : SpS) (t : Int) (l : List Int) (ht : 0 ≤ t ∧ t ≤ 18446744073709551615) (hl : l.length ≤ 9223372036854775807) (hv : ∀ v ∈ l, 0 ≤ v ∧ v ≤ 255) :
    ∃ (c : Int) (s' : SpS), (∀ base q W v, RefS base q W v s → q ≤ 100000 → base ≤ W.heap.size → RefTo base q W v s s' 21 #[.int .u64 t, .string (strOfNums l)] [.int .i64 c]) ∧ (∀ w0 W g A k, l.length ≤ k → SrcW w0 W A l → St w0 W g s → StTo w0 W g s s' 22 #[.int .u64 t, .slice A l.length k] (.int .i64 c)) := by
  by_cases h : fitsI ((s.pages : Int) * 4096) t l.length 1048576 = 0
  · have hh : t + l.length ≤ (s.pages : Int) * 4096 ∧ (l.length : Int) ≤ 1048576 := by
      rcases fits_cases ((s.pages : Int) * 4096) t l.length 1048576 with h1 | h1
      · exact ⟨h1.2.1, h1.2.2⟩
      · exact absurd h h1
    obtain ⟨a, rfl⟩ := Int.eq_ofNat_of_zero_le ht.1
    refine ⟨0, tick { s with mem := lay s.mem a l } (touchedI a l.length), fun base q W v hs hq hB => refTo_of (Nat.le_refl _) (ref03Store_ok a l.length l W hs hq hB (by omega) rfl hv (by omega)), fun w0 W g A k hk hr hs => ?_⟩
    have := hs.store (a : Int) A l.length k l rfl hk hr (by omega) hh.1 (by omega)
    rw [Int.toNat_natCast] at this
    exact this
  · refine ⟨fitsI ((s.pages : Int) * 4096) t l.length 1048576, s, fun base q W v hs hq hB => ?_, fun w0 W g A k hk hr hs => ?_⟩
    · refine (ref03Store_err t l.length l W hs ht rfl hl _ rfl h).mono ?_
      rintro e w' ⟨he, hb⟩
      exact ⟨v, he, (hs.below hb).mono (Nat.le_succ _), hb⟩
    · refine (hs.store_err t _ A l.length k ht.1 hl rfl h).mono ?_
      rintro e w' ⟨he, rfl⟩
      exact ⟨he, hs, KpT.refl _⟩
theorem zero_both (s : SpS) (t n : Int) (ht : 0 ≤ t ∧ t ≤ 18446744073709551615) (hn : 0 ≤ n ∧ n ≤ 18446744073709551615) :
    ∃ (c : Int) (s' : SpS), (∀ base q W v, RefS base q W v s → q ≤ 100000 → base ≤ W.heap.size → RefTo base q W v s s' 23 #[.int .u64 t, .int .u64 n] [.int .i64 c]) ∧ (∀ w0 W g, St w0 W g s → StTo w0 W g s s' 24 #[.int .u64 t, .int .u64 n] (.int .i64 c)) := by
  by_cases h : fitsI ((s.pages : Int) * 4096) t n n = 0
  · have hh : t + n ≤ (s.pages : Int) * 4096 := by
      rcases fits_cases ((s.pages : Int) * 4096) t n n with h1 | h1
      · exact h1.2.1
      · exact absurd h h1
    obtain ⟨a, rfl⟩ := Int.eq_ofNat_of_zero_le ht.1
    obtain ⟨m, rfl⟩ := Int.eq_ofNat_of_zero_le hn.1
    refine ⟨0, tick { s with mem := blank s.mem a m } (touchedI a m), fun base q W v hs hq hB => refTo_of (Nat.le_refl _) (ref03Zero_ok a m W hs hq hB (by omega)), fun w0 W g hs => ?_⟩
    have := hs.zero (a : Int) (m : Int) (by omega) (by omega) hh
    rw [Int.toNat_natCast, Int.toNat_natCast] at this
    exact this
  · refine ⟨fitsI ((s.pages : Int) * 4096) t n n, s, fun base q W v hs hq hB => ?_, fun w0 W g hs => ?_⟩
    · refine (ref03Zero_err t n W hs ht hn _ rfl h).mono ?_
      rintro e w' ⟨he, hb⟩
      exact ⟨v, he, (hs.below hb).mono (Nat.le_succ _), hb⟩
    · refine (hs.zero_err t n _ ht.1 hn.1 rfl h).mono ?_
      rintro e w' ⟨he, rfl⟩
      exact ⟨he, hs, KpT.refl _⟩
theorem copy_both (s : SpS) (t f n : Int) (ht : 0 ≤ t ∧ t ≤ 18446744073709551615) (hf : 0 ≤ f ∧ f ≤ 18446744073709551615) (hn : 0 ≤ n ∧ n ≤ 18446744073709551615) (hr : ∀ i, 0 ≤ s.mem i ∧ s.mem i ≤ 255) :
    ∃ (c : Int) (s' : SpS), (∀ base q W v, RefS base q W v s → q ≤ 100000 → base ≤ W.heap.size → RefTo base q W v s s' 25 #[.int .u64 t, .int .u64 f, .int .u64 n] [.int .i64 c]) ∧ (∀ w0 W g, St w0 W g s → StTo w0 W g s s' 26 #[.int .u64 t, .int .u64 f, .int .u64 n] (.int .i64 c)) := by
  by_cases h1 : t + n ≤ (s.pages : Int) * 4096
  · have h10 : fitsI ((s.pages : Int) * 4096) t n n = 0 := by unfold fitsI; rw [if_pos h1, if_neg (by omega)]
    by_cases h : fitsI ((s.pages : Int) * 4096) f n 1048576 = 0
    · have hh : f + n ≤ (s.pages : Int) * 4096 ∧ n ≤ 1048576 := by
        rcases fits_cases ((s.pages : Int) * 4096) f n 1048576 with h1 | h1
        · exact ⟨h1.2.1, h1.2.2⟩
        · exact absurd h h1
      obtain ⟨a, rfl⟩ := Int.eq_ofNat_of_zero_le ht.1
      obtain ⟨b, rfl⟩ := Int.eq_ofNat_of_zero_le hf.1
      obtain ⟨m, rfl⟩ := Int.eq_ofNat_of_zero_le hn.1
      refine ⟨0, tick { s with mem := lay s.mem a (seen s.mem b m) } (wrap64 (touchedI a m + touchedI b m)), fun base q W v hs hq hB => refTo_of (Nat.le_refl _) (ref03Copy_ok a b m W hs hq hB (by omega) (by omega) (by omega) hr), fun w0 W g hs => ?_⟩
      have := hs.copy (a : Int) (b : Int) (m : Int) (by omega) (by omega) (by omega) h1 hh.1 hh.2
      rw [Int.toNat_natCast, Int.toNat_natCast, Int.toNat_natCast] at this
      exact this
    · refine ⟨fitsI ((s.pages : Int) * 4096) f n 1048576, s, fun base q W v hs hq hB => ?_, fun w0 W g hs => ?_⟩
      · refine (ref03Copy_err2 t f n W hs ht hf hn h1 _ rfl h).mono ?_
        rintro e w' ⟨he, hb⟩
        exact ⟨v, he, (hs.below hb).mono (Nat.le_succ _), hb⟩
      · refine (hs.copy_err2 t f n _ ht.1 hf.1 hn.1 h10 rfl h).mono ?_
        rintro e w' ⟨he, rfl⟩
        exact ⟨he, hs, KpT.refl _⟩
  · have h13 : fitsI ((s.pages : Int) * 4096) t n n = 3 := by unfold fitsI; rw [if_neg h1]
    refine ⟨3, s, fun base q W v hs hq hB => ?_, fun w0 W g hs => ?_⟩
    · refine (ref03Copy_err1 t f n W hs ht hn h1).mono ?_
      rintro e w' ⟨he, hb⟩
      exact ⟨v, he, (hs.below hb).mono (Nat.le_succ _), hb⟩
    · refine (hs.copy_err1 t f n 3 ht.1 hn.1 h13 (by decide)).mono ?_
      rintro e w' ⟨he, rfl⟩
      exact ⟨he, hs, KpT.refl _⟩

def AFew (n : Nat) (l : List Act3) (w : World) (e : Ending) (w' : World) : Prop := (∃ b : Bool, e = .returned (.bool b) ∧ (b = true → n ≤ 30)) ∧ w = w'
set_option maxRecDepth 100000 in
set_option maxHeartbeats 4000000 in
theorem few3_30 (A : Option Addr) (n c : Nat) (l : List Act3) (w : World) (hl : l.length = n) (hn : n ≤ 9223372036854775807) (h : Lst KAct3 5 w A l) :
    Calls Try.prog 16 #[.slice A n c] w (AFew n l w) := by
  have HL := Lib.hid hl
  have H := Lib.hid h
  clear hl h
  go_enter Try.func16, Try.ntmps16
  go_wp2
  go_loop [3] (fun i => ∃ k : Nat, k ≤ n ∧ i = .int .i64 (k : Int)) (fun i => n - (intOf i).toNat)
  case atStart => exact ⟨0, Nat.zero_le _, rfl⟩
  case round =>
    obtain ⟨k, hk, rfl⟩ := hrel
    by_cases hlt : k < n
    · have hlti : (k : Int) < (n : Int) := by omega
      obtain ⟨ad, rfl, c0, c1, c2, c3, c4, c5, c6, c7⟩ := act3_cells H.out (k := k) (by rw [HL.out]; exact hlt)
      unfold maxLen at c6
      clear c7
      go_wp2
      all_goals first
        | (go_ret; exact ⟨⟨false, rfl, fun h => by cases h⟩, rfl⟩)
        | (go_round
           case rel => exact ⟨k + 1, by omega, by go_num⟩
           case measure => simp [intOf]; omega)
    · have hlti : ¬ (k : Int) < (n : Int) := by omega
      go_wp2
      go_ret
      exact ⟨⟨_, rfl, fun h => by simp at h; omega⟩, rfl⟩
end Go.Proofs.Ytfdhjeeaigfmfaa.Sp
