/- A number in a space: the program and the reference do alike. -/
import Derived.Test.YtfdhjeeaigfmfaaRefFill
namespace Go.Proofs.Ytfdhjeeaigfmfaa.Sp
open Go.RowKit Go.WideMaps Go.Proofs.Ytfdhjeeaigfmfaa.In Go.Proofs.Ytfdhjeeaigfmfaa.Plain
set_option linter.unusedVariables false
set_option linter.unusedSimpArgs false

/-- What a call does to the reference's space. -/
def RefTo (base q : Nat) (W : World) (v : Value) (s s' : SpS) (fn : Nat) (args : Array Value) (vs : List Value) : Prop :=
  Calls Try.prog fn (#[v] ++ args) W fun e w' => ∃ v', e = .returned (.tuple (#[v'] ++ vs.toArray)) ∧ RefS base (q + 1) w' v' s' ∧ Below W.heap.size W w'
/-- What a call does to the program's space. -/
def StTo (w0 W : World) (g : Nat) (s s' : SpS) (fn : Nat) (args : Array Value) (r : Value) : Prop :=
  Calls Try.prog fn (#[.pointer (some ⟨g, 0, none⟩)] ++ args) W fun e w' => e = .returned r ∧ St w0 w' g s' ∧ KpT W w'
theorem refTo_of {base q q' : Nat} {W : World} {v : Value} {s s' : SpS} {fn : Nat} {args : Array Value} {vs : List Value} (hq : q' ≤ q + 1) (h : Calls Try.prog fn (#[v] ++ args) W fun e w' => ∃ v', e = .returned (.tuple (#[v'] ++ vs.toArray)) ∧ RefS base q' w' v' s' ∧ Below W.heap.size W w') : RefTo base q W v s s' fn args vs := by
  refine h.mono ?_
  rintro e w' ⟨v', h1, h2, h3⟩
  exact ⟨v', h1, h2.mono hq, h3⟩

theorem get_both (s : SpS) (t k : Int) (ht : 0 ≤ t ∧ t ≤ 18446744073709551615) (hr : ∀ i, 0 ≤ s.mem i ∧ s.mem i ≤ 255) :
    ∃ (x c : Int) (s' : SpS), (∀ base q W v, RefS base q W v s → q ≤ 100000 → RefTo base q W v s s' 41 #[.int .u64 t, .int .i64 k] [.int .u64 x, .int .i64 c]) ∧ (∀ w0 W g, St w0 W g s → StTo w0 W g s s' 35 #[.int .u64 t, .int .i64 k] (.tuple #[.int .u64 x, .int .i64 c])) := by
  by_cases h : rightC t k
  · obtain ⟨a, rfl⟩ := Int.eq_ofNat_of_zero_le ht.1
    obtain ⟨m, rfl⟩ := Int.eq_ofNat_of_zero_le (show 0 ≤ k by have := h.1.bd; omega)
    have hk := h.1.bd
    by_cases hb : a + m ≤ s.pages * 4096
    · exact ⟨_, 0, _, fun base q W v hs hq => refTo_of (by omega) (ref04Get_ok a m W hs hq h hb hr), fun w0 W g hs => hs.get a m h hb⟩
    · refine ⟨0, 3, s, fun base q W v hs hq => refTo_of (Nat.le_succ _) (ref04Get_range _ _ W hs h ht (by omega)), fun w0 W g hs => ?_⟩
      refine (cGet_range (some ⟨g, 0, none⟩) _ _ W ht h (hs.load_err _ _ 3 (by omega) (by omega) (by unfold fitsI; rw [if_neg (by omega)]) (by decide))).mono ?_
      rintro e w' ⟨he, rfl⟩
      exact ⟨he, hs, KpT.refl _⟩
  · refine ⟨0, 1, s, fun base q W v hs hq => ?_, fun w0 W g hs => ?_⟩
    · refine (ref04Get_arg t k W hs ht h).mono ?_
      rintro e w' ⟨he, hb⟩
      exact ⟨v, he, (hs.below hb).mono (Nat.le_succ _), hb⟩
    · refine (cGet_arg (some ⟨g, 0, none⟩) t k W ht h).mono ?_
      rintro e w' ⟨he, rfl⟩
      exact ⟨he, hs, KpT.refl _⟩
theorem put_both (s : SpS) (t k n : Int) (ht : 0 ≤ t ∧ t ≤ 18446744073709551615) (hn : 0 ≤ n ∧ n ≤ 18446744073709551615) :
    ∃ (c : Int) (s' : SpS), (∀ base q W v, RefS base q W v s → q ≤ 100000 → base ≤ W.heap.size → RefTo base q W v s s' 42 #[.int .u64 t, .int .i64 k, .int .u64 n] [.int .i64 c]) ∧ (∀ w0 W g, St w0 W g s → StTo w0 W g s s' 34 #[.int .u64 t, .int .i64 k, .int .u64 n] (.int .i64 c)) := by
  by_cases h : rightC t k
  · obtain ⟨a, rfl⟩ := Int.eq_ofNat_of_zero_le ht.1
    obtain ⟨m, rfl⟩ := Int.eq_ofNat_of_zero_le (show 0 ≤ k by have := h.1.bd; omega)
    have hk := h.1.bd
    by_cases hb : a + m ≤ s.pages * 4096
    · exact ⟨0, _, fun base q W v hs hq hB => refTo_of (Nat.le_refl _) (ref04Put_ok a m n W hs hq hB h hn hb), fun w0 W g hs => hs.put a m n h hn hb⟩
    · refine ⟨3, s, fun base q W v hs hq hB => refTo_of (Nat.le_succ _) (ref04Put_range _ m n W hs h ht hn (by omega)), fun w0 W g hs => ?_⟩
      refine (cPut_range (some ⟨g, 0, none⟩) _ m n W ht h hn (fun r w1 hb1 => (hs.step hb1).store_err _ 3 _ m m (by omega) (by omega) (by unfold fitsI; rw [if_neg (by omega)]) (by decide))).mono ?_
      rintro e w' ⟨he, hb2⟩
      exact ⟨he, hs.step hb2, KpT.of_below hb2⟩
  · refine ⟨1, s, fun base q W v hs hq hB => ?_, fun w0 W g hs => ?_⟩
    · refine (ref04Put_arg t k n W hs ht h).mono ?_
      rintro e w' ⟨he, hb⟩
      exact ⟨v, he, (hs.below hb).mono (Nat.le_succ _), hb⟩
    · refine (cPut_arg (some ⟨g, 0, none⟩) t k n W ht h).mono ?_
      rintro e w' ⟨he, rfl⟩
      exact ⟨he, hs, KpT.refl _⟩
theorem add_both (s : SpS) (t k n : Int) (ht : 0 ≤ t ∧ t ≤ 18446744073709551615) (hr : ∀ i, 0 ≤ s.mem i ∧ s.mem i ≤ 255) :
    ∃ (x c : Int) (s' : SpS), (∀ base q W v, RefS base q W v s → q ≤ 100000 → base ≤ W.heap.size → RefTo base q W v s s' 43 #[.int .u64 t, .int .i64 k, .int .u64 n] [.int .u64 x, .int .i64 c]) ∧ (∀ w0 W g, St w0 W g s → StTo w0 W g s s' 37 #[.int .u64 t, .int .i64 k, .int .u64 n] (.tuple #[.int .u64 x, .int .i64 c])) := by
  have bad : ∀ c : Int, c ≠ 0 → (∀ base q W v, RefS base q W v s → Calls Try.prog 41 #[v, .int .u64 t, .int .i64 k] W fun e w' => ∃ v', e = .returned (.tuple #[v', .int .u64 0, .int .i64 c]) ∧ RefS base q w' v' s ∧ Below W.heap.size W w') →
      (∀ w0 W g, St w0 W g s → Calls Try.prog 35 #[.pointer (some ⟨g, 0, none⟩), .int .u64 t, .int .i64 k] W fun e w' => e = .returned (.tuple #[.int .u64 0, .int .i64 c]) ∧ W = w') →
      ∃ (x c : Int) (s' : SpS), (∀ base q W v, RefS base q W v s → q ≤ 100000 → base ≤ W.heap.size → RefTo base q W v s s' 43 #[.int .u64 t, .int .i64 k, .int .u64 n] [.int .u64 x, .int .i64 c]) ∧ (∀ w0 W g, St w0 W g s → StTo w0 W g s s' 37 #[.int .u64 t, .int .i64 k, .int .u64 n] (.tuple #[.int .u64 x, .int .i64 c])) := by
    intro c h0 hR hP
    refine ⟨0, c, s, fun base q W v hs hq hB => ?_, fun w0 W g hs => ?_⟩
    · refine (ref04Add_err t k n c W hs h0 (fun W1 hb => hR base q W1 v (hs.below hb))).mono ?_
      rintro e w' ⟨he, hb⟩
      exact ⟨v, he, (hs.below hb).mono (Nat.le_succ _), hb⟩
    · refine (cAdd_err (some ⟨g, 0, none⟩) t k n c W h0 (fun W1 hb => hP w0 W1 g (hs.step hb))).mono ?_
      rintro e w' ⟨he, hb⟩
      exact ⟨he, hs.step hb, KpT.of_below hb⟩
  by_cases h : rightC t k
  · obtain ⟨a, rfl⟩ := Int.eq_ofNat_of_zero_le ht.1
    obtain ⟨m, rfl⟩ := Int.eq_ofNat_of_zero_le (show 0 ≤ k by have := h.1.bd; omega)
    have hk := h.1.bd
    by_cases hb : a + m ≤ s.pages * 4096
    · refine ⟨num (seen s.mem a m), 0, _, fun base q W v hs hq hB => refTo_of (Nat.le_refl _) ?_, fun w0 W g hs => hs.add a m n h hb⟩
      exact ref04Add_ok (s1 := tick s (touchedI a m)) (a : Int) (m : Int) n _ _ W hs rfl (fun W1 hb1 => ref04Get_ok a m W1 (hs.below hb1) hq h hb hr) (fun W1 v' hb1 hs1 => ref04Put_ok a m _ W1 hs1 hq (Nat.le_trans hB hb1.size) h (wrap_u64_range _) hb)
    · exact bad 3 (by decide) (fun base q W v hs => ref04Get_range _ _ W hs h ht (by omega)) (fun w0 W g hs => cGet_range (some ⟨g, 0, none⟩) _ _ W ht h (hs.load_err _ _ 3 (by omega) (by omega) (by unfold fitsI; rw [if_neg (by omega)]) (by decide)))
  · refine bad 1 (by decide) (fun base q W v hs => ?_) (fun w0 W g hs => cGet_arg (some ⟨g, 0, none⟩) t k W ht h)
    refine (ref04Get_arg t k W hs ht h).mono ?_
    rintro e w' ⟨he, hb⟩
    exact ⟨v, he, hs.below hb, hb⟩
theorem fill_both (s : SpS) (t k n m : Int) (ht : 0 ≤ t ∧ t ≤ 18446744073709551615) (hn : 0 ≤ n ∧ n ≤ 18446744073709551615) (hp : s.pages ≤ 1048576) :
    ∃ (c : Int) (s' : SpS), (∀ base q W v, RefS base q W v s → q ≤ 100000 → base ≤ W.heap.size → RefTo base q W v s s' 44 #[.int .u64 t, .int .i64 k, .int .u64 n, .int .i64 m] [.int .i64 c]) ∧ (∀ w0 W g, St w0 W g s → StTo w0 W g s s' 45 #[.int .u64 t, .int .i64 k, .int .u64 n, .int .i64 m] (.int .i64 c)) := by
  by_cases h : rightC t k ∧ 0 ≤ m ∧ m ≤ 1048576 / k
  · obtain ⟨h, hm0, hm⟩ := h
    obtain ⟨a, rfl⟩ := Int.eq_ofNat_of_zero_le ht.1
    obtain ⟨j, rfl⟩ := Int.eq_ofNat_of_zero_le (show 0 ≤ k by have := h.1.bd; omega)
    obtain ⟨i, rfl⟩ := Int.eq_ofNat_of_zero_le hm0
    have hk := h.1.bd
    have hji : j * i ≤ 1048576 := by
      have h1 := (Int.le_ediv_iff_mul_le (show (0 : Int) < j by omega)).1 hm
      rw [Int.mul_comm, ← Int.natCast_mul] at h1
      omega
    by_cases hb : a + j * i ≤ s.pages * 4096
    · refine ⟨0, _, fun base q W v hs hq hB => refTo_of (Nat.le_refl _) ?_, fun w0 W g hs => hs.fill a j i n h hn hji hb⟩
      exact ref04Fill_gen (a : Int) j i n 0 W hs h ht hn hji (fun W1 hb1 => ref03Store_ok a (j * i) _ W1 (hs.below hb1) hq (Nat.le_trans hB hb1.size) hb (by rw [bytesL_length, List.length_replicate]) (bytesL_bs _ _) hji)
    · refine ⟨3, s, fun base q W v hs hq hB => refTo_of (Nat.le_succ _) ?_, fun w0 W g hs => ?_⟩
      · refine ref04Fill_gen (a : Int) j i n 3 W hs h ht hn hji (fun W1 hb1 => ?_)
        refine (ref03Store_err (a : Int) (j * i) _ W1 (hs.below hb1) ht (by rw [bytesL_length, List.length_replicate]) (by omega) 3 (by unfold fitsI; rw [if_neg (by omega)]) (by decide)).mono ?_
        rintro e w' ⟨he, hb2⟩
        exact ⟨v, he, (hs.below hb1).below hb2, hb2⟩
      · refine (hs.fill_range a j i n h hn (by omega) hji hb).mono ?_
        rintro e w' ⟨he, hb2⟩
        exact ⟨he, hs.step hb2, KpT.of_below hb2⟩
  · refine ⟨1, s, fun base q W v hs hq hB => ?_, fun w0 W g hs => ?_⟩
    · refine (ref04Fill_arg t k n m W hs ht h).mono ?_
      rintro e w' ⟨he, hb⟩
      exact ⟨v, he, (hs.below hb).mono (Nat.le_succ _), hb⟩
    · refine (cFill_arg (some ⟨g, 0, none⟩) t k n m W ht h).mono ?_
      rintro e w' ⟨he, rfl⟩
      exact ⟨he, hs, KpT.refl _⟩
end Go.Proofs.Ytfdhjeeaigfmfaa.Sp
