/- The reference of the cache: a push. -/
import Derived.Test.YtbbhfbpkopocgaaCacheRef
namespace Go.Proofs.Ytbbhfbpkopocgaa.Hand
open Go.RowKit
set_option linter.unusedVariables false
set_option linter.unusedSimpArgs false

theorem info98 : (Try.prog.info? 98).map (fun i => (i.zero, i.size, i.bytes)) = some (some (.agg #[(.int .i64 0), (.int .i64 0)]), 2, 16) := by kernel_rfl
theorem owns_base {w : World} {b b' n : Nat} {e : TypeId} {size : Nat} {v : Value} {xs : List Value} (h : w.ownsRow b e size v n xs) (hb : b' ≤ b) : w.ownsRow b' e size v n xs := by
  refine ⟨h.1, ?_⟩
  rcases h.2 with h2 | ⟨g, cap, cur, e1, e2, e3⟩
  · exact .inl h2
  · exact .inr ⟨g, cap, cur, e1, Nat.le_trans hb e2, e3⟩
/-- May a chunk be pushed? -/
def mayP (L : Lg) (k p : Int) : Prop := (0 ≤ k ∧ k < 7) ∧ 0 ≤ p ∧ cntL L k ≠ 4
instance (L : Lg) (k p : Int) : Decidable (mayP L k p) := by unfold mayP; infer_instance

set_option maxRecDepth 100000 in
set_option maxHeartbeats 1000000 in
theorem refPush_no (base : Nat) (v : Value) (L : Lg) (k p : Int) (w : World) (h : RefL base w v L) (hm : ¬ mayP L k p) : Calls Try.prog 23 #[v, .int .i64 k, .int .i64 p] w fun e w' => e = .returned (.tuple #[v, .bool false]) ∧ Below w.heap.size w w' := by
  have HN := Lib.hid (refLen_any base v L k w h)
  have HP := Lib.hid (refPages_any k w)
  obtain ⟨A, c, rfl, _⟩ := refL_form h
  by_cases hk : 0 ≤ k ∧ k < 7
  · have hz : (pg k == 0) = false := by rw [pg_zero]; simp [hk]
    obtain ⟨q, hq⟩ : ∃ q, pg k = q := ⟨_, rfl⟩
    rw [hq] at hz HP
    by_cases hp : p < 0
    · clear hm h hk hq
      go_enter Try.func23, Try.ntmps23
      go_wp2_with fail
      refine HP.out.mono ?_
      rintro e w1 ⟨rfl, rfl⟩
      go_wp2_with fail
      go_ret2
      exact ⟨rfl, Below.refl _ _⟩
    · have h4 : cntL L k = 4 := by
        apply Classical.byContradiction
        intro h4
        exact hm ⟨hk, by omega, h4⟩
      rw [h4] at HN
      clear hm h hk hq h4
      go_enter Try.func23, Try.ntmps23
      go_wp2_with fail
      refine HP.out.mono ?_
      rintro e w1 ⟨rfl, rfl⟩
      go_wp2_with fail
      refine HN.out.mono ?_
      rintro e w1 ⟨rfl, rfl⟩
      go_wp2_with fail
      go_ret2
      exact ⟨rfl, Below.refl _ _⟩
  · rw [pg_out hk] at HP
    clear hm h hk
    go_enter Try.func23, Try.ntmps23
    go_wp2_with fail
    refine HP.out.mono ?_
    rintro e w1 ⟨rfl, rfl⟩
    go_wp2_with fail
    go_ret2
    exact ⟨rfl, Below.refl _ _⟩
theorem one_E (x : Nat × Int) : ∀ u ∈ oneE x, u.oneCell' = true := by
  intro u hu
  simp [oneE] at hu
  rcases hu with rfl | rfl <;> rfl
theorem refL_push {base B : Nat} {w : World} {v : Value} {L : Lg} {k : Nat} {p : Int} (h : w.ownsRow B 98 2 v (L.length + 1) (encE L ++ oneE (k, p))) (hB : base ≤ B) (hk : k < 7) (h7 : ∀ x ∈ L, x.1 < 7) (hl : L.length < 100) : RefL base w v (L ++ [(k, p)]) := by
  refine ⟨?_, ?_, by rw [List.length_append, List.length_singleton]; omega⟩
  · rw [List.length_append, List.length_singleton, encE_app]
    have e1 : encE [(k, p)] = oneE (k, p) := by simp [encE]
    rw [e1]
    exact owns_base h hB
  · intro x hx
    rcases List.mem_append.1 hx with h1 | h1
    · exact h7 x h1
    · rw [List.mem_singleton.1 h1]; exact hk
set_option maxRecDepth 100000 in
set_option maxHeartbeats 2000000 in
theorem refPush_ok (base : Nat) (v : Value) (L : Lg) (k : Nat) (p : Int) (w : World) (h : RefL base w v L) (hb : base ≤ w.heap.size) (hm : mayP L (k : Int) p) (hl : L.length < 100) : Calls Try.prog 23 #[v, .int .i64 (k : Int), .int .i64 p] w fun e w' => ∃ v', e = .returned (.tuple #[v', .bool true]) ∧ RefL base w' v' (L ++ [(k, p)]) ∧ Below w.heap.size w w' := by
  have HN := Lib.hid (refLen_any base v L (k : Int) w h)
  have HP := Lib.hid (refPages_any (k : Int) w)
  obtain ⟨hk, hp0, h4⟩ := hm
  have HF := Lib.hid (fun (w' : World) (v' : Value) (ho : w'.ownsRow w.heap.size 98 2 v' (L.length + 1) (encE L ++ oneE (k, p))) => refL_push (base := base) ho hb (by omega) h.2.1 hl)
  have hz : (pg (k : Int) == 0) = false := by rw [pg_zero]; simp [hk]
  obtain ⟨q, hq⟩ : ∃ q, pg (k : Int) = q := ⟨_, rfl⟩
  rw [hq] at hz HP
  have hp : ¬ p < 0 := by omega
  obtain ⟨m, hm⟩ : ∃ m, cntL L (k : Int) = m := ⟨_, rfl⟩
  rw [hm] at HN h4
  have hm4 : ((m : Int) == 4) = false := by rw [beq_eq_false_iff_ne]; omega
  have hl100 := Lib.hid hl
  have hown := h.1
  have HL := Lib.hid (encE_length L)
  have HO := Lib.hid hown
  obtain ⟨i0, hi0, _⟩ := Option.map_eq_some_iff.1 info98
  have HI0 := Lib.hid hi0
  clear hi0
  rcases hown.2 with ⟨rfl, hl0⟩ | ⟨g, cap, cur, rfl, hbg, hg, hnc, _, hcs, htake⟩
  · obtain rfl : L = [] := List.eq_nil_of_length_eq_zero hl0
    clear h hk hp0 h4 hq hm hl hown hl0
    go_enter Try.func23, Try.ntmps23
    go_wp2_with fail
    refine HP.out.mono ?_
    rintro e w1 ⟨rfl, rfl⟩
    go_wp2_with fail
    refine HN.out.mono ?_
    rintro e w1 ⟨rfl, rfl⟩
    go_wp2_with (first
      | (at_builtin
         refine wpList_append_own_none rfl _ _ _ rfl w.heap.size 98 i0 2 Try.underlying48 HI0.out (.slice none 0 0) 0 [] rfl (World.ownsRow_nil _ _ _ _) rfl ?_)
      | (at_builtin
         refine app_one (w0 := w) w.heap.size rfl _ _ 48 98 rfl Try.underlying48 (.agg #[.int .i64 0, .int .i64 0]) 2 16 info98 rfl (by decide) (by decide) (.slice none 0 0) 0 [] (oneE (k, p)) rfl (World.ownsRow_nil _ _ _ _) rfl rfl (one_E _) (Below.refl _ _) (Nat.le_refl _) (by decide) ?_
         intro v2 w2 hown2 hb2 hg2))
    go_ret2
    exact ⟨_, rfl, HF.out _ _ hown2, hb2⟩
  · clear h hk hp0 h4 hq hm hl hown hbg hg hnc hcs htake
    go_enter Try.func23, Try.ntmps23
    go_wp2_with fail
    refine HP.out.mono ?_
    rintro e w1 ⟨rfl, rfl⟩
    go_wp2_with fail
    refine HN.out.mono ?_
    rintro e w1 ⟨rfl, rfl⟩
    go_wp2_with (first
      | (at_builtin
         refine app_new (w0 := w) w.heap.size rfl _ _ 48 98 rfl Try.underlying48 (.agg #[.int .i64 0, .int .i64 0]) 2 16 info98 rfl (by decide) (by decide) (.slice none 0 0) 0 [] rfl (World.ownsRow_nil _ _ _ _) ⟨g, 0, none⟩ L.length cap (encE L) rfl HL.out (HO.out.cells (g := g) rfl) (encE_one L) (Below.refl _ _) (Nat.le_refl _) (by have := hl100.out; omega) ?_
         intro v1 w1 hown1 hb1 hg1 hat1
         rw [Nat.zero_add, List.nil_append] at hown1
         have HOW1 := Lib.hid hown1
         have HB1 := Lib.hid hb1
         clear hown1 hb1 hg1 hat1)
      | (at_builtin
         refine app_one (w0 := w) w.heap.size rfl _ _ 48 98 rfl Try.underlying48 (.agg #[.int .i64 0, .int .i64 0]) 2 16 info98 rfl (by decide) (by decide) v1 L.length (encE L) (oneE (k, p)) rfl HOW1.out rfl rfl (one_E _) HB1.out HB1.out.size (by have := hl100.out; omega) ?_
         intro v2 w2 hown2 hb2 hg2))
    go_ret2
    exact ⟨_, rfl, HF.out _ _ hown2, hb2⟩
end Go.Proofs.Ytbbhfbpkopocgaa.Hand
