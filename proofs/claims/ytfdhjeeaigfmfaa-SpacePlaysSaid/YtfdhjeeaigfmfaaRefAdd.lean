/- The reference's numbers in a space: added to, filled. -/
import Derived.Test.YtfdhjeeaigfmfaaRefCells
namespace Go.Proofs.Ytfdhjeeaigfmfaa.Sp
open Go.RowKit Go.WideMaps Go.Proofs.Ytfdhjeeaigfmfaa.In Go.Proofs.Ytfdhjeeaigfmfaa.Plain
set_option linter.unusedVariables false
set_option linter.unusedSimpArgs false

set_option maxRecDepth 100000 in
set_option maxHeartbeats 4000000 in
theorem ref04Add_err {base q : Nat} {v : Value} {s : SpS} (t k n c : Int) (W : World) (hs : RefS base q W v s) (h0 : c ≠ 0)
    (hG : ∀ W1, Below W.heap.size W W1 → Calls Try.prog 41 #[v, .int .u64 t, .int .i64 k] W1 fun e w' => ∃ v', e = .returned (.tuple #[v', .int .u64 0, .int .i64 c]) ∧ RefS base q w' v' s ∧ Below W1.heap.size W1 w') :
    Calls Try.prog 43 #[v, .int .u64 t, .int .i64 k, .int .u64 n] W fun e w' => e = .returned (.tuple #[v, .int .u64 0, .int .i64 c]) ∧ Below W.heap.size W w' := by
  have HG := Lib.hid hG
  have hc1 : (c == 0) = false := by simpa using h0
  have hc2 : (c != 0) = true := by simpa using h0
  obtain ⟨LA, Lm, Lc, rfl⟩ := refS_form hs
  generalize (s.pages : Int) = pg at *
  generalize s.ticks = tk at *
  clear hs hG h0
  go_enter Try.func43, Try.ntmps43
  go_wp2_with fail
  refine (HG.out _ (((Below.refl _ _).alloc (Nat.le_refl _) _).alloc (by simp) _)).mono ?_
  rintro e' w2 ⟨v', rfl, hs2, hb2⟩
  obtain ⟨A2, m2, c2, rfl⟩ := refS_form hs2
  obtain ⟨e0, e1, hbb⟩ := boxes2 hb2
  have a0 := fun o => (box3 (al_old (o := o) e0)).1
  have a1 := fun o => (box3 (al_old (o := o) e0)).2.1
  have a2 := fun o => (box3 (al_old (o := o) e0)).2.2.1
  have b0 := fun o => (box3 (al_old (o := o) e1)).1
  have b1 := fun o => (box3 (al_old (o := o) e1)).2.1
  have b2 := fun o => (box3 (al_old (o := o) e1)).2.2.1
  have g1 := fun o => (box3 (al_old (o := o) e1)).2.2.2.1
  have g2 := fun o => (box3 (al_old (o := o) e1)).2.2.2.2.1
  have g0 := fun o => (box3 (al_old (o := o) e1)).2.2.2.2.2
  have HB2 := Lib.hid hbb
  clear hs2 hb2 hbb e0 e1
  go_wp2
  refine bodyPost_ret (v := .tuple #[.agg #[.int .i64 pg, .slice LA Lm Lc, .int .i64 tk], .int .u64 0, .int .i64 c]) ?_ rfl ?_
  · simp [results, Try.results43, go_sem, b0, b1, b2]
  · exact ⟨rfl, (((HB2.out.alloc HB2.out.size _).setCell (by show W.heap.size ≤ W.heap.size + 1; omega) _).setCell (by show W.heap.size ≤ W.heap.size + 1; omega) _).setCell (by show W.heap.size ≤ W.heap.size + 1; omega) _⟩

set_option maxRecDepth 100000 in
set_option maxHeartbeats 4000000 in
theorem ref04Add_ok {base q q' : Nat} {v : Value} {s s1 s2 : SpS} (t k n x y : Int) (W : World) (hs : RefS base q W v s) (hy : IntKind.u64.wrap (x + n) = y)
    (hG : ∀ W1, Below W.heap.size W W1 → Calls Try.prog 41 #[v, .int .u64 t, .int .i64 k] W1 fun e w' => ∃ v', e = .returned (.tuple #[v', .int .u64 x, .int .i64 0]) ∧ RefS base q w' v' s1 ∧ Below W1.heap.size W1 w')
    (hP : ∀ W1 v', Below W.heap.size W W1 → RefS base q W1 v' s1 → Calls Try.prog 42 #[v', .int .u64 t, .int .i64 k, .int .u64 y] W1 fun e w' => ∃ v'', e = .returned (.tuple #[v'', .int .i64 0]) ∧ RefS base q' w' v'' s2 ∧ Below W1.heap.size W1 w') :
    Calls Try.prog 43 #[v, .int .u64 t, .int .i64 k, .int .u64 n] W fun e w' => ∃ v', e = .returned (.tuple #[v', .int .u64 x, .int .i64 0]) ∧ RefS base q' w' v' s2 ∧ Below W.heap.size W w' := by
  have HG := Lib.hid hG
  have HP := Lib.hid hP
  obtain ⟨LA, Lm, Lc, rfl⟩ := refS_form hs
  generalize (s.pages : Int) = pg at *
  generalize s.ticks = tk at *
  clear hs hG hP
  go_enter Try.func43, Try.ntmps43
  go_wp2_with fail
  refine (HG.out _ (((Below.refl _ _).alloc (Nat.le_refl _) _).alloc (by simp) _)).mono ?_
  rintro e' w2 ⟨v', rfl, hs2, hb2⟩
  obtain ⟨A2, m2, c2, rfl⟩ := refS_form hs2
  obtain ⟨e0, e1, hbb⟩ := boxes2 hb2
  have HS2 := Lib.hid hs2
  have HB2 := Lib.hid hbb
  have HE1 := Lib.hid e1
  clear hs2 hb2 hbb e0 e1
  go_wp2_with fail
  refine (HP.out _ _ (HB2.out.alloc HB2.out.size _) (HS2.out.below ((Below.refl _ _).alloc (Nat.le_refl _) _))).mono ?_
  rintro e' w3 ⟨v'', rfl, hs3, hb3⟩
  obtain ⟨A3, m3, c3, rfl⟩ := refS_form hs3
  obtain ⟨_, hbb3⟩ := boxes1 hb3
  have e1 := (hbb3.block _ (Array.getElem?_eq_some_iff.1 HE1.out).1).trans HE1.out
  have b0 := fun o => (box3 (al_old (o := o) e1)).1
  have b1 := fun o => (box3 (al_old (o := o) e1)).2.1
  have b2 := fun o => (box3 (al_old (o := o) e1)).2.2.1
  have g1 := fun o => (box3 (al_old (o := o) e1)).2.2.2.1
  have g2 := fun o => (box3 (al_old (o := o) e1)).2.2.2.2.1
  have g0 := fun o => (box3 (al_old (o := o) e1)).2.2.2.2.2
  have HS3 := Lib.hid hs3
  have HB3 := Lib.hid (HB2.out.trans (hbb3.mono HB2.out.size))
  have HE13 := Lib.hid e1
  clear hs3 hb3 hbb3 e1
  go_wp2
  refine bodyPost_ret (v := .tuple #[.agg #[.int .i64 (s2.pages : Int), .slice A3 m3 c3, .int .i64 s2.ticks], .int .u64 x, .int .i64 0]) ?_ rfl ?_
  · simp [results, Try.results43, go_sem, b0, b1, b2]
  · exact ⟨_, rfl, refS_set3 (HS3.out.below ((Below.refl _ _).alloc (Nat.le_refl _) _)) (al_old HE13.out) (by decide), (((HB3.out.alloc HB3.out.size _).setCell (by show W.heap.size ≤ W.heap.size + 1; omega) _).setCell (by show W.heap.size ≤ W.heap.size + 1; omega) _).setCell (by show W.heap.size ≤ W.heap.size + 1; omega) _⟩
end Go.Proofs.Ytfdhjeeaigfmfaa.Sp
