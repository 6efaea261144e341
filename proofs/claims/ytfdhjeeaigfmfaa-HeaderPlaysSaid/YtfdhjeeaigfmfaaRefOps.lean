/- The reference's space: load, store, zero, copy. -/
import Derived.Test.YtfdhjeeaigfmfaaRefPut
namespace Go.Proofs.Ytfdhjeeaigfmfaa.Sp
open Go.RowKit Go.WideMaps Go.Proofs.Ytfdhjeeaigfmfaa.In Go.Proofs.Ytfdhjeeaigfmfaa.Plain
set_option linter.unusedVariables false
set_option linter.unusedSimpArgs false

theorem refS_in {base q : Nat} {v : Value} {s : SpS} {W : World} (hs : RefS base q W v s) (t n : Int) (W1 : World) (ht : 0 ≤ t ∧ t ≤ 18446744073709551615) (hn : 0 ≤ n ∧ n ≤ 18446744073709551615) :
    Calls Try.prog 57 #[v, .int .u64 t, .int .u64 n] W1 fun e w' => e = .returned (.bool (decide (t + n ≤ (s.pages : Int) * 4096))) ∧ Below W1.heap.size W1 w' := by
  obtain ⟨lv, log, rfl, hown, hwf, hmem, hlq, hp1, hp2⟩ := hs
  exact ref03in_any (s.pages : Int) s.ticks t n lv W1 (by omega) ht hn
theorem refS_tick {base q : Nat} {lv : Value} {s : SpS} {W : World} {pg tk k : Int} (hs : RefS base q W (.agg #[.int .i64 pg, lv, .int .i64 tk]) s) : RefS base q W (.agg #[.int .i64 pg, lv, .int .i64 (wrap64 (tk + k))]) (tick s k) := by
  obtain ⟨lv', log, he, hown, hwf, hmem, hlq, hp1, hp2⟩ := hs
  injection he with he
  simp at he
  obtain ⟨e1, e2, e3⟩ := he
  subst e2
  exact ⟨lv, log, by rw [e1, e3]; rfl, hown, hwf, hmem, hlq, hp1, hp2⟩
theorem refS_form {base q : Nat} {v : Value} {s : SpS} {W : World} (hs : RefS base q W v s) : ∃ A m c, v = .agg #[.int .i64 (s.pages : Int), .slice A m c, .int .i64 s.ticks] := by
  obtain ⟨lv, log, rfl, h, _⟩ := hs
  obtain ⟨A, c, rfl⟩ := owns_slice h
  exact ⟨A, _, c, rfl⟩

set_option maxRecDepth 100000 in
set_option maxHeartbeats 4000000 in
theorem ref03Load_err {base q : Nat} {v : Value} {s : SpS} (t n : Int) (W : World) (hs : RefS base q W v s) (ht : 0 ≤ t ∧ t ≤ 18446744073709551615) (hn : 0 ≤ n ∧ n ≤ 18446744073709551615) (c : Int) (hc : fitsI ((s.pages : Int) * 4096) t n 1048576 = c) (h0 : c ≠ 0) :
    Calls Try.prog 19 #[v, .int .u64 t, .int .u64 n] W fun e w' => e = .returned (.tuple #[v, .string ⟨#[]⟩, .int .i64 c]) ∧ Below W.heap.size W w' := by
  have HI := Lib.hid (fun W1 => refS_in hs t n W1 ht hn)
  obtain ⟨LA, Lm, Lc, rfl⟩ := refS_form hs
  generalize (s.pages : Int) = pg at *
  generalize s.ticks = tk at *
  clear hs
  unfold fitsI at hc
  by_cases h1 : t + n ≤ pg * 4096
  · rw [if_pos h1] at hc
    have hd : decide (t + n ≤ pg * 4096) = true := decide_eq_true h1
    by_cases h2 : 1048576 < n
    · rw [if_pos h2] at hc
      subst hc
      clear h1
      go_enter Try.func19, Try.ntmps19
      go_wp2_with (go_at_call 57; (with_reducible refine (HI.out _).mono ?_); rintro e' w1 ⟨rfl, hb⟩; obtain ⟨e0, e1, hbb⟩ := boxes2 hb; obtain ⟨a0, a1, a2, f1, f2, f0⟩ := box3 e0; obtain ⟨b0, b1, b2, g1, g2, g0⟩ := box3 e1; have HBB := Lib.hid hbb; clear hb e0 e1 hbb)
      refine bodyPost_ret (v := .tuple #[.agg #[.int .i64 pg, .slice LA Lm Lc, .int .i64 tk], .string ⟨#[]⟩, .int .i64 1]) ?_ rfl ?_
      · simp [results, Try.results19, go_sem, b0, b1, b2]
      · exact ⟨rfl, ((HBB.out.setCell (by show W.heap.size ≤ W.heap.size + 1; omega) _).setCell (by show W.heap.size ≤ W.heap.size + 1; omega) _).setCell (by show W.heap.size ≤ W.heap.size + 1; omega) _⟩
    · rw [if_neg h2] at hc
      exact absurd hc.symm h0
  · rw [if_neg h1] at hc
    subst hc
    have hd : decide (t + n ≤ pg * 4096) = false := decide_eq_false h1
    clear h1
    go_enter Try.func19, Try.ntmps19
    go_wp2_with (go_at_call 57; (with_reducible refine (HI.out _).mono ?_); rintro e' w1 ⟨rfl, hb⟩; obtain ⟨e0, e1, hbb⟩ := boxes2 hb; obtain ⟨a0, a1, a2, f1, f2, f0⟩ := box3 e0; obtain ⟨b0, b1, b2, g1, g2, g0⟩ := box3 e1; have HBB := Lib.hid hbb; clear hb e0 e1 hbb)
    refine bodyPost_ret (v := .tuple #[.agg #[.int .i64 pg, .slice LA Lm Lc, .int .i64 tk], .string ⟨#[]⟩, .int .i64 3]) ?_ rfl ?_
    · simp [results, Try.results19, go_sem, b0, b1, b2]
    · exact ⟨rfl, ((HBB.out.setCell (by show W.heap.size ≤ W.heap.size + 1; omega) _).setCell (by show W.heap.size ≤ W.heap.size + 1; omega) _).setCell (by show W.heap.size ≤ W.heap.size + 1; omega) _⟩

set_option maxRecDepth 100000 in
set_option maxHeartbeats 4000000 in
theorem ref03Load_ok {base q : Nat} {v : Value} {s : SpS} (t n : Nat) (W : World) (hs : RefS base q W v s) (hq : q ≤ 100000) (h : t + n ≤ s.pages * 4096) (hn : n ≤ 1048576) :
    Calls Try.prog 19 #[v, .int .u64 (t : Int), .int .u64 (n : Int)] W fun e w' => ∃ v', e = .returned (.tuple #[v', .string (strOfNums (seen s.mem t n)), .int .i64 0]) ∧ RefS base q w' v' (tick s (touchedI t n)) ∧ Below W.heap.size W w' := by
  have hpp : s.pages ≤ 1048576 := by obtain ⟨_, _, _, _, _, _, _, _, h⟩ := hs; exact h
  have HI := Lib.hid (fun W1 => refS_in hs (t : Int) (n : Int) W1 (by omega) (by omega))
  have HB := Lib.hid (fun (W1 : World) (hb : Below W.heap.size W W1) => ref03Bytes_any t n W1 (hs.below hb) hq (by omega))
  have HT := Lib.hid (fun W1 => ref03Touched_any (t : Int) (n : Int) W1 (by omega) (by omega) (by omega))
  have HFIN := Lib.hid (fun (w' : World) (hb : Below W.heap.size W w') => (hs.below hb))
  obtain ⟨LA, Lm, Lc, rfl⟩ := refS_form hs
  have hd : decide ((t : Int) + (n : Int) ≤ (s.pages : Int) * 4096) = true := decide_eq_true (by omega)
  have hn2 : (n : Int) ≤ 1048576 := by omega
  obtain ⟨u, hu⟩ : ∃ u, touchedI (t : Int) (n : Int) = u := ⟨_, rfl⟩
  have HTK := Lib.hid (fun (w' : World) (hb : Below W.heap.size W w') => refS_tick (k := u) (hs.below hb))
  rw [hu] at HT ⊢
  obtain ⟨pg, hpg⟩ : ∃ pg : Int, (s.pages : Int) = pg := ⟨_, rfl⟩
  obtain ⟨tk, htk⟩ : ∃ tk : Int, s.ticks = tk := ⟨_, rfl⟩
  rw [hpg, htk] at HI HB HFIN HTK
  rw [hpg] at hd
  rw [hpg, htk]
  clear hs h hpp hpg htk hu hn
  go_enter Try.func19, Try.ntmps19
  go_wp2_with (first
    | (go_at_call 57; (with_reducible refine (HI.out _).mono ?_); rintro e' w1 ⟨rfl, hb⟩; obtain ⟨e0, e1, hbb⟩ := boxes2 hb; obtain ⟨a0, a1, a2, f1, f2, f0⟩ := box3 e0; obtain ⟨b0, b1, b2, g1, g2, g0⟩ := box3 e1; have HE0 := Lib.hid e0; have HE1 := Lib.hid e1; have HBB := Lib.hid hbb; clear hb e0 e1 hbb))
  refine (HB.out _ HBB.out).mono ?_
  rintro e' w2 ⟨rfl, hb2⟩
  obtain ⟨a0', a1', a2', f1', f2', f0'⟩ := box3 ((hb2.block _ (Array.getElem?_eq_some_iff.1 HE0.out).1).trans HE0.out)
  obtain ⟨b0', b1', b2', g1', g2', g0'⟩ := box3 ((hb2.block _ (Array.getElem?_eq_some_iff.1 HE1.out).1).trans HE1.out)
  have HB2 := Lib.hid (HBB.out.trans (hb2.mono HBB.out.size))
  clear hb2 a0 a1 a2 f1 f2 f0 b0 b1 b2 g1 g2 g0
  go_wp2
  go_region_with (go_at_call 58; (with_reducible refine (HT.out _).mono ?_); rintro e' w3 ⟨rfl, rfl⟩)
  all_goals
    go_wp2
    refine bodyPost_ret (v := .tuple #[.agg #[.int .i64 pg, .slice LA Lm Lc, .int .i64 (wrap64 (tk + u))], .string (strOfNums (seen s.mem t n)), .int .i64 0]) ?_ rfl ?_
    · simp [results, Try.results19, go_sem, b0', b1', b2']
    · have hbf : Below W.heap.size W (((((w2.setCell ⟨W.heap.size, 2, none⟩ (.int .i64 (wrap64 (tk + u)))).setCell ⟨W.heap.size + 1, 0, none⟩ (.int .i64 pg)).setCell ⟨W.heap.size + 1, 1, none⟩ (.slice LA Lm Lc)).setCell ⟨W.heap.size + 1, 2, none⟩ (.int .i64 (wrap64 (tk + u)))).drew) := ((((HB2.out.setCell (Nat.le_refl _) _).setCell (by show W.heap.size ≤ W.heap.size + 1; omega) _).setCell (by show W.heap.size ≤ W.heap.size + 1; omega) _).setCell (by show W.heap.size ≤ W.heap.size + 1; omega) _).drew
      exact ⟨_, rfl, HTK.out _ hbf, hbf⟩
end Go.Proofs.Ytfdhjeeaigfmfaa.Sp
