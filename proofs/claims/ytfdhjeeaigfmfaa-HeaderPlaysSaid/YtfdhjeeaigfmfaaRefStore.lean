/- The reference's space: store, zero, copy. -/
import Derived.Test.YtfdhjeeaigfmfaaRefOps
namespace Go.Proofs.Ytfdhjeeaigfmfaa.Sp
open Go.RowKit Go.WideMaps Go.Proofs.Ytfdhjeeaigfmfaa.In Go.Proofs.Ytfdhjeeaigfmfaa.Plain
set_option linter.unusedVariables false
set_option linter.unusedSimpArgs false

theorem refS_set {base q b t o : Nat} {w : World} {v u : Value} {s : SpS} {cs : Array Value} {fr : Nat × Nat} (h : RefS base q w v s) (hb : w.heap[b]? = some (.cells cs t fr)) (ht : t ≠ 113) :
    RefS base q (w.setCell ⟨b, o, none⟩ u) v s ∧ ∃ cs', (w.setCell ⟨b, o, none⟩ u).heap[b]? = some (.cells cs' t fr) := by
  obtain ⟨lv, log, h1, ⟨h2, h3⟩, h4, h5, h6, h7⟩ := h
  refine ⟨⟨lv, log, h1, ⟨h2, ?_⟩, h4, h5, h6, h7⟩, ?_⟩
  · rcases h3 with h3 | ⟨g, cap, cur, e1, e2, e3, e4⟩
    · exact .inl h3
    · refine .inr ⟨g, cap, cur, e1, e2, ((Chg.refl w (fun k => k = b)).set (p := ⟨b, o, none⟩) (.inl rfl) u).at e3 ?_, e4⟩
      rintro rfl
      rw [hb] at e3
      injection e3 with e3
      injection e3 with _ e3
      exact ht e3
  · simp only [World.setCell, Array.getElem?_modify, if_true, hb, Option.map_some]
    exact ⟨_, rfl⟩
theorem refS_set3 {base q b t : Nat} {w : World} {v x y z : Value} {s : SpS} {cs : Array Value} {fr : Nat × Nat} (h : RefS base q w v s) (hb : w.heap[b]? = some (.cells cs t fr)) (ht : t ≠ 113) :
    RefS base q (((w.setCell ⟨b, 0, none⟩ x).setCell ⟨b, 1, none⟩ y).setCell ⟨b, 2, none⟩ z) v s := by
  obtain ⟨h1, _, e1⟩ := refS_set (o := 0) (u := x) h hb ht
  obtain ⟨h2, _, e2⟩ := refS_set (o := 1) (u := y) h1 e1 ht
  exact (refS_set (o := 2) (u := z) h2 e2 ht).1

set_option maxRecDepth 100000 in
set_option maxHeartbeats 4000000 in
theorem ref03Store_err {base q : Nat} {v : Value} {s : SpS} (t : Int) (n : Nat) (l : List Int) (W : World) (hs : RefS base q W v s) (ht : 0 ≤ t ∧ t ≤ 18446744073709551615) (hl : l.length = n) (hn : n ≤ 9223372036854775807) (c : Int) (hc : fitsI ((s.pages : Int) * 4096) t n 1048576 = c) (h0 : c ≠ 0) :
    Calls Try.prog 21 #[v, .int .u64 t, .string (strOfNums l)] W fun e w' => e = .returned (.tuple #[v, .int .i64 c]) ∧ Below W.heap.size W w' := by
  have HI := Lib.hid (fun W1 => refS_in hs t (n : Int) W1 ht (by omega))
  obtain ⟨LA, Lm, Lc, rfl⟩ := refS_form hs
  generalize (s.pages : Int) = pg at *
  generalize s.ticks = tk at *
  have hsz : ((strOfNums l).size : Int) = (n : Int) := by rw [strOfNums_size, hl]
  clear hs hl
  unfold fitsI at hc
  by_cases h1 : t + n ≤ pg * 4096
  · rw [if_pos h1] at hc
    have hd : decide (t + (n : Int) ≤ pg * 4096) = true := decide_eq_true h1
    by_cases h2 : (1048576 : Int) < (n : Int)
    · rw [if_pos h2] at hc
      subst hc
      clear h1
      go_enter Try.func21, Try.ntmps21
      go_wp2_with (go_at_call 57; (with_reducible refine (HI.out _).mono ?_); rintro e' w1 ⟨rfl, hb⟩; obtain ⟨e0, e1, hbb⟩ := boxes2 hb; obtain ⟨a0, a1, a2, f1, f2, f0⟩ := box3 e0; obtain ⟨b0, b1, b2, g1, g2, g0⟩ := box3 e1; have HE0 := Lib.hid e0; have HE1 := Lib.hid e1; have HBB := Lib.hid hbb; clear hb e0 e1 hbb)
      refine bodyPost_ret (v := .tuple #[.agg #[.int .i64 pg, .slice LA Lm Lc, .int .i64 tk], .int .i64 1]) ?_ rfl ?_
      · simp [results, Try.results21, go_sem, b0, b1, b2]
      · exact ⟨rfl, ((HBB.out.setCell (by show W.heap.size ≤ W.heap.size + 1; omega) _).setCell (by show W.heap.size ≤ W.heap.size + 1; omega) _).setCell (by show W.heap.size ≤ W.heap.size + 1; omega) _⟩
    · rw [if_neg h2] at hc
      exact absurd hc.symm h0
  · rw [if_neg h1] at hc
    subst hc
    have hd : decide (t + (n : Int) ≤ pg * 4096) = false := decide_eq_false h1
    clear h1
    go_enter Try.func21, Try.ntmps21
    go_wp2_with (go_at_call 57; (with_reducible refine (HI.out _).mono ?_); rintro e' w1 ⟨rfl, hb⟩; obtain ⟨e0, e1, hbb⟩ := boxes2 hb; obtain ⟨a0, a1, a2, f1, f2, f0⟩ := box3 e0; obtain ⟨b0, b1, b2, g1, g2, g0⟩ := box3 e1; have HE0 := Lib.hid e0; have HE1 := Lib.hid e1; have HBB := Lib.hid hbb; clear hb e0 e1 hbb)
    refine bodyPost_ret (v := .tuple #[.agg #[.int .i64 pg, .slice LA Lm Lc, .int .i64 tk], .int .i64 3]) ?_ rfl ?_
    · simp [results, Try.results21, go_sem, b0, b1, b2]
    · exact ⟨rfl, ((HBB.out.setCell (by show W.heap.size ≤ W.heap.size + 1; omega) _).setCell (by show W.heap.size ≤ W.heap.size + 1; omega) _).setCell (by show W.heap.size ≤ W.heap.size + 1; omega) _⟩

set_option maxRecDepth 100000 in
set_option maxHeartbeats 4000000 in
theorem ref03Zero_err {base q : Nat} {v : Value} {s : SpS} (t n : Int) (W : World) (hs : RefS base q W v s) (ht : 0 ≤ t ∧ t ≤ 18446744073709551615) (hn : 0 ≤ n ∧ n ≤ 18446744073709551615) (c : Int) (hc : fitsI ((s.pages : Int) * 4096) t n n = c) (h0 : c ≠ 0) :
    Calls Try.prog 23 #[v, .int .u64 t, .int .u64 n] W fun e w' => e = .returned (.tuple #[v, .int .i64 c]) ∧ Below W.heap.size W w' := by
  have HI := Lib.hid (fun W1 => refS_in hs t n W1 ht hn)
  obtain ⟨LA, Lm, Lc, rfl⟩ := refS_form hs
  generalize (s.pages : Int) = pg at *
  generalize s.ticks = tk at *
  clear hs
  unfold fitsI at hc
  by_cases h1 : t + n ≤ pg * 4096
  · rw [if_pos h1, if_neg (by omega)] at hc
    exact absurd hc.symm h0
  · rw [if_neg h1] at hc
    subst hc
    have hd : decide (t + n ≤ pg * 4096) = false := decide_eq_false h1
    clear h1
    go_enter Try.func23, Try.ntmps23
    go_wp2_with (go_at_call 57; (with_reducible refine (HI.out _).mono ?_); rintro e' w1 ⟨rfl, hb⟩; obtain ⟨e0, e1, hbb⟩ := boxes2 hb; obtain ⟨a0, a1, a2, f1, f2, f0⟩ := box3 e0; obtain ⟨b0, b1, b2, g1, g2, g0⟩ := box3 e1; have HE0 := Lib.hid e0; have HE1 := Lib.hid e1; have HBB := Lib.hid hbb; clear hb e0 e1 hbb)
    refine bodyPost_ret (v := .tuple #[.agg #[.int .i64 pg, .slice LA Lm Lc, .int .i64 tk], .int .i64 3]) ?_ rfl ?_
    · simp [results, Try.results23, go_sem, b0, b1, b2]
    · exact ⟨rfl, ((HBB.out.setCell (by show W.heap.size ≤ W.heap.size + 1; omega) _).setCell (by show W.heap.size ≤ W.heap.size + 1; omega) _).setCell (by show W.heap.size ≤ W.heap.size + 1; omega) _⟩

set_option maxRecDepth 100000 in
set_option maxHeartbeats 4000000 in
theorem ref03Store_ok {base q : Nat} {v : Value} {s : SpS} (t n : Nat) (l : List Int) (W : World) (hs : RefS base q W v s) (hq : q ≤ 100000) (hB : base ≤ W.heap.size) (h : t + n ≤ s.pages * 4096) (hl : l.length = n) (hbs : Bs l) (hn : n ≤ 1048576) :
    Calls Try.prog 21 #[v, .int .u64 (t : Int), .string (strOfNums l)] W fun e w' => ∃ v', e = .returned (.tuple #[v', .int .i64 0]) ∧ RefS base (q + 1) w' v' (tick { s with mem := lay s.mem t l } (touchedI t n)) ∧ Below W.heap.size W w' := by
  have hpp : s.pages ≤ 1048576 := by obtain ⟨_, _, _, _, _, _, _, _, h⟩ := hs; exact h
  have HI := Lib.hid (fun W1 => refS_in hs (t : Int) (n : Int) W1 (by omega) (by omega))
  have HT := Lib.hid (fun W1 => ref03Touched_any (t : Int) (n : Int) W1 (by omega) (by omega) (by omega))
  obtain ⟨u, hu⟩ : ∃ u, touchedI (t : Int) (n : Int) = u := ⟨_, rfl⟩
  rw [hu] at HT ⊢
  have HP := Lib.hid (fun (W1 : World) (hb : Below W.heap.size W W1) => ref03put_any ⟨t, n, l, false⟩ u W1 (hs.below hb) ⟨fun _ => hl, hbs, by show t + n ≤ 4294967296; omega⟩ hq (by have := hb.size; omega))
  obtain ⟨LA, Lm, Lc, rfl⟩ := refS_form hs
  have hd : decide ((t : Int) + (n : Int) ≤ (s.pages : Int) * 4096) = true := decide_eq_true (by omega)
  have hsz : ((strOfNums l).size : Int) = (n : Int) := by rw [strOfNums_size, hl]
  have hn2 : (n : Int) ≤ 1048576 := by omega
  obtain ⟨S2, hS2⟩ : ∃ S2, tick { s with mem := lay s.mem t l } u = S2 := ⟨_, rfl⟩
  rw [show (tick { s with mem := LW.app s.mem ⟨t, n, l, false⟩ } u) = S2 from hS2] at HP
  rw [hS2]
  obtain ⟨pg, hpg⟩ : ∃ pg : Int, (s.pages : Int) = pg := ⟨_, rfl⟩
  obtain ⟨tk, htk⟩ : ∃ tk : Int, s.ticks = tk := ⟨_, rfl⟩
  rw [hpg, htk] at HP HI
  rw [hpg] at hd
  rw [hpg, htk]
  clear hs h hpp hpg htk hu hS2 hl hbs hn
  go_enter Try.func21, Try.ntmps21
  go_wp2_with (go_at_call 57; (with_reducible refine (HI.out _).mono ?_); rintro e' w1 ⟨rfl, hb⟩; obtain ⟨e0, e1, hbb⟩ := boxes2 hb; obtain ⟨a0, a1, a2, f1, f2, f0⟩ := box3 e0; obtain ⟨b0, b1, b2, g1, g2, g0⟩ := box3 e1; have HE0 := Lib.hid e0; have HE1 := Lib.hid e1; have HBB := Lib.hid hbb; clear hb e0 e1 hbb)
  go_region_with (first
    | (go_at_call 58; (with_reducible refine (HT.out _).mono ?_); rintro e' w3 ⟨rfl, rfl⟩)
    | (go_at_call 62; refine (HP.out _ (by exact HBB.out.drew)).mono ?_; rintro e' w4 ⟨v', rfl, hs4, hb4⟩; obtain ⟨lA2, lm2, lc2, rfl⟩ := refS_form hs4; obtain ⟨b0', b1', b2', g1', g2', g0'⟩ := box3 ((hb4.block _ (Array.getElem?_eq_some_iff.1 HE1.out).1).trans HE1.out); have HB4 := Lib.hid (HBB.out.trans ((show Below w1.heap.size w1 w4 from (Below.refl _ _).drew.trans hb4).mono HBB.out.size)); have HS4 := Lib.hid (refS_set3 (x := .int .i64 (S2.pages : Int)) (y := .slice lA2 lm2 lc2) (z := .int .i64 S2.ticks) hs4 ((hb4.block _ (Array.getElem?_eq_some_iff.1 HE1.out).1).trans HE1.out) (by decide)); clear hb4 hs4))
  all_goals
    go_wp2
    refine bodyPost_ret (v := .tuple #[.agg #[.int .i64 (S2.pages : Int), .slice lA2 lm2 lc2, .int .i64 S2.ticks], .int .i64 0]) ?_ rfl ?_
    · simp [results, Try.results21, go_sem, Act.put, b0', b1', b2']
    · exact ⟨_, rfl, HS4.out, ((HB4.out.setCell (by show W.heap.size ≤ W.heap.size + 1; omega) _).setCell (by show W.heap.size ≤ W.heap.size + 1; omega) _).setCell (by show W.heap.size ≤ W.heap.size + 1; omega) _⟩

set_option maxRecDepth 100000 in
set_option maxHeartbeats 4000000 in
theorem ref03Zero_ok {base q : Nat} {v : Value} {s : SpS} (t n : Nat) (W : World) (hs : RefS base q W v s) (hq : q ≤ 100000) (hB : base ≤ W.heap.size) (h : t + n ≤ s.pages * 4096) :
    Calls Try.prog 23 #[v, .int .u64 (t : Int), .int .u64 (n : Int)] W fun e w' => ∃ v', e = .returned (.tuple #[v', .int .i64 0]) ∧ RefS base (q + 1) w' v' (tick { s with mem := blank s.mem t n } (touchedI t n)) ∧ Below W.heap.size W w' := by
  have hpp : s.pages ≤ 1048576 := by obtain ⟨_, _, _, _, _, _, _, _, h⟩ := hs; exact h
  have HI := Lib.hid (fun W1 => refS_in hs (t : Int) (n : Int) W1 (by omega) (by omega))
  have HT := Lib.hid (fun W1 => ref03Touched_any (t : Int) (n : Int) W1 (by omega) (by omega) (by omega))
  obtain ⟨u, hu⟩ : ∃ u, touchedI (t : Int) (n : Int) = u := ⟨_, rfl⟩
  rw [hu] at HT ⊢
  have HP := Lib.hid (fun (W1 : World) (hb : Below W.heap.size W W1) => ref03put_any ⟨t, n, [], true⟩ u W1 (hs.below hb) ⟨(fun h => by cases h), (fun y hy => by cases hy), by show t + n ≤ 4294967296; omega⟩ hq (by have := hb.size; omega))
  rw [show strOfNums [] = (⟨#[]⟩ : ByteArray) from rfl] at HP
  obtain ⟨LA, Lm, Lc, rfl⟩ := refS_form hs
  have hd : decide ((t : Int) + (n : Int) ≤ (s.pages : Int) * 4096) = true := decide_eq_true (by omega)
  obtain ⟨S2, hS2⟩ : ∃ S2, tick { s with mem := blank s.mem t n } u = S2 := ⟨_, rfl⟩
  rw [show (tick { s with mem := LW.app s.mem ⟨t, n, [], true⟩ } u) = S2 from hS2] at HP
  rw [hS2]
  obtain ⟨pg, hpg⟩ : ∃ pg : Int, (s.pages : Int) = pg := ⟨_, rfl⟩
  obtain ⟨tk, htk⟩ : ∃ tk : Int, s.ticks = tk := ⟨_, rfl⟩
  rw [hpg, htk] at HP HI
  rw [hpg] at hd
  rw [hpg, htk]
  clear hs h hpp hpg htk hu hS2 
  go_enter Try.func23, Try.ntmps23
  go_wp2_with (go_at_call 57; (with_reducible refine (HI.out _).mono ?_); rintro e' w1 ⟨rfl, hb⟩; obtain ⟨e0, e1, hbb⟩ := boxes2 hb; obtain ⟨a0, a1, a2, f1, f2, f0⟩ := box3 e0; obtain ⟨b0, b1, b2, g1, g2, g0⟩ := box3 e1; have HE0 := Lib.hid e0; have HE1 := Lib.hid e1; have HBB := Lib.hid hbb; clear hb e0 e1 hbb)
  go_region_with (first
    | (go_at_call 58; (with_reducible refine (HT.out _).mono ?_); rintro e' w3 ⟨rfl, rfl⟩)
    | (go_at_call 62; refine (HP.out _ (by exact HBB.out.drew)).mono ?_; rintro e' w4 ⟨v', rfl, hs4, hb4⟩; obtain ⟨lA2, lm2, lc2, rfl⟩ := refS_form hs4; obtain ⟨b0', b1', b2', g1', g2', g0'⟩ := box3 ((hb4.block _ (Array.getElem?_eq_some_iff.1 HE1.out).1).trans HE1.out); have HB4 := Lib.hid (HBB.out.trans ((show Below w1.heap.size w1 w4 from (Below.refl _ _).drew.trans hb4).mono HBB.out.size)); have HS4 := Lib.hid (refS_set3 (x := .int .i64 (S2.pages : Int)) (y := .slice lA2 lm2 lc2) (z := .int .i64 S2.ticks) hs4 ((hb4.block _ (Array.getElem?_eq_some_iff.1 HE1.out).1).trans HE1.out) (by decide)); clear hb4 hs4))
  all_goals
    go_wp2
    refine bodyPost_ret (v := .tuple #[.agg #[.int .i64 (S2.pages : Int), .slice lA2 lm2 lc2, .int .i64 S2.ticks], .int .i64 0]) ?_ rfl ?_
    · simp [results, Try.results23, go_sem, Act.put, b0', b1', b2']
    · exact ⟨_, rfl, HS4.out, ((HB4.out.setCell (by show W.heap.size ≤ W.heap.size + 1; omega) _).setCell (by show W.heap.size ≤ W.heap.size + 1; omega) _).setCell (by show W.heap.size ≤ W.heap.size + 1; omega) _⟩

set_option maxRecDepth 100000 in
set_option maxHeartbeats 4000000 in
theorem ref03Copy_err1 {base q : Nat} {v : Value} {s : SpS} (t f n : Int) (W : World) (hs : RefS base q W v s) (ht : 0 ≤ t ∧ t ≤ 18446744073709551615) (hn : 0 ≤ n ∧ n ≤ 18446744073709551615) (h : ¬ t + n ≤ (s.pages : Int) * 4096) :
    Calls Try.prog 25 #[v, .int .u64 t, .int .u64 f, .int .u64 n] W fun e w' => e = .returned (.tuple #[v, .int .i64 3]) ∧ Below W.heap.size W w' := by
  have HI1 := Lib.hid (fun W1 => refS_in hs t n W1 ht hn)
  obtain ⟨LA, Lm, Lc, rfl⟩ := refS_form hs
  generalize (s.pages : Int) = pg at *
  generalize s.ticks = tk at *
  clear hs
  have hd : decide (t + n ≤ pg * 4096) = false := decide_eq_false h
  clear h
  go_enter Try.func25, Try.ntmps25
  go_wp2_with (go_at_call 57; (with_reducible refine (HI1.out _).mono ?_); rintro e' w1 ⟨rfl, hb⟩; obtain ⟨e0, e1, hbb⟩ := boxes2 hb; obtain ⟨a0, a1, a2, f1, f2, f0⟩ := box3 e0; obtain ⟨b0, b1, b2, g1, g2, g0⟩ := box3 e1; have HE0 := Lib.hid e0; have HE1 := Lib.hid e1; have HBB := Lib.hid hbb; clear hb e0 e1 hbb)
  refine bodyPost_ret (v := .tuple #[.agg #[.int .i64 pg, .slice LA Lm Lc, .int .i64 tk], .int .i64 3]) ?_ rfl ?_
  · simp [results, Try.results25, go_sem, b0, b1, b2]
  · exact ⟨rfl, ((HBB.out.setCell (by show W.heap.size ≤ W.heap.size + 1; omega) _).setCell (by show W.heap.size ≤ W.heap.size + 1; omega) _).setCell (by show W.heap.size ≤ W.heap.size + 1; omega) _⟩

set_option maxRecDepth 100000 in
set_option maxHeartbeats 4000000 in
theorem ref03Copy_err2 {base q : Nat} {v : Value} {s : SpS} (t f n : Int) (W : World) (hs : RefS base q W v s) (ht : 0 ≤ t ∧ t ≤ 18446744073709551615) (hf : 0 ≤ f ∧ f ≤ 18446744073709551615) (hn : 0 ≤ n ∧ n ≤ 18446744073709551615) (h : t + n ≤ (s.pages : Int) * 4096) (c : Int) (hc : fitsI ((s.pages : Int) * 4096) f n 1048576 = c) (h0 : c ≠ 0) :
    Calls Try.prog 25 #[v, .int .u64 t, .int .u64 f, .int .u64 n] W fun e w' => e = .returned (.tuple #[v, .int .i64 c]) ∧ Below W.heap.size W w' := by
  have HI1 := Lib.hid (fun W1 => refS_in hs t n W1 ht hn)
  have HI2 := Lib.hid (fun W1 => refS_in hs f n W1 hf hn)
  obtain ⟨LA, Lm, Lc, rfl⟩ := refS_form hs
  generalize (s.pages : Int) = pg at *
  generalize s.ticks = tk at *
  clear hs
  have hd : decide (t + n ≤ pg * 4096) = true := decide_eq_true h
  clear h
  unfold fitsI at hc
  by_cases h1 : f + n ≤ pg * 4096
  · rw [if_pos h1] at hc
    have hd2 : decide (f + n ≤ pg * 4096) = true := decide_eq_true h1
    by_cases h2 : 1048576 < n
    · rw [if_pos h2] at hc
      subst hc
      clear h1
      go_enter Try.func25, Try.ntmps25
      go_wp2_with (first
        | (go_at_call 57; (with_reducible refine (HI1.out _).mono ?_); rintro e' w1 ⟨rfl, hb⟩; obtain ⟨e0, e1, hbb⟩ := boxes2 hb; obtain ⟨a0, a1, a2, f1, f2, f0⟩ := box3 e0; obtain ⟨b0, b1, b2, g1, g2, g0⟩ := box3 e1; have HE0 := Lib.hid e0; have HE1 := Lib.hid e1; have HBB := Lib.hid hbb; clear hb e0 e1 hbb)
        | (go_at_call 57; (with_reducible refine (HI2.out w1).mono ?_); rintro e' w2 ⟨rfl, hb⟩; have e0 := (hb.block _ (Array.getElem?_eq_some_iff.1 HE0.out).1).trans HE0.out; have e1 := (hb.block _ (Array.getElem?_eq_some_iff.1 HE1.out).1).trans HE1.out; obtain ⟨a0', a1', a2', f1', f2', f0'⟩ := box3 e0; obtain ⟨b0', b1', b2', g1', g2', g0'⟩ := box3 e1; have HE0' := Lib.hid e0; have HE1' := Lib.hid e1; have HBB' := Lib.hid (HBB.out.trans (hb.mono HBB.out.size)); clear hb e0 e1 a0 a1 a2 f1 f2 f0 b0 b1 b2 g1 g2 g0))
      refine bodyPost_ret (v := .tuple #[.agg #[.int .i64 pg, .slice LA Lm Lc, .int .i64 tk], .int .i64 1]) ?_ rfl ?_
      · simp [results, Try.results25, go_sem, b0', b1', b2']
      · exact ⟨rfl, ((HBB'.out.setCell (by show W.heap.size ≤ W.heap.size + 1; omega) _).setCell (by show W.heap.size ≤ W.heap.size + 1; omega) _).setCell (by show W.heap.size ≤ W.heap.size + 1; omega) _⟩
    · rw [if_neg h2] at hc
      exact absurd hc.symm h0
  · rw [if_neg h1] at hc
    subst hc
    have hd2 : decide (f + n ≤ pg * 4096) = false := decide_eq_false h1
    clear h1
    go_enter Try.func25, Try.ntmps25
    go_wp2_with (first
      | (go_at_call 57; (with_reducible refine (HI1.out _).mono ?_); rintro e' w1 ⟨rfl, hb⟩; obtain ⟨e0, e1, hbb⟩ := boxes2 hb; obtain ⟨a0, a1, a2, f1, f2, f0⟩ := box3 e0; obtain ⟨b0, b1, b2, g1, g2, g0⟩ := box3 e1; have HE0 := Lib.hid e0; have HE1 := Lib.hid e1; have HBB := Lib.hid hbb; clear hb e0 e1 hbb)
      | (go_at_call 57; (with_reducible refine (HI2.out w1).mono ?_); rintro e' w2 ⟨rfl, hb⟩; have e0 := (hb.block _ (Array.getElem?_eq_some_iff.1 HE0.out).1).trans HE0.out; have e1 := (hb.block _ (Array.getElem?_eq_some_iff.1 HE1.out).1).trans HE1.out; obtain ⟨a0', a1', a2', f1', f2', f0'⟩ := box3 e0; obtain ⟨b0', b1', b2', g1', g2', g0'⟩ := box3 e1; have HE0' := Lib.hid e0; have HE1' := Lib.hid e1; have HBB' := Lib.hid (HBB.out.trans (hb.mono HBB.out.size)); clear hb e0 e1 a0 a1 a2 f1 f2 f0 b0 b1 b2 g1 g2 g0))
    refine bodyPost_ret (v := .tuple #[.agg #[.int .i64 pg, .slice LA Lm Lc, .int .i64 tk], .int .i64 3]) ?_ rfl ?_
    · simp [results, Try.results25, go_sem, b0', b1', b2']
    · exact ⟨rfl, ((HBB'.out.setCell (by show W.heap.size ≤ W.heap.size + 1; omega) _).setCell (by show W.heap.size ≤ W.heap.size + 1; omega) _).setCell (by show W.heap.size ≤ W.heap.size + 1; omega) _⟩

end Go.Proofs.Ytfdhjeeaigfmfaa.Sp
