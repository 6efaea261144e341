/- The reference's space: copy. -/
import Derived.Test.YtfdhjeeaigfmfaaRefStore
import Derived.Test.YtfdhjeeaigfmfaaLawCBack
namespace Go.Proofs.Ytfdhjeeaigfmfaa.Sp
open Go.RowKit Go.WideMaps Go.Proofs.Ytfdhjeeaigfmfaa.In Go.Proofs.Ytfdhjeeaigfmfaa.Plain
set_option linter.unusedVariables false
set_option linter.unusedSimpArgs false

set_option maxRecDepth 100000 in
set_option maxHeartbeats 4000000 in
theorem ref03Copy_ok {base q : Nat} {v : Value} {s : SpS} (t f n : Nat) (W : World) (hs : RefS base q W v s) (hq : q ≤ 100000) (hB : base ≤ W.heap.size) (h : t + n ≤ s.pages * 4096) (hf : f + n ≤ s.pages * 4096) (hn : n ≤ 1048576) (hr : ∀ i, 0 ≤ s.mem i ∧ s.mem i ≤ 255) :
    Calls Try.prog 25 #[v, .int .u64 (t : Int), .int .u64 (f : Int), .int .u64 (n : Int)] W fun e w' => ∃ v', e = .returned (.tuple #[v', .int .i64 0]) ∧ RefS base (q + 1) w' v' (tick { s with mem := lay s.mem t (seen s.mem f n) } (wrap64 (touchedI t n + touchedI f n))) ∧ Below W.heap.size W w' := by
  have hpp : s.pages ≤ 1048576 := by obtain ⟨_, _, _, _, _, _, _, _, h⟩ := hs; exact h
  have HI1 := Lib.hid (fun W1 => refS_in hs (t : Int) (n : Int) W1 (by omega) (by omega))
  have HI2 := Lib.hid (fun W1 => refS_in hs (f : Int) (n : Int) W1 (by omega) (by omega))
  have HT1 := Lib.hid (fun W1 => ref03Touched_any (t : Int) (n : Int) W1 (by omega) (by omega) (by omega))
  have HT2 := Lib.hid (fun W1 => ref03Touched_any (f : Int) (n : Int) W1 (by omega) (by omega) (by omega))
  have HBY := Lib.hid (fun (W1 : World) (hb : Below W.heap.size W W1) => ref03Bytes_any f n W1 (hs.below hb) hq (by omega))
  obtain ⟨u1, hu1⟩ : ∃ u, touchedI (t : Int) (n : Int) = u := ⟨_, rfl⟩
  obtain ⟨u2, hu2⟩ : ∃ u, touchedI (f : Int) (n : Int) = u := ⟨_, rfl⟩
  have hub : 0 ≤ u1 ∧ u1 ≤ 1048577 ∧ 0 ≤ u2 ∧ u2 ≤ 1048577 := by
    rw [← hu1, ← hu2]
    unfold touchedI
    refine ⟨?_, ?_, ?_, ?_⟩ <;> split <;> omega
  rw [hu1, hu2]
  rw [hu1] at HT1
  rw [hu2] at HT2
  obtain ⟨u, hu⟩ : ∃ u, u1 + u2 = u := ⟨_, rfl⟩
  have hw : wrap64 (u1 + u2) = u := by rw [← hu]; unfold wrap64; omega
  rw [hw]
  obtain ⟨l, hl⟩ : ∃ l, seen s.mem f n = l := ⟨_, rfl⟩
  have hll : l.length = n := by rw [← hl, seen_length]
  have hlb : Bs l := by rw [← hl]; exact seen_bs hr f n
  rw [hl] at HBY ⊢
  have HP := Lib.hid (fun (W1 : World) (hb : Below W.heap.size W W1) => ref03put_any ⟨t, n, l, false⟩ u W1 (hs.below hb) ⟨fun _ => hll, hlb, by show t + n ≤ 4294967296; omega⟩ hq (by have := hb.size; omega))
  obtain ⟨LA, Lm, Lc, rfl⟩ := refS_form hs
  have hd : decide ((t : Int) + (n : Int) ≤ (s.pages : Int) * 4096) = true := decide_eq_true (by omega)
  have hd2 : decide ((f : Int) + (n : Int) ≤ (s.pages : Int) * 4096) = true := decide_eq_true (by omega)
  have hn2 : (n : Int) ≤ 1048576 := by omega
  obtain ⟨S2, hS2⟩ : ∃ S2, tick { s with mem := lay s.mem t l } u = S2 := ⟨_, rfl⟩
  rw [show (tick { s with mem := LW.app s.mem ⟨t, n, l, false⟩ } u) = S2 from hS2] at HP
  rw [hS2]
  obtain ⟨pg, hpg⟩ : ∃ pg : Int, (s.pages : Int) = pg := ⟨_, rfl⟩
  obtain ⟨tk, htk⟩ : ∃ tk : Int, s.ticks = tk := ⟨_, rfl⟩
  rw [hpg, htk] at HP HI1 HI2 HBY
  rw [hpg] at hd hd2
  rw [hpg, htk]
  have hwu : IntKind.i64.wrap u = u := by rw [IntKind.wrap_i64]; omega
  have HWU := Lib.hid hwu
  have HUU := Lib.hid hu
  have HUB := Lib.hid hub
  clear hs h hf hpp hpg htk hu1 hu2 hS2 hn hr hl hll hlb hw hu hub hwu
  go_enter Try.func25, Try.ntmps25
  go_wp2_with (first
    | (go_at_call 57; (with_reducible refine (HI1.out _).mono ?_); rintro e' w1 ⟨rfl, hb⟩; obtain ⟨e0, e1, hbb⟩ := boxes2 hb; obtain ⟨a0, a1, a2, f1, f2, f0⟩ := box3 e0; obtain ⟨b0, b1, b2, g1, g2, g0⟩ := box3 e1; have HE0 := Lib.hid e0; have HE1 := Lib.hid e1; have HBB := Lib.hid hbb; clear hb e0 e1 hbb)
    | (go_at_call 57; (with_reducible refine (HI2.out w1).mono ?_); rintro e' w2 ⟨rfl, hb⟩; have e0 := (hb.block _ (Array.getElem?_eq_some_iff.1 HE0.out).1).trans HE0.out; have e1 := (hb.block _ (Array.getElem?_eq_some_iff.1 HE1.out).1).trans HE1.out; obtain ⟨a0', a1', a2', f1', f2', f0'⟩ := box3 e0; obtain ⟨b0', b1', b2', g1', g2', g0'⟩ := box3 e1; have HE0' := Lib.hid e0; have HE1' := Lib.hid e1; have HBB' := Lib.hid (HBB.out.trans (hb.mono HBB.out.size)); clear hb e0 e1 a0 a1 a2 f1 f2 f0 b0 b1 b2 g1 g2 g0))
  have hub := HUB.out
  have hu := HUU.out
  have hwu := HWU.out
  clear hn2 hd hd2
  have KEEP : RowKit.Hid (∀ w' : World, Below w2.heap.size w2 w' → w'.cell? ⟨W.heap.size, 0, none⟩ = some (.int .i64 pg) ∧ w'.cell? ⟨W.heap.size, 1, none⟩ = some (.slice LA Lm Lc) ∧ w'.cell? ⟨W.heap.size, 2, none⟩ = some (.int .i64 tk)) := by
    intro w' hb
    obtain ⟨k0, k1, k2, _⟩ := box3 ((hb.block _ (Array.getElem?_eq_some_iff.1 HE0'.out).1).trans HE0'.out)
    exact ⟨k0, k1, k2⟩
  have KEEP2 : RowKit.Hid (∀ (w' : World) (x y z : Value), w'.cell? ⟨W.heap.size, 0, none⟩ = some (.int .i64 pg) ∧ w'.cell? ⟨W.heap.size, 1, none⟩ = some (.slice LA Lm Lc) ∧ w'.cell? ⟨W.heap.size, 2, none⟩ = some (.int .i64 tk) → (((w'.setCell ⟨W.heap.size + 1, 0, none⟩ x).setCell ⟨W.heap.size + 1, 1, none⟩ y).setCell ⟨W.heap.size + 1, 2, none⟩ z).cell? ⟨W.heap.size, 0, none⟩ = some (.int .i64 pg) ∧ (((w'.setCell ⟨W.heap.size + 1, 0, none⟩ x).setCell ⟨W.heap.size + 1, 1, none⟩ y).setCell ⟨W.heap.size + 1, 2, none⟩ z).cell? ⟨W.heap.size, 1, none⟩ = some (.slice LA Lm Lc) ∧ (((w'.setCell ⟨W.heap.size + 1, 0, none⟩ x).setCell ⟨W.heap.size + 1, 1, none⟩ y).setCell ⟨W.heap.size + 1, 2, none⟩ z).cell? ⟨W.heap.size, 2, none⟩ = some (.int .i64 tk)) := by
    rintro w' x y z ⟨k0, k1, k2⟩
    refine ⟨?_, ?_, ?_⟩ <;> (rw [World.cell?_setCell_far _ _ _ _ (by show W.heap.size + 1 ≠ W.heap.size; omega), World.cell?_setCell_far _ _ _ _ (by show W.heap.size + 1 ≠ W.heap.size; omega), World.cell?_setCell_far _ _ _ _ (by show W.heap.size + 1 ≠ W.heap.size; omega)]; assumption)
  clear a0' a1' a2' f1' f2' f0'
  go_region_held3 (fun w' => w'.cell? ⟨W.heap.size, 0, none⟩ = some (.int .i64 pg) ∧ w'.cell? ⟨W.heap.size, 1, none⟩ = some (.slice LA Lm Lc) ∧ w'.cell? ⟨W.heap.size, 2, none⟩ = some (.int .i64 tk)) (first | exact KEEP.out _ ((Below.refl _ _).drew) | assumption | exact KEEP.out _ B5.out | exact KEEP.out _ B4.out | exact KEEP2.out _ _ _ _ (KEEP.out _ B4.out)) ((first
    | (go_at_call 58; first | ((with_reducible refine (HT1.out _).mono ?_); rintro e' w3 ⟨rfl, rfl⟩) | ((with_reducible refine (HT2.out _).mono ?_); rintro e' w3 ⟨rfl, rfl⟩))
    | (go_at_call 29; refine (HBY.out _ (by exact HBB'.out.drew)).mono ?_; rintro e' w5 ⟨rfl, hb5⟩; have B5 := Lib.hid (show Below w2.heap.size w2 w5 from (Below.refl _ _).drew.trans hb5); have HB5 := Lib.hid (HBB'.out.trans ((show Below w2.heap.size w2 w5 from (Below.refl _ _).drew.trans hb5).mono HBB'.out.size)); have HE15 := Lib.hid ((hb5.block _ (Array.getElem?_eq_some_iff.1 HE1'.out).1).trans HE1'.out); clear hb5)
    | (go_at_call 62; refine (HP.out w5 HB5.out).mono ?_; rintro e' w4 ⟨v', rfl, hs4, hb4⟩; obtain ⟨lA2, lm2, lc2, rfl⟩ := refS_form hs4; obtain ⟨m0, m1, m2, m3, m4, m5⟩ := box3 ((hb4.block _ (Array.getElem?_eq_some_iff.1 HE15.out).1).trans HE15.out); have B4 := Lib.hid (B5.out.trans (hb4.mono B5.out.size)); have HB4 := Lib.hid (HB5.out.trans (hb4.mono HB5.out.size)); have HS4 := Lib.hid (refS_set3 (x := .int .i64 (S2.pages : Int)) (y := .slice lA2 lm2 lc2) (z := .int .i64 S2.ticks) hs4 ((hb4.block _ (Array.getElem?_eq_some_iff.1 HE15.out).1).trans HE15.out) (by decide)); clear hb4 hs4)))
  all_goals
    go_wp2
    refine bodyPost_ret (v := .tuple #[.agg #[.int .i64 (S2.pages : Int), .slice lA2 lm2 lc2, .int .i64 S2.ticks], .int .i64 0]) ?_ rfl ?_
    · simp [results, Try.results25, go_sem, Act.put, m0, m1, m2]
    · exact ⟨_, rfl, HS4.out, ((HB4.out.setCell (by show W.heap.size ≤ W.heap.size + 1; omega) _).setCell (by show W.heap.size ≤ W.heap.size + 1; omega) _).setCell (by show W.heap.size ≤ W.heap.size + 1; omega) _⟩
end Go.Proofs.Ytfdhjeeaigfmfaa.Sp
