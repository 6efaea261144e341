/- The reference's numbers in a space. -/
import Derived.Test.YtfdhjeeaigfmfaaRefNum
import Derived.Test.YtfdhjeeaigfmfaaRefCopy
namespace Go.Proofs.Ytfdhjeeaigfmfaa.Sp
open Go.RowKit Go.WideMaps Go.Proofs.Ytfdhjeeaigfmfaa.In Go.Proofs.Ytfdhjeeaigfmfaa.Plain
set_option linter.unusedVariables false
set_option linter.unusedSimpArgs false

set_option maxRecDepth 100000 in
set_option maxHeartbeats 4000000 in
theorem ref04Right_any (t k : Int) (W : World) (ht : 0 ≤ t ∧ t ≤ 18446744073709551615) : Calls Try.prog 72 #[.int .u64 t, .int .i64 k] W fun e w' => e = .returned (.bool (decide (rightC t k))) ∧ W = w' := by
  have HF := Lib.hid (ref02Wide_any k W)
  by_cases hw : wideP k
  · have hd : decide (wideP k) = true := decide_eq_true hw
    have key : ∀ b : Bool, (t % k = 0 ↔ b = true) → decide (rightC t k) = b := fun b hb => by
      cases b with
      | true => exact decide_eq_true ⟨hw, hb.2 rfl⟩
      | false => exact decide_eq_false (fun h => by have := hb.1 h.2; cases this)
    have HKEY := Lib.hid key
    clear key
    rcases hw with rfl | rfl | rfl | rfl
    all_goals
      rw [hd] at HF
      clear hd
      go_enter Try.func72, Try.ntmps72
      go_wp2_with (go_at_call 89; (with_reducible refine HF.out.mono ?_); rintro e' w' ⟨rfl, rfl⟩)
      go_ret
      refine ⟨congrArg (fun b => Ending.returned (.bool b)) (HKEY.out _ ?_).symm, rfl⟩
      simp
  · have hd : decide (wideP k) = false := decide_eq_false hw
    have hf : decide (rightC t k) = false := decide_eq_false (fun h => hw h.1)
    rw [hf]
    rw [hd] at HF
    clear hf hd
    go_enter Try.func72, Try.ntmps72
    go_wp2_with (go_at_call 89; (with_reducible refine HF.out.mono ?_); rintro e' w' ⟨rfl, rfl⟩)
    go_ret
    exact ⟨rfl, rfl⟩

set_option maxRecDepth 100000 in
set_option maxHeartbeats 4000000 in
theorem ref04Get_arg {base q : Nat} {v : Value} {s : SpS} (t k : Int) (W : World) (hs : RefS base q W v s) (ht : 0 ≤ t ∧ t ≤ 18446744073709551615) (h : ¬ rightC t k) :
    Calls Try.prog 41 #[v, .int .u64 t, .int .i64 k] W fun e w' => e = .returned (.tuple #[v, .int .u64 0, .int .i64 1]) ∧ Below W.heap.size W w' := by
  have HR := Lib.hid (fun W1 => ref04Right_any t k W1 ht)
  have hd : decide (rightC t k) = false := decide_eq_false h
  obtain ⟨LA, Lm, Lc, rfl⟩ := refS_form hs
  generalize (s.pages : Int) = pg at *
  generalize s.ticks = tk at *
  clear hs h
  go_enter Try.func41, Try.ntmps41
  go_wp2_with (go_at_call 72; (with_reducible refine (HR.out _).mono ?_); rintro e' w1 ⟨rfl, rfl⟩)
  refine bodyPost_ret (v := .tuple #[.agg #[.int .i64 pg, .slice LA Lm Lc, .int .i64 tk], .int .u64 0, .int .i64 1]) ?_ rfl ?_
  · simp [results, Try.results41, go_sem]
  · exact ⟨rfl, ((Below.refl _ _).alloc (Nat.le_refl _) _).alloc (by simp) _⟩

set_option maxRecDepth 100000 in
set_option maxHeartbeats 4000000 in
theorem ref04Get_gen {base q : Nat} {v v1 : Value} {s s1 : SpS} (t k c x : Int) (l : List Int) (W : World) (hs : RefS base q W v s) (h : rightC t k) (ht : 0 ≤ t ∧ t ≤ 18446744073709551615) (hll : l.length ≤ 8) (hb : Bs l) (hx : num l = x)
    (hL : ∀ W1, Below W.heap.size W W1 → Calls Try.prog 19 #[v, .int .u64 t, .int .u64 k] W1 fun e w' => ∃ v', e = .returned (.tuple #[v', .string (strOfNums l), .int .i64 c]) ∧ RefS base q w' v' s1 ∧ Below W1.heap.size W1 w') :
    Calls Try.prog 41 #[v, .int .u64 t, .int .i64 k] W fun e w' => ∃ v', e = .returned (.tuple #[v', .int .u64 x, .int .i64 c]) ∧ RefS base q w' v' s1 ∧ Below W.heap.size W w' := by
  have hk := h.1.bd
  have HR := Lib.hid (fun W1 => ref04Right_any t k W1 ht)
  have hd : decide (rightC t k) = true := decide_eq_true h
  have HL := Lib.hid hL
  have HN := Lib.hid (fun W1 => ref02Number_any l W1 hll hb)
  rw [hx] at HN
  obtain ⟨LA, Lm, Lc, rfl⟩ := refS_form hs
  generalize (s.pages : Int) = pg at *
  generalize s.ticks = tk at *
  generalize strOfNums l = str at *
  clear hs h hL hx hb hll
  go_enter Try.func41, Try.ntmps41
  go_wp2_with (go_at_call 72; (with_reducible refine (HR.out _).mono ?_); rintro e' w1 ⟨rfl, rfl⟩)
  refine (HL.out _ (((Below.refl _ _).alloc (Nat.le_refl _) _).alloc (by simp) _)).mono ?_
  rintro e' w2 ⟨v', rfl, hs2, hb2⟩
  obtain ⟨A2, m2, c2, rfl⟩ := refS_form hs2
  obtain ⟨e0, e1, hbb⟩ := boxes2 hb2
  have b0 := fun o => (box3 (al_old (o := o) e1)).1
  have b1 := fun o => (box3 (al_old (o := o) e1)).2.1
  have b2 := fun o => (box3 (al_old (o := o) e1)).2.2.1
  have g1 := fun o => (box3 (al_old (o := o) e1)).2.2.2.1
  have g2 := fun o => (box3 (al_old (o := o) e1)).2.2.2.2.1
  have g0 := fun o => (box3 (al_old (o := o) e1)).2.2.2.2.2
  have HS2 := Lib.hid hs2
  have HB2 := Lib.hid hbb
  have HE1 := Lib.hid e1
  clear hs2 hb2 hbb e0 e1
  go_wp2_with fail
  clear hd hk ht
  go_region_with (go_at_call 73; (with_reducible refine (HN.out _).mono ?_); rintro e' w3 ⟨rfl, rfl⟩)
  all_goals
    go_wp2
    refine bodyPost_ret (v := .tuple #[.agg #[.int .i64 (s1.pages : Int), .slice A2 m2 c2, .int .i64 s1.ticks], .int .u64 x, .int .i64 c]) ?_ rfl ?_
    · simp [results, Try.results41, go_sem, Act.put, b0, b1, b2]
    · exact ⟨_, rfl, (refS_set3 (HS2.out.below ((Below.refl _ _).alloc (Nat.le_refl _) _)) (al_old HE1.out) (by decide)).below (Below.refl _ _).drew, ((((HB2.out.alloc HB2.out.size _).setCell (by show W.heap.size ≤ W.heap.size + 1; omega) _).setCell (by show W.heap.size ≤ W.heap.size + 1; omega) _).setCell (by show W.heap.size ≤ W.heap.size + 1; omega) _).drew⟩
theorem ref04Get_ok {base q : Nat} {v : Value} {s : SpS} (t k : Nat) (W : World) (hs : RefS base q W v s) (hq : q ≤ 100000) (h : rightC (t : Int) (k : Int)) (hb : t + k ≤ s.pages * 4096) (hr : ∀ i, 0 ≤ s.mem i ∧ s.mem i ≤ 255) :
    Calls Try.prog 41 #[v, .int .u64 (t : Int), .int .i64 (k : Int)] W fun e w' => ∃ v', e = .returned (.tuple #[v', .int .u64 (num (seen s.mem t k)), .int .i64 0]) ∧ RefS base q w' v' (tick s (touchedI t k)) ∧ Below W.heap.size W w' := by
  have hk := h.1.bd
  have hp : s.pages ≤ 1048576 := by obtain ⟨_, _, _, _, _, _, _, _, h⟩ := hs; exact h
  exact ref04Get_gen (v1 := v) (t : Int) (k : Int) 0 _ (seen s.mem t k) W hs h (by omega) (by rw [seen_length]; omega) (seen_bs hr t k) rfl (fun W1 hb1 => ref03Load_ok t k W1 (hs.below hb1) hq hb (by omega))
theorem ref04Get_range {base q : Nat} {v : Value} {s : SpS} (t k : Int) (W : World) (hs : RefS base q W v s) (h : rightC t k) (ht : 0 ≤ t ∧ t ≤ 18446744073709551615) (hb : ¬ t + k ≤ (s.pages : Int) * 4096) :
    Calls Try.prog 41 #[v, .int .u64 t, .int .i64 k] W fun e w' => ∃ v', e = .returned (.tuple #[v', .int .u64 0, .int .i64 3]) ∧ RefS base q w' v' s ∧ Below W.heap.size W w' := by
  have hk := h.1.bd
  refine ref04Get_gen (v1 := v) t k 3 0 [] W hs h ht (by decide) (fun x hx => by cases hx) rfl (fun W1 hb1 => ?_)
  refine (ref03Load_err t k W1 (hs.below hb1) ht (by omega) 3 (by unfold fitsI; rw [if_neg hb]) (by decide)).mono ?_
  rintro e w' ⟨he, hb2⟩
  exact ⟨v, he, (hs.below hb1).below hb2, hb2⟩

set_option maxRecDepth 100000 in
set_option maxHeartbeats 4000000 in
theorem ref04Put_arg {base q : Nat} {v : Value} {s : SpS} (t k n : Int) (W : World) (hs : RefS base q W v s) (ht : 0 ≤ t ∧ t ≤ 18446744073709551615) (h : ¬ rightC t k) :
    Calls Try.prog 42 #[v, .int .u64 t, .int .i64 k, .int .u64 n] W fun e w' => e = .returned (.tuple #[v, .int .i64 1]) ∧ Below W.heap.size W w' := by
  have HR := Lib.hid (fun W1 => ref04Right_any t k W1 ht)
  have hd : decide (rightC t k) = false := decide_eq_false h
  obtain ⟨LA, Lm, Lc, rfl⟩ := refS_form hs
  generalize (s.pages : Int) = pg at *
  generalize s.ticks = tk at *
  clear hs h
  go_enter Try.func42, Try.ntmps42
  go_wp2_with (go_at_call 72; (with_reducible refine (HR.out _).mono ?_); rintro e' w1 ⟨rfl, rfl⟩)
  refine bodyPost_ret (v := .tuple #[.agg #[.int .i64 pg, .slice LA Lm Lc, .int .i64 tk], .int .i64 1]) ?_ rfl ?_
  · simp [results, Try.results42, go_sem]
  · exact ⟨rfl, ((Below.refl _ _).alloc (Nat.le_refl _) _).alloc (by simp) _⟩

set_option maxRecDepth 100000 in
set_option maxHeartbeats 4000000 in
theorem ref04Put_gen {base q q' : Nat} {v : Value} {s s1 : SpS} (t : Int) (k : Nat) (n c : Int) (W : World) (hs : RefS base q W v s) (h : rightC t (k : Int)) (ht : 0 ≤ t ∧ t ≤ 18446744073709551615) (hn : 0 ≤ n ∧ n ≤ 18446744073709551615)
    (hL : ∀ W1, Below W.heap.size W W1 → Calls Try.prog 21 #[v, .int .u64 t, .string (strOfNums (le k n))] W1 fun e w' => ∃ v', e = .returned (.tuple #[v', .int .i64 c]) ∧ RefS base q' w' v' s1 ∧ Below W1.heap.size W1 w') :
    Calls Try.prog 42 #[v, .int .u64 t, .int .i64 (k : Int), .int .u64 n] W fun e w' => ∃ v', e = .returned (.tuple #[v', .int .i64 c]) ∧ RefS base q' w' v' s1 ∧ Below W.heap.size W w' := by
  have hk := h.1.bd
  have HR := Lib.hid (fun W1 => ref04Right_any t (k : Int) W1 ht)
  have hd : decide (rightC t (k : Int)) = true := decide_eq_true h
  have HL := Lib.hid hL
  have HN := Lib.hid (fun W1 => ref02One_any k n W1 (by omega) hn)
  obtain ⟨LA, Lm, Lc, rfl⟩ := refS_form hs
  generalize (s.pages : Int) = pg at *
  generalize s.ticks = tk at *
  generalize strOfNums (le k n) = str at *
  clear hs h hL
  go_enter Try.func42, Try.ntmps42
  go_wp2_with (go_at_call 72; (with_reducible refine (HR.out _).mono ?_); rintro e' w1 ⟨rfl, rfl⟩)
  have hE0 : ((W.alloc (.cells #[.int .i64 pg, .slice LA Lm Lc, .int .i64 tk] 29)).alloc (.cells #[.int .i64 0, .slice none 0 0, .int .i64 0] 29)).heap[W.heap.size]? = some (.cells #[.int .i64 pg, .slice LA Lm Lc, .int .i64 tk] 29 (0, 0)) := al_old (al_new rfl)
  have hE1 : ((W.alloc (.cells #[.int .i64 pg, .slice LA Lm Lc, .int .i64 tk] 29)).alloc (.cells #[.int .i64 0, .slice none 0 0, .int .i64 0] 29)).heap[W.heap.size + 1]? = some (.cells #[.int .i64 0, .slice none 0 0, .int .i64 0] 29 (0, 0)) := al_new (by simp)
  have hBW : Below W.heap.size W ((W.alloc (.cells #[.int .i64 pg, .slice LA Lm Lc, .int .i64 tk] 29)).alloc (.cells #[.int .i64 0, .slice none 0 0, .int .i64 0] 29)) := ((Below.refl _ _).alloc (Nat.le_refl _) _).alloc (by simp) _
  generalize (W.alloc (.cells #[.int .i64 pg, .slice LA Lm Lc, .int .i64 tk] 29)).alloc (.cells #[.int .i64 0, .slice none 0 0, .int .i64 0] 29) = W2 at *
  have HE0 := Lib.hid hE0
  have HE1 := Lib.hid hE1
  have HBW := Lib.hid hBW
  clear hE0 hE1 hBW hd hk ht hn
  have KEEP : RowKit.Hid (∀ w' : World, Below W2.heap.size W2 w' → w'.cell? ⟨W.heap.size, 0, none⟩ = some (.int .i64 pg) ∧ w'.cell? ⟨W.heap.size, 1, none⟩ = some (.slice LA Lm Lc) ∧ w'.cell? ⟨W.heap.size, 2, none⟩ = some (.int .i64 tk)) := by
    intro w' hb
    obtain ⟨k0, k1, k2, _⟩ := box3 ((hb.block _ (Array.getElem?_eq_some_iff.1 HE0.out).1).trans HE0.out)
    exact ⟨k0, k1, k2⟩
  have KEEP2 : RowKit.Hid (∀ (w' : World) (x y z : Value), w'.cell? ⟨W.heap.size, 0, none⟩ = some (.int .i64 pg) ∧ w'.cell? ⟨W.heap.size, 1, none⟩ = some (.slice LA Lm Lc) ∧ w'.cell? ⟨W.heap.size, 2, none⟩ = some (.int .i64 tk) → (((w'.setCell ⟨W.heap.size + 1, 0, none⟩ x).setCell ⟨W.heap.size + 1, 1, none⟩ y).setCell ⟨W.heap.size + 1, 2, none⟩ z).cell? ⟨W.heap.size, 0, none⟩ = some (.int .i64 pg) ∧ (((w'.setCell ⟨W.heap.size + 1, 0, none⟩ x).setCell ⟨W.heap.size + 1, 1, none⟩ y).setCell ⟨W.heap.size + 1, 2, none⟩ z).cell? ⟨W.heap.size, 1, none⟩ = some (.slice LA Lm Lc) ∧ (((w'.setCell ⟨W.heap.size + 1, 0, none⟩ x).setCell ⟨W.heap.size + 1, 1, none⟩ y).setCell ⟨W.heap.size + 1, 2, none⟩ z).cell? ⟨W.heap.size, 2, none⟩ = some (.int .i64 tk)) := by
    rintro w' x y z ⟨k0, k1, k2⟩
    refine ⟨?_, ?_, ?_⟩ <;> (rw [World.cell?_setCell_far _ _ _ _ (by show W.heap.size + 1 ≠ W.heap.size; omega), World.cell?_setCell_far _ _ _ _ (by show W.heap.size + 1 ≠ W.heap.size; omega), World.cell?_setCell_far _ _ _ _ (by show W.heap.size + 1 ≠ W.heap.size; omega)]; assumption)
  go_region_held3 (fun w' => w'.cell? ⟨W.heap.size, 0, none⟩ = some (.int .i64 pg) ∧ w'.cell? ⟨W.heap.size, 1, none⟩ = some (.slice LA Lm Lc) ∧ w'.cell? ⟨W.heap.size, 2, none⟩ = some (.int .i64 tk)) (first | exact KEEP.out _ ((Below.refl _ _).drew) | exact KEEP.out _ B3.out | exact KEEP.out _ B4.out | exact KEEP2.out _ _ _ _ (KEEP.out _ B4.out)) ((first
    | (go_at_call 74; (with_reducible refine (HN.out _).mono ?_); rintro e' w3 ⟨rfl, hb3⟩; have B3 := Lib.hid (show Below W2.heap.size W2 w3 from (Below.refl _ _).drew.trans hb3); clear hb3)
    | (go_at_call 21; refine (HL.out w3 (HBW.out.trans (B3.out.mono HBW.out.size))).mono ?_; rintro e' w4 ⟨v', rfl, hs4, hb4⟩; obtain ⟨lA2, lm2, lc2, rfl⟩ := refS_form hs4; have B4 := Lib.hid (B3.out.trans (hb4.mono B3.out.size)); obtain ⟨m0, m1, m2, m3, m4, m5⟩ := box3 ((B4.out.block _ (Array.getElem?_eq_some_iff.1 HE1.out).1).trans HE1.out); have HB4 := Lib.hid (HBW.out.trans (B4.out.mono HBW.out.size)); have HS4 := Lib.hid (refS_set3 (x := .int .i64 (s1.pages : Int)) (y := .slice lA2 lm2 lc2) (z := .int .i64 s1.ticks) hs4 ((B4.out.block _ (Array.getElem?_eq_some_iff.1 HE1.out).1).trans HE1.out) (by decide)); clear hb4 hs4)))
  all_goals
    go_wp2
    refine bodyPost_ret (v := .tuple #[.agg #[.int .i64 (s1.pages : Int), .slice lA2 lm2 lc2, .int .i64 s1.ticks], .int .i64 c]) ?_ rfl ?_
    · simp [results, Try.results42, go_sem, Act.put, m0, m1, m2]
    · exact ⟨_, rfl, HS4.out, ((HB4.out.setCell (by show W.heap.size ≤ W.heap.size + 1; omega) _).setCell (by show W.heap.size ≤ W.heap.size + 1; omega) _).setCell (by show W.heap.size ≤ W.heap.size + 1; omega) _⟩
theorem ref04Put_ok {base q : Nat} {v : Value} {s : SpS} (t k : Nat) (n : Int) (W : World) (hs : RefS base q W v s) (hq : q ≤ 100000) (hB : base ≤ W.heap.size) (h : rightC (t : Int) (k : Int)) (hn : 0 ≤ n ∧ n ≤ 18446744073709551615) (hb : t + k ≤ s.pages * 4096) :
    Calls Try.prog 42 #[v, .int .u64 (t : Int), .int .i64 (k : Int), .int .u64 n] W fun e w' => ∃ v', e = .returned (.tuple #[v', .int .i64 0]) ∧ RefS base (q + 1) w' v' (tick { s with mem := lay s.mem t (le k n) } (touchedI t k)) ∧ Below W.heap.size W w' := by
  have hk := h.1.bd
  have hp : s.pages ≤ 1048576 := by obtain ⟨_, _, _, _, _, _, _, _, h⟩ := hs; exact h
  exact ref04Put_gen (t : Int) k n 0 W hs h (by omega) hn (fun W1 hb1 => ref03Store_ok t k (le k n) W1 (hs.below hb1) hq (Nat.le_trans hB hb1.size) hb (le_length k n) (le_bs k n) (by omega))
theorem ref04Put_range {base q : Nat} {v : Value} {s : SpS} (t : Int) (k : Nat) (n : Int) (W : World) (hs : RefS base q W v s) (h : rightC t (k : Int)) (ht : 0 ≤ t ∧ t ≤ 18446744073709551615) (hn : 0 ≤ n ∧ n ≤ 18446744073709551615) (hb : ¬ t + k ≤ (s.pages : Int) * 4096) :
    Calls Try.prog 42 #[v, .int .u64 t, .int .i64 (k : Int), .int .u64 n] W fun e w' => ∃ v', e = .returned (.tuple #[v', .int .i64 3]) ∧ RefS base q w' v' s ∧ Below W.heap.size W w' := by
  have hk := h.1.bd
  refine ref04Put_gen t k n 3 W hs h ht hn (fun W1 hb1 => ?_)
  refine (ref03Store_err t k (le k n) W1 (hs.below hb1) ht (le_length k n) (by omega) 3 (by unfold fitsI; rw [if_neg hb]) (by decide)).mono ?_
  rintro e w' ⟨he, hb2⟩
  exact ⟨v, he, (hs.below hb1).below hb2, hb2⟩
end Go.Proofs.Ytfdhjeeaigfmfaa.Sp
