-- Written by a program of this session (a turned copy of a tool), out of the translation's print. Not trusted: Lean checks it.
import Derived.Test.YtbbhfbpkopocgaaPCacheFillsx0
import Derived.Test.YtbbhfbpkopocgaaPCacheFillsx1
namespace Go.Proofs.Ytbbhfbpkopocgaa.PCacheFills
open Go.RowKit Go.Proofs.YtbbhfbpkopocgaaW.PrintWords Go.Proofs.YtbbhfbpkopocgaaW.PrintLast Go.Proofs.YtbbhfbpkopocgaaW.PrintMore
attribute [local go_sem] max2_int min2_int max_two min_two max_three min_three max_four min_four   -- for this text's walks alone
set_option linter.unusedVariables false
set_option linter.unusedSimpArgs false

/-! ### steadinglaw09_CacheFills: function 4 -/
mutual
def steadinglaw09_CacheFills.l0 : Nat → Int → Int → Int → Hand.Stacks → Option (Bool)
  | 0, _, _, _, _ => none
  | k + 1, x1, x7, x8, x121000 => if x8 < 5 then (steadinglaw09_CacheFills.l1 k x1 x7 x8 0 x121000) else ((cache_Cache_All.f x121000).bind fun bt123 => (if (bt123.1.length : Int) = 28 then ((cache_Cache_Pages.f bt123.2).bind fun bt127 => (steadinglaw09_CacheFills.j2 k x1 x7 bt123.1 (bt127.1 != 508) bt127.2)) else (steadinglaw09_CacheFills.j2 k x1 x7 bt123.1 true bt123.2)))
def steadinglaw09_CacheFills.l1 : Nat → Int → Int → Int → Int → Hand.Stacks → Option (Bool)
  | 0, _, _, _, _, _ => none
  | k + 1, x1, x7, x8, x9, x121000 => if x9 < 7 then ((cache_Cache_Push.f x121000 x9 (wrap64 ((wrap64 (x7 + (wrap64 (10 * x9)))) + x8))).bind fun bt121 => (if (bt121.1 != (decide (x8 < 4))) = true then (some false) else (steadinglaw09_CacheFills.l1 k x1 x7 x8 (wrap64 (x9 + 1)) bt121.2))) else (steadinglaw09_CacheFills.l0 k x1 x7 (wrap64 (x8 + 1)) x121000)
def steadinglaw09_CacheFills.j2 : Nat → Int → Int → List (S36) → Bool → Hand.Stacks → Option (Bool)
  | 0, _, _, _, _, _ => none
  | k + 1, x1, x7, x10, x54, x121000 => if x54 = true then (some false) else (steadinglaw09_CacheFills.l2 k x1 x7 x10 0 x121000)
def steadinglaw09_CacheFills.l2 : Nat → Int → Int → List (S36) → Int → Hand.Stacks → Option (Bool)
  | 0, _, _, _, _, _ => none
  | k + 1, x1, x7, x10, x11, x121000 => if x11 < (x10.length : Int) then (if 0 ≤ x11 then (if ((rd_T36 x10 x11).f0) = (wrap64 ((wrap64 (x7 + (wrap64 (10 * (wrap64 (Int.tdiv x11 4)))))) + (Int.tmod x11 4))) then ((classes_Pages.f (wrap64 (Int.tdiv x11 4))).bind fun t131 => (if ((rd_T36 x10 x11).f1) = t131 then (steadinglaw09_CacheFills.l2 k x1 x7 x10 (wrap64 (x11 + 1)) x121000) else (some false))) else (some false)) else (none)) else ((cache_Cache_Pop.f x121000 (wrap64 (Int.tmod x1 7))).bind fun bt132 => (if bt132.2.1 = true then (if bt132.1 = (wrap64 ((wrap64 (x7 + (wrap64 (10 * (wrap64 (Int.tmod x1 7)))))) + 3)) then ((cache_Cache_Len.f bt132.2.2 (wrap64 (Int.tmod x1 7))).bind fun bt135 => (if bt135.1 = 3 then ((cache_Cache_Push.f bt135.2 (wrap64 (Int.tmod x1 7)) bt132.1).bind fun bt137 => (steadinglaw09_CacheFills.j4 k x7 (!bt137.1) bt137.2)) else (steadinglaw09_CacheFills.j4 k x7 true bt135.2))) else (steadinglaw09_CacheFills.j4 k x7 true bt132.2.2)) else (steadinglaw09_CacheFills.j4 k x7 true bt132.2.2)))
def steadinglaw09_CacheFills.j4 : Nat → Int → Bool → Hand.Stacks → Option (Bool)
  | 0, _, _, _ => none
  | k + 1, x7, x118, x121000 => if x118 = true then (some false) else (steadinglaw09_CacheFills.l3 k x7 0 x121000)
def steadinglaw09_CacheFills.l3 : Nat → Int → Int → Hand.Stacks → Option (Bool)
  | 0, _, _, _ => none
  | k + 1, x7, x15, x121000 => if x15 < 7 then (steadinglaw09_CacheFills.l4 k x7 x15 3 x121000) else ((cache_Cache_Pages.f x121000).bind fun bt139 => (if bt139.1 = 0 then ((cache_Cache_All.f bt139.2).bind fun bt141 => (some ((bt141.1.length : Int) == 0))) else (some false)))
def steadinglaw09_CacheFills.l4 : Nat → Int → Int → Int → Hand.Stacks → Option (Bool)
  | 0, _, _, _, _ => none
  | k + 1, x7, x15, x16, x121000 => if x16 ≥ 0 then ((cache_Cache_Pop.f x121000 x15).bind fun bt145 => (if bt145.2.1 = true then (if bt145.1 = (wrap64 ((wrap64 (x7 + (wrap64 (10 * x15)))) + x16)) then (steadinglaw09_CacheFills.l4 k x7 x15 (wrap64 (x16 - 1)) bt145.2.2) else (some false)) else (some false))) else (steadinglaw09_CacheFills.l3 k x7 (wrap64 (x15 + 1)) x121000)
end
def steadinglaw09_CacheFills.f (k : Nat) (a0 : Int) (a1 : Int) : Option (Bool) := (steadinglaw09_awake.f).bind fun t118 => (if t118 = true then ((cache_New.f).bind fun t119 => (steadinglaw09_CacheFills.l0 k a1 (wrap64 (a0)) 0 t119)) else (some false))
theorem steadinglaw09_CacheFills.mono_l : ∀ k, (∀ y0 y1 y2 y3, LeO (steadinglaw09_CacheFills.l0 k y0 y1 y2 y3) (steadinglaw09_CacheFills.l0 (k + 1) y0 y1 y2 y3)) ∧ (∀ y0 y1 y2 y3 y4, LeO (steadinglaw09_CacheFills.l1 k y0 y1 y2 y3 y4) (steadinglaw09_CacheFills.l1 (k + 1) y0 y1 y2 y3 y4)) ∧ (∀ y0 y1 y2 y3 y4, LeO (steadinglaw09_CacheFills.j2 k y0 y1 y2 y3 y4) (steadinglaw09_CacheFills.j2 (k + 1) y0 y1 y2 y3 y4)) ∧ (∀ y0 y1 y2 y3 y4, LeO (steadinglaw09_CacheFills.l2 k y0 y1 y2 y3 y4) (steadinglaw09_CacheFills.l2 (k + 1) y0 y1 y2 y3 y4)) ∧ (∀ y0 y1 y2, LeO (steadinglaw09_CacheFills.j4 k y0 y1 y2) (steadinglaw09_CacheFills.j4 (k + 1) y0 y1 y2)) ∧ (∀ y0 y1 y2, LeO (steadinglaw09_CacheFills.l3 k y0 y1 y2) (steadinglaw09_CacheFills.l3 (k + 1) y0 y1 y2)) ∧ (∀ y0 y1 y2 y3, LeO (steadinglaw09_CacheFills.l4 k y0 y1 y2 y3) (steadinglaw09_CacheFills.l4 (k + 1) y0 y1 y2 y3))
  | 0 => ⟨fun _ _ _ _ r h => by simp [steadinglaw09_CacheFills.l0] at h, fun _ _ _ _ _ r h => by simp [steadinglaw09_CacheFills.l1] at h, fun _ _ _ _ _ r h => by simp [steadinglaw09_CacheFills.j2] at h, fun _ _ _ _ _ r h => by simp [steadinglaw09_CacheFills.l2] at h, fun _ _ _ r h => by simp [steadinglaw09_CacheFills.j4] at h, fun _ _ _ r h => by simp [steadinglaw09_CacheFills.l3] at h, fun _ _ _ _ r h => by simp [steadinglaw09_CacheFills.l4] at h⟩
  | k + 1 => by
    obtain ⟨ih0, ih1, ih2, ih3, ih4, ih5, ih6⟩ := steadinglaw09_CacheFills.mono_l k
    refine ⟨?_, ?_, ?_, ?_, ?_, ?_, ?_⟩
    · intro y0 y1 y2 y3
      unfold steadinglaw09_CacheFills.l0
      repeat' first
      | (with_reducible exact ih0 _ _ _ _)
      | (with_reducible exact ih1 _ _ _ _ _)
      | (with_reducible exact ih2 _ _ _ _ _)
      | (with_reducible exact ih3 _ _ _ _ _)
      | (with_reducible exact ih4 _ _ _)
      | (with_reducible exact ih5 _ _ _)
      | (with_reducible exact ih6 _ _ _ _)
      | (with_reducible exact LeO.refl _)
      | (with_reducible exact LeO.none _)
      | (with_reducible refine LeO.ite ?_ ?_)
      | (with_reducible refine LeO.bind ?_ (fun _ => ?_))
      | exact ih0 _ _ _ _
      | exact ih1 _ _ _ _ _
      | exact ih2 _ _ _ _ _
      | exact ih3 _ _ _ _ _
      | exact ih4 _ _ _
      | exact ih5 _ _ _
      | exact ih6 _ _ _ _
      | exact LeO.none _
      | refine LeO.ite ?_ ?_
      | refine LeO.bind ?_ (fun _ => ?_)
    · intro y0 y1 y2 y3 y4
      unfold steadinglaw09_CacheFills.l1
      repeat' first
      | (with_reducible exact ih0 _ _ _ _)
      | (with_reducible exact ih1 _ _ _ _ _)
      | (with_reducible exact ih2 _ _ _ _ _)
      | (with_reducible exact ih3 _ _ _ _ _)
      | (with_reducible exact ih4 _ _ _)
      | (with_reducible exact ih5 _ _ _)
      | (with_reducible exact ih6 _ _ _ _)
      | (with_reducible exact LeO.refl _)
      | (with_reducible exact LeO.none _)
      | (with_reducible refine LeO.ite ?_ ?_)
      | (with_reducible refine LeO.bind ?_ (fun _ => ?_))
      | exact ih0 _ _ _ _
      | exact ih1 _ _ _ _ _
      | exact ih2 _ _ _ _ _
      | exact ih3 _ _ _ _ _
      | exact ih4 _ _ _
      | exact ih5 _ _ _
      | exact ih6 _ _ _ _
      | exact LeO.none _
      | refine LeO.ite ?_ ?_
      | refine LeO.bind ?_ (fun _ => ?_)
    · intro y0 y1 y2 y3 y4
      unfold steadinglaw09_CacheFills.j2
      repeat' first
      | (with_reducible exact ih0 _ _ _ _)
      | (with_reducible exact ih1 _ _ _ _ _)
      | (with_reducible exact ih2 _ _ _ _ _)
      | (with_reducible exact ih3 _ _ _ _ _)
      | (with_reducible exact ih4 _ _ _)
      | (with_reducible exact ih5 _ _ _)
      | (with_reducible exact ih6 _ _ _ _)
      | (with_reducible exact LeO.refl _)
      | (with_reducible exact LeO.none _)
      | (with_reducible refine LeO.ite ?_ ?_)
      | (with_reducible refine LeO.bind ?_ (fun _ => ?_))
      | exact ih0 _ _ _ _
      | exact ih1 _ _ _ _ _
      | exact ih2 _ _ _ _ _
      | exact ih3 _ _ _ _ _
      | exact ih4 _ _ _
      | exact ih5 _ _ _
      | exact ih6 _ _ _ _
      | exact LeO.none _
      | refine LeO.ite ?_ ?_
      | refine LeO.bind ?_ (fun _ => ?_)
    · intro y0 y1 y2 y3 y4
      unfold steadinglaw09_CacheFills.l2
      repeat' first
      | (with_reducible exact ih0 _ _ _ _)
      | (with_reducible exact ih1 _ _ _ _ _)
      | (with_reducible exact ih2 _ _ _ _ _)
      | (with_reducible exact ih3 _ _ _ _ _)
      | (with_reducible exact ih4 _ _ _)
      | (with_reducible exact ih5 _ _ _)
      | (with_reducible exact ih6 _ _ _ _)
      | (with_reducible exact LeO.refl _)
      | (with_reducible exact LeO.none _)
      | (with_reducible refine LeO.ite ?_ ?_)
      | (with_reducible refine LeO.bind ?_ (fun _ => ?_))
      | exact ih0 _ _ _ _
      | exact ih1 _ _ _ _ _
      | exact ih2 _ _ _ _ _
      | exact ih3 _ _ _ _ _
      | exact ih4 _ _ _
      | exact ih5 _ _ _
      | exact ih6 _ _ _ _
      | exact LeO.none _
      | refine LeO.ite ?_ ?_
      | refine LeO.bind ?_ (fun _ => ?_)
    · intro y0 y1 y2
      unfold steadinglaw09_CacheFills.j4
      repeat' first
      | (with_reducible exact ih0 _ _ _ _)
      | (with_reducible exact ih1 _ _ _ _ _)
      | (with_reducible exact ih2 _ _ _ _ _)
      | (with_reducible exact ih3 _ _ _ _ _)
      | (with_reducible exact ih4 _ _ _)
      | (with_reducible exact ih5 _ _ _)
      | (with_reducible exact ih6 _ _ _ _)
      | (with_reducible exact LeO.refl _)
      | (with_reducible exact LeO.none _)
      | (with_reducible refine LeO.ite ?_ ?_)
      | (with_reducible refine LeO.bind ?_ (fun _ => ?_))
      | exact ih0 _ _ _ _
      | exact ih1 _ _ _ _ _
      | exact ih2 _ _ _ _ _
      | exact ih3 _ _ _ _ _
      | exact ih4 _ _ _
      | exact ih5 _ _ _
      | exact ih6 _ _ _ _
      | exact LeO.none _
      | refine LeO.ite ?_ ?_
      | refine LeO.bind ?_ (fun _ => ?_)
    · intro y0 y1 y2
      unfold steadinglaw09_CacheFills.l3
      repeat' first
      | (with_reducible exact ih0 _ _ _ _)
      | (with_reducible exact ih1 _ _ _ _ _)
      | (with_reducible exact ih2 _ _ _ _ _)
      | (with_reducible exact ih3 _ _ _ _ _)
      | (with_reducible exact ih4 _ _ _)
      | (with_reducible exact ih5 _ _ _)
      | (with_reducible exact ih6 _ _ _ _)
      | (with_reducible exact LeO.refl _)
      | (with_reducible exact LeO.none _)
      | (with_reducible refine LeO.ite ?_ ?_)
      | (with_reducible refine LeO.bind ?_ (fun _ => ?_))
      | exact ih0 _ _ _ _
      | exact ih1 _ _ _ _ _
      | exact ih2 _ _ _ _ _
      | exact ih3 _ _ _ _ _
      | exact ih4 _ _ _
      | exact ih5 _ _ _
      | exact ih6 _ _ _ _
      | exact LeO.none _
      | refine LeO.ite ?_ ?_
      | refine LeO.bind ?_ (fun _ => ?_)
    · intro y0 y1 y2 y3
      unfold steadinglaw09_CacheFills.l4
      repeat' first
      | (with_reducible exact ih0 _ _ _ _)
      | (with_reducible exact ih1 _ _ _ _ _)
      | (with_reducible exact ih2 _ _ _ _ _)
      | (with_reducible exact ih3 _ _ _ _ _)
      | (with_reducible exact ih4 _ _ _)
      | (with_reducible exact ih5 _ _ _)
      | (with_reducible exact ih6 _ _ _ _)
      | (with_reducible exact LeO.refl _)
      | (with_reducible exact LeO.none _)
      | (with_reducible refine LeO.ite ?_ ?_)
      | (with_reducible refine LeO.bind ?_ (fun _ => ?_))
      | exact ih0 _ _ _ _
      | exact ih1 _ _ _ _ _
      | exact ih2 _ _ _ _ _
      | exact ih3 _ _ _ _ _
      | exact ih4 _ _ _
      | exact ih5 _ _ _
      | exact ih6 _ _ _ _
      | exact LeO.none _
      | refine LeO.ite ?_ ?_
      | refine LeO.bind ?_ (fun _ => ?_)
theorem steadinglaw09_CacheFills.mono : ∀ a0 a1 k, LeO (steadinglaw09_CacheFills.f k a0 a1) (steadinglaw09_CacheFills.f (k + 1) a0 a1) := by
  intro a0 a1 k
  obtain ⟨ih0, ih1, ih2, ih3, ih4, ih5, ih6⟩ := steadinglaw09_CacheFills.mono_l k
  unfold steadinglaw09_CacheFills.f
  repeat' first
      | (with_reducible exact ih0 _ _ _ _)
      | (with_reducible exact ih1 _ _ _ _ _)
      | (with_reducible exact ih2 _ _ _ _ _)
      | (with_reducible exact ih3 _ _ _ _ _)
      | (with_reducible exact ih4 _ _ _)
      | (with_reducible exact ih5 _ _ _)
      | (with_reducible exact ih6 _ _ _ _)
      | (with_reducible exact LeO.refl _)
      | (with_reducible exact LeO.none _)
      | (with_reducible refine LeO.ite ?_ ?_)
      | (with_reducible refine LeO.bind ?_ (fun _ => ?_))
      | exact ih0 _ _ _ _
      | exact ih1 _ _ _ _ _
      | exact ih2 _ _ _ _ _
      | exact ih3 _ _ _ _ _
      | exact ih4 _ _ _
      | exact ih5 _ _ _
      | exact ih6 _ _ _ _
      | exact LeO.none _
      | refine LeO.ite ?_ ?_
      | refine LeO.bind ?_ (fun _ => ?_)
set_option maxHeartbeats 8000000 in
set_option maxRecDepth 100000 in
theorem steadinglaw09_CacheFills.calls (k : Nat) (a0 : Int) (a1 : Int) (r : Bool) (w : World) (h : steadinglaw09_CacheFills.f k a0 a1 = some r) :
    Calls Try.prog 4 #[.int .u16 a0, .int .u8 a1] w fun e w' => e = .returned (.bool r) ∧ Below w.heap.size w w' := by
  have HB := Aside0.mk (Below.refl w.heap.size w)
  have H : ((steadinglaw09_awake.f).bind fun t118 => (if t118 = true then ((cache_New.f).bind fun t119 => (steadinglaw09_CacheFills.l0 k a1 (wrap64 (a0)) 0 t119)) else (some false))) = some r := h
  clear h
  replace H := Option.bind_eq_some_iff.mp H
  obtain ⟨t118, A30, H⟩ := H
  replace H : (if t118 = true then ((cache_New.f).bind fun t119 => (steadinglaw09_CacheFills.l0 k a1 (wrap64 (a0)) 0 t119)) else (some false)) = some r := H
  have A3 := Aside0.mk A30
  clear A30
  by_cases c4 : t118 = true
  · subst c4
    have H1 : ((cache_New.f).bind fun t119 => (steadinglaw09_CacheFills.l0 k a1 (wrap64 (a0)) 0 t119)) = some r := by rw [if_pos rfl] at H; exact H
    clear H
    have H := H1
    clear H1
    replace H := Option.bind_eq_some_iff.mp H
    obtain ⟨t119, A50, H⟩ := H
    replace H : (steadinglaw09_CacheFills.l0 k a1 (wrap64 (a0)) 0 t119) = some r := H
    have A5 := Aside0.mk A50
    clear A50
    have H' := Aside0.mk H
    clear H
    go_enter Try.func4, Try.ntmps4
    go_wp2_with (first | (go_at_call 15; (with_reducible refine (steadinglaw09_awake.calls  true _ A3.out).mono ?_); rintro e w6 ⟨rfl, hb⟩; have n0_ := Aside0.mk (below_step (by repeat (first | (with_reducible first | exact HB.out | apply below_alloc | apply pw_below_drewN | apply below_drew1) | exact HB.out)) hb); clear HB; have HB := n0_; clear n0_; (try clear hb); (try clear hb2); (try clear hk); (try clear hi)) | (go_at_call 16; (with_reducible refine (cache_New.calls  t119 w _ ?side1 A5.out).mono ?_); (case side1 => repeat (first | (with_reducible first | exact HB.out | apply below_alloc | apply pw_below_drewN | apply below_drew1) | exact HB.out)); rintro e w7 ⟨g120, rfl, hi, hb, hb2⟩; have n0_ := Aside0.mk (hb); have n1_ := Aside0.mk (hi); clear HB; have HB := n0_; have HI120 := n1_; clear n0_ n1_; (try clear hb); (try clear hb2); (try clear hk); (try clear hi)))
    repeat (go_quiet (first | (go_at_call 15; (with_reducible refine (steadinglaw09_awake.calls  true _ A3.out).mono ?_); rintro e w6 ⟨rfl, hb⟩; have n0_ := Aside0.mk (below_step (by repeat (first | (with_reducible first | exact HB.out | apply below_alloc | apply pw_below_drewN | apply below_drew1) | exact HB.out)) hb); clear HB; have HB := n0_; clear n0_; (try clear hb); (try clear hb2); (try clear hk); (try clear hi)) | (go_at_call 16; (with_reducible refine (cache_New.calls  t119 w _ ?side1 A5.out).mono ?_); (case side1 => repeat (first | (with_reducible first | exact HB.out | apply below_alloc | apply pw_below_drewN | apply below_drew1) | exact HB.out)); rintro e w7 ⟨g120, rfl, hi, hb, hb2⟩; have n0_ := Aside0.mk (hb); have n1_ := Aside0.mk (hi); clear HB; have HB := n0_; have HI120 := n1_; clear n0_ n1_; (try clear hb); (try clear hb2); (try clear hk); (try clear hi))); try go_wp2_with (first | (go_at_call 15; (with_reducible refine (steadinglaw09_awake.calls  true _ A3.out).mono ?_); rintro e w6 ⟨rfl, hb⟩; have n0_ := Aside0.mk (below_step (by repeat (first | (with_reducible first | exact HB.out | apply below_alloc | apply pw_below_drewN | apply below_drew1) | exact HB.out)) hb); clear HB; have HB := n0_; clear n0_; (try clear hb); (try clear hb2); (try clear hk); (try clear hi)) | (go_at_call 16; (with_reducible refine (cache_New.calls  t119 w _ ?side1 A5.out).mono ?_); (case side1 => repeat (first | (with_reducible first | exact HB.out | apply below_alloc | apply pw_below_drewN | apply below_drew1) | exact HB.out)); rintro e w7 ⟨g120, rfl, hi, hb, hb2⟩; have n0_ := Aside0.mk (hb); have n1_ := Aside0.mk (hi); clear HB; have HB := n0_; have HI120 := n1_; clear n0_ n1_; (try clear hb); (try clear hb2); (try clear hk); (try clear hi))))
    go_loopg [8] k (fun kq v8 w' => ∃ (x8_1 : Int) (x121000_1 : Hand.Stacks), v8 = .int .i64 x8_1 ∧ Aside0 (steadinglaw09_CacheFills.l0 kq a1 (wrap64 (a0)) x8_1 x121000_1 = some r) ∧ Aside0 (kq ≤ k) ∧ Aside0 (IsS47 w w' g120 x121000_1) ∧ Aside0 (Below w.heap.size w w'))
    case atStart => exact ⟨(0), (t119), (by first | rfl | (simp; done) | (simp [*]; done)), H', ⟨Nat.le_refl _⟩, ⟨by repeat (first | (with_reducible first | exact HI120.out | apply IsS47.alloc | apply IsS47.drewN | apply IsS47.drew | apply IsS47.set_0) | exact HI120.out)⟩, ⟨by repeat (first | (with_reducible first | exact HB.out | apply below_alloc | apply pw_below_drewN | apply below_drew1 | refine below_set ?_ (IsS47.ge HI120.out)) | exact HB.out)⟩⟩
    case round =>
      clear H'
      try clear p2
      try clear c4
      try clear p6
      obtain ⟨x8_1, x121000_1, rfl, HA, HK1, HI120, HB⟩ := hrel
      cases gk with
      | zero => exact absurd HA.out (by simp [steadinglaw09_CacheFills.l0])
      | succ k1 =>
        have H := HA.out
        clear HA
        simp only [steadinglaw09_CacheFills.l0] at H
        by_cases c8 : x8_1 < 5
        · rw [if_pos c8] at H
          have c8b0 : decide (x8_1 < 5) = true := decide_eq_true c8
          clear c8
          have H' := Aside0.mk H
          clear H
          go_wp2
          repeat (go_quiet (fail); try go_wp2)
          go_loopg [9] k1 (fun kq v9 w' => ∃ (x9_2 : Int) (x121000_2 : Hand.Stacks), v9 = .int .i64 x9_2 ∧ Aside0 (steadinglaw09_CacheFills.l1 kq a1 (wrap64 (a0)) x8_1 x9_2 x121000_2 = some r) ∧ Aside0 (kq ≤ k1) ∧ Aside0 (IsS47 w w' g120 x121000_2) ∧ Aside0 (Below w.heap.size w w'))
          case atStart => exact ⟨(0), (x121000_1), (by first | rfl | (simp; done) | (simp [*]; done)), H', ⟨Nat.le_refl _⟩, ⟨by repeat (first | (with_reducible first | exact HI120.out | apply IsS47.alloc | apply IsS47.drewN | apply IsS47.drew | apply IsS47.set_0) | exact HI120.out)⟩, ⟨by repeat (first | (with_reducible first | exact HB.out | apply below_alloc | apply pw_below_drewN | apply below_drew1 | refine below_set ?_ (IsS47.ge HI120.out)) | exact HB.out)⟩⟩
          case round =>
            clear H'
            try clear p2
            try clear c4
            try clear p6
            try clear c8
            try clear c8b0
            try clear p2
            try clear p6
            obtain ⟨x9_2, x121000_2, rfl, HA, HK2, HI120, HB⟩ := hrel
            cases gk with
            | zero => exact absurd HA.out (by simp [steadinglaw09_CacheFills.l1])
            | succ k2 =>
              have H := HA.out
              clear HA
              simp only [steadinglaw09_CacheFills.l1] at H
              by_cases c9 : x9_2 < 7
              · rw [if_pos c9] at H
                have c9b0 : decide (x9_2 < 7) = true := decide_eq_true c9
                clear c9
                replace H := Option.bind_eq_some_iff.mp H
                obtain ⟨⟨t121, t122⟩, A100, H⟩ := H
                replace H : (if (t121 != (decide (x8_1 < 4))) = true then (some false) else (steadinglaw09_CacheFills.l1 k2 a1 (wrap64 (a0)) x8_1 (wrap64 (x9_2 + 1)) t122)) = some r := H
                have A10 := Aside0.mk A100
                clear A100
                by_cases c11 : (t121 != (decide (x8_1 < 4))) = true
                · rw [if_pos c11] at H
                  have c11b0 : (t121 != (decide (x8_1 < 4))) = true := c11
                  (try (have c11b1 : decide (t121 = (decide (x8_1 < 4))) = false := by simpa using c11))
                  (try (have c11b2 : (t121 == (decide (x8_1 < 4))) = false := by simpa using c11))
                  (try (have c11b3 : ¬ (t121 = (decide (x8_1 < 4))) := by simpa using c11))
                  clear c11
                  obtain rfl := Option.some.inj H
                  go_wp2_with (first | (go_at_call 17; (with_reducible refine (cache_Cache_Push.calls g120 x121000_2 x9_2 (wrap64 ((wrap64 ((wrap64 (a0)) + (wrap64 (10 * x9_2)))) + x8_1)) t121 t122 w _ ?side1 ?side2 A10.out).mono ?_); (case side1 => repeat (first | (with_reducible first | exact HI120.out | apply IsS47.alloc | apply IsS47.drewN | apply IsS47.drew | apply IsS47.set_0) | exact HI120.out)); (case side2 => repeat (first | (with_reducible first | exact HB.out | apply below_alloc | apply pw_below_drewN | apply below_drew1 | refine below_set ?_ (IsS47.ge HI120.out)) | exact HB.out)); rintro e w12 ⟨rfl, hi, hb, hk⟩; have n0_ := Aside0.mk (hb); have n1_ := Aside0.mk (hi); clear HB; clear HI120; have HB := n0_; have HI120 := n1_; clear n0_ n1_; (try clear hb); (try clear hb2); (try clear hk); (try clear hi)))
                  repeat (go_quiet (first | (go_at_call 17; (with_reducible refine (cache_Cache_Push.calls g120 x121000_2 x9_2 (wrap64 ((wrap64 ((wrap64 (a0)) + (wrap64 (10 * x9_2)))) + x8_1)) t121 t122 w _ ?side1 ?side2 A10.out).mono ?_); (case side1 => repeat (first | (with_reducible first | exact HI120.out | apply IsS47.alloc | apply IsS47.drewN | apply IsS47.drew | apply IsS47.set_0) | exact HI120.out)); (case side2 => repeat (first | (with_reducible first | exact HB.out | apply below_alloc | apply pw_below_drewN | apply below_drew1 | refine below_set ?_ (IsS47.ge HI120.out)) | exact HB.out)); rintro e w12 ⟨rfl, hi, hb, hk⟩; have n0_ := Aside0.mk (hb); have n1_ := Aside0.mk (hi); clear HB; clear HI120; have HB := n0_; have HI120 := n1_; clear n0_ n1_; (try clear hb); (try clear hb2); (try clear hk); (try clear hi))); try go_wp2_with (first | (go_at_call 17; (with_reducible refine (cache_Cache_Push.calls g120 x121000_2 x9_2 (wrap64 ((wrap64 ((wrap64 (a0)) + (wrap64 (10 * x9_2)))) + x8_1)) t121 t122 w _ ?side1 ?side2 A10.out).mono ?_); (case side1 => repeat (first | (with_reducible first | exact HI120.out | apply IsS47.alloc | apply IsS47.drewN | apply IsS47.drew | apply IsS47.set_0) | exact HI120.out)); (case side2 => repeat (first | (with_reducible first | exact HB.out | apply below_alloc | apply pw_below_drewN | apply below_drew1 | refine below_set ?_ (IsS47.ge HI120.out)) | exact HB.out)); rintro e w12 ⟨rfl, hi, hb, hk⟩; have n0_ := Aside0.mk (hb); have n1_ := Aside0.mk (hi); clear HB; clear HI120; have HB := n0_; have HI120 := n1_; clear n0_ n1_; (try clear hb); (try clear hb2); (try clear hk); (try clear hi))))
                  go_ret
                  exact ⟨by first | rfl | (simp [errW_none, errW_some] <;> rfl) | (simp [*, errW_none, errW_some] <;> rfl), by repeat (first | (with_reducible first | exact HB.out | apply below_alloc | apply pw_below_drewN | apply below_drew1 | refine below_set ?_ (IsS47.ge HI120.out)) | exact HB.out)⟩
                · rw [if_neg c11] at H
                  have c11b0 : (t121 != (decide (x8_1 < 4))) = false := by simpa using c11
                  (try (have c11b1 : decide (t121 = (decide (x8_1 < 4))) = true := by simpa using c11))
                  (try (have c11b2 : (t121 == (decide (x8_1 < 4))) = true := by simpa using c11))
                  clear c11
                  have H' := Aside0.mk H
                  clear H
                  go_wp2_with (first | (go_at_call 17; (with_reducible refine (cache_Cache_Push.calls g120 x121000_2 x9_2 (wrap64 ((wrap64 ((wrap64 (a0)) + (wrap64 (10 * x9_2)))) + x8_1)) t121 t122 w _ ?side1 ?side2 A10.out).mono ?_); (case side1 => repeat (first | (with_reducible first | exact HI120.out | apply IsS47.alloc | apply IsS47.drewN | apply IsS47.drew | apply IsS47.set_0) | exact HI120.out)); (case side2 => repeat (first | (with_reducible first | exact HB.out | apply below_alloc | apply pw_below_drewN | apply below_drew1 | refine below_set ?_ (IsS47.ge HI120.out)) | exact HB.out)); rintro e w13 ⟨rfl, hi, hb, hk⟩; have n0_ := Aside0.mk (hb); have n1_ := Aside0.mk (hi); clear HB; clear HI120; have HB := n0_; have HI120 := n1_; clear n0_ n1_; (try clear hb); (try clear hb2); (try clear hk); (try clear hi)))
                  repeat (go_quiet (first | (go_at_call 17; (with_reducible refine (cache_Cache_Push.calls g120 x121000_2 x9_2 (wrap64 ((wrap64 ((wrap64 (a0)) + (wrap64 (10 * x9_2)))) + x8_1)) t121 t122 w _ ?side1 ?side2 A10.out).mono ?_); (case side1 => repeat (first | (with_reducible first | exact HI120.out | apply IsS47.alloc | apply IsS47.drewN | apply IsS47.drew | apply IsS47.set_0) | exact HI120.out)); (case side2 => repeat (first | (with_reducible first | exact HB.out | apply below_alloc | apply pw_below_drewN | apply below_drew1 | refine below_set ?_ (IsS47.ge HI120.out)) | exact HB.out)); rintro e w13 ⟨rfl, hi, hb, hk⟩; have n0_ := Aside0.mk (hb); have n1_ := Aside0.mk (hi); clear HB; clear HI120; have HB := n0_; have HI120 := n1_; clear n0_ n1_; (try clear hb); (try clear hb2); (try clear hk); (try clear hi))); try go_wp2_with (first | (go_at_call 17; (with_reducible refine (cache_Cache_Push.calls g120 x121000_2 x9_2 (wrap64 ((wrap64 ((wrap64 (a0)) + (wrap64 (10 * x9_2)))) + x8_1)) t121 t122 w _ ?side1 ?side2 A10.out).mono ?_); (case side1 => repeat (first | (with_reducible first | exact HI120.out | apply IsS47.alloc | apply IsS47.drewN | apply IsS47.drew | apply IsS47.set_0) | exact HI120.out)); (case side2 => repeat (first | (with_reducible first | exact HB.out | apply below_alloc | apply pw_below_drewN | apply below_drew1 | refine below_set ?_ (IsS47.ge HI120.out)) | exact HB.out)); rintro e w13 ⟨rfl, hi, hb, hk⟩; have n0_ := Aside0.mk (hb); have n1_ := Aside0.mk (hi); clear HB; clear HI120; have HB := n0_; have HI120 := n1_; clear n0_ n1_; (try clear hb); (try clear hb2); (try clear hk); (try clear hi))))
                  go_roundg k2
                  case measure => have := HK1.out; have := HK2.out; omega
                  case rel => exact ⟨(wrap64 (x9_2 + 1)), (t122), (by first | rfl | (simp; done) | (simp [*]; done)), H', ⟨by have := HK1.out; have := HK2.out; omega⟩, ⟨by repeat (first | (with_reducible first | exact HI120.out | apply IsS47.alloc | apply IsS47.drewN | apply IsS47.drew | apply IsS47.set_0) | exact HI120.out)⟩, ⟨by repeat (first | (with_reducible first | exact HB.out | apply below_alloc | apply pw_below_drewN | apply below_drew1 | refine below_set ?_ (IsS47.ge HI120.out)) | exact HB.out)⟩⟩
              · rw [if_neg c9] at H
                have c9b0 : decide (x9_2 < 7) = false := decide_eq_false c9
                clear c9
                have H' := Aside0.mk H
                clear H
                go_wp2
                repeat (go_quiet (fail); try go_wp2)
                go_roundg k2
                case measure => have := HK1.out; have := HK2.out; omega
                case rel => exact ⟨(wrap64 (x8_1 + 1)), (x121000_2), (by first | rfl | (simp; done) | (simp [*]; done)), H', ⟨by have := HK1.out; have := HK2.out; omega⟩, ⟨by repeat (first | (with_reducible first | exact HI120.out | apply IsS47.alloc | apply IsS47.drewN | apply IsS47.drew | apply IsS47.set_0) | exact HI120.out)⟩, ⟨by repeat (first | (with_reducible first | exact HB.out | apply below_alloc | apply pw_below_drewN | apply below_drew1 | refine below_set ?_ (IsS47.ge HI120.out)) | exact HB.out)⟩⟩
        · rw [if_neg c8] at H
          have c8b0 : decide (x8_1 < 5) = false := decide_eq_false c8
          clear c8
          replace H := Option.bind_eq_some_iff.mp H
          obtain ⟨⟨t123, t126⟩, A140, H⟩ := H
          replace H : (if (t123.length : Int) = 28 then ((cache_Cache_Pages.f t126).bind fun bt127 => (steadinglaw09_CacheFills.j2 k1 a1 (wrap64 (a0)) t123 (bt127.1 != 508) bt127.2)) else (steadinglaw09_CacheFills.j2 k1 a1 (wrap64 (a0)) t123 true t126)) = some r := H
          have A14 := Aside0.mk A140
          clear A140
          have HC15 := Aside0.mk H
          clear H
          go_upto_region 15 with (first | (go_at_call 20; (with_reducible refine (cache_Cache_All.calls g120 x121000_1 t123 t126 w _ ?side1 ?side2 A14.out).mono ?_); (case side1 => repeat (first | (with_reducible first | exact HI120.out | apply IsS47.alloc | apply IsS47.drewN | apply IsS47.drew | apply IsS47.set_0) | exact HI120.out)); (case side2 => repeat (first | (with_reducible first | exact HB.out | apply below_alloc | apply pw_below_drewN | apply below_drew1 | refine below_set ?_ (IsS47.ge HI120.out)) | exact HB.out)); rintro e w16 ⟨v124, rfl, ho0, hi, hb, hk⟩; have n0_ := Aside0.mk (Kd.R_lower ho0 (below_size (by repeat (first | (with_reducible first | exact HB.out | apply below_alloc | apply pw_below_drewN | apply below_drew1 | refine below_set ?_ (IsS47.ge HI120.out)) | exact HB.out)))); have n1_ := Aside0.mk (hb); have n2_ := Aside0.mk (hi); clear HB; clear HI120; have HO125 := n0_; have HB := n1_; have HI120 := n2_; clear n0_ n1_ n2_; (try clear hb); (try clear hb2); (try clear hk); (try clear hi); (try clear ho0)))
          repeat (go_quiet (first | (go_at_call 20; (with_reducible refine (cache_Cache_All.calls g120 x121000_1 t123 t126 w _ ?side1 ?side2 A14.out).mono ?_); (case side1 => repeat (first | (with_reducible first | exact HI120.out | apply IsS47.alloc | apply IsS47.drewN | apply IsS47.drew | apply IsS47.set_0) | exact HI120.out)); (case side2 => repeat (first | (with_reducible first | exact HB.out | apply below_alloc | apply pw_below_drewN | apply below_drew1 | refine below_set ?_ (IsS47.ge HI120.out)) | exact HB.out)); rintro e w16 ⟨v124, rfl, ho0, hi, hb, hk⟩; have n0_ := Aside0.mk (Kd.R_lower ho0 (below_size (by repeat (first | (with_reducible first | exact HB.out | apply below_alloc | apply pw_below_drewN | apply below_drew1 | refine below_set ?_ (IsS47.ge HI120.out)) | exact HB.out)))); have n1_ := Aside0.mk (hb); have n2_ := Aside0.mk (hi); clear HB; clear HI120; have HO125 := n0_; have HB := n1_; have HI120 := n2_; clear n0_ n1_ n2_; (try clear hb); (try clear hb2); (try clear hk); (try clear hi); (try clear ho0))); go_upto_region 15 with (first | (go_at_call 20; (with_reducible refine (cache_Cache_All.calls g120 x121000_1 t123 t126 w _ ?side1 ?side2 A14.out).mono ?_); (case side1 => repeat (first | (with_reducible first | exact HI120.out | apply IsS47.alloc | apply IsS47.drewN | apply IsS47.drew | apply IsS47.set_0) | exact HI120.out)); (case side2 => repeat (first | (with_reducible first | exact HB.out | apply below_alloc | apply pw_below_drewN | apply below_drew1 | refine below_set ?_ (IsS47.ge HI120.out)) | exact HB.out)); rintro e w16 ⟨v124, rfl, ho0, hi, hb, hk⟩; have n0_ := Aside0.mk (Kd.R_lower ho0 (below_size (by repeat (first | (with_reducible first | exact HB.out | apply below_alloc | apply pw_below_drewN | apply below_drew1 | refine below_set ?_ (IsS47.ge HI120.out)) | exact HB.out)))); have n1_ := Aside0.mk (hb); have n2_ := Aside0.mk (hi); clear HB; clear HI120; have HO125 := n0_; have HB := n1_; have HI120 := n2_; clear n0_ n1_ n2_; (try clear hb); (try clear hb2); (try clear hk); (try clear hi); (try clear ho0))))
          (try simp only [Act.put, List.setIfInBounds_toArray, List.set_cons_zero, List.set_cons_succ])
          go_cut [54] (fun v54 wc => ∃ (kq : Nat) (x54_14 : Bool) (x121000_14 : Hand.Stacks), v54 = .bool x54_14 ∧ Aside0 (steadinglaw09_CacheFills.j2 kq a1 (wrap64 (a0)) t123 x54_14 x121000_14 = some r) ∧ Aside0 (kq ≤ k1) ∧ Aside0 (Kd.R k36 36 wc w.heap.size (fun _ => True) v124 t123) ∧ Aside0 (IsS47 w wc g120 x121000_14) ∧ Aside0 (Below w.heap.size w wc))
          case first =>
            have H := HC15.out
            clear HC15
            by_cases c17 : (t123.length : Int) = 28
            · rw [if_pos c17] at H
              have c17b0 : ((t123.length : Int) == 28) = true := beq_iff_eq.mpr c17
              have c17b1 : ((t123.length : Int) != 28) = false := bne_eq_false_iff_eq.mpr c17
              clear c17
              (first | rw [c17b0] | (simp only [i64_w, i32_w]; rw [c17b0]) | skip)
              replace H := Option.bind_eq_some_iff.mp H
              obtain ⟨⟨t127, t128⟩, A180, H⟩ := H
              replace H : (steadinglaw09_CacheFills.j2 k1 a1 (wrap64 (a0)) t123 (t127 != 508) t128) = some r := H
              have A18 := Aside0.mk A180
              clear A180
              have H' := Aside0.mk H
              clear H
              obtain ⟨Ao19, co19, eo19⟩ := Kd.R_slice HO125.out
              subst eo19
              go_wp2_with (first | (go_at_call 21; (with_reducible refine (cache_Cache_Pages.calls g120 t126 t127 t128 w _ ?side1 ?side2 A18.out).mono ?_); (case side1 => repeat (first | (with_reducible first | exact HI120.out | apply IsS47.alloc | apply IsS47.drewN | apply IsS47.drew | apply IsS47.set_0) | exact HI120.out)); (case side2 => repeat (first | (with_reducible first | exact HB.out | apply below_alloc | apply pw_below_drewN | apply below_drew1 | refine below_set ?_ (IsS47.ge HI120.out)) | exact HB.out)); rintro e w20 ⟨rfl, hi, hb, hk⟩; have n0_ := Aside0.mk (Kd.R_mono (Kd.R_keep (IsS47.apart (show IsS47 w _ g120 t126 from by repeat (first | (with_reducible first | exact HI120.out | apply IsS47.alloc | apply IsS47.drewN | apply IsS47.drew | apply IsS47.set_0) | exact HI120.out)) (by (with_reducible repeat (first | apply Kd.R_alloc | apply Kd.R_drewN | apply Kd.R_drew)); exact HO125.out) (by decide)) hk (fun _ h => h.2)) (fun _ h => h.1)); have n1_ := Aside0.mk (hb); have n2_ := Aside0.mk (hi); clear HO125; clear HB; clear HI120; have HO125 := n0_; have HB := n1_; have HI120 := n2_; clear n0_ n1_ n2_; (try clear hb); (try clear hb2); (try clear hk); (try clear hi)))
              repeat (go_quiet (first | (go_at_call 21; (with_reducible refine (cache_Cache_Pages.calls g120 t126 t127 t128 w _ ?side1 ?side2 A18.out).mono ?_); (case side1 => repeat (first | (with_reducible first | exact HI120.out | apply IsS47.alloc | apply IsS47.drewN | apply IsS47.drew | apply IsS47.set_0) | exact HI120.out)); (case side2 => repeat (first | (with_reducible first | exact HB.out | apply below_alloc | apply pw_below_drewN | apply below_drew1 | refine below_set ?_ (IsS47.ge HI120.out)) | exact HB.out)); rintro e w20 ⟨rfl, hi, hb, hk⟩; have n0_ := Aside0.mk (Kd.R_mono (Kd.R_keep (IsS47.apart (show IsS47 w _ g120 t126 from by repeat (first | (with_reducible first | exact HI120.out | apply IsS47.alloc | apply IsS47.drewN | apply IsS47.drew | apply IsS47.set_0) | exact HI120.out)) (by (with_reducible repeat (first | apply Kd.R_alloc | apply Kd.R_drewN | apply Kd.R_drew)); exact HO125.out) (by decide)) hk (fun _ h => h.2)) (fun _ h => h.1)); have n1_ := Aside0.mk (hb); have n2_ := Aside0.mk (hi); clear HO125; clear HB; clear HI120; have HO125 := n0_; have HB := n1_; have HI120 := n2_; clear n0_ n1_ n2_; (try clear hb); (try clear hb2); (try clear hk); (try clear hi))); try go_wp2_with (first | (go_at_call 21; (with_reducible refine (cache_Cache_Pages.calls g120 t126 t127 t128 w _ ?side1 ?side2 A18.out).mono ?_); (case side1 => repeat (first | (with_reducible first | exact HI120.out | apply IsS47.alloc | apply IsS47.drewN | apply IsS47.drew | apply IsS47.set_0) | exact HI120.out)); (case side2 => repeat (first | (with_reducible first | exact HB.out | apply below_alloc | apply pw_below_drewN | apply below_drew1 | refine below_set ?_ (IsS47.ge HI120.out)) | exact HB.out)); rintro e w20 ⟨rfl, hi, hb, hk⟩; have n0_ := Aside0.mk (Kd.R_mono (Kd.R_keep (IsS47.apart (show IsS47 w _ g120 t126 from by repeat (first | (with_reducible first | exact HI120.out | apply IsS47.alloc | apply IsS47.drewN | apply IsS47.drew | apply IsS47.set_0) | exact HI120.out)) (by (with_reducible repeat (first | apply Kd.R_alloc | apply Kd.R_drewN | apply Kd.R_drew)); exact HO125.out) (by decide)) hk (fun _ h => h.2)) (fun _ h => h.1)); have n1_ := Aside0.mk (hb); have n2_ := Aside0.mk (hi); clear HO125; clear HB; clear HI120; have HO125 := n0_; have HB := n1_; have HI120 := n2_; clear n0_ n1_ n2_; (try clear hb); (try clear hb2); (try clear hk); (try clear hi))))
              go_meet
              case rel => exact ⟨_, ((t127 != 508)), (t128), (by first | rfl | (simp; done) | (simp [*]; done)), H', ⟨by have := HK1.out; first | omega | exact Nat.le_refl _⟩, ⟨by (with_reducible repeat (first | apply Kd.R_alloc | apply Kd.R_drewN | apply Kd.R_drew)); exact HO125.out⟩, ⟨by repeat (first | (with_reducible first | exact HI120.out | apply IsS47.alloc | apply IsS47.drewN | apply IsS47.drew | apply IsS47.set_0) | exact HI120.out)⟩, ⟨by repeat (first | (with_reducible first | exact HB.out | apply below_alloc | apply pw_below_drewN | apply below_drew1 | refine below_set ?_ (IsS47.ge HI120.out)) | exact HB.out)⟩⟩
            · rw [if_neg c17] at H
              have c17b0 : ((t123.length : Int) == 28) = false := beq_eq_false_iff_ne.mpr c17
              have c17b1 : ((t123.length : Int) != 28) = true := bne_iff_ne.mpr c17
              (first | rw [c17b0] | (simp only [i64_w, i32_w]; rw [c17b0]) | skip)
              have H' := Aside0.mk H
              clear H
              obtain ⟨Ao21, co21, eo21⟩ := Kd.R_slice HO125.out
              subst eo21
              go_wp2
              repeat (go_quiet (fail); try go_wp2)
              go_meet
              case rel => exact ⟨_, (true), (t126), (by first | rfl | (simp; done) | (simp [*]; done)), H', ⟨by have := HK1.out; first | omega | exact Nat.le_refl _⟩, ⟨by (with_reducible repeat (first | apply Kd.R_alloc | apply Kd.R_drewN | apply Kd.R_drew)); exact HO125.out⟩, ⟨by repeat (first | (with_reducible first | exact HI120.out | apply IsS47.alloc | apply IsS47.drewN | apply IsS47.drew | apply IsS47.set_0) | exact HI120.out)⟩, ⟨by repeat (first | (with_reducible first | exact HB.out | apply below_alloc | apply pw_below_drewN | apply below_drew1 | refine below_set ?_ (IsS47.ge HI120.out)) | exact HB.out)⟩⟩
          case rest =>
            clear HC15
            try clear c1
            try clear p2
            try clear c4
            try clear p6
            try clear c8
            try clear c8b0
            try clear c9
            try clear c9b0
            try clear c11
            try clear c11b0
            try clear c11b1
            try clear c11b2
            try clear c17
            try clear c17b0
            try clear c17b1
            try clear p2
            try clear p6
            obtain ⟨kq, x54_14, x121000_14, rfl, HA, HJ14, HO_10, HI120, HB⟩ := hcut
            cases kq with
            | zero => exact absurd HA.out (by simp [steadinglaw09_CacheFills.j2])
            | succ kj14 =>
              have H := HA.out
              clear HA
              simp only [steadinglaw09_CacheFills.j2] at H
              by_cases c22 : x54_14 = true
              · subst c22
                have H1 : (some false) = some r := by rw [if_pos rfl] at H; exact H
                clear H
                have H := H1
                clear H1
                obtain rfl := Option.some.inj H
                go_wp2
                repeat (go_quiet (fail); try go_wp2)
                go_ret
                exact ⟨by first | rfl | (simp [errW_none, errW_some] <;> rfl) | (simp [*, errW_none, errW_some] <;> rfl), by repeat (first | (with_reducible first | exact HB.out | apply below_alloc | apply pw_below_drewN | apply below_drew1 | refine below_set ?_ (IsS47.ge HI120.out)) | exact HB.out)⟩
              · replace c22 := Bool.eq_false_iff.mpr c22
                subst c22
                have H1 : (steadinglaw09_CacheFills.l2 kj14 a1 (wrap64 (a0)) t123 0 x121000_14) = some r := by rw [if_neg (show ¬ (false = true) by decide)] at H; exact H
                clear H
                have H := H1
                clear H1
                have H' := Aside0.mk H
                clear H
                go_wp2
                repeat (go_quiet (fail); try go_wp2)
                go_loopg [11] kj14 (fun kq v11 w' => ∃ (x11_3 : Int), v11 = .int .i64 x11_3 ∧ Aside0 (steadinglaw09_CacheFills.l2 kq a1 (wrap64 (a0)) t123 x11_3 x121000_14 = some r) ∧ Aside0 (kq ≤ kj14) ∧ Aside0 (Kd.R k36 36 w' w.heap.size (fun _ => True) v124 t123) ∧ Aside0 (IsS47 w w' g120 x121000_14) ∧ Aside0 (Below w.heap.size w w'))
                case atStart => exact ⟨(0), (by first | rfl | (simp; done) | (simp [*]; done)), H', ⟨Nat.le_refl _⟩, ⟨by (with_reducible repeat (first | apply Kd.R_alloc | apply Kd.R_drewN | apply Kd.R_drew)); exact HO_10.out⟩, ⟨by repeat (first | (with_reducible first | exact HI120.out | apply IsS47.alloc | apply IsS47.drewN | apply IsS47.drew | apply IsS47.set_0) | exact HI120.out)⟩, ⟨by repeat (first | (with_reducible first | exact HB.out | apply below_alloc | apply pw_below_drewN | apply below_drew1 | refine below_set ?_ (IsS47.ge HI120.out)) | exact HB.out)⟩⟩
                case round =>
                  clear H'
                  try clear c1
                  try clear c2
                  try clear p2
                  try clear c4
                  try clear p6
                  try clear c8
                  try clear c8b0
                  try clear c9
                  try clear c9b0
                  try clear c11
                  try clear c11b0
                  try clear c11b1
                  try clear c11b2
                  try clear c17
                  try clear c17b0
                  try clear c17b1
                  try clear c22
                  try clear p2
                  try clear p6
                  obtain ⟨x11_3, rfl, HA, HK3, HO_10, HI120, HB⟩ := hrel
                  cases gk with
                  | zero => exact absurd HA.out (by simp [steadinglaw09_CacheFills.l2])
                  | succ k3 =>
                    have H := HA.out
                    clear HA
                    simp only [steadinglaw09_CacheFills.l2] at H
                    by_cases c23 : x11_3 < (t123.length : Int)
                    · rw [if_pos c23] at H
                      have c23b0 : decide (x11_3 < (t123.length : Int)) = true := decide_eq_true c23
                      clear c23
                      by_cases c24 : 0 ≤ x11_3
                      · rw [if_pos c24] at H
                        have c24b0 : decide (0 ≤ x11_3) = true := decide_eq_true c24
                        clear c24
                        by_cases c25 : ((rd_T36 t123 x11_3).f0) = (wrap64 ((wrap64 ((wrap64 (a0)) + (wrap64 (10 * (wrap64 (Int.tdiv x11_3 4)))))) + (Int.tmod x11_3 4)))
                        · rw [if_pos c25] at H
                          have c25b0 : (((rd_T36 t123 x11_3).f0) == (wrap64 ((wrap64 ((wrap64 (a0)) + (wrap64 (10 * (wrap64 (Int.tdiv x11_3 4)))))) + (Int.tmod x11_3 4)))) = true := beq_iff_eq.mpr c25
                          have c25b1 : (((rd_T36 t123 x11_3).f0) != (wrap64 ((wrap64 ((wrap64 (a0)) + (wrap64 (10 * (wrap64 (Int.tdiv x11_3 4)))))) + (Int.tmod x11_3 4)))) = false := bne_eq_false_iff_eq.mpr c25
                          clear c25
                          replace H := Option.bind_eq_some_iff.mp H
                          obtain ⟨t131, A260, H⟩ := H
                          replace H : (if ((rd_T36 t123 x11_3).f1) = t131 then (steadinglaw09_CacheFills.l2 k3 a1 (wrap64 (a0)) t123 (wrap64 (x11_3 + 1)) x121000_14) else (some false)) = some r := H
                          have A26 := Aside0.mk A260
                          clear A260
                          by_cases c27 : ((rd_T36 t123 x11_3).f1) = t131
                          · rw [if_pos c27] at H
                            have c27b0 : (((rd_T36 t123 x11_3).f1) == t131) = true := beq_iff_eq.mpr c27
                            have c27b1 : (((rd_T36 t123 x11_3).f1) != t131) = false := bne_eq_false_iff_eq.mpr c27
                            clear c27
                            have H' := Aside0.mk H
                            clear H
                            obtain ⟨Ao28, co28, eo28⟩ := Kd.R_slice HO_10.out
                            subst eo28
                            have p129 : 0 ≤ (x11_3 : Int) := of_decide_eq_true (by first | (with_reducible assumption) | assumption)
                            have q129 : x11_3 < (t123.length : Int) := of_decide_eq_true (by first | (with_reducible assumption) | assumption)
                            obtain ⟨ad129, e129, hx129_0, hx129_1⟩ := at_T36 (Kd.R_reads' HO_10.out).2.2 x11_3 p129 q129
                            cases e129
                            replace p129 := eq_true p129
                            replace q129 := eq_true q129
                            have p130 : 0 ≤ (x11_3 : Int) := of_decide_eq_true (by first | (with_reducible assumption) | assumption)
                            have q130 : x11_3 < (t123.length : Int) := of_decide_eq_true (by first | (with_reducible assumption) | assumption)
                            obtain ⟨ad130, e130, hx130_0, hx130_1⟩ := at_T36 (Kd.R_reads' HO_10.out).2.2 x11_3 p130 q130
                            obtain rfl : ad129 = ad130 := (by injection e130)
                            replace p130 := eq_true p130
                            replace q130 := eq_true q130
                            go_wp2_with (first | (go_at_call 22; (with_reducible refine (classes_Pages.calls (wrap64 (Int.tdiv x11_3 4)) t131 _ A26.out).mono ?_); rintro e w' ⟨rfl, ⟨nd, rfl⟩⟩; (try first | exact ⟨rfl, _, World.drewN_drewN _ _ _⟩ | exact ⟨rfl, _, Eq.trans (World.drewN_drewN _ _ _) (congrArg (World.drewN _) (Nat.add_assoc _ _ _))⟩)))
                            repeat (go_quiet (first | (go_at_call 22; (with_reducible refine (classes_Pages.calls (wrap64 (Int.tdiv x11_3 4)) t131 _ A26.out).mono ?_); rintro e w' ⟨rfl, ⟨nd, rfl⟩⟩; (try first | exact ⟨rfl, _, World.drewN_drewN _ _ _⟩ | exact ⟨rfl, _, Eq.trans (World.drewN_drewN _ _ _) (congrArg (World.drewN _) (Nat.add_assoc _ _ _))⟩))); try go_wp2_with (first | (go_at_call 22; (with_reducible refine (classes_Pages.calls (wrap64 (Int.tdiv x11_3 4)) t131 _ A26.out).mono ?_); rintro e w' ⟨rfl, ⟨nd, rfl⟩⟩; (try first | exact ⟨rfl, _, World.drewN_drewN _ _ _⟩ | exact ⟨rfl, _, Eq.trans (World.drewN_drewN _ _ _) (congrArg (World.drewN _) (Nat.add_assoc _ _ _))⟩))))
                            go_roundg k3
                            case measure => have := HK1.out; have := HJ14.out; have := HK3.out; omega
                            case rel => exact ⟨(wrap64 (x11_3 + 1)), (by first | rfl | (simp; done) | (simp [*]; done)), H', ⟨by have := HK1.out; have := HJ14.out; have := HK3.out; omega⟩, ⟨by (with_reducible repeat (first | apply Kd.R_alloc | apply Kd.R_drewN | apply Kd.R_drew)); exact HO_10.out⟩, ⟨by repeat (first | (with_reducible first | exact HI120.out | apply IsS47.alloc | apply IsS47.drewN | apply IsS47.drew | apply IsS47.set_0) | exact HI120.out)⟩, ⟨by repeat (first | (with_reducible first | exact HB.out | apply below_alloc | apply pw_below_drewN | apply below_drew1 | refine below_set ?_ (IsS47.ge HI120.out)) | exact HB.out)⟩⟩
                          · rw [if_neg c27] at H
                            have c27b0 : (((rd_T36 t123 x11_3).f1) == t131) = false := beq_eq_false_iff_ne.mpr c27
                            have c27b1 : (((rd_T36 t123 x11_3).f1) != t131) = true := bne_iff_ne.mpr c27
                            obtain rfl := Option.some.inj H
                            obtain ⟨Ao29, co29, eo29⟩ := Kd.R_slice HO_10.out
                            subst eo29
                            have p129 : 0 ≤ (x11_3 : Int) := of_decide_eq_true (by first | (with_reducible assumption) | assumption)
                            have q129 : x11_3 < (t123.length : Int) := of_decide_eq_true (by first | (with_reducible assumption) | assumption)
                            obtain ⟨ad129, e129, hx129_0, hx129_1⟩ := at_T36 (Kd.R_reads' HO_10.out).2.2 x11_3 p129 q129
                            cases e129
                            replace p129 := eq_true p129
                            replace q129 := eq_true q129
                            have p130 : 0 ≤ (x11_3 : Int) := of_decide_eq_true (by first | (with_reducible assumption) | assumption)
                            have q130 : x11_3 < (t123.length : Int) := of_decide_eq_true (by first | (with_reducible assumption) | assumption)
                            obtain ⟨ad130, e130, hx130_0, hx130_1⟩ := at_T36 (Kd.R_reads' HO_10.out).2.2 x11_3 p130 q130
                            obtain rfl : ad129 = ad130 := (by injection e130)
                            replace p130 := eq_true p130
                            replace q130 := eq_true q130
                            go_wp2_with (first | (go_at_call 22; (with_reducible refine (classes_Pages.calls (wrap64 (Int.tdiv x11_3 4)) t131 _ A26.out).mono ?_); rintro e w' ⟨rfl, ⟨nd, rfl⟩⟩; (try first | exact ⟨rfl, _, World.drewN_drewN _ _ _⟩ | exact ⟨rfl, _, Eq.trans (World.drewN_drewN _ _ _) (congrArg (World.drewN _) (Nat.add_assoc _ _ _))⟩)))
                            repeat (go_quiet (first | (go_at_call 22; (with_reducible refine (classes_Pages.calls (wrap64 (Int.tdiv x11_3 4)) t131 _ A26.out).mono ?_); rintro e w' ⟨rfl, ⟨nd, rfl⟩⟩; (try first | exact ⟨rfl, _, World.drewN_drewN _ _ _⟩ | exact ⟨rfl, _, Eq.trans (World.drewN_drewN _ _ _) (congrArg (World.drewN _) (Nat.add_assoc _ _ _))⟩))); try go_wp2_with (first | (go_at_call 22; (with_reducible refine (classes_Pages.calls (wrap64 (Int.tdiv x11_3 4)) t131 _ A26.out).mono ?_); rintro e w' ⟨rfl, ⟨nd, rfl⟩⟩; (try first | exact ⟨rfl, _, World.drewN_drewN _ _ _⟩ | exact ⟨rfl, _, Eq.trans (World.drewN_drewN _ _ _) (congrArg (World.drewN _) (Nat.add_assoc _ _ _))⟩))))
                            go_ret
                            exact ⟨by first | rfl | (simp [errW_none, errW_some] <;> rfl) | (simp [*, errW_none, errW_some] <;> rfl), by repeat (first | (with_reducible first | exact HB.out | apply below_alloc | apply pw_below_drewN | apply below_drew1 | refine below_set ?_ (IsS47.ge HI120.out)) | exact HB.out)⟩
                        · rw [if_neg c25] at H
                          have c25b0 : (((rd_T36 t123 x11_3).f0) == (wrap64 ((wrap64 ((wrap64 (a0)) + (wrap64 (10 * (wrap64 (Int.tdiv x11_3 4)))))) + (Int.tmod x11_3 4)))) = false := beq_eq_false_iff_ne.mpr c25
                          have c25b1 : (((rd_T36 t123 x11_3).f0) != (wrap64 ((wrap64 ((wrap64 (a0)) + (wrap64 (10 * (wrap64 (Int.tdiv x11_3 4)))))) + (Int.tmod x11_3 4)))) = true := bne_iff_ne.mpr c25
                          obtain rfl := Option.some.inj H
                          obtain ⟨Ao30, co30, eo30⟩ := Kd.R_slice HO_10.out
                          subst eo30
                          have p129 : 0 ≤ (x11_3 : Int) := of_decide_eq_true (by first | (with_reducible assumption) | assumption)
                          have q129 : x11_3 < (t123.length : Int) := of_decide_eq_true (by first | (with_reducible assumption) | assumption)
                          obtain ⟨ad129, e129, hx129_0, hx129_1⟩ := at_T36 (Kd.R_reads' HO_10.out).2.2 x11_3 p129 q129
                          cases e129
                          replace p129 := eq_true p129
                          replace q129 := eq_true q129
                          go_wp2
                          repeat (go_quiet (fail); try go_wp2)
                          go_ret
                          exact ⟨by first | rfl | (simp [errW_none, errW_some] <;> rfl) | (simp [*, errW_none, errW_some] <;> rfl), by repeat (first | (with_reducible first | exact HB.out | apply below_alloc | apply pw_below_drewN | apply below_drew1 | refine below_set ?_ (IsS47.ge HI120.out)) | exact HB.out)⟩
                      · rw [if_neg c24] at H
                        exact absurd H (by simp)
                    · rw [if_neg c23] at H
                      have c23b0 : decide (x11_3 < (t123.length : Int)) = false := decide_eq_false c23
                      clear c23
                      replace H := Option.bind_eq_some_iff.mp H
                      obtain ⟨⟨t132, t133, t134⟩, A310, H⟩ := H
                      replace H : (if t133 = true then (if t132 = (wrap64 ((wrap64 ((wrap64 (a0)) + (wrap64 (10 * (wrap64 (Int.tmod a1 7)))))) + 3)) then ((cache_Cache_Len.f t134 (wrap64 (Int.tmod a1 7))).bind fun bt135 => (if bt135.1 = 3 then ((cache_Cache_Push.f bt135.2 (wrap64 (Int.tmod a1 7)) t132).bind fun bt137 => (steadinglaw09_CacheFills.j4 k3 (wrap64 (a0)) (!bt137.1) bt137.2)) else (steadinglaw09_CacheFills.j4 k3 (wrap64 (a0)) true bt135.2))) else (steadinglaw09_CacheFills.j4 k3 (wrap64 (a0)) true t134)) else (steadinglaw09_CacheFills.j4 k3 (wrap64 (a0)) true t134)) = some r := H
                      have A31 := Aside0.mk A310
                      clear A310
                      have HC32 := Aside0.mk H
                      clear H
                      obtain ⟨Ao33, co33, eo33⟩ := Kd.R_slice HO_10.out
                      subst eo33
                      go_upto_region 24 with (first | (go_at_call 18; (with_reducible refine (cache_Cache_Pop.calls g120 x121000_14 (wrap64 (Int.tmod a1 7)) t132 t133 t134 w _ ?side1 ?side2 A31.out).mono ?_); (case side1 => repeat (first | (with_reducible first | exact HI120.out | apply IsS47.alloc | apply IsS47.drewN | apply IsS47.drew | apply IsS47.set_0) | exact HI120.out)); (case side2 => repeat (first | (with_reducible first | exact HB.out | apply below_alloc | apply pw_below_drewN | apply below_drew1 | refine below_set ?_ (IsS47.ge HI120.out)) | exact HB.out)); rintro e w34 ⟨rfl, hi, hb, hk⟩; have n0_ := Aside0.mk (Kd.R_mono (Kd.R_keep (IsS47.apart (show IsS47 w _ g120 x121000_14 from by repeat (first | (with_reducible first | exact HI120.out | apply IsS47.alloc | apply IsS47.drewN | apply IsS47.drew | apply IsS47.set_0) | exact HI120.out)) (by (with_reducible repeat (first | apply Kd.R_alloc | apply Kd.R_drewN | apply Kd.R_drew)); exact HO_10.out) (by decide)) hk (fun _ h => h.2)) (fun _ h => h.1)); have n1_ := Aside0.mk (hb); have n2_ := Aside0.mk (hi); clear HO_10; clear HB; clear HI120; have HO_10 := n0_; have HB := n1_; have HI120 := n2_; clear n0_ n1_ n2_; (try clear hb); (try clear hb2); (try clear hk); (try clear hi)))
                      repeat (go_quiet (first | (go_at_call 18; (with_reducible refine (cache_Cache_Pop.calls g120 x121000_14 (wrap64 (Int.tmod a1 7)) t132 t133 t134 w _ ?side1 ?side2 A31.out).mono ?_); (case side1 => repeat (first | (with_reducible first | exact HI120.out | apply IsS47.alloc | apply IsS47.drewN | apply IsS47.drew | apply IsS47.set_0) | exact HI120.out)); (case side2 => repeat (first | (with_reducible first | exact HB.out | apply below_alloc | apply pw_below_drewN | apply below_drew1 | refine below_set ?_ (IsS47.ge HI120.out)) | exact HB.out)); rintro e w34 ⟨rfl, hi, hb, hk⟩; have n0_ := Aside0.mk (Kd.R_mono (Kd.R_keep (IsS47.apart (show IsS47 w _ g120 x121000_14 from by repeat (first | (with_reducible first | exact HI120.out | apply IsS47.alloc | apply IsS47.drewN | apply IsS47.drew | apply IsS47.set_0) | exact HI120.out)) (by (with_reducible repeat (first | apply Kd.R_alloc | apply Kd.R_drewN | apply Kd.R_drew)); exact HO_10.out) (by decide)) hk (fun _ h => h.2)) (fun _ h => h.1)); have n1_ := Aside0.mk (hb); have n2_ := Aside0.mk (hi); clear HO_10; clear HB; clear HI120; have HO_10 := n0_; have HB := n1_; have HI120 := n2_; clear n0_ n1_ n2_; (try clear hb); (try clear hb2); (try clear hk); (try clear hi))); go_upto_region 24 with (first | (go_at_call 18; (with_reducible refine (cache_Cache_Pop.calls g120 x121000_14 (wrap64 (Int.tmod a1 7)) t132 t133 t134 w _ ?side1 ?side2 A31.out).mono ?_); (case side1 => repeat (first | (with_reducible first | exact HI120.out | apply IsS47.alloc | apply IsS47.drewN | apply IsS47.drew | apply IsS47.set_0) | exact HI120.out)); (case side2 => repeat (first | (with_reducible first | exact HB.out | apply below_alloc | apply pw_below_drewN | apply below_drew1 | refine below_set ?_ (IsS47.ge HI120.out)) | exact HB.out)); rintro e w34 ⟨rfl, hi, hb, hk⟩; have n0_ := Aside0.mk (Kd.R_mono (Kd.R_keep (IsS47.apart (show IsS47 w _ g120 x121000_14 from by repeat (first | (with_reducible first | exact HI120.out | apply IsS47.alloc | apply IsS47.drewN | apply IsS47.drew | apply IsS47.set_0) | exact HI120.out)) (by (with_reducible repeat (first | apply Kd.R_alloc | apply Kd.R_drewN | apply Kd.R_drew)); exact HO_10.out) (by decide)) hk (fun _ h => h.2)) (fun _ h => h.1)); have n1_ := Aside0.mk (hb); have n2_ := Aside0.mk (hi); clear HO_10; clear HB; clear HI120; have HO_10 := n0_; have HB := n1_; have HI120 := n2_; clear n0_ n1_ n2_; (try clear hb); (try clear hb2); (try clear hk); (try clear hi))))
                      (try simp only [Act.put, List.setIfInBounds_toArray, List.set_cons_zero, List.set_cons_succ])
                      go_cut [118] (fun v118 wc => ∃ (kq : Nat) (x118_31 : Bool) (x121000_31 : Hand.Stacks), v118 = .bool x118_31 ∧ Aside0 (steadinglaw09_CacheFills.j4 kq (wrap64 (a0)) x118_31 x121000_31 = some r) ∧ Aside0 (kq ≤ k3) ∧ Aside0 (IsS47 w wc g120 x121000_31) ∧ Aside0 (Below w.heap.size w wc))
                      case first =>
                        have H := HC32.out
                        clear HC32
                        by_cases c35 : t133 = true
                        · subst c35
                          have H1 : (if t132 = (wrap64 ((wrap64 ((wrap64 (a0)) + (wrap64 (10 * (wrap64 (Int.tmod a1 7)))))) + 3)) then ((cache_Cache_Len.f t134 (wrap64 (Int.tmod a1 7))).bind fun bt135 => (if bt135.1 = 3 then ((cache_Cache_Push.f bt135.2 (wrap64 (Int.tmod a1 7)) t132).bind fun bt137 => (steadinglaw09_CacheFills.j4 k3 (wrap64 (a0)) (!bt137.1) bt137.2)) else (steadinglaw09_CacheFills.j4 k3 (wrap64 (a0)) true bt135.2))) else (steadinglaw09_CacheFills.j4 k3 (wrap64 (a0)) true t134)) = some r := by rw [if_pos rfl] at H; exact H
                          clear H
                          have H := H1
                          clear H1
                          by_cases c36 : t132 = (wrap64 ((wrap64 ((wrap64 (a0)) + (wrap64 (10 * (wrap64 (Int.tmod a1 7)))))) + 3))
                          · rw [if_pos c36] at H
                            have c36b0 : (t132 == (wrap64 ((wrap64 ((wrap64 (a0)) + (wrap64 (10 * (wrap64 (Int.tmod a1 7)))))) + 3))) = true := beq_iff_eq.mpr c36
                            have c36b1 : (t132 != (wrap64 ((wrap64 ((wrap64 (a0)) + (wrap64 (10 * (wrap64 (Int.tmod a1 7)))))) + 3))) = false := bne_eq_false_iff_eq.mpr c36
                            clear c36
                            (first | rw [c36b0] | (simp only [i64_w, i32_w]; rw [c36b0]) | skip)
                            replace H := Option.bind_eq_some_iff.mp H
                            obtain ⟨⟨t135, t136⟩, A370, H⟩ := H
                            replace H : (if t135 = 3 then ((cache_Cache_Push.f t136 (wrap64 (Int.tmod a1 7)) t132).bind fun bt137 => (steadinglaw09_CacheFills.j4 k3 (wrap64 (a0)) (!bt137.1) bt137.2)) else (steadinglaw09_CacheFills.j4 k3 (wrap64 (a0)) true t136)) = some r := H
                            have A37 := Aside0.mk A370
                            clear A370
                            by_cases c38 : t135 = 3
                            · rw [if_pos c38] at H
                              have c38b0 : (t135 == 3) = true := beq_iff_eq.mpr c38
                              have c38b1 : (t135 != 3) = false := bne_eq_false_iff_eq.mpr c38
                              clear c38
                              replace H := Option.bind_eq_some_iff.mp H
                              obtain ⟨⟨t137, t138⟩, A390, H⟩ := H
                              replace H : (steadinglaw09_CacheFills.j4 k3 (wrap64 (a0)) (!t137) t138) = some r := H
                              have A39 := Aside0.mk A390
                              clear A390
                              have H' := Aside0.mk H
                              clear H
                              go_wp2_with (first | (go_at_call 19; (with_reducible refine (cache_Cache_Len.calls g120 t134 (wrap64 (Int.tmod a1 7)) t135 t136 w _ ?side1 ?side2 A37.out).mono ?_); (case side1 => repeat (first | (with_reducible first | exact HI120.out | apply IsS47.alloc | apply IsS47.drewN | apply IsS47.drew | apply IsS47.set_0) | exact HI120.out)); (case side2 => repeat (first | (with_reducible first | exact HB.out | apply below_alloc | apply pw_below_drewN | apply below_drew1 | refine below_set ?_ (IsS47.ge HI120.out)) | exact HB.out)); rintro e w40 ⟨rfl, hi, hb, hk⟩; have n0_ := Aside0.mk (Kd.R_mono (Kd.R_keep (IsS47.apart (show IsS47 w _ g120 t134 from by repeat (first | (with_reducible first | exact HI120.out | apply IsS47.alloc | apply IsS47.drewN | apply IsS47.drew | apply IsS47.set_0) | exact HI120.out)) (by (with_reducible repeat (first | apply Kd.R_alloc | apply Kd.R_drewN | apply Kd.R_drew)); exact HO_10.out) (by decide)) hk (fun _ h => h.2)) (fun _ h => h.1)); have n1_ := Aside0.mk (hb); have n2_ := Aside0.mk (hi); clear HO_10; clear HB; clear HI120; have HO_10 := n0_; have HB := n1_; have HI120 := n2_; clear n0_ n1_ n2_; (try clear hb); (try clear hb2); (try clear hk); (try clear hi)) | (go_at_call 17; (with_reducible refine (cache_Cache_Push.calls g120 t136 (wrap64 (Int.tmod a1 7)) t132 t137 t138 w _ ?side1 ?side2 A39.out).mono ?_); (case side1 => repeat (first | (with_reducible first | exact HI120.out | apply IsS47.alloc | apply IsS47.drewN | apply IsS47.drew | apply IsS47.set_0) | exact HI120.out)); (case side2 => repeat (first | (with_reducible first | exact HB.out | apply below_alloc | apply pw_below_drewN | apply below_drew1 | refine below_set ?_ (IsS47.ge HI120.out)) | exact HB.out)); rintro e w41 ⟨rfl, hi, hb, hk⟩; have n0_ := Aside0.mk (Kd.R_mono (Kd.R_keep (IsS47.apart (show IsS47 w _ g120 t136 from by repeat (first | (with_reducible first | exact HI120.out | apply IsS47.alloc | apply IsS47.drewN | apply IsS47.drew | apply IsS47.set_0) | exact HI120.out)) (by (with_reducible repeat (first | apply Kd.R_alloc | apply Kd.R_drewN | apply Kd.R_drew)); exact HO_10.out) (by decide)) hk (fun _ h => h.2)) (fun _ h => h.1)); have n1_ := Aside0.mk (hb); have n2_ := Aside0.mk (hi); clear HO_10; clear HB; clear HI120; have HO_10 := n0_; have HB := n1_; have HI120 := n2_; clear n0_ n1_ n2_; (try clear hb); (try clear hb2); (try clear hk); (try clear hi)))
                              repeat (go_quiet (first | (go_at_call 19; (with_reducible refine (cache_Cache_Len.calls g120 t134 (wrap64 (Int.tmod a1 7)) t135 t136 w _ ?side1 ?side2 A37.out).mono ?_); (case side1 => repeat (first | (with_reducible first | exact HI120.out | apply IsS47.alloc | apply IsS47.drewN | apply IsS47.drew | apply IsS47.set_0) | exact HI120.out)); (case side2 => repeat (first | (with_reducible first | exact HB.out | apply below_alloc | apply pw_below_drewN | apply below_drew1 | refine below_set ?_ (IsS47.ge HI120.out)) | exact HB.out)); rintro e w40 ⟨rfl, hi, hb, hk⟩; have n0_ := Aside0.mk (Kd.R_mono (Kd.R_keep (IsS47.apart (show IsS47 w _ g120 t134 from by repeat (first | (with_reducible first | exact HI120.out | apply IsS47.alloc | apply IsS47.drewN | apply IsS47.drew | apply IsS47.set_0) | exact HI120.out)) (by (with_reducible repeat (first | apply Kd.R_alloc | apply Kd.R_drewN | apply Kd.R_drew)); exact HO_10.out) (by decide)) hk (fun _ h => h.2)) (fun _ h => h.1)); have n1_ := Aside0.mk (hb); have n2_ := Aside0.mk (hi); clear HO_10; clear HB; clear HI120; have HO_10 := n0_; have HB := n1_; have HI120 := n2_; clear n0_ n1_ n2_; (try clear hb); (try clear hb2); (try clear hk); (try clear hi)) | (go_at_call 17; (with_reducible refine (cache_Cache_Push.calls g120 t136 (wrap64 (Int.tmod a1 7)) t132 t137 t138 w _ ?side1 ?side2 A39.out).mono ?_); (case side1 => repeat (first | (with_reducible first | exact HI120.out | apply IsS47.alloc | apply IsS47.drewN | apply IsS47.drew | apply IsS47.set_0) | exact HI120.out)); (case side2 => repeat (first | (with_reducible first | exact HB.out | apply below_alloc | apply pw_below_drewN | apply below_drew1 | refine below_set ?_ (IsS47.ge HI120.out)) | exact HB.out)); rintro e w41 ⟨rfl, hi, hb, hk⟩; have n0_ := Aside0.mk (Kd.R_mono (Kd.R_keep (IsS47.apart (show IsS47 w _ g120 t136 from by repeat (first | (with_reducible first | exact HI120.out | apply IsS47.alloc | apply IsS47.drewN | apply IsS47.drew | apply IsS47.set_0) | exact HI120.out)) (by (with_reducible repeat (first | apply Kd.R_alloc | apply Kd.R_drewN | apply Kd.R_drew)); exact HO_10.out) (by decide)) hk (fun _ h => h.2)) (fun _ h => h.1)); have n1_ := Aside0.mk (hb); have n2_ := Aside0.mk (hi); clear HO_10; clear HB; clear HI120; have HO_10 := n0_; have HB := n1_; have HI120 := n2_; clear n0_ n1_ n2_; (try clear hb); (try clear hb2); (try clear hk); (try clear hi))); try go_wp2_with (first | (go_at_call 19; (with_reducible refine (cache_Cache_Len.calls g120 t134 (wrap64 (Int.tmod a1 7)) t135 t136 w _ ?side1 ?side2 A37.out).mono ?_); (case side1 => repeat (first | (with_reducible first | exact HI120.out | apply IsS47.alloc | apply IsS47.drewN | apply IsS47.drew | apply IsS47.set_0) | exact HI120.out)); (case side2 => repeat (first | (with_reducible first | exact HB.out | apply below_alloc | apply pw_below_drewN | apply below_drew1 | refine below_set ?_ (IsS47.ge HI120.out)) | exact HB.out)); rintro e w40 ⟨rfl, hi, hb, hk⟩; have n0_ := Aside0.mk (Kd.R_mono (Kd.R_keep (IsS47.apart (show IsS47 w _ g120 t134 from by repeat (first | (with_reducible first | exact HI120.out | apply IsS47.alloc | apply IsS47.drewN | apply IsS47.drew | apply IsS47.set_0) | exact HI120.out)) (by (with_reducible repeat (first | apply Kd.R_alloc | apply Kd.R_drewN | apply Kd.R_drew)); exact HO_10.out) (by decide)) hk (fun _ h => h.2)) (fun _ h => h.1)); have n1_ := Aside0.mk (hb); have n2_ := Aside0.mk (hi); clear HO_10; clear HB; clear HI120; have HO_10 := n0_; have HB := n1_; have HI120 := n2_; clear n0_ n1_ n2_; (try clear hb); (try clear hb2); (try clear hk); (try clear hi)) | (go_at_call 17; (with_reducible refine (cache_Cache_Push.calls g120 t136 (wrap64 (Int.tmod a1 7)) t132 t137 t138 w _ ?side1 ?side2 A39.out).mono ?_); (case side1 => repeat (first | (with_reducible first | exact HI120.out | apply IsS47.alloc | apply IsS47.drewN | apply IsS47.drew | apply IsS47.set_0) | exact HI120.out)); (case side2 => repeat (first | (with_reducible first | exact HB.out | apply below_alloc | apply pw_below_drewN | apply below_drew1 | refine below_set ?_ (IsS47.ge HI120.out)) | exact HB.out)); rintro e w41 ⟨rfl, hi, hb, hk⟩; have n0_ := Aside0.mk (Kd.R_mono (Kd.R_keep (IsS47.apart (show IsS47 w _ g120 t136 from by repeat (first | (with_reducible first | exact HI120.out | apply IsS47.alloc | apply IsS47.drewN | apply IsS47.drew | apply IsS47.set_0) | exact HI120.out)) (by (with_reducible repeat (first | apply Kd.R_alloc | apply Kd.R_drewN | apply Kd.R_drew)); exact HO_10.out) (by decide)) hk (fun _ h => h.2)) (fun _ h => h.1)); have n1_ := Aside0.mk (hb); have n2_ := Aside0.mk (hi); clear HO_10; clear HB; clear HI120; have HO_10 := n0_; have HB := n1_; have HI120 := n2_; clear n0_ n1_ n2_; (try clear hb); (try clear hb2); (try clear hk); (try clear hi))))
                              go_meet
                              case rel => exact ⟨_, (!t137), (t138), (by first | rfl | (simp; done) | (simp [*]; done)), H', ⟨by have := HK1.out; have := HJ14.out; have := HK3.out; first | omega | exact Nat.le_refl _⟩, ⟨by repeat (first | (with_reducible first | exact HI120.out | apply IsS47.alloc | apply IsS47.drewN | apply IsS47.drew | apply IsS47.set_0) | exact HI120.out)⟩, ⟨by repeat (first | (with_reducible first | exact HB.out | apply below_alloc | apply pw_below_drewN | apply below_drew1 | refine below_set ?_ (IsS47.ge HI120.out)) | exact HB.out)⟩⟩
                            · rw [if_neg c38] at H
                              have c38b0 : (t135 == 3) = false := beq_eq_false_iff_ne.mpr c38
                              have c38b1 : (t135 != 3) = true := bne_iff_ne.mpr c38
                              have H' := Aside0.mk H
                              clear H
                              go_wp2_with (first | (go_at_call 19; (with_reducible refine (cache_Cache_Len.calls g120 t134 (wrap64 (Int.tmod a1 7)) t135 t136 w _ ?side1 ?side2 A37.out).mono ?_); (case side1 => repeat (first | (with_reducible first | exact HI120.out | apply IsS47.alloc | apply IsS47.drewN | apply IsS47.drew | apply IsS47.set_0) | exact HI120.out)); (case side2 => repeat (first | (with_reducible first | exact HB.out | apply below_alloc | apply pw_below_drewN | apply below_drew1 | refine below_set ?_ (IsS47.ge HI120.out)) | exact HB.out)); rintro e w42 ⟨rfl, hi, hb, hk⟩; have n0_ := Aside0.mk (Kd.R_mono (Kd.R_keep (IsS47.apart (show IsS47 w _ g120 t134 from by repeat (first | (with_reducible first | exact HI120.out | apply IsS47.alloc | apply IsS47.drewN | apply IsS47.drew | apply IsS47.set_0) | exact HI120.out)) (by (with_reducible repeat (first | apply Kd.R_alloc | apply Kd.R_drewN | apply Kd.R_drew)); exact HO_10.out) (by decide)) hk (fun _ h => h.2)) (fun _ h => h.1)); have n1_ := Aside0.mk (hb); have n2_ := Aside0.mk (hi); clear HO_10; clear HB; clear HI120; have HO_10 := n0_; have HB := n1_; have HI120 := n2_; clear n0_ n1_ n2_; (try clear hb); (try clear hb2); (try clear hk); (try clear hi)))
                              repeat (go_quiet (first | (go_at_call 19; (with_reducible refine (cache_Cache_Len.calls g120 t134 (wrap64 (Int.tmod a1 7)) t135 t136 w _ ?side1 ?side2 A37.out).mono ?_); (case side1 => repeat (first | (with_reducible first | exact HI120.out | apply IsS47.alloc | apply IsS47.drewN | apply IsS47.drew | apply IsS47.set_0) | exact HI120.out)); (case side2 => repeat (first | (with_reducible first | exact HB.out | apply below_alloc | apply pw_below_drewN | apply below_drew1 | refine below_set ?_ (IsS47.ge HI120.out)) | exact HB.out)); rintro e w42 ⟨rfl, hi, hb, hk⟩; have n0_ := Aside0.mk (Kd.R_mono (Kd.R_keep (IsS47.apart (show IsS47 w _ g120 t134 from by repeat (first | (with_reducible first | exact HI120.out | apply IsS47.alloc | apply IsS47.drewN | apply IsS47.drew | apply IsS47.set_0) | exact HI120.out)) (by (with_reducible repeat (first | apply Kd.R_alloc | apply Kd.R_drewN | apply Kd.R_drew)); exact HO_10.out) (by decide)) hk (fun _ h => h.2)) (fun _ h => h.1)); have n1_ := Aside0.mk (hb); have n2_ := Aside0.mk (hi); clear HO_10; clear HB; clear HI120; have HO_10 := n0_; have HB := n1_; have HI120 := n2_; clear n0_ n1_ n2_; (try clear hb); (try clear hb2); (try clear hk); (try clear hi))); try go_wp2_with (first | (go_at_call 19; (with_reducible refine (cache_Cache_Len.calls g120 t134 (wrap64 (Int.tmod a1 7)) t135 t136 w _ ?side1 ?side2 A37.out).mono ?_); (case side1 => repeat (first | (with_reducible first | exact HI120.out | apply IsS47.alloc | apply IsS47.drewN | apply IsS47.drew | apply IsS47.set_0) | exact HI120.out)); (case side2 => repeat (first | (with_reducible first | exact HB.out | apply below_alloc | apply pw_below_drewN | apply below_drew1 | refine below_set ?_ (IsS47.ge HI120.out)) | exact HB.out)); rintro e w42 ⟨rfl, hi, hb, hk⟩; have n0_ := Aside0.mk (Kd.R_mono (Kd.R_keep (IsS47.apart (show IsS47 w _ g120 t134 from by repeat (first | (with_reducible first | exact HI120.out | apply IsS47.alloc | apply IsS47.drewN | apply IsS47.drew | apply IsS47.set_0) | exact HI120.out)) (by (with_reducible repeat (first | apply Kd.R_alloc | apply Kd.R_drewN | apply Kd.R_drew)); exact HO_10.out) (by decide)) hk (fun _ h => h.2)) (fun _ h => h.1)); have n1_ := Aside0.mk (hb); have n2_ := Aside0.mk (hi); clear HO_10; clear HB; clear HI120; have HO_10 := n0_; have HB := n1_; have HI120 := n2_; clear n0_ n1_ n2_; (try clear hb); (try clear hb2); (try clear hk); (try clear hi))))
                              go_meet
                              case rel => exact ⟨_, (true), (t136), (by first | rfl | (simp; done) | (simp [*]; done)), H', ⟨by have := HK1.out; have := HJ14.out; have := HK3.out; first | omega | exact Nat.le_refl _⟩, ⟨by repeat (first | (with_reducible first | exact HI120.out | apply IsS47.alloc | apply IsS47.drewN | apply IsS47.drew | apply IsS47.set_0) | exact HI120.out)⟩, ⟨by repeat (first | (with_reducible first | exact HB.out | apply below_alloc | apply pw_below_drewN | apply below_drew1 | refine below_set ?_ (IsS47.ge HI120.out)) | exact HB.out)⟩⟩
                          · rw [if_neg c36] at H
                            have c36b0 : (t132 == (wrap64 ((wrap64 ((wrap64 (a0)) + (wrap64 (10 * (wrap64 (Int.tmod a1 7)))))) + 3))) = false := beq_eq_false_iff_ne.mpr c36
                            have c36b1 : (t132 != (wrap64 ((wrap64 ((wrap64 (a0)) + (wrap64 (10 * (wrap64 (Int.tmod a1 7)))))) + 3))) = true := bne_iff_ne.mpr c36
                            (first | rw [c36b0] | (simp only [i64_w, i32_w]; rw [c36b0]) | skip)
                            have H' := Aside0.mk H
                            clear H
                            go_wp2
                            repeat (go_quiet (fail); try go_wp2)
                            go_meet
                            case rel => exact ⟨_, (true), (t134), (by first | rfl | (simp; done) | (simp [*]; done)), H', ⟨by have := HK1.out; have := HJ14.out; have := HK3.out; first | omega | exact Nat.le_refl _⟩, ⟨by repeat (first | (with_reducible first | exact HI120.out | apply IsS47.alloc | apply IsS47.drewN | apply IsS47.drew | apply IsS47.set_0) | exact HI120.out)⟩, ⟨by repeat (first | (with_reducible first | exact HB.out | apply below_alloc | apply pw_below_drewN | apply below_drew1 | refine below_set ?_ (IsS47.ge HI120.out)) | exact HB.out)⟩⟩
                        · replace c35 := Bool.eq_false_iff.mpr c35
                          subst c35
                          have H1 : (steadinglaw09_CacheFills.j4 k3 (wrap64 (a0)) true t134) = some r := by rw [if_neg (show ¬ (false = true) by decide)] at H; exact H
                          clear H
                          have H := H1
                          clear H1
                          have H' := Aside0.mk H
                          clear H
                          go_wp2
                          repeat (go_quiet (fail); try go_wp2)
                          go_meet
                          case rel => exact ⟨_, (true), (t134), (by first | rfl | (simp; done) | (simp [*]; done)), H', ⟨by have := HK1.out; have := HJ14.out; have := HK3.out; first | omega | exact Nat.le_refl _⟩, ⟨by repeat (first | (with_reducible first | exact HI120.out | apply IsS47.alloc | apply IsS47.drewN | apply IsS47.drew | apply IsS47.set_0) | exact HI120.out)⟩, ⟨by repeat (first | (with_reducible first | exact HB.out | apply below_alloc | apply pw_below_drewN | apply below_drew1 | refine below_set ?_ (IsS47.ge HI120.out)) | exact HB.out)⟩⟩
                      case rest =>
                        clear HC32
                        try clear c1
                        try clear p1
                        try clear q1
                        try clear hx1
                        try clear c2
                        try clear p2
                        try clear c3
                        try clear c4
                        try clear p6
                        try clear c8
                        try clear c8b0
                        try clear c9
                        try clear c9b0
                        try clear c11
                        try clear c11b0
                        try clear c11b1
                        try clear c11b2
                        try clear p12
                        try clear q12
                        try clear hx12
                        try clear p13
                        try clear q13
                        try clear hx13
                        try clear c17
                        try clear c17b0
                        try clear c17b1
                        try clear c22
                        try clear c23
                        try clear c23b0
                        try clear c24
                        try clear c24b0
                        try clear c25
                        try clear c25b0
                        try clear c25b1
                        try clear c27
                        try clear c27b0
                        try clear c27b1
                        try clear c35
                        try clear c36
                        try clear c36b0
                        try clear c36b1
                        try clear c38
                        try clear c38b0
                        try clear c38b1
                        try clear hx129_0
                        try clear hx129_1
                        try clear hx130_0
                        try clear hx130_1
                        try clear p129
                        try clear p130
                        try clear p2
                        try clear p6
                        try clear q129
                        try clear q130
                        obtain ⟨kq, x118_31, x121000_31, rfl, HA, HJ31, HI120, HB⟩ := hcut
                        cases kq with
                        | zero => exact absurd HA.out (by simp [steadinglaw09_CacheFills.j4])
                        | succ kj31 =>
                          have H := HA.out
                          clear HA
                          simp only [steadinglaw09_CacheFills.j4] at H
                          by_cases c43 : x118_31 = true
                          · subst c43
                            have H1 : (some false) = some r := by rw [if_pos rfl] at H; exact H
                            clear H
                            have H := H1
                            clear H1
                            obtain rfl := Option.some.inj H
                            go_wp2
                            repeat (go_quiet (fail); try go_wp2)
                            go_ret
                            exact ⟨by first | rfl | (simp [errW_none, errW_some] <;> rfl) | (simp [*, errW_none, errW_some] <;> rfl), by repeat (first | (with_reducible first | exact HB.out | apply below_alloc | apply pw_below_drewN | apply below_drew1 | refine below_set ?_ (IsS47.ge HI120.out)) | exact HB.out)⟩
                          · replace c43 := Bool.eq_false_iff.mpr c43
                            subst c43
                            have H1 : (steadinglaw09_CacheFills.l3 kj31 (wrap64 (a0)) 0 x121000_31) = some r := by rw [if_neg (show ¬ (false = true) by decide)] at H; exact H
                            clear H
                            have H := H1
                            clear H1
                            have H' := Aside0.mk H
                            clear H
                            go_wp2
                            repeat (go_quiet (fail); try go_wp2)
                            go_loopg [15] kj31 (fun kq v15 w' => ∃ (x15_5 : Int) (x121000_5 : Hand.Stacks), v15 = .int .i64 x15_5 ∧ Aside0 (steadinglaw09_CacheFills.l3 kq (wrap64 (a0)) x15_5 x121000_5 = some r) ∧ Aside0 (kq ≤ kj31) ∧ Aside0 (IsS47 w w' g120 x121000_5) ∧ Aside0 (Below w.heap.size w w'))
                            case atStart => exact ⟨(0), (x121000_31), (by first | rfl | (simp; done) | (simp [*]; done)), H', ⟨Nat.le_refl _⟩, ⟨by repeat (first | (with_reducible first | exact HI120.out | apply IsS47.alloc | apply IsS47.drewN | apply IsS47.drew | apply IsS47.set_0) | exact HI120.out)⟩, ⟨by repeat (first | (with_reducible first | exact HB.out | apply below_alloc | apply pw_below_drewN | apply below_drew1 | refine below_set ?_ (IsS47.ge HI120.out)) | exact HB.out)⟩⟩
                            case round =>
                              clear H'
                              try clear c1
                              try clear p1
                              try clear q1
                              try clear hx1
                              try clear c2
                              try clear p2
                              try clear c3
                              try clear c4
                              try clear p6
                              try clear c8
                              try clear c8b0
                              try clear c9
                              try clear c9b0
                              try clear c11
                              try clear c11b0
                              try clear c11b1
                              try clear c11b2
                              try clear p12
                              try clear q12
                              try clear hx12
                              try clear p13
                              try clear q13
                              try clear hx13
                              try clear c17
                              try clear c17b0
                              try clear c17b1
                              try clear c22
                              try clear c23
                              try clear c23b0
                              try clear c24
                              try clear c24b0
                              try clear c25
                              try clear c25b0
                              try clear c25b1
                              try clear c27
                              try clear c27b0
                              try clear c27b1
                              try clear c35
                              try clear c36
                              try clear c36b0
                              try clear c36b1
                              try clear c38
                              try clear c38b0
                              try clear c38b1
                              try clear c43
                              try clear hx129_0
                              try clear hx129_1
                              try clear hx130_0
                              try clear hx130_1
                              try clear p1
                              try clear p12
                              try clear p129
                              try clear p13
                              try clear p130
                              try clear p2
                              try clear p6
                              try clear q1
                              try clear q12
                              try clear q129
                              try clear q13
                              try clear q130
                              obtain ⟨x15_5, x121000_5, rfl, HA, HK5, HI120, HB⟩ := hrel
                              cases gk with
                              | zero => exact absurd HA.out (by simp [steadinglaw09_CacheFills.l3])
                              | succ k5 =>
                                have H := HA.out
                                clear HA
                                simp only [steadinglaw09_CacheFills.l3] at H
                                by_cases c44 : x15_5 < 7
                                · rw [if_pos c44] at H
                                  have c44b0 : decide (x15_5 < 7) = true := decide_eq_true c44
                                  clear c44
                                  have H' := Aside0.mk H
                                  clear H
                                  go_wp2
                                  repeat (go_quiet (fail); try go_wp2)
                                  go_loopg [16] k5 (fun kq v16 w' => ∃ (x16_6 : Int) (x121000_6 : Hand.Stacks), v16 = .int .i64 x16_6 ∧ Aside0 (steadinglaw09_CacheFills.l4 kq (wrap64 (a0)) x15_5 x16_6 x121000_6 = some r) ∧ Aside0 (kq ≤ k5) ∧ Aside0 (IsS47 w w' g120 x121000_6) ∧ Aside0 (Below w.heap.size w w'))
                                  case atStart => exact ⟨(3), (x121000_5), (by first | rfl | (simp; done) | (simp [*]; done)), H', ⟨Nat.le_refl _⟩, ⟨by repeat (first | (with_reducible first | exact HI120.out | apply IsS47.alloc | apply IsS47.drewN | apply IsS47.drew | apply IsS47.set_0) | exact HI120.out)⟩, ⟨by repeat (first | (with_reducible first | exact HB.out | apply below_alloc | apply pw_below_drewN | apply below_drew1 | refine below_set ?_ (IsS47.ge HI120.out)) | exact HB.out)⟩⟩
                                  case round =>
                                    clear H'
                                    try clear c1
                                    try clear p1
                                    try clear q1
                                    try clear hx1
                                    try clear c2
                                    try clear p2
                                    try clear c3
                                    try clear c4
                                    try clear p6
                                    try clear c8
                                    try clear c8b0
                                    try clear c9
                                    try clear c9b0
                                    try clear c11
                                    try clear c11b0
                                    try clear c11b1
                                    try clear c11b2
                                    try clear p12
                                    try clear q12
                                    try clear hx12
                                    try clear p13
                                    try clear q13
                                    try clear hx13
                                    try clear c17
                                    try clear c17b0
                                    try clear c17b1
                                    try clear c22
                                    try clear c23
                                    try clear c23b0
                                    try clear c24
                                    try clear c24b0
                                    try clear c25
                                    try clear c25b0
                                    try clear c25b1
                                    try clear c27
                                    try clear c27b0
                                    try clear c27b1
                                    try clear c35
                                    try clear c36
                                    try clear c36b0
                                    try clear c36b1
                                    try clear c38
                                    try clear c38b0
                                    try clear c38b1
                                    try clear c43
                                    try clear c44
                                    try clear c44b0
                                    try clear hx129_0
                                    try clear hx129_1
                                    try clear hx130_0
                                    try clear hx130_1
                                    try clear p1
                                    try clear p12
                                    try clear p129
                                    try clear p13
                                    try clear p130
                                    try clear p2
                                    try clear p6
                                    try clear q1
                                    try clear q12
                                    try clear q129
                                    try clear q13
                                    try clear q130
                                    obtain ⟨x16_6, x121000_6, rfl, HA, HK6, HI120, HB⟩ := hrel
                                    cases gk with
                                    | zero => exact absurd HA.out (by simp [steadinglaw09_CacheFills.l4])
                                    | succ k6 =>
                                      have H := HA.out
                                      clear HA
                                      simp only [steadinglaw09_CacheFills.l4] at H
                                      by_cases c45 : x16_6 ≥ 0
                                      · rw [if_pos c45] at H
                                        have c45b0 : decide (0 ≤ x16_6) = true := decide_eq_true c45
                                        clear c45
                                        replace H := Option.bind_eq_some_iff.mp H
                                        obtain ⟨⟨t145, t146, t147⟩, A460, H⟩ := H
                                        replace H : (if t146 = true then (if t145 = (wrap64 ((wrap64 ((wrap64 (a0)) + (wrap64 (10 * x15_5)))) + x16_6)) then (steadinglaw09_CacheFills.l4 k6 (wrap64 (a0)) x15_5 (wrap64 (x16_6 - 1)) t147) else (some false)) else (some false)) = some r := H
                                        have A46 := Aside0.mk A460
                                        clear A460
                                        by_cases c47 : t146 = true
                                        · subst c47
                                          have H1 : (if t145 = (wrap64 ((wrap64 ((wrap64 (a0)) + (wrap64 (10 * x15_5)))) + x16_6)) then (steadinglaw09_CacheFills.l4 k6 (wrap64 (a0)) x15_5 (wrap64 (x16_6 - 1)) t147) else (some false)) = some r := by rw [if_pos rfl] at H; exact H
                                          clear H
                                          have H := H1
                                          clear H1
                                          by_cases c48 : t145 = (wrap64 ((wrap64 ((wrap64 (a0)) + (wrap64 (10 * x15_5)))) + x16_6))
                                          · rw [if_pos c48] at H
                                            have c48b0 : (t145 == (wrap64 ((wrap64 ((wrap64 (a0)) + (wrap64 (10 * x15_5)))) + x16_6))) = true := beq_iff_eq.mpr c48
                                            have c48b1 : (t145 != (wrap64 ((wrap64 ((wrap64 (a0)) + (wrap64 (10 * x15_5)))) + x16_6))) = false := bne_eq_false_iff_eq.mpr c48
                                            clear c48
                                            have H' := Aside0.mk H
                                            clear H
                                            go_wp2_with (first | (go_at_call 18; (with_reducible refine (cache_Cache_Pop.calls g120 x121000_6 x15_5 t145 true t147 w _ ?side1 ?side2 A46.out).mono ?_); (case side1 => repeat (first | (with_reducible first | exact HI120.out | apply IsS47.alloc | apply IsS47.drewN | apply IsS47.drew | apply IsS47.set_0) | exact HI120.out)); (case side2 => repeat (first | (with_reducible first | exact HB.out | apply below_alloc | apply pw_below_drewN | apply below_drew1 | refine below_set ?_ (IsS47.ge HI120.out)) | exact HB.out)); rintro e w49 ⟨rfl, hi, hb, hk⟩; have n0_ := Aside0.mk (hb); have n1_ := Aside0.mk (hi); clear HB; clear HI120; have HB := n0_; have HI120 := n1_; clear n0_ n1_; (try clear hb); (try clear hb2); (try clear hk); (try clear hi)))
                                            repeat (go_quiet (first | (go_at_call 18; (with_reducible refine (cache_Cache_Pop.calls g120 x121000_6 x15_5 t145 true t147 w _ ?side1 ?side2 A46.out).mono ?_); (case side1 => repeat (first | (with_reducible first | exact HI120.out | apply IsS47.alloc | apply IsS47.drewN | apply IsS47.drew | apply IsS47.set_0) | exact HI120.out)); (case side2 => repeat (first | (with_reducible first | exact HB.out | apply below_alloc | apply pw_below_drewN | apply below_drew1 | refine below_set ?_ (IsS47.ge HI120.out)) | exact HB.out)); rintro e w49 ⟨rfl, hi, hb, hk⟩; have n0_ := Aside0.mk (hb); have n1_ := Aside0.mk (hi); clear HB; clear HI120; have HB := n0_; have HI120 := n1_; clear n0_ n1_; (try clear hb); (try clear hb2); (try clear hk); (try clear hi))); try go_wp2_with (first | (go_at_call 18; (with_reducible refine (cache_Cache_Pop.calls g120 x121000_6 x15_5 t145 true t147 w _ ?side1 ?side2 A46.out).mono ?_); (case side1 => repeat (first | (with_reducible first | exact HI120.out | apply IsS47.alloc | apply IsS47.drewN | apply IsS47.drew | apply IsS47.set_0) | exact HI120.out)); (case side2 => repeat (first | (with_reducible first | exact HB.out | apply below_alloc | apply pw_below_drewN | apply below_drew1 | refine below_set ?_ (IsS47.ge HI120.out)) | exact HB.out)); rintro e w49 ⟨rfl, hi, hb, hk⟩; have n0_ := Aside0.mk (hb); have n1_ := Aside0.mk (hi); clear HB; clear HI120; have HB := n0_; have HI120 := n1_; clear n0_ n1_; (try clear hb); (try clear hb2); (try clear hk); (try clear hi))))
                                            go_roundg k6
                                            case measure => have := HK1.out; have := HJ14.out; have := HK3.out; have := HJ31.out; have := HK5.out; have := HK6.out; omega
                                            case rel => exact ⟨(wrap64 (x16_6 - 1)), (t147), (by first | rfl | (simp; done) | (simp [*]; done)), H', ⟨by have := HK1.out; have := HJ14.out; have := HK3.out; have := HJ31.out; have := HK5.out; have := HK6.out; omega⟩, ⟨by repeat (first | (with_reducible first | exact HI120.out | apply IsS47.alloc | apply IsS47.drewN | apply IsS47.drew | apply IsS47.set_0) | exact HI120.out)⟩, ⟨by repeat (first | (with_reducible first | exact HB.out | apply below_alloc | apply pw_below_drewN | apply below_drew1 | refine below_set ?_ (IsS47.ge HI120.out)) | exact HB.out)⟩⟩
                                          · rw [if_neg c48] at H
                                            have c48b0 : (t145 == (wrap64 ((wrap64 ((wrap64 (a0)) + (wrap64 (10 * x15_5)))) + x16_6))) = false := beq_eq_false_iff_ne.mpr c48
                                            have c48b1 : (t145 != (wrap64 ((wrap64 ((wrap64 (a0)) + (wrap64 (10 * x15_5)))) + x16_6))) = true := bne_iff_ne.mpr c48
                                            obtain rfl := Option.some.inj H
                                            go_wp2_with (first | (go_at_call 18; (with_reducible refine (cache_Cache_Pop.calls g120 x121000_6 x15_5 t145 true t147 w _ ?side1 ?side2 A46.out).mono ?_); (case side1 => repeat (first | (with_reducible first | exact HI120.out | apply IsS47.alloc | apply IsS47.drewN | apply IsS47.drew | apply IsS47.set_0) | exact HI120.out)); (case side2 => repeat (first | (with_reducible first | exact HB.out | apply below_alloc | apply pw_below_drewN | apply below_drew1 | refine below_set ?_ (IsS47.ge HI120.out)) | exact HB.out)); rintro e w50 ⟨rfl, hi, hb, hk⟩; have n0_ := Aside0.mk (hb); have n1_ := Aside0.mk (hi); clear HB; clear HI120; have HB := n0_; have HI120 := n1_; clear n0_ n1_; (try clear hb); (try clear hb2); (try clear hk); (try clear hi)))
                                            repeat (go_quiet (first | (go_at_call 18; (with_reducible refine (cache_Cache_Pop.calls g120 x121000_6 x15_5 t145 true t147 w _ ?side1 ?side2 A46.out).mono ?_); (case side1 => repeat (first | (with_reducible first | exact HI120.out | apply IsS47.alloc | apply IsS47.drewN | apply IsS47.drew | apply IsS47.set_0) | exact HI120.out)); (case side2 => repeat (first | (with_reducible first | exact HB.out | apply below_alloc | apply pw_below_drewN | apply below_drew1 | refine below_set ?_ (IsS47.ge HI120.out)) | exact HB.out)); rintro e w50 ⟨rfl, hi, hb, hk⟩; have n0_ := Aside0.mk (hb); have n1_ := Aside0.mk (hi); clear HB; clear HI120; have HB := n0_; have HI120 := n1_; clear n0_ n1_; (try clear hb); (try clear hb2); (try clear hk); (try clear hi))); try go_wp2_with (first | (go_at_call 18; (with_reducible refine (cache_Cache_Pop.calls g120 x121000_6 x15_5 t145 true t147 w _ ?side1 ?side2 A46.out).mono ?_); (case side1 => repeat (first | (with_reducible first | exact HI120.out | apply IsS47.alloc | apply IsS47.drewN | apply IsS47.drew | apply IsS47.set_0) | exact HI120.out)); (case side2 => repeat (first | (with_reducible first | exact HB.out | apply below_alloc | apply pw_below_drewN | apply below_drew1 | refine below_set ?_ (IsS47.ge HI120.out)) | exact HB.out)); rintro e w50 ⟨rfl, hi, hb, hk⟩; have n0_ := Aside0.mk (hb); have n1_ := Aside0.mk (hi); clear HB; clear HI120; have HB := n0_; have HI120 := n1_; clear n0_ n1_; (try clear hb); (try clear hb2); (try clear hk); (try clear hi))))
                                            go_ret
                                            exact ⟨by first | rfl | (simp [errW_none, errW_some] <;> rfl) | (simp [*, errW_none, errW_some] <;> rfl), by repeat (first | (with_reducible first | exact HB.out | apply below_alloc | apply pw_below_drewN | apply below_drew1 | refine below_set ?_ (IsS47.ge HI120.out)) | exact HB.out)⟩
                                        · replace c47 := Bool.eq_false_iff.mpr c47
                                          subst c47
                                          have H1 : (some false) = some r := by rw [if_neg (show ¬ (false = true) by decide)] at H; exact H
                                          clear H
                                          have H := H1
                                          clear H1
                                          obtain rfl := Option.some.inj H
                                          go_wp2_with (first | (go_at_call 18; (with_reducible refine (cache_Cache_Pop.calls g120 x121000_6 x15_5 t145 false t147 w _ ?side1 ?side2 A46.out).mono ?_); (case side1 => repeat (first | (with_reducible first | exact HI120.out | apply IsS47.alloc | apply IsS47.drewN | apply IsS47.drew | apply IsS47.set_0) | exact HI120.out)); (case side2 => repeat (first | (with_reducible first | exact HB.out | apply below_alloc | apply pw_below_drewN | apply below_drew1 | refine below_set ?_ (IsS47.ge HI120.out)) | exact HB.out)); rintro e w51 ⟨rfl, hi, hb, hk⟩; have n0_ := Aside0.mk (hb); have n1_ := Aside0.mk (hi); clear HB; clear HI120; have HB := n0_; have HI120 := n1_; clear n0_ n1_; (try clear hb); (try clear hb2); (try clear hk); (try clear hi)))
                                          repeat (go_quiet (first | (go_at_call 18; (with_reducible refine (cache_Cache_Pop.calls g120 x121000_6 x15_5 t145 false t147 w _ ?side1 ?side2 A46.out).mono ?_); (case side1 => repeat (first | (with_reducible first | exact HI120.out | apply IsS47.alloc | apply IsS47.drewN | apply IsS47.drew | apply IsS47.set_0) | exact HI120.out)); (case side2 => repeat (first | (with_reducible first | exact HB.out | apply below_alloc | apply pw_below_drewN | apply below_drew1 | refine below_set ?_ (IsS47.ge HI120.out)) | exact HB.out)); rintro e w51 ⟨rfl, hi, hb, hk⟩; have n0_ := Aside0.mk (hb); have n1_ := Aside0.mk (hi); clear HB; clear HI120; have HB := n0_; have HI120 := n1_; clear n0_ n1_; (try clear hb); (try clear hb2); (try clear hk); (try clear hi))); try go_wp2_with (first | (go_at_call 18; (with_reducible refine (cache_Cache_Pop.calls g120 x121000_6 x15_5 t145 false t147 w _ ?side1 ?side2 A46.out).mono ?_); (case side1 => repeat (first | (with_reducible first | exact HI120.out | apply IsS47.alloc | apply IsS47.drewN | apply IsS47.drew | apply IsS47.set_0) | exact HI120.out)); (case side2 => repeat (first | (with_reducible first | exact HB.out | apply below_alloc | apply pw_below_drewN | apply below_drew1 | refine below_set ?_ (IsS47.ge HI120.out)) | exact HB.out)); rintro e w51 ⟨rfl, hi, hb, hk⟩; have n0_ := Aside0.mk (hb); have n1_ := Aside0.mk (hi); clear HB; clear HI120; have HB := n0_; have HI120 := n1_; clear n0_ n1_; (try clear hb); (try clear hb2); (try clear hk); (try clear hi))))
                                          go_ret
                                          exact ⟨by first | rfl | (simp [errW_none, errW_some] <;> rfl) | (simp [*, errW_none, errW_some] <;> rfl), by repeat (first | (with_reducible first | exact HB.out | apply below_alloc | apply pw_below_drewN | apply below_drew1 | refine below_set ?_ (IsS47.ge HI120.out)) | exact HB.out)⟩
                                      · rw [if_neg c45] at H
                                        have c45b0 : decide (0 ≤ x16_6) = false := decide_eq_false c45
                                        clear c45
                                        have H' := Aside0.mk H
                                        clear H
                                        go_wp2
                                        repeat (go_quiet (fail); try go_wp2)
                                        go_roundg k6
                                        case measure => have := HK1.out; have := HJ14.out; have := HK3.out; have := HJ31.out; have := HK5.out; have := HK6.out; omega
                                        case rel => exact ⟨(wrap64 (x15_5 + 1)), (x121000_6), (by first | rfl | (simp; done) | (simp [*]; done)), H', ⟨by have := HK1.out; have := HJ14.out; have := HK3.out; have := HJ31.out; have := HK5.out; have := HK6.out; omega⟩, ⟨by repeat (first | (with_reducible first | exact HI120.out | apply IsS47.alloc | apply IsS47.drewN | apply IsS47.drew | apply IsS47.set_0) | exact HI120.out)⟩, ⟨by repeat (first | (with_reducible first | exact HB.out | apply below_alloc | apply pw_below_drewN | apply below_drew1 | refine below_set ?_ (IsS47.ge HI120.out)) | exact HB.out)⟩⟩
                                · rw [if_neg c44] at H
                                  have c44b0 : decide (x15_5 < 7) = false := decide_eq_false c44
                                  clear c44
                                  replace H := Option.bind_eq_some_iff.mp H
                                  obtain ⟨⟨t139, t140⟩, A520, H⟩ := H
                                  replace H : (if t139 = 0 then ((cache_Cache_All.f t140).bind fun bt141 => (some ((bt141.1.length : Int) == 0))) else (some false)) = some r := H
                                  have A52 := Aside0.mk A520
                                  clear A520
                                  by_cases c53 : t139 = 0
                                  · rw [if_pos c53] at H
                                    have c53b0 : (t139 == 0) = true := beq_iff_eq.mpr c53
                                    have c53b1 : (t139 != 0) = false := bne_eq_false_iff_eq.mpr c53
                                    clear c53
                                    replace H := Option.bind_eq_some_iff.mp H
                                    obtain ⟨⟨t141, t144⟩, A540, H⟩ := H
                                    replace H : (some ((t141.length : Int) == 0)) = some r := H
                                    have A54 := Aside0.mk A540
                                    clear A540
                                    obtain rfl := Option.some.inj H
                                    go_wp2_with (first | (go_at_call 21; (with_reducible refine (cache_Cache_Pages.calls g120 x121000_5 t139 t140 w _ ?side1 ?side2 A52.out).mono ?_); (case side1 => repeat (first | (with_reducible first | exact HI120.out | apply IsS47.alloc | apply IsS47.drewN | apply IsS47.drew | apply IsS47.set_0) | exact HI120.out)); (case side2 => repeat (first | (with_reducible first | exact HB.out | apply below_alloc | apply pw_below_drewN | apply below_drew1 | refine below_set ?_ (IsS47.ge HI120.out)) | exact HB.out)); rintro e w55 ⟨rfl, hi, hb, hk⟩; have n0_ := Aside0.mk (hb); have n1_ := Aside0.mk (hi); clear HB; clear HI120; have HB := n0_; have HI120 := n1_; clear n0_ n1_; (try clear hb); (try clear hb2); (try clear hk); (try clear hi)) | (go_at_call 20; (with_reducible refine (cache_Cache_All.calls g120 t140 t141 t144 w _ ?side1 ?side2 A54.out).mono ?_); (case side1 => repeat (first | (with_reducible first | exact HI120.out | apply IsS47.alloc | apply IsS47.drewN | apply IsS47.drew | apply IsS47.set_0) | exact HI120.out)); (case side2 => repeat (first | (with_reducible first | exact HB.out | apply below_alloc | apply pw_below_drewN | apply below_drew1 | refine below_set ?_ (IsS47.ge HI120.out)) | exact HB.out)); rintro e w56 ⟨v142, rfl, ho0, hi, hb, hk⟩; have n0_ := Aside0.mk (Kd.R_lower ho0 (below_size (by repeat (first | (with_reducible first | exact HB.out | apply below_alloc | apply pw_below_drewN | apply below_drew1 | refine below_set ?_ (IsS47.ge HI120.out)) | exact HB.out)))); have n1_ := Aside0.mk (hb); have n2_ := Aside0.mk (hi); clear HB; clear HI120; have HO143 := n0_; have HB := n1_; have HI120 := n2_; clear n0_ n1_ n2_; (try clear hb); (try clear hb2); (try clear hk); (try clear hi); (try clear ho0); obtain ⟨Ao57, co57, eo57⟩ := Kd.R_slice HO143.out; subst eo57))
                                    repeat (go_quiet (first | (go_at_call 21; (with_reducible refine (cache_Cache_Pages.calls g120 x121000_5 t139 t140 w _ ?side1 ?side2 A52.out).mono ?_); (case side1 => repeat (first | (with_reducible first | exact HI120.out | apply IsS47.alloc | apply IsS47.drewN | apply IsS47.drew | apply IsS47.set_0) | exact HI120.out)); (case side2 => repeat (first | (with_reducible first | exact HB.out | apply below_alloc | apply pw_below_drewN | apply below_drew1 | refine below_set ?_ (IsS47.ge HI120.out)) | exact HB.out)); rintro e w55 ⟨rfl, hi, hb, hk⟩; have n0_ := Aside0.mk (hb); have n1_ := Aside0.mk (hi); clear HB; clear HI120; have HB := n0_; have HI120 := n1_; clear n0_ n1_; (try clear hb); (try clear hb2); (try clear hk); (try clear hi)) | (go_at_call 20; (with_reducible refine (cache_Cache_All.calls g120 t140 t141 t144 w _ ?side1 ?side2 A54.out).mono ?_); (case side1 => repeat (first | (with_reducible first | exact HI120.out | apply IsS47.alloc | apply IsS47.drewN | apply IsS47.drew | apply IsS47.set_0) | exact HI120.out)); (case side2 => repeat (first | (with_reducible first | exact HB.out | apply below_alloc | apply pw_below_drewN | apply below_drew1 | refine below_set ?_ (IsS47.ge HI120.out)) | exact HB.out)); rintro e w56 ⟨v142, rfl, ho0, hi, hb, hk⟩; have n0_ := Aside0.mk (Kd.R_lower ho0 (below_size (by repeat (first | (with_reducible first | exact HB.out | apply below_alloc | apply pw_below_drewN | apply below_drew1 | refine below_set ?_ (IsS47.ge HI120.out)) | exact HB.out)))); have n1_ := Aside0.mk (hb); have n2_ := Aside0.mk (hi); clear HB; clear HI120; have HO143 := n0_; have HB := n1_; have HI120 := n2_; clear n0_ n1_ n2_; (try clear hb); (try clear hb2); (try clear hk); (try clear hi); (try clear ho0); obtain ⟨Ao57, co57, eo57⟩ := Kd.R_slice HO143.out; subst eo57)); try go_wp2_with (first | (go_at_call 21; (with_reducible refine (cache_Cache_Pages.calls g120 x121000_5 t139 t140 w _ ?side1 ?side2 A52.out).mono ?_); (case side1 => repeat (first | (with_reducible first | exact HI120.out | apply IsS47.alloc | apply IsS47.drewN | apply IsS47.drew | apply IsS47.set_0) | exact HI120.out)); (case side2 => repeat (first | (with_reducible first | exact HB.out | apply below_alloc | apply pw_below_drewN | apply below_drew1 | refine below_set ?_ (IsS47.ge HI120.out)) | exact HB.out)); rintro e w55 ⟨rfl, hi, hb, hk⟩; have n0_ := Aside0.mk (hb); have n1_ := Aside0.mk (hi); clear HB; clear HI120; have HB := n0_; have HI120 := n1_; clear n0_ n1_; (try clear hb); (try clear hb2); (try clear hk); (try clear hi)) | (go_at_call 20; (with_reducible refine (cache_Cache_All.calls g120 t140 t141 t144 w _ ?side1 ?side2 A54.out).mono ?_); (case side1 => repeat (first | (with_reducible first | exact HI120.out | apply IsS47.alloc | apply IsS47.drewN | apply IsS47.drew | apply IsS47.set_0) | exact HI120.out)); (case side2 => repeat (first | (with_reducible first | exact HB.out | apply below_alloc | apply pw_below_drewN | apply below_drew1 | refine below_set ?_ (IsS47.ge HI120.out)) | exact HB.out)); rintro e w56 ⟨v142, rfl, ho0, hi, hb, hk⟩; have n0_ := Aside0.mk (Kd.R_lower ho0 (below_size (by repeat (first | (with_reducible first | exact HB.out | apply below_alloc | apply pw_below_drewN | apply below_drew1 | refine below_set ?_ (IsS47.ge HI120.out)) | exact HB.out)))); have n1_ := Aside0.mk (hb); have n2_ := Aside0.mk (hi); clear HB; clear HI120; have HO143 := n0_; have HB := n1_; have HI120 := n2_; clear n0_ n1_ n2_; (try clear hb); (try clear hb2); (try clear hk); (try clear hi); (try clear ho0); obtain ⟨Ao57, co57, eo57⟩ := Kd.R_slice HO143.out; subst eo57)))
                                    go_ret
                                    exact ⟨by first | rfl | (simp [errW_none, errW_some] <;> rfl) | (simp [*, errW_none, errW_some] <;> rfl), by repeat (first | (with_reducible first | exact HB.out | apply below_alloc | apply pw_below_drewN | apply below_drew1 | refine below_set ?_ (IsS47.ge HI120.out)) | exact HB.out)⟩
                                  · rw [if_neg c53] at H
                                    have c53b0 : (t139 == 0) = false := beq_eq_false_iff_ne.mpr c53
                                    have c53b1 : (t139 != 0) = true := bne_iff_ne.mpr c53
                                    obtain rfl := Option.some.inj H
                                    go_wp2_with (first | (go_at_call 21; (with_reducible refine (cache_Cache_Pages.calls g120 x121000_5 t139 t140 w _ ?side1 ?side2 A52.out).mono ?_); (case side1 => repeat (first | (with_reducible first | exact HI120.out | apply IsS47.alloc | apply IsS47.drewN | apply IsS47.drew | apply IsS47.set_0) | exact HI120.out)); (case side2 => repeat (first | (with_reducible first | exact HB.out | apply below_alloc | apply pw_below_drewN | apply below_drew1 | refine below_set ?_ (IsS47.ge HI120.out)) | exact HB.out)); rintro e w58 ⟨rfl, hi, hb, hk⟩; have n0_ := Aside0.mk (hb); have n1_ := Aside0.mk (hi); clear HB; clear HI120; have HB := n0_; have HI120 := n1_; clear n0_ n1_; (try clear hb); (try clear hb2); (try clear hk); (try clear hi)))
                                    repeat (go_quiet (first | (go_at_call 21; (with_reducible refine (cache_Cache_Pages.calls g120 x121000_5 t139 t140 w _ ?side1 ?side2 A52.out).mono ?_); (case side1 => repeat (first | (with_reducible first | exact HI120.out | apply IsS47.alloc | apply IsS47.drewN | apply IsS47.drew | apply IsS47.set_0) | exact HI120.out)); (case side2 => repeat (first | (with_reducible first | exact HB.out | apply below_alloc | apply pw_below_drewN | apply below_drew1 | refine below_set ?_ (IsS47.ge HI120.out)) | exact HB.out)); rintro e w58 ⟨rfl, hi, hb, hk⟩; have n0_ := Aside0.mk (hb); have n1_ := Aside0.mk (hi); clear HB; clear HI120; have HB := n0_; have HI120 := n1_; clear n0_ n1_; (try clear hb); (try clear hb2); (try clear hk); (try clear hi))); try go_wp2_with (first | (go_at_call 21; (with_reducible refine (cache_Cache_Pages.calls g120 x121000_5 t139 t140 w _ ?side1 ?side2 A52.out).mono ?_); (case side1 => repeat (first | (with_reducible first | exact HI120.out | apply IsS47.alloc | apply IsS47.drewN | apply IsS47.drew | apply IsS47.set_0) | exact HI120.out)); (case side2 => repeat (first | (with_reducible first | exact HB.out | apply below_alloc | apply pw_below_drewN | apply below_drew1 | refine below_set ?_ (IsS47.ge HI120.out)) | exact HB.out)); rintro e w58 ⟨rfl, hi, hb, hk⟩; have n0_ := Aside0.mk (hb); have n1_ := Aside0.mk (hi); clear HB; clear HI120; have HB := n0_; have HI120 := n1_; clear n0_ n1_; (try clear hb); (try clear hb2); (try clear hk); (try clear hi))))
                                    go_ret
                                    exact ⟨by first | rfl | (simp [errW_none, errW_some] <;> rfl) | (simp [*, errW_none, errW_some] <;> rfl), by repeat (first | (with_reducible first | exact HB.out | apply below_alloc | apply pw_below_drewN | apply below_drew1 | refine below_set ?_ (IsS47.ge HI120.out)) | exact HB.out)⟩
  · replace c4 := Bool.eq_false_iff.mpr c4
    subst c4
    have H1 : (some false) = some r := by rw [if_neg (show ¬ (false = true) by decide)] at H; exact H
    clear H
    have H := H1
    clear H1
    obtain rfl := Option.some.inj H
    go_enter Try.func4, Try.ntmps4
    go_wp2_with (first | (go_at_call 15; (with_reducible refine (steadinglaw09_awake.calls  false _ A3.out).mono ?_); rintro e w59 ⟨rfl, hb⟩; have n0_ := Aside0.mk (below_step (by repeat (first | (with_reducible first | exact HB.out | apply below_alloc | apply pw_below_drewN | apply below_drew1) | exact HB.out)) hb); clear HB; have HB := n0_; clear n0_; (try clear hb); (try clear hb2); (try clear hk); (try clear hi)))
    repeat (go_quiet (first | (go_at_call 15; (with_reducible refine (steadinglaw09_awake.calls  false _ A3.out).mono ?_); rintro e w59 ⟨rfl, hb⟩; have n0_ := Aside0.mk (below_step (by repeat (first | (with_reducible first | exact HB.out | apply below_alloc | apply pw_below_drewN | apply below_drew1) | exact HB.out)) hb); clear HB; have HB := n0_; clear n0_; (try clear hb); (try clear hb2); (try clear hk); (try clear hi))); try go_wp2_with (first | (go_at_call 15; (with_reducible refine (steadinglaw09_awake.calls  false _ A3.out).mono ?_); rintro e w59 ⟨rfl, hb⟩; have n0_ := Aside0.mk (below_step (by repeat (first | (with_reducible first | exact HB.out | apply below_alloc | apply pw_below_drewN | apply below_drew1) | exact HB.out)) hb); clear HB; have HB := n0_; clear n0_; (try clear hb); (try clear hb2); (try clear hk); (try clear hi))))
    go_ret
    exact ⟨by first | rfl | (simp [errW_none, errW_some] <;> rfl) | (simp [*, errW_none, errW_some] <;> rfl), by repeat (first | (with_reducible first | exact HB.out | apply below_alloc | apply pw_below_drewN | apply below_drew1) | exact HB.out)⟩

/-- THE ONE PURE STATEMENT of steadinglaw09_CacheFills: yours. -/
def steadinglaw09_CacheFills.Pure : Prop := ∀ (a0 : Int) (a1 : Int), (Lit.int .u16 a0).wf = true → (Lit.int .u8 a1).wf = true → ∃ k, steadinglaw09_CacheFills.f k a0 a1 = some true
theorem steadinglaw09_CacheFills.walk (P : steadinglaw09_CacheFills.Pure) (a0 : Int) (a1 : Int) (w : World) (w0 : (Lit.int .u16 a0).wf = true) (w1 : (Lit.int .u8 a1).wf = true) :
    Calls Try.prog 4 #[.int .u16 a0, .int .u8 a1] w fun e w' => e = .returned (.bool true) ∧ Below w.heap.size w w' := by
  obtain ⟨k, h⟩ := P a0 a1 w0 w1
  refine (steadinglaw09_CacheFills.calls k a0 a1 true w h).mono ?_
  rintro e w' ⟨rfl, hd⟩
  exact ⟨rfl, hd⟩

end Go.Proofs.Ytbbhfbpkopocgaa.PCacheFills
