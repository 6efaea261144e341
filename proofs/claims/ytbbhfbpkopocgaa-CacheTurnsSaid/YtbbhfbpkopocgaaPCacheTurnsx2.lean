-- Written by a program of this session (a turned copy of a tool), out of the translation's print. Not trusted: Lean checks it.
import Derived.Test.YtbbhfbpkopocgaaPCacheTurnsx0
import Derived.Test.YtbbhfbpkopocgaaPCacheTurnsx1
namespace Go.Proofs.Ytbbhfbpkopocgaa.PCacheTurns
open Go.RowKit Go.Proofs.YtbbhfbpkopocgaaW.PrintWords Go.Proofs.YtbbhfbpkopocgaaW.PrintLast Go.Proofs.YtbbhfbpkopocgaaW.PrintMore
attribute [local go_sem] max2_int min2_int max_two min_two max_three min_three max_four min_four   -- for this text's walks alone
set_option linter.unusedVariables false
set_option linter.unusedSimpArgs false

/-! ### steadinglaw09_CacheTurns: function 5 -/
mutual
def steadinglaw09_CacheTurns.l0 : Nat → List Bool → Int → List Int → Int → Hand.Stacks → Hand.Stacks → Option (Bool)
  | 0, _, _, _, _, _, _ => none
  | k + 1, x0, x6, x9, x10, x121000, x123000 => if x10 < (x0.length : Int) then (if 0 ≤ x10 then (if rdOf false x0 x10 = true then ((cache_Cache_Push.f x121000 x6 x10).bind fun bt124 => (if (bt124.1 != (decide ((x9.length : Int) < 4))) = true then (some false) else (if bt124.1 = true then (if x9.length < 17592186044416 then (steadinglaw09_CacheTurns.j2 k x0 x6 (x9 ++ [x10]) x10 bt124.2 x123000) else (none)) else (steadinglaw09_CacheTurns.j2 k x0 x6 x9 x10 bt124.2 x123000)))) else ((cache_Cache_Pop.f x121000 x6).bind fun bt129 => (if (bt129.2.1 != (decide ((x9.length : Int) > 0))) = true then (steadinglaw09_CacheTurns.j1 k x0 x6 x9 x10 bt129.2.1 true bt129.2.2 x123000) else (if bt129.2.1 = true then (if 0 ≤ (wrap64 ((x9.length : Int) - 1)) then (if (wrap64 ((x9.length : Int) - 1)) < (x9.length : Int) then (steadinglaw09_CacheTurns.j1 k x0 x6 x9 x10 bt129.2.1 (bt129.1 != (rd x9 (wrap64 ((x9.length : Int) - 1)))) bt129.2.2 x123000) else (none)) else (none)) else (steadinglaw09_CacheTurns.j1 k x0 x6 x9 x10 bt129.2.1 false bt129.2.2 x123000))))) else (none)) else ((cache_Cache_All.f x121000).bind fun bt143 => (steadinglaw09_CacheTurns.l1 k x9 bt143.1 0))
def steadinglaw09_CacheTurns.j2 : Nat → List Bool → Int → List Int → Int → Hand.Stacks → Hand.Stacks → Option (Bool)
  | 0, _, _, _, _, _, _ => none
  | k + 1, x0, x6, x9, x10, x121000, x123000 => (cache_Cache_Len.f x121000 x6).bind fun bt136 => (if bt136.1 = (x9.length : Int) then ((cache_Cache_Pages.f bt136.2).bind fun bt138 => ((classes_Pages.f x6).bind fun t140 => (if bt138.1 = (wrap64 ((x9.length : Int) * t140)) then ((cache_Cache_Pages.f x123000).bind fun bt141 => (if bt141.1 = 0 then (steadinglaw09_CacheTurns.l0 k x0 x6 x9 (wrap64 (x10 + 1)) bt138.2 bt141.2) else (some false))) else (some false)))) else (some false))
def steadinglaw09_CacheTurns.j1 : Nat → List Bool → Int → List Int → Int → Bool → Bool → Hand.Stacks → Hand.Stacks → Option (Bool)
  | 0, _, _, _, _, _, _, _, _ => none
  | k + 1, x0, x6, x9, x10, x13, x74, x121000, x123000 => if x74 = true then (some false) else (if x13 = true then (if 0 ≤ (wrap64 ((x9.length : Int) - 1)) then (if (wrap64 ((x9.length : Int) - 1)) ≤ (x9.length : Int) then (steadinglaw09_CacheTurns.j2 k x0 x6 (x9.take ((wrap64 ((x9.length : Int) - 1)) : Int).toNat) x10 x121000 x123000) else (none)) else (none)) else (steadinglaw09_CacheTurns.j2 k x0 x6 x9 x10 x121000 x123000))
def steadinglaw09_CacheTurns.l1 : Nat → List Int → List (S36) → Int → Option (Bool)
  | 0, _, _, _ => none
  | k + 1, x9, x14, x15 => if x15 < (x14.length : Int) then (if 0 ≤ x15 then (if x15 < (x9.length : Int) then (if ((rd_T36 x14 x15).f0) = (rd x9 x15) then (steadinglaw09_CacheTurns.l1 k x9 x14 (wrap64 (x15 + 1))) else (some false)) else (none)) else (none)) else (some ((x14.length : Int) == (x9.length : Int)))
end
def steadinglaw09_CacheTurns.f (k : Nat) (l0 : List Bool) (a1 : Int) : Option (Bool) := (steadinglaw09_awake.f).bind fun t118 => (if t118 = true then (if (l0.length : Int) > 60 then (some true) else ((cache_New.f).bind fun t119 => ((cache_New.f).bind fun t121 => (steadinglaw09_CacheTurns.l0 k l0 (wrap64 (Int.tmod a1 7)) ([] : List Int) 0 t119 t121)))) else (some false))
theorem steadinglaw09_CacheTurns.mono_l : ∀ k, (∀ y0 y1 y2 y3 y4 y5, LeO (steadinglaw09_CacheTurns.l0 k y0 y1 y2 y3 y4 y5) (steadinglaw09_CacheTurns.l0 (k + 1) y0 y1 y2 y3 y4 y5)) ∧ (∀ y0 y1 y2 y3 y4 y5, LeO (steadinglaw09_CacheTurns.j2 k y0 y1 y2 y3 y4 y5) (steadinglaw09_CacheTurns.j2 (k + 1) y0 y1 y2 y3 y4 y5)) ∧ (∀ y0 y1 y2 y3 y4 y5 y6 y7, LeO (steadinglaw09_CacheTurns.j1 k y0 y1 y2 y3 y4 y5 y6 y7) (steadinglaw09_CacheTurns.j1 (k + 1) y0 y1 y2 y3 y4 y5 y6 y7)) ∧ (∀ y0 y1 y2, LeO (steadinglaw09_CacheTurns.l1 k y0 y1 y2) (steadinglaw09_CacheTurns.l1 (k + 1) y0 y1 y2))
  | 0 => ⟨fun _ _ _ _ _ _ r h => by simp [steadinglaw09_CacheTurns.l0] at h, fun _ _ _ _ _ _ r h => by simp [steadinglaw09_CacheTurns.j2] at h, fun _ _ _ _ _ _ _ _ r h => by simp [steadinglaw09_CacheTurns.j1] at h, fun _ _ _ r h => by simp [steadinglaw09_CacheTurns.l1] at h⟩
  | k + 1 => by
    obtain ⟨ih0, ih1, ih2, ih3⟩ := steadinglaw09_CacheTurns.mono_l k
    refine ⟨?_, ?_, ?_, ?_⟩
    · intro y0 y1 y2 y3 y4 y5
      unfold steadinglaw09_CacheTurns.l0
      repeat' first
      | (with_reducible exact ih0 _ _ _ _ _ _)
      | (with_reducible exact ih1 _ _ _ _ _ _)
      | (with_reducible exact ih2 _ _ _ _ _ _ _ _)
      | (with_reducible exact ih3 _ _ _)
      | (with_reducible exact LeO.refl _)
      | (with_reducible exact LeO.none _)
      | (with_reducible refine LeO.ite ?_ ?_)
      | (with_reducible refine LeO.bind ?_ (fun _ => ?_))
      | exact ih0 _ _ _ _ _ _
      | exact ih1 _ _ _ _ _ _
      | exact ih2 _ _ _ _ _ _ _ _
      | exact ih3 _ _ _
      | exact LeO.none _
      | refine LeO.ite ?_ ?_
      | refine LeO.bind ?_ (fun _ => ?_)
    · intro y0 y1 y2 y3 y4 y5
      unfold steadinglaw09_CacheTurns.j2
      repeat' first
      | (with_reducible exact ih0 _ _ _ _ _ _)
      | (with_reducible exact ih1 _ _ _ _ _ _)
      | (with_reducible exact ih2 _ _ _ _ _ _ _ _)
      | (with_reducible exact ih3 _ _ _)
      | (with_reducible exact LeO.refl _)
      | (with_reducible exact LeO.none _)
      | (with_reducible refine LeO.ite ?_ ?_)
      | (with_reducible refine LeO.bind ?_ (fun _ => ?_))
      | exact ih0 _ _ _ _ _ _
      | exact ih1 _ _ _ _ _ _
      | exact ih2 _ _ _ _ _ _ _ _
      | exact ih3 _ _ _
      | exact LeO.none _
      | refine LeO.ite ?_ ?_
      | refine LeO.bind ?_ (fun _ => ?_)
    · intro y0 y1 y2 y3 y4 y5 y6 y7
      unfold steadinglaw09_CacheTurns.j1
      repeat' first
      | (with_reducible exact ih0 _ _ _ _ _ _)
      | (with_reducible exact ih1 _ _ _ _ _ _)
      | (with_reducible exact ih2 _ _ _ _ _ _ _ _)
      | (with_reducible exact ih3 _ _ _)
      | (with_reducible exact LeO.refl _)
      | (with_reducible exact LeO.none _)
      | (with_reducible refine LeO.ite ?_ ?_)
      | (with_reducible refine LeO.bind ?_ (fun _ => ?_))
      | exact ih0 _ _ _ _ _ _
      | exact ih1 _ _ _ _ _ _
      | exact ih2 _ _ _ _ _ _ _ _
      | exact ih3 _ _ _
      | exact LeO.none _
      | refine LeO.ite ?_ ?_
      | refine LeO.bind ?_ (fun _ => ?_)
    · intro y0 y1 y2
      unfold steadinglaw09_CacheTurns.l1
      repeat' first
      | (with_reducible exact ih0 _ _ _ _ _ _)
      | (with_reducible exact ih1 _ _ _ _ _ _)
      | (with_reducible exact ih2 _ _ _ _ _ _ _ _)
      | (with_reducible exact ih3 _ _ _)
      | (with_reducible exact LeO.refl _)
      | (with_reducible exact LeO.none _)
      | (with_reducible refine LeO.ite ?_ ?_)
      | (with_reducible refine LeO.bind ?_ (fun _ => ?_))
      | exact ih0 _ _ _ _ _ _
      | exact ih1 _ _ _ _ _ _
      | exact ih2 _ _ _ _ _ _ _ _
      | exact ih3 _ _ _
      | exact LeO.none _
      | refine LeO.ite ?_ ?_
      | refine LeO.bind ?_ (fun _ => ?_)
theorem steadinglaw09_CacheTurns.mono : ∀ a0 a1 k, LeO (steadinglaw09_CacheTurns.f k a0 a1) (steadinglaw09_CacheTurns.f (k + 1) a0 a1) := by
  intro a0 a1 k
  obtain ⟨ih0, ih1, ih2, ih3⟩ := steadinglaw09_CacheTurns.mono_l k
  unfold steadinglaw09_CacheTurns.f
  repeat' first
      | (with_reducible exact ih0 _ _ _ _ _ _)
      | (with_reducible exact ih1 _ _ _ _ _ _)
      | (with_reducible exact ih2 _ _ _ _ _ _ _ _)
      | (with_reducible exact ih3 _ _ _)
      | (with_reducible exact LeO.refl _)
      | (with_reducible exact LeO.none _)
      | (with_reducible refine LeO.ite ?_ ?_)
      | (with_reducible refine LeO.bind ?_ (fun _ => ?_))
      | exact ih0 _ _ _ _ _ _
      | exact ih1 _ _ _ _ _ _
      | exact ih2 _ _ _ _ _ _ _ _
      | exact ih3 _ _ _
      | exact LeO.none _
      | refine LeO.ite ?_ ?_
      | refine LeO.bind ?_ (fun _ => ?_)
set_option maxHeartbeats 8000000 in
set_option maxRecDepth 100000 in
theorem steadinglaw09_CacheTurns.calls (k : Nat) (A0 : Option Addr) (c0 : Nat) (l0 : List Bool) (a1 : Int) (r : Bool) (w : World) (hr0 : Kd.C Kd.bool w A0 l0.length l0) (hc0 : l0.length ≤ c0) (h : steadinglaw09_CacheTurns.f k l0 a1 = some r) :
    Calls Try.prog 5 #[.slice A0 l0.length c0, .int .u8 a1] w fun e w' => e = .returned (.bool r) ∧ Below w.heap.size w w' := by
  have HR0 := Aside0.mk hr0
  have HC0 := Aside0.mk hc0
  clear hr0 hc0
  have HB := Aside0.mk (Below.refl w.heap.size w)
  have H : ((steadinglaw09_awake.f).bind fun t118 => (if t118 = true then (if (l0.length : Int) > 60 then (some true) else ((cache_New.f).bind fun t119 => ((cache_New.f).bind fun t121 => (steadinglaw09_CacheTurns.l0 k l0 (wrap64 (Int.tmod a1 7)) ([] : List Int) 0 t119 t121)))) else (some false))) = some r := h
  clear h
  replace H := Option.bind_eq_some_iff.mp H
  obtain ⟨t118, A30, H⟩ := H
  replace H : (if t118 = true then (if (l0.length : Int) > 60 then (some true) else ((cache_New.f).bind fun t119 => ((cache_New.f).bind fun t121 => (steadinglaw09_CacheTurns.l0 k l0 (wrap64 (Int.tmod a1 7)) ([] : List Int) 0 t119 t121)))) else (some false)) = some r := H
  have A3 := Aside0.mk A30
  clear A30
  by_cases c4 : t118 = true
  · subst c4
    have H1 : (if (l0.length : Int) > 60 then (some true) else ((cache_New.f).bind fun t119 => ((cache_New.f).bind fun t121 => (steadinglaw09_CacheTurns.l0 k l0 (wrap64 (Int.tmod a1 7)) ([] : List Int) 0 t119 t121)))) = some r := by rw [if_pos rfl] at H; exact H
    clear H
    have H := H1
    clear H1
    by_cases c5 : (l0.length : Int) > 60
    · rw [if_pos c5] at H
      have c5b0 : decide (60 < (l0.length : Int)) = true := decide_eq_true c5
      have c5b1 : decide (60 < l0.length) = true := decide_eq_true (by omega)
      clear c5
      obtain rfl := Option.some.inj H
      go_enter Try.func5, Try.ntmps5
      go_wp2_with (first | (go_at_call 15; (with_reducible refine (steadinglaw09_awake.calls  true _ A3.out).mono ?_); rintro e w6 ⟨rfl, hb⟩; have n0_ := Aside0.mk (below_step (by repeat (first | (with_reducible first | exact HB.out | apply below_alloc | apply pw_below_drewN | apply below_drew1) | exact HB.out)) hb); clear HB; have HB := n0_; clear n0_; (try clear hb); (try clear hb2); (try clear hk); (try clear hi); (try clear hge)))
      repeat (go_quiet (first | (go_at_call 15; (with_reducible refine (steadinglaw09_awake.calls  true _ A3.out).mono ?_); rintro e w6 ⟨rfl, hb⟩; have n0_ := Aside0.mk (below_step (by repeat (first | (with_reducible first | exact HB.out | apply below_alloc | apply pw_below_drewN | apply below_drew1) | exact HB.out)) hb); clear HB; have HB := n0_; clear n0_; (try clear hb); (try clear hb2); (try clear hk); (try clear hi); (try clear hge))); try go_wp2_with (first | (go_at_call 15; (with_reducible refine (steadinglaw09_awake.calls  true _ A3.out).mono ?_); rintro e w6 ⟨rfl, hb⟩; have n0_ := Aside0.mk (below_step (by repeat (first | (with_reducible first | exact HB.out | apply below_alloc | apply pw_below_drewN | apply below_drew1) | exact HB.out)) hb); clear HB; have HB := n0_; clear n0_; (try clear hb); (try clear hb2); (try clear hk); (try clear hi); (try clear hge))))
      go_ret
      exact ⟨by first | rfl | (simp [errW_none, errW_some] <;> rfl) | (simp [*, errW_none, errW_some] <;> rfl), by repeat (first | (with_reducible first | exact HB.out | apply below_alloc | apply pw_below_drewN | apply below_drew1) | exact HB.out)⟩
    · rw [if_neg c5] at H
      have c5b0 : decide (60 < (l0.length : Int)) = false := decide_eq_false c5
      have c5b1 : decide (60 < l0.length) = false := decide_eq_false (by omega)
      clear c5
      replace H := Option.bind_eq_some_iff.mp H
      obtain ⟨t119, A70, H⟩ := H
      replace H : ((cache_New.f).bind fun t121 => (steadinglaw09_CacheTurns.l0 k l0 (wrap64 (Int.tmod a1 7)) ([] : List Int) 0 t119 t121)) = some r := H
      have A7 := Aside0.mk A70
      clear A70
      replace H := Option.bind_eq_some_iff.mp H
      obtain ⟨t121, A80, H⟩ := H
      replace H : (steadinglaw09_CacheTurns.l0 k l0 (wrap64 (Int.tmod a1 7)) ([] : List Int) 0 t119 t121) = some r := H
      have A8 := Aside0.mk A80
      clear A80
      have H' := Aside0.mk H
      clear H
      go_enter Try.func5, Try.ntmps5
      go_wp2_with (first | (go_at_call 15; (with_reducible refine (steadinglaw09_awake.calls  true _ A3.out).mono ?_); rintro e w9 ⟨rfl, hb⟩; have n0_ := Aside0.mk (below_step (by repeat (first | (with_reducible first | exact HB.out | apply below_alloc | apply pw_below_drewN | apply below_drew1) | exact HB.out)) hb); clear HB; have HB := n0_; clear n0_; (try clear hb); (try clear hb2); (try clear hk); (try clear hi); (try clear hge)) | (go_at_call 16; (with_reducible refine (cache_New.calls  t121 w _ ?side1 A8.out).mono ?_); (case side1 => repeat (first | (with_reducible first | exact HB.out | apply below_alloc | apply pw_below_drewN | apply below_drew1 | refine below_set ?_ (IsS47.ge HI120.out)) | exact HB.out)); rintro e w11 ⟨g122, rfl, hi, hb, hb2, hge⟩; have n0_ := Aside0.mk (IsS47.below (by repeat (first | (with_reducible first | exact HI120.out | apply IsS47.alloc | apply IsS47.drewN | apply IsS47.drew | apply IsS47.set_0) | exact HI120.out)) hb2); have n1_ := Aside0.mk (hb); have n2_ := Aside0.mk (hi); have n3_ := Aside0.mk ((Nat.ne_of_gt (Nat.lt_of_lt_of_le (IsS47.lt (show IsS47 w _ g120 t119 from by repeat (first | (with_reducible first | exact HI120.out | apply IsS47.alloc | apply IsS47.drewN | apply IsS47.drew | apply IsS47.set_0) | exact HI120.out))) hge) : g122 ≠ g120)); have n4_ := Aside0.mk ((Nat.ne_of_lt (Nat.lt_of_lt_of_le (IsS47.lt (show IsS47 w _ g120 t119 from by repeat (first | (with_reducible first | exact HI120.out | apply IsS47.alloc | apply IsS47.drewN | apply IsS47.drew | apply IsS47.set_0) | exact HI120.out))) hge) : g120 ≠ g122)); clear HI120; clear HB; have HI120 := n0_; have HB := n1_; have HI122 := n2_; have NB122_120 := n3_; have NB120_122 := n4_; clear n0_ n1_ n2_ n3_ n4_; (try clear hb); (try clear hb2); (try clear hk); (try clear hi); (try clear hge)) | (go_at_call 16; (with_reducible refine (cache_New.calls  t119 w _ ?side1 A7.out).mono ?_); (case side1 => repeat (first | (with_reducible first | exact HB.out | apply below_alloc | apply pw_below_drewN | apply below_drew1) | exact HB.out)); rintro e w10 ⟨g120, rfl, hi, hb, hb2, hge⟩; have n0_ := Aside0.mk (hb); have n1_ := Aside0.mk (hi); clear HB; have HB := n0_; have HI120 := n1_; clear n0_ n1_; (try clear hb); (try clear hb2); (try clear hk); (try clear hi); (try clear hge)))
      repeat (go_quiet (first | (go_at_call 15; (with_reducible refine (steadinglaw09_awake.calls  true _ A3.out).mono ?_); rintro e w9 ⟨rfl, hb⟩; have n0_ := Aside0.mk (below_step (by repeat (first | (with_reducible first | exact HB.out | apply below_alloc | apply pw_below_drewN | apply below_drew1) | exact HB.out)) hb); clear HB; have HB := n0_; clear n0_; (try clear hb); (try clear hb2); (try clear hk); (try clear hi); (try clear hge)) | (go_at_call 16; (with_reducible refine (cache_New.calls  t121 w _ ?side1 A8.out).mono ?_); (case side1 => repeat (first | (with_reducible first | exact HB.out | apply below_alloc | apply pw_below_drewN | apply below_drew1 | refine below_set ?_ (IsS47.ge HI120.out)) | exact HB.out)); rintro e w11 ⟨g122, rfl, hi, hb, hb2, hge⟩; have n0_ := Aside0.mk (IsS47.below (by repeat (first | (with_reducible first | exact HI120.out | apply IsS47.alloc | apply IsS47.drewN | apply IsS47.drew | apply IsS47.set_0) | exact HI120.out)) hb2); have n1_ := Aside0.mk (hb); have n2_ := Aside0.mk (hi); have n3_ := Aside0.mk ((Nat.ne_of_gt (Nat.lt_of_lt_of_le (IsS47.lt (show IsS47 w _ g120 t119 from by repeat (first | (with_reducible first | exact HI120.out | apply IsS47.alloc | apply IsS47.drewN | apply IsS47.drew | apply IsS47.set_0) | exact HI120.out))) hge) : g122 ≠ g120)); have n4_ := Aside0.mk ((Nat.ne_of_lt (Nat.lt_of_lt_of_le (IsS47.lt (show IsS47 w _ g120 t119 from by repeat (first | (with_reducible first | exact HI120.out | apply IsS47.alloc | apply IsS47.drewN | apply IsS47.drew | apply IsS47.set_0) | exact HI120.out))) hge) : g120 ≠ g122)); clear HI120; clear HB; have HI120 := n0_; have HB := n1_; have HI122 := n2_; have NB122_120 := n3_; have NB120_122 := n4_; clear n0_ n1_ n2_ n3_ n4_; (try clear hb); (try clear hb2); (try clear hk); (try clear hi); (try clear hge)) | (go_at_call 16; (with_reducible refine (cache_New.calls  t119 w _ ?side1 A7.out).mono ?_); (case side1 => repeat (first | (with_reducible first | exact HB.out | apply below_alloc | apply pw_below_drewN | apply below_drew1) | exact HB.out)); rintro e w10 ⟨g120, rfl, hi, hb, hb2, hge⟩; have n0_ := Aside0.mk (hb); have n1_ := Aside0.mk (hi); clear HB; have HB := n0_; have HI120 := n1_; clear n0_ n1_; (try clear hb); (try clear hb2); (try clear hk); (try clear hi); (try clear hge))); try go_wp2_with (first | (go_at_call 15; (with_reducible refine (steadinglaw09_awake.calls  true _ A3.out).mono ?_); rintro e w9 ⟨rfl, hb⟩; have n0_ := Aside0.mk (below_step (by repeat (first | (with_reducible first | exact HB.out | apply below_alloc | apply pw_below_drewN | apply below_drew1) | exact HB.out)) hb); clear HB; have HB := n0_; clear n0_; (try clear hb); (try clear hb2); (try clear hk); (try clear hi); (try clear hge)) | (go_at_call 16; (with_reducible refine (cache_New.calls  t121 w _ ?side1 A8.out).mono ?_); (case side1 => repeat (first | (with_reducible first | exact HB.out | apply below_alloc | apply pw_below_drewN | apply below_drew1 | refine below_set ?_ (IsS47.ge HI120.out)) | exact HB.out)); rintro e w11 ⟨g122, rfl, hi, hb, hb2, hge⟩; have n0_ := Aside0.mk (IsS47.below (by repeat (first | (with_reducible first | exact HI120.out | apply IsS47.alloc | apply IsS47.drewN | apply IsS47.drew | apply IsS47.set_0) | exact HI120.out)) hb2); have n1_ := Aside0.mk (hb); have n2_ := Aside0.mk (hi); have n3_ := Aside0.mk ((Nat.ne_of_gt (Nat.lt_of_lt_of_le (IsS47.lt (show IsS47 w _ g120 t119 from by repeat (first | (with_reducible first | exact HI120.out | apply IsS47.alloc | apply IsS47.drewN | apply IsS47.drew | apply IsS47.set_0) | exact HI120.out))) hge) : g122 ≠ g120)); have n4_ := Aside0.mk ((Nat.ne_of_lt (Nat.lt_of_lt_of_le (IsS47.lt (show IsS47 w _ g120 t119 from by repeat (first | (with_reducible first | exact HI120.out | apply IsS47.alloc | apply IsS47.drewN | apply IsS47.drew | apply IsS47.set_0) | exact HI120.out))) hge) : g120 ≠ g122)); clear HI120; clear HB; have HI120 := n0_; have HB := n1_; have HI122 := n2_; have NB122_120 := n3_; have NB120_122 := n4_; clear n0_ n1_ n2_ n3_ n4_; (try clear hb); (try clear hb2); (try clear hk); (try clear hi); (try clear hge)) | (go_at_call 16; (with_reducible refine (cache_New.calls  t119 w _ ?side1 A7.out).mono ?_); (case side1 => repeat (first | (with_reducible first | exact HB.out | apply below_alloc | apply pw_below_drewN | apply below_drew1) | exact HB.out)); rintro e w10 ⟨g120, rfl, hi, hb, hb2, hge⟩; have n0_ := Aside0.mk (hb); have n1_ := Aside0.mk (hi); clear HB; have HB := n0_; have HI120 := n1_; clear n0_ n1_; (try clear hb); (try clear hb2); (try clear hk); (try clear hi); (try clear hge))))
      go_loopg [9, 10] k (fun kq v9 v10 w' => ∃ (x9_1 : List Int) (x10_1 : Int) (x121000_1 : Hand.Stacks) (x123000_1 : Hand.Stacks), v10 = .int .i64 x10_1 ∧ Aside0 (steadinglaw09_CacheTurns.l0 kq l0 (wrap64 (Int.tmod a1 7)) x9_1 x10_1 x121000_1 x123000_1 = some r) ∧ Aside0 (kq ≤ k) ∧ Aside0 (Kd.R (Kd.int .i64) 3 w' w.heap.size (fun _ => True) v9 x9_1) ∧ Aside0 (IsS47 w w' g120 x121000_1) ∧ Aside0 (IsS47 w w' g122 x123000_1) ∧ Aside0 (Below w.heap.size w w'))
      case atStart => exact ⟨(([] : List Int)), (0), (t119), (t121), (by first | rfl | (simp; done) | (simp [*]; done)), H', ⟨Nat.le_refl _⟩, ⟨by first | exact Kd.R_nil _ _ _ _ _ | exact Kd.N_nil _ _ _ _ _ | exact Kd.V_nil _ _ _ _ _ | exact Kd.Q_nil _ _ _ _ _ | exact Kd.S_nil _ _ _ _ _⟩, ⟨by repeat (first | (with_reducible first | exact HI120.out | apply IsS47.alloc | apply IsS47.drewN | apply IsS47.drew | apply IsS47.set_0) | exact HI120.out)⟩, ⟨by repeat (first | (with_reducible first | exact HI122.out | apply IsS47.alloc | apply IsS47.drewN | apply IsS47.drew | apply IsS47.set_0) | exact HI122.out)⟩, ⟨by repeat (first | (with_reducible first | exact HB.out | apply below_alloc | apply pw_below_drewN | apply below_drew1 | refine below_set ?_ (IsS47.ge HI120.out) | refine below_set ?_ (IsS47.ge HI122.out)) | exact HB.out)⟩⟩
      case round =>
        clear H'
        try clear p2
        try clear c4
        try clear c5
        try clear c5b0
        try clear c5b1
        try clear p6
        obtain ⟨x9_1, x10_1, x121000_1, x123000_1, rfl, HA, HK1, HO_9, HI120, HI122, HB⟩ := hrel
        cases gk with
        | zero => exact absurd HA.out (by simp [steadinglaw09_CacheTurns.l0])
        | succ k1 =>
          have H := HA.out
          clear HA
          simp only [steadinglaw09_CacheTurns.l0] at H
          by_cases c12 : x10_1 < (l0.length : Int)
          · rw [if_pos c12] at H
            have c12b0 : decide (x10_1 < (l0.length : Int)) = true := decide_eq_true c12
            clear c12
            by_cases c13 : 0 ≤ x10_1
            · rw [if_pos c13] at H
              have c13b0 : decide (0 ≤ x10_1) = true := decide_eq_true c13
              clear c13
              have HC14 := Aside0.mk H
              clear H
              have p123 : 0 ≤ (x10_1 : Int) := of_decide_eq_true (by first | (with_reducible assumption) | assumption)
              have q123 : x10_1 < (l0.length : Int) := of_decide_eq_true (by first | (with_reducible assumption) | assumption)
              obtain ⟨ad123, e123, hx123_0⟩ := Kd.at_bool HR0.out x10_1 p123 q123
              cases e123
              replace hx123_0 := (HB.out.cell (World.block_lt_of_cell? w _ hx123_0)).trans hx123_0
              replace p123 := eq_true p123
              replace q123 := eq_true q123
              go_upto_if 36 with (fail)
              repeat (go_quiet (fail); go_upto_if 36 with (fail))
              go_cut [9] (fun v9 wc => ∃ (kq : Nat) (x9_13 : List Int) (x121000_13 : Hand.Stacks), Aside0 (steadinglaw09_CacheTurns.j2 kq l0 (wrap64 (Int.tmod a1 7)) x9_13 x10_1 x121000_13 x123000_1 = some r) ∧ Aside0 (kq ≤ k1) ∧ Aside0 (Kd.R (Kd.int .i64) 3 wc w.heap.size (fun _ => True) v9 x9_13) ∧ Aside0 (IsS47 w wc g120 x121000_13) ∧ Aside0 (IsS47 w wc g122 x123000_1) ∧ Aside0 (Below w.heap.size w wc))
              case first =>
                have H := HC14.out
                clear HC14
                obtain ⟨bq15, hbq15⟩ : ∃ b_ : Bool, b_ = (rdOf false l0 x10_1) := ⟨_, rfl⟩
                replace H : (if bq15 = true then ((cache_Cache_Push.f x121000_1 (wrap64 (Int.tmod a1 7)) x10_1).bind fun bt124 => (if (bt124.1 != (decide ((x9_1.length : Int) < 4))) = true then (some false) else (if bt124.1 = true then (if x9_1.length < 17592186044416 then (steadinglaw09_CacheTurns.j2 k1 l0 (wrap64 (Int.tmod a1 7)) (x9_1 ++ [x10_1]) x10_1 bt124.2 x123000_1) else (none)) else (steadinglaw09_CacheTurns.j2 k1 l0 (wrap64 (Int.tmod a1 7)) x9_1 x10_1 bt124.2 x123000_1)))) else ((cache_Cache_Pop.f x121000_1 (wrap64 (Int.tmod a1 7))).bind fun bt129 => (if (bt129.2.1 != (decide ((x9_1.length : Int) > 0))) = true then (steadinglaw09_CacheTurns.j1 k1 l0 (wrap64 (Int.tmod a1 7)) x9_1 x10_1 bt129.2.1 true bt129.2.2 x123000_1) else (if bt129.2.1 = true then (if 0 ≤ (wrap64 ((x9_1.length : Int) - 1)) then (if (wrap64 ((x9_1.length : Int) - 1)) < (x9_1.length : Int) then (steadinglaw09_CacheTurns.j1 k1 l0 (wrap64 (Int.tmod a1 7)) x9_1 x10_1 bt129.2.1 (bt129.1 != (rd x9_1 (wrap64 ((x9_1.length : Int) - 1)))) bt129.2.2 x123000_1) else (none)) else (none)) else (steadinglaw09_CacheTurns.j1 k1 l0 (wrap64 (Int.tmod a1 7)) x9_1 x10_1 bt129.2.1 false bt129.2.2 x123000_1))))) = some r := by rw [← hbq15] at H; exact H
                have Nbq15 := Aside0.mk hbq15
                clear hbq15
                (try rw [← Nbq15.out])
                by_cases c16 : bq15 = true
                · subst c16
                  have H1 : ((cache_Cache_Push.f x121000_1 (wrap64 (Int.tmod a1 7)) x10_1).bind fun bt124 => (if (bt124.1 != (decide ((x9_1.length : Int) < 4))) = true then (some false) else (if bt124.1 = true then (if x9_1.length < 17592186044416 then (steadinglaw09_CacheTurns.j2 k1 l0 (wrap64 (Int.tmod a1 7)) (x9_1 ++ [x10_1]) x10_1 bt124.2 x123000_1) else (none)) else (steadinglaw09_CacheTurns.j2 k1 l0 (wrap64 (Int.tmod a1 7)) x9_1 x10_1 bt124.2 x123000_1)))) = some r := by rw [if_pos rfl] at H; exact H
                  clear H
                  have H := H1
                  clear H1
                  replace H := Option.bind_eq_some_iff.mp H
                  obtain ⟨⟨t124, t125⟩, A170, H⟩ := H
                  replace H : (if (t124 != (decide ((x9_1.length : Int) < 4))) = true then (some false) else (if t124 = true then (if x9_1.length < 17592186044416 then (steadinglaw09_CacheTurns.j2 k1 l0 (wrap64 (Int.tmod a1 7)) (x9_1 ++ [x10_1]) x10_1 t125 x123000_1) else (none)) else (steadinglaw09_CacheTurns.j2 k1 l0 (wrap64 (Int.tmod a1 7)) x9_1 x10_1 t125 x123000_1))) = some r := H
                  have A17 := Aside0.mk A170
                  clear A170
                  by_cases c18 : (t124 != (decide ((x9_1.length : Int) < 4))) = true
                  · rw [if_pos c18] at H
                    have c18b0 : (t124 != (decide ((x9_1.length : Int) < 4))) = true := c18
                    (try (have c18b1 : decide (t124 = (decide ((x9_1.length : Int) < 4))) = false := by simpa using c18))
                    (try (have c18b2 : (t124 == (decide ((x9_1.length : Int) < 4))) = false := by simpa using c18))
                    (try (have c18b3 : ¬ (t124 = (decide ((x9_1.length : Int) < 4))) := by simpa using c18))
                    clear c18
                    obtain rfl := Option.some.inj H
                    go_wp2_with (first | (go_at_call 17; (with_reducible refine (cache_Cache_Push.calls g120 x121000_1 (wrap64 (Int.tmod a1 7)) x10_1 t124 t125 w _ ?side1 ?side2 A17.out).mono ?_); (case side1 => repeat (first | (with_reducible first | exact HI120.out | apply IsS47.alloc | apply IsS47.drewN | apply IsS47.drew | apply IsS47.set_0) | exact HI120.out)); (case side2 => repeat (first | (with_reducible first | exact HB.out | apply below_alloc | apply pw_below_drewN | apply below_drew1 | refine below_set ?_ (IsS47.ge HI120.out) | refine below_set ?_ (IsS47.ge HI122.out)) | exact HB.out)); rintro e w19 ⟨rfl, hi, hb, hk⟩; have n0_ := Aside0.mk (Kd.R_mono (Kd.R_keep (IsS47.apart (show IsS47 w _ g120 x121000_1 from by repeat (first | (with_reducible first | exact HI120.out | apply IsS47.alloc | apply IsS47.drewN | apply IsS47.drew | apply IsS47.set_0) | exact HI120.out)) (by (with_reducible repeat (first | apply Kd.R_alloc | apply Kd.R_drewN | apply Kd.R_drew)); exact HO_9.out) (by decide)) hk (fun _ h => h.2)) (fun _ h => h.1)); have n1_ := Aside0.mk (IsS47.keep (by repeat (first | (with_reducible first | exact HI122.out | apply IsS47.alloc | apply IsS47.drewN | apply IsS47.drew | apply IsS47.set_0) | exact HI122.out)) hk NB122_120.out); have n2_ := Aside0.mk (hb); have n3_ := Aside0.mk (hi); clear HO_9; clear HI122; clear HB; clear HI120; have HO_9 := n0_; have HI122 := n1_; have HB := n2_; have HI120 := n3_; clear n0_ n1_ n2_ n3_; (try clear hb); (try clear hb2); (try clear hk); (try clear hi); (try clear hge); obtain ⟨Ao20, co20, eo20⟩ := Kd.R_slice HO_9.out; subst eo20))
                    repeat (go_quiet (first | (go_at_call 17; (with_reducible refine (cache_Cache_Push.calls g120 x121000_1 (wrap64 (Int.tmod a1 7)) x10_1 t124 t125 w _ ?side1 ?side2 A17.out).mono ?_); (case side1 => repeat (first | (with_reducible first | exact HI120.out | apply IsS47.alloc | apply IsS47.drewN | apply IsS47.drew | apply IsS47.set_0) | exact HI120.out)); (case side2 => repeat (first | (with_reducible first | exact HB.out | apply below_alloc | apply pw_below_drewN | apply below_drew1 | refine below_set ?_ (IsS47.ge HI120.out) | refine below_set ?_ (IsS47.ge HI122.out)) | exact HB.out)); rintro e w19 ⟨rfl, hi, hb, hk⟩; have n0_ := Aside0.mk (Kd.R_mono (Kd.R_keep (IsS47.apart (show IsS47 w _ g120 x121000_1 from by repeat (first | (with_reducible first | exact HI120.out | apply IsS47.alloc | apply IsS47.drewN | apply IsS47.drew | apply IsS47.set_0) | exact HI120.out)) (by (with_reducible repeat (first | apply Kd.R_alloc | apply Kd.R_drewN | apply Kd.R_drew)); exact HO_9.out) (by decide)) hk (fun _ h => h.2)) (fun _ h => h.1)); have n1_ := Aside0.mk (IsS47.keep (by repeat (first | (with_reducible first | exact HI122.out | apply IsS47.alloc | apply IsS47.drewN | apply IsS47.drew | apply IsS47.set_0) | exact HI122.out)) hk NB122_120.out); have n2_ := Aside0.mk (hb); have n3_ := Aside0.mk (hi); clear HO_9; clear HI122; clear HB; clear HI120; have HO_9 := n0_; have HI122 := n1_; have HB := n2_; have HI120 := n3_; clear n0_ n1_ n2_ n3_; (try clear hb); (try clear hb2); (try clear hk); (try clear hi); (try clear hge); obtain ⟨Ao20, co20, eo20⟩ := Kd.R_slice HO_9.out; subst eo20)); try go_wp2_with (first | (go_at_call 17; (with_reducible refine (cache_Cache_Push.calls g120 x121000_1 (wrap64 (Int.tmod a1 7)) x10_1 t124 t125 w _ ?side1 ?side2 A17.out).mono ?_); (case side1 => repeat (first | (with_reducible first | exact HI120.out | apply IsS47.alloc | apply IsS47.drewN | apply IsS47.drew | apply IsS47.set_0) | exact HI120.out)); (case side2 => repeat (first | (with_reducible first | exact HB.out | apply below_alloc | apply pw_below_drewN | apply below_drew1 | refine below_set ?_ (IsS47.ge HI120.out) | refine below_set ?_ (IsS47.ge HI122.out)) | exact HB.out)); rintro e w19 ⟨rfl, hi, hb, hk⟩; have n0_ := Aside0.mk (Kd.R_mono (Kd.R_keep (IsS47.apart (show IsS47 w _ g120 x121000_1 from by repeat (first | (with_reducible first | exact HI120.out | apply IsS47.alloc | apply IsS47.drewN | apply IsS47.drew | apply IsS47.set_0) | exact HI120.out)) (by (with_reducible repeat (first | apply Kd.R_alloc | apply Kd.R_drewN | apply Kd.R_drew)); exact HO_9.out) (by decide)) hk (fun _ h => h.2)) (fun _ h => h.1)); have n1_ := Aside0.mk (IsS47.keep (by repeat (first | (with_reducible first | exact HI122.out | apply IsS47.alloc | apply IsS47.drewN | apply IsS47.drew | apply IsS47.set_0) | exact HI122.out)) hk NB122_120.out); have n2_ := Aside0.mk (hb); have n3_ := Aside0.mk (hi); clear HO_9; clear HI122; clear HB; clear HI120; have HO_9 := n0_; have HI122 := n1_; have HB := n2_; have HI120 := n3_; clear n0_ n1_ n2_ n3_; (try clear hb); (try clear hb2); (try clear hk); (try clear hi); (try clear hge); obtain ⟨Ao20, co20, eo20⟩ := Kd.R_slice HO_9.out; subst eo20)))
                    go_ret
                    exact ⟨by first | rfl | (simp [errW_none, errW_some] <;> rfl) | (simp [*, errW_none, errW_some] <;> rfl), by repeat (first | (with_reducible first | exact HB.out | apply below_alloc | apply pw_below_drewN | apply below_drew1 | refine below_set ?_ (IsS47.ge HI120.out) | refine below_set ?_ (IsS47.ge HI122.out)) | exact HB.out)⟩
                  · rw [if_neg c18] at H
                    have c18b0 : (t124 != (decide ((x9_1.length : Int) < 4))) = false := by simpa using c18
                    (try (have c18b1 : decide (t124 = (decide ((x9_1.length : Int) < 4))) = true := by simpa using c18))
                    (try (have c18b2 : (t124 == (decide ((x9_1.length : Int) < 4))) = true := by simpa using c18))
                    clear c18
                    by_cases c21 : t124 = true
                    · subst c21
                      have H1 : (if x9_1.length < 17592186044416 then (steadinglaw09_CacheTurns.j2 k1 l0 (wrap64 (Int.tmod a1 7)) (x9_1 ++ [x10_1]) x10_1 t125 x123000_1) else (none)) = some r := by rw [if_pos rfl] at H; exact H
                      clear H
                      have H := H1
                      clear H1
                      by_cases c22 : x9_1.length < 17592186044416
                      · rw [if_pos c22] at H
                        have LMc22 := Aside0.mk c22
                        clear c22
                        obtain ⟨y126, hy126⟩ : ∃ y_ : List Int, y_ = (x9_1 ++ [x10_1]) := ⟨_, rfl⟩
                        replace H : (steadinglaw09_CacheTurns.j2 k1 l0 (wrap64 (Int.tmod a1 7)) y126 x10_1 t125 x123000_1) = some r := by first | (rw [hy126]; with_reducible exact H) | (have H2_ := (Option.bind_some _ _).symm.trans H; rw [hy126]; with_reducible exact H2_) | (have H2_ := (Option.bind_some _ _).symm.trans H; with_reducible exact H2_) | with_reducible exact H | (rw [hy126]; exact H) | exact H
                        have Ny126 := Aside0.mk hy126
                        clear hy126
                        have H' := Aside0.mk H
                        clear H
                        go_wp2_with (first | (go_at_call 17; (with_reducible refine (cache_Cache_Push.calls g120 x121000_1 (wrap64 (Int.tmod a1 7)) x10_1 true t125 w _ ?side1 ?side2 A17.out).mono ?_); (case side1 => repeat (first | (with_reducible first | exact HI120.out | apply IsS47.alloc | apply IsS47.drewN | apply IsS47.drew | apply IsS47.set_0) | exact HI120.out)); (case side2 => repeat (first | (with_reducible first | exact HB.out | apply below_alloc | apply pw_below_drewN | apply below_drew1 | refine below_set ?_ (IsS47.ge HI120.out) | refine below_set ?_ (IsS47.ge HI122.out)) | exact HB.out)); rintro e w23 ⟨rfl, hi, hb, hk⟩; have n0_ := Aside0.mk (Kd.R_mono (Kd.R_keep (IsS47.apart (show IsS47 w _ g120 x121000_1 from by repeat (first | (with_reducible first | exact HI120.out | apply IsS47.alloc | apply IsS47.drewN | apply IsS47.drew | apply IsS47.set_0) | exact HI120.out)) (by (with_reducible repeat (first | apply Kd.R_alloc | apply Kd.R_drewN | apply Kd.R_drew)); exact HO_9.out) (by decide)) hk (fun _ h => h.2)) (fun _ h => h.1)); have n1_ := Aside0.mk (IsS47.keep (by repeat (first | (with_reducible first | exact HI122.out | apply IsS47.alloc | apply IsS47.drewN | apply IsS47.drew | apply IsS47.set_0) | exact HI122.out)) hk NB122_120.out); have n2_ := Aside0.mk (hb); have n3_ := Aside0.mk (hi); clear HO_9; clear HI122; clear HB; clear HI120; have HO_9 := n0_; have HI122 := n1_; have HB := n2_; have HI120 := n3_; clear n0_ n1_ n2_ n3_; (try clear hb); (try clear hb2); (try clear hk); (try clear hi); (try clear hge); obtain ⟨Ao24, co24, eo24⟩ := Kd.R_slice HO_9.out; subst eo24) | ((with_reducible refine gate_builtin (b := .append) (xs := #[.tmp 47, .tmp 49]) rfl ?_); (try (refine gate_guard (by rfl) ?_; dsimp only)); at_builtin; refine Kd.R_append (Kd.int .i64) (w0 := w) w.heap.size rfl (.tmp 47) (.tmp 49) 39 3 (.int .i64 0) 8 rfl Try.underlying39 info3 rfl (by decide) (by omega) (.slice Ao24 x9_1.length co24) x9_1 x10_1 [.int .i64 x10_1] (fun _ => True) (fun _ => False) rfl rfl ?aP (fun _ hk => hk.elim) ?aF ?aO ?aB ?aS ?aL ?_; (case aP => exact rfl); (case aB => exact (by repeat (first | (with_reducible first | exact HB.out | apply below_alloc | apply pw_below_drewN | apply below_drew1 | refine below_set ?_ (IsS47.ge HI120.out) | refine below_set ?_ (IsS47.ge HI122.out)) | exact HB.out))); (case aF => exact (fun _ _ => trivial)); (case aO => exact (by (with_reducible repeat (first | apply Kd.R_alloc | apply Kd.R_drewN | apply Kd.R_drew)); exact HO_9.out)); (case aS => exact (below_size (by repeat (first | (with_reducible first | exact HB.out | apply below_alloc | apply pw_below_drewN | apply below_drew1 | refine below_set ?_ (IsS47.ge HI120.out) | refine below_set ?_ (IsS47.ge HI122.out)) | exact HB.out)))); (case aL => have := LMc22.out; omega); intro v127 w25 ho hb hg hat; rw [← Ny126.out] at ho; have n0_ := Aside0.mk (IsS47.grown (by repeat (first | (with_reducible first | exact HI120.out | apply IsS47.alloc | apply IsS47.drewN | apply IsS47.drew | apply IsS47.set_0) | exact HI120.out)) hg (IsS47.own_ne HI120.out HO_9.out (by decide))); have n1_ := Aside0.mk (IsS47.grown (by repeat (first | (with_reducible first | exact HI122.out | apply IsS47.alloc | apply IsS47.drewN | apply IsS47.drew | apply IsS47.set_0) | exact HI122.out)) hg (IsS47.own_ne HI122.out HO_9.out (by decide))); have n2_ := Aside0.mk (hb); have n3_ := Aside0.mk (ho); clear HI120; clear HI122; clear HB; clear HO_9; have HI120 := n0_; have HI122 := n1_; have HB := n2_; have HO128 := n3_; clear n0_ n1_ n2_ n3_; clear ho hb hg hat))
                        repeat (go_quiet (first | (go_at_call 17; (with_reducible refine (cache_Cache_Push.calls g120 x121000_1 (wrap64 (Int.tmod a1 7)) x10_1 true t125 w _ ?side1 ?side2 A17.out).mono ?_); (case side1 => repeat (first | (with_reducible first | exact HI120.out | apply IsS47.alloc | apply IsS47.drewN | apply IsS47.drew | apply IsS47.set_0) | exact HI120.out)); (case side2 => repeat (first | (with_reducible first | exact HB.out | apply below_alloc | apply pw_below_drewN | apply below_drew1 | refine below_set ?_ (IsS47.ge HI120.out) | refine below_set ?_ (IsS47.ge HI122.out)) | exact HB.out)); rintro e w23 ⟨rfl, hi, hb, hk⟩; have n0_ := Aside0.mk (Kd.R_mono (Kd.R_keep (IsS47.apart (show IsS47 w _ g120 x121000_1 from by repeat (first | (with_reducible first | exact HI120.out | apply IsS47.alloc | apply IsS47.drewN | apply IsS47.drew | apply IsS47.set_0) | exact HI120.out)) (by (with_reducible repeat (first | apply Kd.R_alloc | apply Kd.R_drewN | apply Kd.R_drew)); exact HO_9.out) (by decide)) hk (fun _ h => h.2)) (fun _ h => h.1)); have n1_ := Aside0.mk (IsS47.keep (by repeat (first | (with_reducible first | exact HI122.out | apply IsS47.alloc | apply IsS47.drewN | apply IsS47.drew | apply IsS47.set_0) | exact HI122.out)) hk NB122_120.out); have n2_ := Aside0.mk (hb); have n3_ := Aside0.mk (hi); clear HO_9; clear HI122; clear HB; clear HI120; have HO_9 := n0_; have HI122 := n1_; have HB := n2_; have HI120 := n3_; clear n0_ n1_ n2_ n3_; (try clear hb); (try clear hb2); (try clear hk); (try clear hi); (try clear hge); obtain ⟨Ao24, co24, eo24⟩ := Kd.R_slice HO_9.out; subst eo24) | ((with_reducible refine gate_builtin (b := .append) (xs := #[.tmp 47, .tmp 49]) rfl ?_); (try (refine gate_guard (by rfl) ?_; dsimp only)); at_builtin; refine Kd.R_append (Kd.int .i64) (w0 := w) w.heap.size rfl (.tmp 47) (.tmp 49) 39 3 (.int .i64 0) 8 rfl Try.underlying39 info3 rfl (by decide) (by omega) (.slice Ao24 x9_1.length co24) x9_1 x10_1 [.int .i64 x10_1] (fun _ => True) (fun _ => False) rfl rfl ?aP (fun _ hk => hk.elim) ?aF ?aO ?aB ?aS ?aL ?_; (case aP => exact rfl); (case aB => exact (by repeat (first | (with_reducible first | exact HB.out | apply below_alloc | apply pw_below_drewN | apply below_drew1 | refine below_set ?_ (IsS47.ge HI120.out) | refine below_set ?_ (IsS47.ge HI122.out)) | exact HB.out))); (case aF => exact (fun _ _ => trivial)); (case aO => exact (by (with_reducible repeat (first | apply Kd.R_alloc | apply Kd.R_drewN | apply Kd.R_drew)); exact HO_9.out)); (case aS => exact (below_size (by repeat (first | (with_reducible first | exact HB.out | apply below_alloc | apply pw_below_drewN | apply below_drew1 | refine below_set ?_ (IsS47.ge HI120.out) | refine below_set ?_ (IsS47.ge HI122.out)) | exact HB.out)))); (case aL => have := LMc22.out; omega); intro v127 w25 ho hb hg hat; rw [← Ny126.out] at ho; have n0_ := Aside0.mk (IsS47.grown (by repeat (first | (with_reducible first | exact HI120.out | apply IsS47.alloc | apply IsS47.drewN | apply IsS47.drew | apply IsS47.set_0) | exact HI120.out)) hg (IsS47.own_ne HI120.out HO_9.out (by decide))); have n1_ := Aside0.mk (IsS47.grown (by repeat (first | (with_reducible first | exact HI122.out | apply IsS47.alloc | apply IsS47.drewN | apply IsS47.drew | apply IsS47.set_0) | exact HI122.out)) hg (IsS47.own_ne HI122.out HO_9.out (by decide))); have n2_ := Aside0.mk (hb); have n3_ := Aside0.mk (ho); clear HI120; clear HI122; clear HB; clear HO_9; have HI120 := n0_; have HI122 := n1_; have HB := n2_; have HO128 := n3_; clear n0_ n1_ n2_ n3_; clear ho hb hg hat)); try go_wp2_with (first | (go_at_call 17; (with_reducible refine (cache_Cache_Push.calls g120 x121000_1 (wrap64 (Int.tmod a1 7)) x10_1 true t125 w _ ?side1 ?side2 A17.out).mono ?_); (case side1 => repeat (first | (with_reducible first | exact HI120.out | apply IsS47.alloc | apply IsS47.drewN | apply IsS47.drew | apply IsS47.set_0) | exact HI120.out)); (case side2 => repeat (first | (with_reducible first | exact HB.out | apply below_alloc | apply pw_below_drewN | apply below_drew1 | refine below_set ?_ (IsS47.ge HI120.out) | refine below_set ?_ (IsS47.ge HI122.out)) | exact HB.out)); rintro e w23 ⟨rfl, hi, hb, hk⟩; have n0_ := Aside0.mk (Kd.R_mono (Kd.R_keep (IsS47.apart (show IsS47 w _ g120 x121000_1 from by repeat (first | (with_reducible first | exact HI120.out | apply IsS47.alloc | apply IsS47.drewN | apply IsS47.drew | apply IsS47.set_0) | exact HI120.out)) (by (with_reducible repeat (first | apply Kd.R_alloc | apply Kd.R_drewN | apply Kd.R_drew)); exact HO_9.out) (by decide)) hk (fun _ h => h.2)) (fun _ h => h.1)); have n1_ := Aside0.mk (IsS47.keep (by repeat (first | (with_reducible first | exact HI122.out | apply IsS47.alloc | apply IsS47.drewN | apply IsS47.drew | apply IsS47.set_0) | exact HI122.out)) hk NB122_120.out); have n2_ := Aside0.mk (hb); have n3_ := Aside0.mk (hi); clear HO_9; clear HI122; clear HB; clear HI120; have HO_9 := n0_; have HI122 := n1_; have HB := n2_; have HI120 := n3_; clear n0_ n1_ n2_ n3_; (try clear hb); (try clear hb2); (try clear hk); (try clear hi); (try clear hge); obtain ⟨Ao24, co24, eo24⟩ := Kd.R_slice HO_9.out; subst eo24) | ((with_reducible refine gate_builtin (b := .append) (xs := #[.tmp 47, .tmp 49]) rfl ?_); (try (refine gate_guard (by rfl) ?_; dsimp only)); at_builtin; refine Kd.R_append (Kd.int .i64) (w0 := w) w.heap.size rfl (.tmp 47) (.tmp 49) 39 3 (.int .i64 0) 8 rfl Try.underlying39 info3 rfl (by decide) (by omega) (.slice Ao24 x9_1.length co24) x9_1 x10_1 [.int .i64 x10_1] (fun _ => True) (fun _ => False) rfl rfl ?aP (fun _ hk => hk.elim) ?aF ?aO ?aB ?aS ?aL ?_; (case aP => exact rfl); (case aB => exact (by repeat (first | (with_reducible first | exact HB.out | apply below_alloc | apply pw_below_drewN | apply below_drew1 | refine below_set ?_ (IsS47.ge HI120.out) | refine below_set ?_ (IsS47.ge HI122.out)) | exact HB.out))); (case aF => exact (fun _ _ => trivial)); (case aO => exact (by (with_reducible repeat (first | apply Kd.R_alloc | apply Kd.R_drewN | apply Kd.R_drew)); exact HO_9.out)); (case aS => exact (below_size (by repeat (first | (with_reducible first | exact HB.out | apply below_alloc | apply pw_below_drewN | apply below_drew1 | refine below_set ?_ (IsS47.ge HI120.out) | refine below_set ?_ (IsS47.ge HI122.out)) | exact HB.out)))); (case aL => have := LMc22.out; omega); intro v127 w25 ho hb hg hat; rw [← Ny126.out] at ho; have n0_ := Aside0.mk (IsS47.grown (by repeat (first | (with_reducible first | exact HI120.out | apply IsS47.alloc | apply IsS47.drewN | apply IsS47.drew | apply IsS47.set_0) | exact HI120.out)) hg (IsS47.own_ne HI120.out HO_9.out (by decide))); have n1_ := Aside0.mk (IsS47.grown (by repeat (first | (with_reducible first | exact HI122.out | apply IsS47.alloc | apply IsS47.drewN | apply IsS47.drew | apply IsS47.set_0) | exact HI122.out)) hg (IsS47.own_ne HI122.out HO_9.out (by decide))); have n2_ := Aside0.mk (hb); have n3_ := Aside0.mk (ho); clear HI120; clear HI122; clear HB; clear HO_9; have HI120 := n0_; have HI122 := n1_; have HB := n2_; have HO128 := n3_; clear n0_ n1_ n2_ n3_; clear ho hb hg hat)))
                        go_meet
                        case rel => exact ⟨_, (y126), (t125), H', ⟨by have := HK1.out; first | omega | exact Nat.le_refl _⟩, ⟨by (with_reducible repeat (first | apply Kd.R_alloc | apply Kd.R_drewN | apply Kd.R_drew)); exact HO128.out⟩, ⟨by repeat (first | (with_reducible first | exact HI120.out | apply IsS47.alloc | apply IsS47.drewN | apply IsS47.drew | apply IsS47.set_0) | exact HI120.out)⟩, ⟨by repeat (first | (with_reducible first | exact HI122.out | apply IsS47.alloc | apply IsS47.drewN | apply IsS47.drew | apply IsS47.set_0) | exact HI122.out)⟩, ⟨by repeat (first | (with_reducible first | exact HB.out | apply below_alloc | apply pw_below_drewN | apply below_drew1 | refine below_set ?_ (IsS47.ge HI120.out) | refine below_set ?_ (IsS47.ge HI122.out)) | exact HB.out)⟩⟩
                      · rw [if_neg c22] at H
                        exact absurd H (by simp)
                    · replace c21 := Bool.eq_false_iff.mpr c21
                      subst c21
                      have H1 : (steadinglaw09_CacheTurns.j2 k1 l0 (wrap64 (Int.tmod a1 7)) x9_1 x10_1 t125 x123000_1) = some r := by rw [if_neg (show ¬ (false = true) by decide)] at H; exact H
                      clear H
                      have H := H1
                      clear H1
                      have H' := Aside0.mk H
                      clear H
                      go_wp2_with (first | (go_at_call 17; (with_reducible refine (cache_Cache_Push.calls g120 x121000_1 (wrap64 (Int.tmod a1 7)) x10_1 false t125 w _ ?side1 ?side2 A17.out).mono ?_); (case side1 => repeat (first | (with_reducible first | exact HI120.out | apply IsS47.alloc | apply IsS47.drewN | apply IsS47.drew | apply IsS47.set_0) | exact HI120.out)); (case side2 => repeat (first | (with_reducible first | exact HB.out | apply below_alloc | apply pw_below_drewN | apply below_drew1 | refine below_set ?_ (IsS47.ge HI120.out) | refine below_set ?_ (IsS47.ge HI122.out)) | exact HB.out)); rintro e w26 ⟨rfl, hi, hb, hk⟩; have n0_ := Aside0.mk (Kd.R_mono (Kd.R_keep (IsS47.apart (show IsS47 w _ g120 x121000_1 from by repeat (first | (with_reducible first | exact HI120.out | apply IsS47.alloc | apply IsS47.drewN | apply IsS47.drew | apply IsS47.set_0) | exact HI120.out)) (by (with_reducible repeat (first | apply Kd.R_alloc | apply Kd.R_drewN | apply Kd.R_drew)); exact HO_9.out) (by decide)) hk (fun _ h => h.2)) (fun _ h => h.1)); have n1_ := Aside0.mk (IsS47.keep (by repeat (first | (with_reducible first | exact HI122.out | apply IsS47.alloc | apply IsS47.drewN | apply IsS47.drew | apply IsS47.set_0) | exact HI122.out)) hk NB122_120.out); have n2_ := Aside0.mk (hb); have n3_ := Aside0.mk (hi); clear HO_9; clear HI122; clear HB; clear HI120; have HO_9 := n0_; have HI122 := n1_; have HB := n2_; have HI120 := n3_; clear n0_ n1_ n2_ n3_; (try clear hb); (try clear hb2); (try clear hk); (try clear hi); (try clear hge); obtain ⟨Ao27, co27, eo27⟩ := Kd.R_slice HO_9.out; subst eo27))
                      repeat (go_quiet (first | (go_at_call 17; (with_reducible refine (cache_Cache_Push.calls g120 x121000_1 (wrap64 (Int.tmod a1 7)) x10_1 false t125 w _ ?side1 ?side2 A17.out).mono ?_); (case side1 => repeat (first | (with_reducible first | exact HI120.out | apply IsS47.alloc | apply IsS47.drewN | apply IsS47.drew | apply IsS47.set_0) | exact HI120.out)); (case side2 => repeat (first | (with_reducible first | exact HB.out | apply below_alloc | apply pw_below_drewN | apply below_drew1 | refine below_set ?_ (IsS47.ge HI120.out) | refine below_set ?_ (IsS47.ge HI122.out)) | exact HB.out)); rintro e w26 ⟨rfl, hi, hb, hk⟩; have n0_ := Aside0.mk (Kd.R_mono (Kd.R_keep (IsS47.apart (show IsS47 w _ g120 x121000_1 from by repeat (first | (with_reducible first | exact HI120.out | apply IsS47.alloc | apply IsS47.drewN | apply IsS47.drew | apply IsS47.set_0) | exact HI120.out)) (by (with_reducible repeat (first | apply Kd.R_alloc | apply Kd.R_drewN | apply Kd.R_drew)); exact HO_9.out) (by decide)) hk (fun _ h => h.2)) (fun _ h => h.1)); have n1_ := Aside0.mk (IsS47.keep (by repeat (first | (with_reducible first | exact HI122.out | apply IsS47.alloc | apply IsS47.drewN | apply IsS47.drew | apply IsS47.set_0) | exact HI122.out)) hk NB122_120.out); have n2_ := Aside0.mk (hb); have n3_ := Aside0.mk (hi); clear HO_9; clear HI122; clear HB; clear HI120; have HO_9 := n0_; have HI122 := n1_; have HB := n2_; have HI120 := n3_; clear n0_ n1_ n2_ n3_; (try clear hb); (try clear hb2); (try clear hk); (try clear hi); (try clear hge); obtain ⟨Ao27, co27, eo27⟩ := Kd.R_slice HO_9.out; subst eo27)); try go_wp2_with (first | (go_at_call 17; (with_reducible refine (cache_Cache_Push.calls g120 x121000_1 (wrap64 (Int.tmod a1 7)) x10_1 false t125 w _ ?side1 ?side2 A17.out).mono ?_); (case side1 => repeat (first | (with_reducible first | exact HI120.out | apply IsS47.alloc | apply IsS47.drewN | apply IsS47.drew | apply IsS47.set_0) | exact HI120.out)); (case side2 => repeat (first | (with_reducible first | exact HB.out | apply below_alloc | apply pw_below_drewN | apply below_drew1 | refine below_set ?_ (IsS47.ge HI120.out) | refine below_set ?_ (IsS47.ge HI122.out)) | exact HB.out)); rintro e w26 ⟨rfl, hi, hb, hk⟩; have n0_ := Aside0.mk (Kd.R_mono (Kd.R_keep (IsS47.apart (show IsS47 w _ g120 x121000_1 from by repeat (first | (with_reducible first | exact HI120.out | apply IsS47.alloc | apply IsS47.drewN | apply IsS47.drew | apply IsS47.set_0) | exact HI120.out)) (by (with_reducible repeat (first | apply Kd.R_alloc | apply Kd.R_drewN | apply Kd.R_drew)); exact HO_9.out) (by decide)) hk (fun _ h => h.2)) (fun _ h => h.1)); have n1_ := Aside0.mk (IsS47.keep (by repeat (first | (with_reducible first | exact HI122.out | apply IsS47.alloc | apply IsS47.drewN | apply IsS47.drew | apply IsS47.set_0) | exact HI122.out)) hk NB122_120.out); have n2_ := Aside0.mk (hb); have n3_ := Aside0.mk (hi); clear HO_9; clear HI122; clear HB; clear HI120; have HO_9 := n0_; have HI122 := n1_; have HB := n2_; have HI120 := n3_; clear n0_ n1_ n2_ n3_; (try clear hb); (try clear hb2); (try clear hk); (try clear hi); (try clear hge); obtain ⟨Ao27, co27, eo27⟩ := Kd.R_slice HO_9.out; subst eo27)))
                      go_meet
                      case rel => exact ⟨_, (x9_1), (t125), H', ⟨by have := HK1.out; first | omega | exact Nat.le_refl _⟩, ⟨by (with_reducible repeat (first | apply Kd.R_alloc | apply Kd.R_drewN | apply Kd.R_drew)); exact HO_9.out⟩, ⟨by repeat (first | (with_reducible first | exact HI120.out | apply IsS47.alloc | apply IsS47.drewN | apply IsS47.drew | apply IsS47.set_0) | exact HI120.out)⟩, ⟨by repeat (first | (with_reducible first | exact HI122.out | apply IsS47.alloc | apply IsS47.drewN | apply IsS47.drew | apply IsS47.set_0) | exact HI122.out)⟩, ⟨by repeat (first | (with_reducible first | exact HB.out | apply below_alloc | apply pw_below_drewN | apply below_drew1 | refine below_set ?_ (IsS47.ge HI120.out) | refine below_set ?_ (IsS47.ge HI122.out)) | exact HB.out)⟩⟩
                · replace c16 := Bool.eq_false_iff.mpr c16
                  subst c16
                  have H1 : ((cache_Cache_Pop.f x121000_1 (wrap64 (Int.tmod a1 7))).bind fun bt129 => (if (bt129.2.1 != (decide ((x9_1.length : Int) > 0))) = true then (steadinglaw09_CacheTurns.j1 k1 l0 (wrap64 (Int.tmod a1 7)) x9_1 x10_1 bt129.2.1 true bt129.2.2 x123000_1) else (if bt129.2.1 = true then (if 0 ≤ (wrap64 ((x9_1.length : Int) - 1)) then (if (wrap64 ((x9_1.length : Int) - 1)) < (x9_1.length : Int) then (steadinglaw09_CacheTurns.j1 k1 l0 (wrap64 (Int.tmod a1 7)) x9_1 x10_1 bt129.2.1 (bt129.1 != (rd x9_1 (wrap64 ((x9_1.length : Int) - 1)))) bt129.2.2 x123000_1) else (none)) else (none)) else (steadinglaw09_CacheTurns.j1 k1 l0 (wrap64 (Int.tmod a1 7)) x9_1 x10_1 bt129.2.1 false bt129.2.2 x123000_1)))) = some r := by rw [if_neg (show ¬ (false = true) by decide)] at H; exact H
                  clear H
                  have H := H1
                  clear H1
                  replace H := Option.bind_eq_some_iff.mp H
                  obtain ⟨⟨t129, t130, t131⟩, A280, H⟩ := H
                  replace H : (if (t130 != (decide ((x9_1.length : Int) > 0))) = true then (steadinglaw09_CacheTurns.j1 k1 l0 (wrap64 (Int.tmod a1 7)) x9_1 x10_1 t130 true t131 x123000_1) else (if t130 = true then (if 0 ≤ (wrap64 ((x9_1.length : Int) - 1)) then (if (wrap64 ((x9_1.length : Int) - 1)) < (x9_1.length : Int) then (steadinglaw09_CacheTurns.j1 k1 l0 (wrap64 (Int.tmod a1 7)) x9_1 x10_1 t130 (t129 != (rd x9_1 (wrap64 ((x9_1.length : Int) - 1)))) t131 x123000_1) else (none)) else (none)) else (steadinglaw09_CacheTurns.j1 k1 l0 (wrap64 (Int.tmod a1 7)) x9_1 x10_1 t130 false t131 x123000_1))) = some r := H
                  have A28 := Aside0.mk A280
                  clear A280
                  have HC29 := Aside0.mk H
                  clear H
                  go_upto_region 20 with (first | (go_at_call 18; (with_reducible refine (cache_Cache_Pop.calls g120 x121000_1 (wrap64 (Int.tmod a1 7)) t129 t130 t131 w _ ?side1 ?side2 A28.out).mono ?_); (case side1 => repeat (first | (with_reducible first | exact HI120.out | apply IsS47.alloc | apply IsS47.drewN | apply IsS47.drew | apply IsS47.set_0) | exact HI120.out)); (case side2 => repeat (first | (with_reducible first | exact HB.out | apply below_alloc | apply pw_below_drewN | apply below_drew1 | refine below_set ?_ (IsS47.ge HI120.out) | refine below_set ?_ (IsS47.ge HI122.out)) | exact HB.out)); rintro e w30 ⟨rfl, hi, hb, hk⟩; have n0_ := Aside0.mk (Kd.R_mono (Kd.R_keep (IsS47.apart (show IsS47 w _ g120 x121000_1 from by repeat (first | (with_reducible first | exact HI120.out | apply IsS47.alloc | apply IsS47.drewN | apply IsS47.drew | apply IsS47.set_0) | exact HI120.out)) (by (with_reducible repeat (first | apply Kd.R_alloc | apply Kd.R_drewN | apply Kd.R_drew)); exact HO_9.out) (by decide)) hk (fun _ h => h.2)) (fun _ h => h.1)); have n1_ := Aside0.mk (IsS47.keep (by repeat (first | (with_reducible first | exact HI122.out | apply IsS47.alloc | apply IsS47.drewN | apply IsS47.drew | apply IsS47.set_0) | exact HI122.out)) hk NB122_120.out); have n2_ := Aside0.mk (hb); have n3_ := Aside0.mk (hi); clear HO_9; clear HI122; clear HB; clear HI120; have HO_9 := n0_; have HI122 := n1_; have HB := n2_; have HI120 := n3_; clear n0_ n1_ n2_ n3_; (try clear hb); (try clear hb2); (try clear hk); (try clear hi); (try clear hge)))
                  repeat (go_quiet (first | (go_at_call 18; (with_reducible refine (cache_Cache_Pop.calls g120 x121000_1 (wrap64 (Int.tmod a1 7)) t129 t130 t131 w _ ?side1 ?side2 A28.out).mono ?_); (case side1 => repeat (first | (with_reducible first | exact HI120.out | apply IsS47.alloc | apply IsS47.drewN | apply IsS47.drew | apply IsS47.set_0) | exact HI120.out)); (case side2 => repeat (first | (with_reducible first | exact HB.out | apply below_alloc | apply pw_below_drewN | apply below_drew1 | refine below_set ?_ (IsS47.ge HI120.out) | refine below_set ?_ (IsS47.ge HI122.out)) | exact HB.out)); rintro e w30 ⟨rfl, hi, hb, hk⟩; have n0_ := Aside0.mk (Kd.R_mono (Kd.R_keep (IsS47.apart (show IsS47 w _ g120 x121000_1 from by repeat (first | (with_reducible first | exact HI120.out | apply IsS47.alloc | apply IsS47.drewN | apply IsS47.drew | apply IsS47.set_0) | exact HI120.out)) (by (with_reducible repeat (first | apply Kd.R_alloc | apply Kd.R_drewN | apply Kd.R_drew)); exact HO_9.out) (by decide)) hk (fun _ h => h.2)) (fun _ h => h.1)); have n1_ := Aside0.mk (IsS47.keep (by repeat (first | (with_reducible first | exact HI122.out | apply IsS47.alloc | apply IsS47.drewN | apply IsS47.drew | apply IsS47.set_0) | exact HI122.out)) hk NB122_120.out); have n2_ := Aside0.mk (hb); have n3_ := Aside0.mk (hi); clear HO_9; clear HI122; clear HB; clear HI120; have HO_9 := n0_; have HI122 := n1_; have HB := n2_; have HI120 := n3_; clear n0_ n1_ n2_ n3_; (try clear hb); (try clear hb2); (try clear hk); (try clear hi); (try clear hge))); go_upto_region 20 with (first | (go_at_call 18; (with_reducible refine (cache_Cache_Pop.calls g120 x121000_1 (wrap64 (Int.tmod a1 7)) t129 t130 t131 w _ ?side1 ?side2 A28.out).mono ?_); (case side1 => repeat (first | (with_reducible first | exact HI120.out | apply IsS47.alloc | apply IsS47.drewN | apply IsS47.drew | apply IsS47.set_0) | exact HI120.out)); (case side2 => repeat (first | (with_reducible first | exact HB.out | apply below_alloc | apply pw_below_drewN | apply below_drew1 | refine below_set ?_ (IsS47.ge HI120.out) | refine below_set ?_ (IsS47.ge HI122.out)) | exact HB.out)); rintro e w30 ⟨rfl, hi, hb, hk⟩; have n0_ := Aside0.mk (Kd.R_mono (Kd.R_keep (IsS47.apart (show IsS47 w _ g120 x121000_1 from by repeat (first | (with_reducible first | exact HI120.out | apply IsS47.alloc | apply IsS47.drewN | apply IsS47.drew | apply IsS47.set_0) | exact HI120.out)) (by (with_reducible repeat (first | apply Kd.R_alloc | apply Kd.R_drewN | apply Kd.R_drew)); exact HO_9.out) (by decide)) hk (fun _ h => h.2)) (fun _ h => h.1)); have n1_ := Aside0.mk (IsS47.keep (by repeat (first | (with_reducible first | exact HI122.out | apply IsS47.alloc | apply IsS47.drewN | apply IsS47.drew | apply IsS47.set_0) | exact HI122.out)) hk NB122_120.out); have n2_ := Aside0.mk (hb); have n3_ := Aside0.mk (hi); clear HO_9; clear HI122; clear HB; clear HI120; have HO_9 := n0_; have HI122 := n1_; have HB := n2_; have HI120 := n3_; clear n0_ n1_ n2_ n3_; (try clear hb); (try clear hb2); (try clear hk); (try clear hi); (try clear hge))))
                  (try simp only [Act.put, List.setIfInBounds_toArray, List.set_cons_zero, List.set_cons_succ])
                  go_cut [74] (fun v74 wc => ∃ (kq : Nat) (x74_28 : Bool), v74 = .bool x74_28 ∧ Aside0 (steadinglaw09_CacheTurns.j1 kq l0 (wrap64 (Int.tmod a1 7)) x9_1 x10_1 t130 x74_28 t131 x123000_1 = some r) ∧ Aside0 (kq ≤ k1) ∧ Aside0 (Kd.R (Kd.int .i64) 3 wc w.heap.size (fun _ => True) u9 x9_1) ∧ Aside0 (IsS47 w wc g120 t131) ∧ Aside0 (IsS47 w wc g122 x123000_1) ∧ Aside0 (Below w.heap.size w wc))
                  case first =>
                    have H := HC29.out
                    clear HC29
                    by_cases c31 : (t130 != (decide ((x9_1.length : Int) > 0))) = true
                    · rw [if_pos c31] at H
                      have c31b0 : (t130 != (decide ((x9_1.length : Int) > 0))) = true := c31
                      (try (have c31b9 : (t130 != (decide (0 < x9_1.length))) = true := by simpa using c31b0))
                      (try (have c31b91 : (t130 == (decide (0 < x9_1.length))) = false := by simpa using c31b9))
                      (try (have c31b92 : decide (t130 = (decide (0 < x9_1.length))) = false := by simpa using c31b9))
                      (try (have c31b1 : decide (t130 = (decide ((x9_1.length : Int) > 0))) = false := by simpa using c31))
                      (try (have c31b2 : (t130 == (decide ((x9_1.length : Int) > 0))) = false := by simpa using c31))
                      (try (have c31b3 : ¬ (t130 = (decide ((x9_1.length : Int) > 0))) := by simpa using c31))
                      clear c31
                      (first | rw [c31b0] | (simp only [i64_w, i32_w]; rw [c31b0]) | skip)
                      have H' := Aside0.mk H
                      clear H
                      obtain ⟨Ao32, co32, eo32⟩ := Kd.R_slice HO_9.out
                      subst eo32
                      go_wp2
                      repeat (go_quiet (fail); try go_wp2)
                      go_meet
                      case rel => exact ⟨_, (true), (by first | rfl | (simp; done) | (simp [*]; done)), H', ⟨by have := HK1.out; first | omega | exact Nat.le_refl _⟩, ⟨by (with_reducible repeat (first | apply Kd.R_alloc | apply Kd.R_drewN | apply Kd.R_drew)); exact HO_9.out⟩, ⟨by repeat (first | (with_reducible first | exact HI120.out | apply IsS47.alloc | apply IsS47.drewN | apply IsS47.drew | apply IsS47.set_0) | exact HI120.out)⟩, ⟨by repeat (first | (with_reducible first | exact HI122.out | apply IsS47.alloc | apply IsS47.drewN | apply IsS47.drew | apply IsS47.set_0) | exact HI122.out)⟩, ⟨by repeat (first | (with_reducible first | exact HB.out | apply below_alloc | apply pw_below_drewN | apply below_drew1 | refine below_set ?_ (IsS47.ge HI120.out) | refine below_set ?_ (IsS47.ge HI122.out)) | exact HB.out)⟩⟩
                    · rw [if_neg c31] at H
                      have c31b0 : (t130 != (decide ((x9_1.length : Int) > 0))) = false := by simpa using c31
                      (try (have c31b9 : (t130 != (decide (0 < x9_1.length))) = false := by simpa using c31b0))
                      (try (have c31b91 : (t130 == (decide (0 < x9_1.length))) = true := by simpa using c31b9))
                      (try (have c31b92 : decide (t130 = (decide (0 < x9_1.length))) = true := by simpa using c31b9))
                      (try (have c31b1 : decide (t130 = (decide ((x9_1.length : Int) > 0))) = true := by simpa using c31))
                      (try (have c31b2 : (t130 == (decide ((x9_1.length : Int) > 0))) = true := by simpa using c31))
                      clear c31
                      (first | rw [c31b0] | (simp only [i64_w, i32_w]; rw [c31b0]) | skip)
                      by_cases c33 : t130 = true
                      · subst c33
                        have H1 : (if 0 ≤ (wrap64 ((x9_1.length : Int) - 1)) then (if (wrap64 ((x9_1.length : Int) - 1)) < (x9_1.length : Int) then (steadinglaw09_CacheTurns.j1 k1 l0 (wrap64 (Int.tmod a1 7)) x9_1 x10_1 true (t129 != (rd x9_1 (wrap64 ((x9_1.length : Int) - 1)))) t131 x123000_1) else (none)) else (none)) = some r := by rw [if_pos rfl] at H; exact H
                        clear H
                        have H := H1
                        clear H1
                        obtain ⟨ji34, hji34⟩ : ∃ j_ : Int, (wrap64 ((x9_1.length : Int) - 1)) = j_ := ⟨_, rfl⟩
                        replace H : (if 0 ≤ (ji34) then (if (ji34) < (x9_1.length : Int) then (steadinglaw09_CacheTurns.j1 k1 l0 (wrap64 (Int.tmod a1 7)) x9_1 x10_1 true (t129 != (rd x9_1 (ji34))) t131 x123000_1) else (none)) else (none)) = some r := by first | (rw [hji34] at H; exact H) | (simp only [hji34] at H ⊢; exact H)
                        have hji34w : (IntKind.i64.wrap ((x9_1.length : Int) - 1)) = ji34 := (i64_w _).trans hji34
                        by_cases c35 : 0 ≤ (ji34)
                        · rw [if_pos c35] at H
                          have c35b0 : decide (0 ≤ (ji34)) = true := decide_eq_true c35
                          clear c35
                          by_cases c36 : (ji34) < (x9_1.length : Int)
                          · rw [if_pos c36] at H
                            have c36b0 : decide ((ji34) < (x9_1.length : Int)) = true := decide_eq_true c36
                            clear c36
                            have H' := Aside0.mk H
                            clear H
                            obtain ⟨Ao37, co37, eo37⟩ := Kd.R_slice HO_9.out
                            subst eo37
                            have p132 : 0 ≤ ((ji34) : Int) := of_decide_eq_true (by first | (with_reducible assumption) | assumption)
                            have q132 : (ji34) < (x9_1.length : Int) := of_decide_eq_true (by first | (with_reducible assumption) | assumption)
                            obtain ⟨ad132, e132, hx132_0⟩ := Kd.at_int (Kd.R_reads' HO_9.out).2.2 (ji34) p132 q132
                            cases e132
                            replace p132 := eq_true p132
                            replace q132 := eq_true q132
                            go_wp2
                            repeat (go_quiet (fail); try go_wp2)
                            go_meet
                            case rel => exact ⟨_, ((t129 != (rd x9_1 (ji34)))), (by first | rfl | (simp; done) | (simp only [← hji34] <;> (first | rfl | simp)) | (simp [*]; done)), H', ⟨by have := HK1.out; first | omega | exact Nat.le_refl _⟩, ⟨by (with_reducible repeat (first | apply Kd.R_alloc | apply Kd.R_drewN | apply Kd.R_drew)); exact HO_9.out⟩, ⟨by repeat (first | (with_reducible first | exact HI120.out | apply IsS47.alloc | apply IsS47.drewN | apply IsS47.drew | apply IsS47.set_0) | exact HI120.out)⟩, ⟨by repeat (first | (with_reducible first | exact HI122.out | apply IsS47.alloc | apply IsS47.drewN | apply IsS47.drew | apply IsS47.set_0) | exact HI122.out)⟩, ⟨by repeat (first | (with_reducible first | exact HB.out | apply below_alloc | apply pw_below_drewN | apply below_drew1 | refine below_set ?_ (IsS47.ge HI120.out) | refine below_set ?_ (IsS47.ge HI122.out)) | exact HB.out)⟩⟩
                          · rw [if_neg c36] at H
                            exact absurd H (by simp)
                        · rw [if_neg c35] at H
                          exact absurd H (by simp)
                      · replace c33 := Bool.eq_false_iff.mpr c33
                        subst c33
                        have H1 : (steadinglaw09_CacheTurns.j1 k1 l0 (wrap64 (Int.tmod a1 7)) x9_1 x10_1 false false t131 x123000_1) = some r := by rw [if_neg (show ¬ (false = true) by decide)] at H; exact H
                        clear H
                        have H := H1
                        clear H1
                        have H' := Aside0.mk H
                        clear H
                        obtain ⟨Ao38, co38, eo38⟩ := Kd.R_slice HO_9.out
                        subst eo38
                        go_wp2
                        repeat (go_quiet (fail); try go_wp2)
                        go_meet
                        case rel => exact ⟨_, (false), (by first | rfl | (simp; done) | (simp [*]; done)), H', ⟨by have := HK1.out; first | omega | exact Nat.le_refl _⟩, ⟨by (with_reducible repeat (first | apply Kd.R_alloc | apply Kd.R_drewN | apply Kd.R_drew)); exact HO_9.out⟩, ⟨by repeat (first | (with_reducible first | exact HI120.out | apply IsS47.alloc | apply IsS47.drewN | apply IsS47.drew | apply IsS47.set_0) | exact HI120.out)⟩, ⟨by repeat (first | (with_reducible first | exact HI122.out | apply IsS47.alloc | apply IsS47.drewN | apply IsS47.drew | apply IsS47.set_0) | exact HI122.out)⟩, ⟨by repeat (first | (with_reducible first | exact HB.out | apply below_alloc | apply pw_below_drewN | apply below_drew1 | refine below_set ?_ (IsS47.ge HI120.out) | refine below_set ?_ (IsS47.ge HI122.out)) | exact HB.out)⟩⟩
                  case rest =>
                    clear HC29
                    try clear c1
                    try clear p1
                    try clear q1
                    try clear hx1
                    try clear c2
                    try clear p2
                    try clear c3
                    try clear c4
                    try clear c5
                    try clear c5b0
                    try clear c5b1
                    try clear p6
                    try clear c12
                    try clear c12b0
                    try clear p12
                    try clear q12
                    try clear hx12
                    try clear c13
                    try clear c13b0
                    try clear p13
                    try clear q13
                    try clear hx13
                    try clear q15
                    try clear c16
                    try clear c18
                    try clear c18b0
                    try clear c18b1
                    try clear c18b2
                    try clear c21
                    try clear c22
                    try clear c31
                    try clear c31b0
                    try clear c31b1
                    try clear c31b2
                    try clear c33
                    try clear c35
                    try clear c35b0
                    try clear c36
                    try clear c36b0
                    try clear hx123_0
                    try clear hx132_0
                    try clear p123
                    try clear p132
                    try clear p2
                    try clear p6
                    try clear q123
                    try clear q132
                    obtain ⟨kq, x74_28, rfl, HA, HJ28, HO_9, HI120, HI122, HB⟩ := hcut
                    cases kq with
                    | zero => exact absurd HA.out (by simp [steadinglaw09_CacheTurns.j1])
                    | succ kj28 =>
                      have H := HA.out
                      clear HA
                      simp only [steadinglaw09_CacheTurns.j1] at H
                      by_cases c39 : x74_28 = true
                      · subst c39
                        have H1 : (some false) = some r := by rw [if_pos rfl] at H; exact H
                        clear H
                        have H := H1
                        clear H1
                        obtain rfl := Option.some.inj H
                        go_wp2
                        repeat (go_quiet (fail); try go_wp2)
                        go_ret
                        exact ⟨by first | rfl | (simp [errW_none, errW_some] <;> rfl) | (simp [*, errW_none, errW_some] <;> rfl), by repeat (first | (with_reducible first | exact HB.out | apply below_alloc | apply pw_below_drewN | apply below_drew1 | refine below_set ?_ (IsS47.ge HI120.out) | refine below_set ?_ (IsS47.ge HI122.out)) | exact HB.out)⟩
                      · replace c39 := Bool.eq_false_iff.mpr c39
                        subst c39
                        have H1 : (if t130 = true then (if 0 ≤ (wrap64 ((x9_1.length : Int) - 1)) then (if (wrap64 ((x9_1.length : Int) - 1)) ≤ (x9_1.length : Int) then (steadinglaw09_CacheTurns.j2 kj28 l0 (wrap64 (Int.tmod a1 7)) (x9_1.take ((wrap64 ((x9_1.length : Int) - 1)) : Int).toNat) x10_1 t131 x123000_1) else (none)) else (none)) else (steadinglaw09_CacheTurns.j2 kj28 l0 (wrap64 (Int.tmod a1 7)) x9_1 x10_1 t131 x123000_1)) = some r := by rw [if_neg (show ¬ (false = true) by decide)] at H; exact H
                        clear H
                        have H := H1
                        clear H1
                        by_cases c40 : t130 = true
                        · subst c40
                          have H1 : (if 0 ≤ (wrap64 ((x9_1.length : Int) - 1)) then (if (wrap64 ((x9_1.length : Int) - 1)) ≤ (x9_1.length : Int) then (steadinglaw09_CacheTurns.j2 kj28 l0 (wrap64 (Int.tmod a1 7)) (x9_1.take ((wrap64 ((x9_1.length : Int) - 1)) : Int).toNat) x10_1 t131 x123000_1) else (none)) else (none)) = some r := by rw [if_pos rfl] at H; exact H
                          clear H
                          have H := H1
                          clear H1
                          obtain ⟨ji41, hji41⟩ : ∃ j_ : Int, (wrap64 ((x9_1.length : Int) - 1)) = j_ := ⟨_, rfl⟩
                          replace H : (if 0 ≤ (ji41) then (if (ji41) ≤ (x9_1.length : Int) then (steadinglaw09_CacheTurns.j2 kj28 l0 (wrap64 (Int.tmod a1 7)) (x9_1.take ((ji41) : Int).toNat) x10_1 t131 x123000_1) else (none)) else (none)) = some r := by first | (rw [hji41] at H; exact H) | (simp only [hji41] at H ⊢; exact H)
                          have hji41w : (IntKind.i64.wrap ((x9_1.length : Int) - 1)) = ji41 := (i64_w _).trans hji41
                          by_cases c42 : 0 ≤ (ji41)
                          · rw [if_pos c42] at H
                            have c42b0 := eq_true c42
                            have c42b1 : decide (0 ≤ (ji41)) = true := decide_eq_true c42
                            clear c42
                            by_cases c43 : (ji41) ≤ (x9_1.length : Int)
                            · rw [if_pos c43] at H
                              have c43b0 := eq_true c43
                              have c43b1 : decide ((ji41) ≤ (x9_1.length : Int)) = true := decide_eq_true c43
                              clear c43
                              obtain ⟨y133, hy133⟩ : ∃ y_ : List Int, y_ = (x9_1.take ((ji41) : Int).toNat) := ⟨_, rfl⟩
                              replace H : (steadinglaw09_CacheTurns.j2 kj28 l0 (wrap64 (Int.tmod a1 7)) y133 x10_1 t131 x123000_1) = some r := by first | (rw [hy133]; with_reducible exact H) | (have H2_ := (Option.bind_some _ _).symm.trans H; rw [hy133]; with_reducible exact H2_) | (have H2_ := (Option.bind_some _ _).symm.trans H; with_reducible exact H2_) | with_reducible exact H | (rw [hy133]; exact H) | exact H
                              have Ny133 := Aside0.mk hy133
                              clear hy133
                              have H' := Aside0.mk H
                              clear H
                              obtain ⟨Ao44, co44, eo44⟩ := Kd.R_slice HO_9.out
                              subst eo44
                              have q45 : ((ji41) : Int) ≤ ((x9_1.length : Int) : Int) := of_decide_eq_true (by first | (with_reducible assumption) | assumption)
                              obtain ⟨i045, hi045, _, hsz45, _⟩ := info_parts info3
                              have hcut45 := cut_to (P := Try.prog) 39 3 .i64 Try.underlying39 hi045 Ao44 x9_1.length co44 (ji41) (of_decide_eq_true (by first | (with_reducible assumption) | assumption)) q45 (Kd.R_reads' HO_9.out).2.1
                              have hr45 := Kd.R_take (m := ((ji41) : Int).toNat) HO_9.out (by omega)
                              have hy45 : y133.length = ((ji41) : Int).toNat := (by rw [Ny133.out, List.length_take]; omega)
                              rw [← Ny133.out] at hr45
                              rw [← hy45] at hr45 hcut45
                              clear hy45 hi045 hsz45 HO_9
                              have HO135 := Aside0.mk hr45
                              clear hr45
                              replace q45 := eq_true q45
                              go_wp2
                              repeat (go_quiet (fail); try go_wp2)
                              go_meet
                              case rel => exact ⟨_, (y133), (t131), H', ⟨by have := HK1.out; have := HJ28.out; first | omega | exact Nat.le_refl _⟩, ⟨by (with_reducible repeat (first | apply Kd.R_alloc | apply Kd.R_drewN | apply Kd.R_drew)); exact HO135.out⟩, ⟨by repeat (first | (with_reducible first | exact HI120.out | apply IsS47.alloc | apply IsS47.drewN | apply IsS47.drew | apply IsS47.set_0) | exact HI120.out)⟩, ⟨by repeat (first | (with_reducible first | exact HI122.out | apply IsS47.alloc | apply IsS47.drewN | apply IsS47.drew | apply IsS47.set_0) | exact HI122.out)⟩, ⟨by repeat (first | (with_reducible first | exact HB.out | apply below_alloc | apply pw_below_drewN | apply below_drew1 | refine below_set ?_ (IsS47.ge HI120.out) | refine below_set ?_ (IsS47.ge HI122.out)) | exact HB.out)⟩⟩
                            · rw [if_neg c43] at H
                              exact absurd H (by simp)
                          · rw [if_neg c42] at H
                            exact absurd H (by simp)
                        · replace c40 := Bool.eq_false_iff.mpr c40
                          subst c40
                          have H1 : (steadinglaw09_CacheTurns.j2 kj28 l0 (wrap64 (Int.tmod a1 7)) x9_1 x10_1 t131 x123000_1) = some r := by rw [if_neg (show ¬ (false = true) by decide)] at H; exact H
                          clear H
                          have H := H1
                          clear H1
                          have H' := Aside0.mk H
                          clear H
                          go_wp2
                          repeat (go_quiet (fail); try go_wp2)
                          go_meet
                          case rel => exact ⟨_, (x9_1), (t131), H', ⟨by have := HK1.out; have := HJ28.out; first | omega | exact Nat.le_refl _⟩, ⟨by (with_reducible repeat (first | apply Kd.R_alloc | apply Kd.R_drewN | apply Kd.R_drew)); exact HO_9.out⟩, ⟨by repeat (first | (with_reducible first | exact HI120.out | apply IsS47.alloc | apply IsS47.drewN | apply IsS47.drew | apply IsS47.set_0) | exact HI120.out)⟩, ⟨by repeat (first | (with_reducible first | exact HI122.out | apply IsS47.alloc | apply IsS47.drewN | apply IsS47.drew | apply IsS47.set_0) | exact HI122.out)⟩, ⟨by repeat (first | (with_reducible first | exact HB.out | apply below_alloc | apply pw_below_drewN | apply below_drew1 | refine below_set ?_ (IsS47.ge HI120.out) | refine below_set ?_ (IsS47.ge HI122.out)) | exact HB.out)⟩⟩
              case rest =>
                clear HC14
                try clear c1
                try clear p1
                try clear q1
                try clear hx1
                try clear c2
                try clear p2
                try clear c3
                try clear c4
                try clear q4
                try clear c5
                try clear c5b0
                try clear c5b1
                try clear p6
                try clear c12
                try clear c12b0
                try clear p12
                try clear q12
                try clear hx12
                try clear c13
                try clear c13b0
                try clear p13
                try clear q13
                try clear hx13
                try clear q15
                try clear c16
                try clear c18
                try clear c18b0
                try clear c18b1
                try clear c18b2
                try clear c21
                try clear c22
                try clear c31
                try clear c31b0
                try clear c31b1
                try clear c31b2
                try clear c33
                try clear c35
                try clear c35b0
                try clear c36
                try clear c36b0
                try clear c39
                try clear c40
                try clear c42
                try clear c42b0
                try clear c42b1
                try clear c43
                try clear c43b0
                try clear c43b1
                try clear q45
                try clear hx123_0
                try clear hx132_0
                try clear p1
                try clear p12
                try clear p123
                try clear p13
                try clear p132
                try clear p2
                try clear p6
                try clear q1
                try clear q12
                try clear q123
                try clear q13
                try clear q132
                try clear q15
                try clear q45
                obtain ⟨kq, x9_13, x121000_13, HA, HJ13, HO_9, HI120, HI122, HB⟩ := hcut
                cases kq with
                | zero => exact absurd HA.out (by simp [steadinglaw09_CacheTurns.j2])
                | succ kj13 =>
                  have H := HA.out
                  clear HA
                  simp only [steadinglaw09_CacheTurns.j2] at H
                  replace H := Option.bind_eq_some_iff.mp H
                  obtain ⟨⟨t136, t137⟩, A460, H⟩ := H
                  replace H : (if t136 = (x9_13.length : Int) then ((cache_Cache_Pages.f t137).bind fun bt138 => ((classes_Pages.f (wrap64 (Int.tmod a1 7))).bind fun t140 => (if bt138.1 = (wrap64 ((x9_13.length : Int) * t140)) then ((cache_Cache_Pages.f x123000_1).bind fun bt141 => (if bt141.1 = 0 then (steadinglaw09_CacheTurns.l0 kj13 l0 (wrap64 (Int.tmod a1 7)) x9_13 (wrap64 (x10_1 + 1)) bt138.2 bt141.2) else (some false))) else (some false)))) else (some false)) = some r := H
                  have A46 := Aside0.mk A460
                  clear A460
                  by_cases c47 : t136 = (x9_13.length : Int)
                  · rw [if_pos c47] at H
                    have c47b0 : (t136 == (x9_13.length : Int)) = true := beq_iff_eq.mpr c47
                    have c47b1 : (t136 != (x9_13.length : Int)) = false := bne_eq_false_iff_eq.mpr c47
                    clear c47
                    replace H := Option.bind_eq_some_iff.mp H
                    obtain ⟨⟨t138, t139⟩, A480, H⟩ := H
                    replace H : ((classes_Pages.f (wrap64 (Int.tmod a1 7))).bind fun t140 => (if t138 = (wrap64 ((x9_13.length : Int) * t140)) then ((cache_Cache_Pages.f x123000_1).bind fun bt141 => (if bt141.1 = 0 then (steadinglaw09_CacheTurns.l0 kj13 l0 (wrap64 (Int.tmod a1 7)) x9_13 (wrap64 (x10_1 + 1)) t139 bt141.2) else (some false))) else (some false))) = some r := H
                    have A48 := Aside0.mk A480
                    clear A480
                    replace H := Option.bind_eq_some_iff.mp H
                    obtain ⟨t140, A490, H⟩ := H
                    replace H : (if t138 = (wrap64 ((x9_13.length : Int) * t140)) then ((cache_Cache_Pages.f x123000_1).bind fun bt141 => (if bt141.1 = 0 then (steadinglaw09_CacheTurns.l0 kj13 l0 (wrap64 (Int.tmod a1 7)) x9_13 (wrap64 (x10_1 + 1)) t139 bt141.2) else (some false))) else (some false)) = some r := H
                    have A49 := Aside0.mk A490
                    clear A490
                    by_cases c50 : t138 = (wrap64 ((x9_13.length : Int) * t140))
                    · rw [if_pos c50] at H
                      have c50b0 : (t138 == (wrap64 ((x9_13.length : Int) * t140))) = true := beq_iff_eq.mpr c50
                      have c50b1 : (t138 != (wrap64 ((x9_13.length : Int) * t140))) = false := bne_eq_false_iff_eq.mpr c50
                      clear c50
                      replace H := Option.bind_eq_some_iff.mp H
                      obtain ⟨⟨t141, t142⟩, A510, H⟩ := H
                      replace H : (if t141 = 0 then (steadinglaw09_CacheTurns.l0 kj13 l0 (wrap64 (Int.tmod a1 7)) x9_13 (wrap64 (x10_1 + 1)) t139 t142) else (some false)) = some r := H
                      have A51 := Aside0.mk A510
                      clear A510
                      by_cases c52 : t141 = 0
                      · rw [if_pos c52] at H
                        have c52b0 : (t141 == 0) = true := beq_iff_eq.mpr c52
                        have c52b1 : (t141 != 0) = false := bne_eq_false_iff_eq.mpr c52
                        clear c52
                        have H' := Aside0.mk H
                        clear H
                        go_wp2_with (first | (go_at_call 19; (with_reducible refine (cache_Cache_Len.calls g120 x121000_13 (wrap64 (Int.tmod a1 7)) t136 t137 w _ ?side1 ?side2 A46.out).mono ?_); (case side1 => repeat (first | (with_reducible first | exact HI120.out | apply IsS47.alloc | apply IsS47.drewN | apply IsS47.drew | apply IsS47.set_0) | exact HI120.out)); (case side2 => repeat (first | (with_reducible first | exact HB.out | apply below_alloc | apply pw_below_drewN | apply below_drew1 | refine below_set ?_ (IsS47.ge HI120.out) | refine below_set ?_ (IsS47.ge HI122.out)) | exact HB.out)); rintro e w53 ⟨rfl, hi, hb, hk⟩; have n0_ := Aside0.mk (Kd.R_mono (Kd.R_keep (IsS47.apart (show IsS47 w _ g120 x121000_13 from by repeat (first | (with_reducible first | exact HI120.out | apply IsS47.alloc | apply IsS47.drewN | apply IsS47.drew | apply IsS47.set_0) | exact HI120.out)) (by (with_reducible repeat (first | apply Kd.R_alloc | apply Kd.R_drewN | apply Kd.R_drew)); exact HO_9.out) (by decide)) hk (fun _ h => h.2)) (fun _ h => h.1)); have n1_ := Aside0.mk (IsS47.keep (by repeat (first | (with_reducible first | exact HI122.out | apply IsS47.alloc | apply IsS47.drewN | apply IsS47.drew | apply IsS47.set_0) | exact HI122.out)) hk NB122_120.out); have n2_ := Aside0.mk (hb); have n3_ := Aside0.mk (hi); clear HO_9; clear HI122; clear HB; clear HI120; have HO_9 := n0_; have HI122 := n1_; have HB := n2_; have HI120 := n3_; clear n0_ n1_ n2_ n3_; (try clear hb); (try clear hb2); (try clear hk); (try clear hi); (try clear hge); obtain ⟨Ao54, co54, eo54⟩ := Kd.R_slice HO_9.out; subst eo54) | (go_at_call 21; (with_reducible refine (cache_Cache_Pages.calls g120 t137 t138 t139 w _ ?side1 ?side2 A48.out).mono ?_); (case side1 => repeat (first | (with_reducible first | exact HI120.out | apply IsS47.alloc | apply IsS47.drewN | apply IsS47.drew | apply IsS47.set_0) | exact HI120.out)); (case side2 => repeat (first | (with_reducible first | exact HB.out | apply below_alloc | apply pw_below_drewN | apply below_drew1 | refine below_set ?_ (IsS47.ge HI120.out) | refine below_set ?_ (IsS47.ge HI122.out)) | exact HB.out)); rintro e w55 ⟨rfl, hi, hb, hk⟩; have n0_ := Aside0.mk (Kd.R_mono (Kd.R_keep (IsS47.apart (show IsS47 w _ g120 t137 from by repeat (first | (with_reducible first | exact HI120.out | apply IsS47.alloc | apply IsS47.drewN | apply IsS47.drew | apply IsS47.set_0) | exact HI120.out)) (by (with_reducible repeat (first | apply Kd.R_alloc | apply Kd.R_drewN | apply Kd.R_drew)); exact HO_9.out) (by decide)) hk (fun _ h => h.2)) (fun _ h => h.1)); have n1_ := Aside0.mk (IsS47.keep (by repeat (first | (with_reducible first | exact HI122.out | apply IsS47.alloc | apply IsS47.drewN | apply IsS47.drew | apply IsS47.set_0) | exact HI122.out)) hk NB122_120.out); have n2_ := Aside0.mk (hb); have n3_ := Aside0.mk (hi); clear HO_9; clear HI122; clear HB; clear HI120; have HO_9 := n0_; have HI122 := n1_; have HB := n2_; have HI120 := n3_; clear n0_ n1_ n2_ n3_; (try clear hb); (try clear hb2); (try clear hk); (try clear hi); (try clear hge)) | (go_at_call 22; (with_reducible refine (classes_Pages.calls (wrap64 (Int.tmod a1 7)) t140 _ A49.out).mono ?_); rintro e w' ⟨rfl, ⟨nd, rfl⟩⟩; (try first | exact ⟨rfl, _, World.drewN_drewN _ _ _⟩ | exact ⟨rfl, _, Eq.trans (World.drewN_drewN _ _ _) (congrArg (World.drewN _) (Nat.add_assoc _ _ _))⟩)) | (go_at_call 21; (with_reducible refine (cache_Cache_Pages.calls g122 x123000_1 t141 t142 w _ ?side1 ?side2 A51.out).mono ?_); (case side1 => repeat (first | (with_reducible first | exact HI122.out | apply IsS47.alloc | apply IsS47.drewN | apply IsS47.drew | apply IsS47.set_0) | exact HI122.out)); (case side2 => repeat (first | (with_reducible first | exact HB.out | apply below_alloc | apply pw_below_drewN | apply below_drew1 | refine below_set ?_ (IsS47.ge HI120.out) | refine below_set ?_ (IsS47.ge HI122.out)) | exact HB.out)); rintro e w56 ⟨rfl, hi, hb, hk⟩; have n0_ := Aside0.mk (Kd.R_mono (Kd.R_keep (IsS47.apart (show IsS47 w _ g122 x123000_1 from by repeat (first | (with_reducible first | exact HI122.out | apply IsS47.alloc | apply IsS47.drewN | apply IsS47.drew | apply IsS47.set_0) | exact HI122.out)) (by (with_reducible repeat (first | apply Kd.R_alloc | apply Kd.R_drewN | apply Kd.R_drew)); exact HO_9.out) (by decide)) hk (fun _ h => h.2)) (fun _ h => h.1)); have n1_ := Aside0.mk (IsS47.keep (by repeat (first | (with_reducible first | exact HI120.out | apply IsS47.alloc | apply IsS47.drewN | apply IsS47.drew | apply IsS47.set_0) | exact HI120.out)) hk NB120_122.out); have n2_ := Aside0.mk (hb); have n3_ := Aside0.mk (hi); clear HO_9; clear HI120; clear HB; clear HI122; have HO_9 := n0_; have HI120 := n1_; have HB := n2_; have HI122 := n3_; clear n0_ n1_ n2_ n3_; (try clear hb); (try clear hb2); (try clear hk); (try clear hi); (try clear hge)))
                        repeat (go_quiet (first | (go_at_call 19; (with_reducible refine (cache_Cache_Len.calls g120 x121000_13 (wrap64 (Int.tmod a1 7)) t136 t137 w _ ?side1 ?side2 A46.out).mono ?_); (case side1 => repeat (first | (with_reducible first | exact HI120.out | apply IsS47.alloc | apply IsS47.drewN | apply IsS47.drew | apply IsS47.set_0) | exact HI120.out)); (case side2 => repeat (first | (with_reducible first | exact HB.out | apply below_alloc | apply pw_below_drewN | apply below_drew1 | refine below_set ?_ (IsS47.ge HI120.out) | refine below_set ?_ (IsS47.ge HI122.out)) | exact HB.out)); rintro e w53 ⟨rfl, hi, hb, hk⟩; have n0_ := Aside0.mk (Kd.R_mono (Kd.R_keep (IsS47.apart (show IsS47 w _ g120 x121000_13 from by repeat (first | (with_reducible first | exact HI120.out | apply IsS47.alloc | apply IsS47.drewN | apply IsS47.drew | apply IsS47.set_0) | exact HI120.out)) (by (with_reducible repeat (first | apply Kd.R_alloc | apply Kd.R_drewN | apply Kd.R_drew)); exact HO_9.out) (by decide)) hk (fun _ h => h.2)) (fun _ h => h.1)); have n1_ := Aside0.mk (IsS47.keep (by repeat (first | (with_reducible first | exact HI122.out | apply IsS47.alloc | apply IsS47.drewN | apply IsS47.drew | apply IsS47.set_0) | exact HI122.out)) hk NB122_120.out); have n2_ := Aside0.mk (hb); have n3_ := Aside0.mk (hi); clear HO_9; clear HI122; clear HB; clear HI120; have HO_9 := n0_; have HI122 := n1_; have HB := n2_; have HI120 := n3_; clear n0_ n1_ n2_ n3_; (try clear hb); (try clear hb2); (try clear hk); (try clear hi); (try clear hge); obtain ⟨Ao54, co54, eo54⟩ := Kd.R_slice HO_9.out; subst eo54) | (go_at_call 21; (with_reducible refine (cache_Cache_Pages.calls g120 t137 t138 t139 w _ ?side1 ?side2 A48.out).mono ?_); (case side1 => repeat (first | (with_reducible first | exact HI120.out | apply IsS47.alloc | apply IsS47.drewN | apply IsS47.drew | apply IsS47.set_0) | exact HI120.out)); (case side2 => repeat (first | (with_reducible first | exact HB.out | apply below_alloc | apply pw_below_drewN | apply below_drew1 | refine below_set ?_ (IsS47.ge HI120.out) | refine below_set ?_ (IsS47.ge HI122.out)) | exact HB.out)); rintro e w55 ⟨rfl, hi, hb, hk⟩; have n0_ := Aside0.mk (Kd.R_mono (Kd.R_keep (IsS47.apart (show IsS47 w _ g120 t137 from by repeat (first | (with_reducible first | exact HI120.out | apply IsS47.alloc | apply IsS47.drewN | apply IsS47.drew | apply IsS47.set_0) | exact HI120.out)) (by (with_reducible repeat (first | apply Kd.R_alloc | apply Kd.R_drewN | apply Kd.R_drew)); exact HO_9.out) (by decide)) hk (fun _ h => h.2)) (fun _ h => h.1)); have n1_ := Aside0.mk (IsS47.keep (by repeat (first | (with_reducible first | exact HI122.out | apply IsS47.alloc | apply IsS47.drewN | apply IsS47.drew | apply IsS47.set_0) | exact HI122.out)) hk NB122_120.out); have n2_ := Aside0.mk (hb); have n3_ := Aside0.mk (hi); clear HO_9; clear HI122; clear HB; clear HI120; have HO_9 := n0_; have HI122 := n1_; have HB := n2_; have HI120 := n3_; clear n0_ n1_ n2_ n3_; (try clear hb); (try clear hb2); (try clear hk); (try clear hi); (try clear hge)) | (go_at_call 22; (with_reducible refine (classes_Pages.calls (wrap64 (Int.tmod a1 7)) t140 _ A49.out).mono ?_); rintro e w' ⟨rfl, ⟨nd, rfl⟩⟩; (try first | exact ⟨rfl, _, World.drewN_drewN _ _ _⟩ | exact ⟨rfl, _, Eq.trans (World.drewN_drewN _ _ _) (congrArg (World.drewN _) (Nat.add_assoc _ _ _))⟩)) | (go_at_call 21; (with_reducible refine (cache_Cache_Pages.calls g122 x123000_1 t141 t142 w _ ?side1 ?side2 A51.out).mono ?_); (case side1 => repeat (first | (with_reducible first | exact HI122.out | apply IsS47.alloc | apply IsS47.drewN | apply IsS47.drew | apply IsS47.set_0) | exact HI122.out)); (case side2 => repeat (first | (with_reducible first | exact HB.out | apply below_alloc | apply pw_below_drewN | apply below_drew1 | refine below_set ?_ (IsS47.ge HI120.out) | refine below_set ?_ (IsS47.ge HI122.out)) | exact HB.out)); rintro e w56 ⟨rfl, hi, hb, hk⟩; have n0_ := Aside0.mk (Kd.R_mono (Kd.R_keep (IsS47.apart (show IsS47 w _ g122 x123000_1 from by repeat (first | (with_reducible first | exact HI122.out | apply IsS47.alloc | apply IsS47.drewN | apply IsS47.drew | apply IsS47.set_0) | exact HI122.out)) (by (with_reducible repeat (first | apply Kd.R_alloc | apply Kd.R_drewN | apply Kd.R_drew)); exact HO_9.out) (by decide)) hk (fun _ h => h.2)) (fun _ h => h.1)); have n1_ := Aside0.mk (IsS47.keep (by repeat (first | (with_reducible first | exact HI120.out | apply IsS47.alloc | apply IsS47.drewN | apply IsS47.drew | apply IsS47.set_0) | exact HI120.out)) hk NB120_122.out); have n2_ := Aside0.mk (hb); have n3_ := Aside0.mk (hi); clear HO_9; clear HI120; clear HB; clear HI122; have HO_9 := n0_; have HI120 := n1_; have HB := n2_; have HI122 := n3_; clear n0_ n1_ n2_ n3_; (try clear hb); (try clear hb2); (try clear hk); (try clear hi); (try clear hge))); try go_wp2_with (first | (go_at_call 19; (with_reducible refine (cache_Cache_Len.calls g120 x121000_13 (wrap64 (Int.tmod a1 7)) t136 t137 w _ ?side1 ?side2 A46.out).mono ?_); (case side1 => repeat (first | (with_reducible first | exact HI120.out | apply IsS47.alloc | apply IsS47.drewN | apply IsS47.drew | apply IsS47.set_0) | exact HI120.out)); (case side2 => repeat (first | (with_reducible first | exact HB.out | apply below_alloc | apply pw_below_drewN | apply below_drew1 | refine below_set ?_ (IsS47.ge HI120.out) | refine below_set ?_ (IsS47.ge HI122.out)) | exact HB.out)); rintro e w53 ⟨rfl, hi, hb, hk⟩; have n0_ := Aside0.mk (Kd.R_mono (Kd.R_keep (IsS47.apart (show IsS47 w _ g120 x121000_13 from by repeat (first | (with_reducible first | exact HI120.out | apply IsS47.alloc | apply IsS47.drewN | apply IsS47.drew | apply IsS47.set_0) | exact HI120.out)) (by (with_reducible repeat (first | apply Kd.R_alloc | apply Kd.R_drewN | apply Kd.R_drew)); exact HO_9.out) (by decide)) hk (fun _ h => h.2)) (fun _ h => h.1)); have n1_ := Aside0.mk (IsS47.keep (by repeat (first | (with_reducible first | exact HI122.out | apply IsS47.alloc | apply IsS47.drewN | apply IsS47.drew | apply IsS47.set_0) | exact HI122.out)) hk NB122_120.out); have n2_ := Aside0.mk (hb); have n3_ := Aside0.mk (hi); clear HO_9; clear HI122; clear HB; clear HI120; have HO_9 := n0_; have HI122 := n1_; have HB := n2_; have HI120 := n3_; clear n0_ n1_ n2_ n3_; (try clear hb); (try clear hb2); (try clear hk); (try clear hi); (try clear hge); obtain ⟨Ao54, co54, eo54⟩ := Kd.R_slice HO_9.out; subst eo54) | (go_at_call 21; (with_reducible refine (cache_Cache_Pages.calls g120 t137 t138 t139 w _ ?side1 ?side2 A48.out).mono ?_); (case side1 => repeat (first | (with_reducible first | exact HI120.out | apply IsS47.alloc | apply IsS47.drewN | apply IsS47.drew | apply IsS47.set_0) | exact HI120.out)); (case side2 => repeat (first | (with_reducible first | exact HB.out | apply below_alloc | apply pw_below_drewN | apply below_drew1 | refine below_set ?_ (IsS47.ge HI120.out) | refine below_set ?_ (IsS47.ge HI122.out)) | exact HB.out)); rintro e w55 ⟨rfl, hi, hb, hk⟩; have n0_ := Aside0.mk (Kd.R_mono (Kd.R_keep (IsS47.apart (show IsS47 w _ g120 t137 from by repeat (first | (with_reducible first | exact HI120.out | apply IsS47.alloc | apply IsS47.drewN | apply IsS47.drew | apply IsS47.set_0) | exact HI120.out)) (by (with_reducible repeat (first | apply Kd.R_alloc | apply Kd.R_drewN | apply Kd.R_drew)); exact HO_9.out) (by decide)) hk (fun _ h => h.2)) (fun _ h => h.1)); have n1_ := Aside0.mk (IsS47.keep (by repeat (first | (with_reducible first | exact HI122.out | apply IsS47.alloc | apply IsS47.drewN | apply IsS47.drew | apply IsS47.set_0) | exact HI122.out)) hk NB122_120.out); have n2_ := Aside0.mk (hb); have n3_ := Aside0.mk (hi); clear HO_9; clear HI122; clear HB; clear HI120; have HO_9 := n0_; have HI122 := n1_; have HB := n2_; have HI120 := n3_; clear n0_ n1_ n2_ n3_; (try clear hb); (try clear hb2); (try clear hk); (try clear hi); (try clear hge)) | (go_at_call 22; (with_reducible refine (classes_Pages.calls (wrap64 (Int.tmod a1 7)) t140 _ A49.out).mono ?_); rintro e w' ⟨rfl, ⟨nd, rfl⟩⟩; (try first | exact ⟨rfl, _, World.drewN_drewN _ _ _⟩ | exact ⟨rfl, _, Eq.trans (World.drewN_drewN _ _ _) (congrArg (World.drewN _) (Nat.add_assoc _ _ _))⟩)) | (go_at_call 21; (with_reducible refine (cache_Cache_Pages.calls g122 x123000_1 t141 t142 w _ ?side1 ?side2 A51.out).mono ?_); (case side1 => repeat (first | (with_reducible first | exact HI122.out | apply IsS47.alloc | apply IsS47.drewN | apply IsS47.drew | apply IsS47.set_0) | exact HI122.out)); (case side2 => repeat (first | (with_reducible first | exact HB.out | apply below_alloc | apply pw_below_drewN | apply below_drew1 | refine below_set ?_ (IsS47.ge HI120.out) | refine below_set ?_ (IsS47.ge HI122.out)) | exact HB.out)); rintro e w56 ⟨rfl, hi, hb, hk⟩; have n0_ := Aside0.mk (Kd.R_mono (Kd.R_keep (IsS47.apart (show IsS47 w _ g122 x123000_1 from by repeat (first | (with_reducible first | exact HI122.out | apply IsS47.alloc | apply IsS47.drewN | apply IsS47.drew | apply IsS47.set_0) | exact HI122.out)) (by (with_reducible repeat (first | apply Kd.R_alloc | apply Kd.R_drewN | apply Kd.R_drew)); exact HO_9.out) (by decide)) hk (fun _ h => h.2)) (fun _ h => h.1)); have n1_ := Aside0.mk (IsS47.keep (by repeat (first | (with_reducible first | exact HI120.out | apply IsS47.alloc | apply IsS47.drewN | apply IsS47.drew | apply IsS47.set_0) | exact HI120.out)) hk NB120_122.out); have n2_ := Aside0.mk (hb); have n3_ := Aside0.mk (hi); clear HO_9; clear HI120; clear HB; clear HI122; have HO_9 := n0_; have HI120 := n1_; have HB := n2_; have HI122 := n3_; clear n0_ n1_ n2_ n3_; (try clear hb); (try clear hb2); (try clear hk); (try clear hi); (try clear hge))))
                        go_roundg kj13
                        case measure => have := HK1.out; have := HJ13.out; omega
                        case rel => exact ⟨(x9_13), (wrap64 (x10_1 + 1)), (t139), (t142), (by first | rfl | (simp; done) | (simp [*]; done)), H', ⟨by have := HK1.out; have := HJ13.out; omega⟩, ⟨by (with_reducible repeat (first | apply Kd.R_alloc | apply Kd.R_drewN | apply Kd.R_drew)); exact HO_9.out⟩, ⟨by repeat (first | (with_reducible first | exact HI120.out | apply IsS47.alloc | apply IsS47.drewN | apply IsS47.drew | apply IsS47.set_0) | exact HI120.out)⟩, ⟨by repeat (first | (with_reducible first | exact HI122.out | apply IsS47.alloc | apply IsS47.drewN | apply IsS47.drew | apply IsS47.set_0) | exact HI122.out)⟩, ⟨by repeat (first | (with_reducible first | exact HB.out | apply below_alloc | apply pw_below_drewN | apply below_drew1 | refine below_set ?_ (IsS47.ge HI120.out) | refine below_set ?_ (IsS47.ge HI122.out)) | exact HB.out)⟩⟩
                      · rw [if_neg c52] at H
                        have c52b0 : (t141 == 0) = false := beq_eq_false_iff_ne.mpr c52
                        have c52b1 : (t141 != 0) = true := bne_iff_ne.mpr c52
                        obtain rfl := Option.some.inj H
                        go_wp2_with (first | (go_at_call 19; (with_reducible refine (cache_Cache_Len.calls g120 x121000_13 (wrap64 (Int.tmod a1 7)) t136 t137 w _ ?side1 ?side2 A46.out).mono ?_); (case side1 => repeat (first | (with_reducible first | exact HI120.out | apply IsS47.alloc | apply IsS47.drewN | apply IsS47.drew | apply IsS47.set_0) | exact HI120.out)); (case side2 => repeat (first | (with_reducible first | exact HB.out | apply below_alloc | apply pw_below_drewN | apply below_drew1 | refine below_set ?_ (IsS47.ge HI120.out) | refine below_set ?_ (IsS47.ge HI122.out)) | exact HB.out)); rintro e w57 ⟨rfl, hi, hb, hk⟩; have n0_ := Aside0.mk (Kd.R_mono (Kd.R_keep (IsS47.apart (show IsS47 w _ g120 x121000_13 from by repeat (first | (with_reducible first | exact HI120.out | apply IsS47.alloc | apply IsS47.drewN | apply IsS47.drew | apply IsS47.set_0) | exact HI120.out)) (by (with_reducible repeat (first | apply Kd.R_alloc | apply Kd.R_drewN | apply Kd.R_drew)); exact HO_9.out) (by decide)) hk (fun _ h => h.2)) (fun _ h => h.1)); have n1_ := Aside0.mk (IsS47.keep (by repeat (first | (with_reducible first | exact HI122.out | apply IsS47.alloc | apply IsS47.drewN | apply IsS47.drew | apply IsS47.set_0) | exact HI122.out)) hk NB122_120.out); have n2_ := Aside0.mk (hb); have n3_ := Aside0.mk (hi); clear HO_9; clear HI122; clear HB; clear HI120; have HO_9 := n0_; have HI122 := n1_; have HB := n2_; have HI120 := n3_; clear n0_ n1_ n2_ n3_; (try clear hb); (try clear hb2); (try clear hk); (try clear hi); (try clear hge); obtain ⟨Ao58, co58, eo58⟩ := Kd.R_slice HO_9.out; subst eo58) | (go_at_call 21; (with_reducible refine (cache_Cache_Pages.calls g120 t137 t138 t139 w _ ?side1 ?side2 A48.out).mono ?_); (case side1 => repeat (first | (with_reducible first | exact HI120.out | apply IsS47.alloc | apply IsS47.drewN | apply IsS47.drew | apply IsS47.set_0) | exact HI120.out)); (case side2 => repeat (first | (with_reducible first | exact HB.out | apply below_alloc | apply pw_below_drewN | apply below_drew1 | refine below_set ?_ (IsS47.ge HI120.out) | refine below_set ?_ (IsS47.ge HI122.out)) | exact HB.out)); rintro e w59 ⟨rfl, hi, hb, hk⟩; have n0_ := Aside0.mk (Kd.R_mono (Kd.R_keep (IsS47.apart (show IsS47 w _ g120 t137 from by repeat (first | (with_reducible first | exact HI120.out | apply IsS47.alloc | apply IsS47.drewN | apply IsS47.drew | apply IsS47.set_0) | exact HI120.out)) (by (with_reducible repeat (first | apply Kd.R_alloc | apply Kd.R_drewN | apply Kd.R_drew)); exact HO_9.out) (by decide)) hk (fun _ h => h.2)) (fun _ h => h.1)); have n1_ := Aside0.mk (IsS47.keep (by repeat (first | (with_reducible first | exact HI122.out | apply IsS47.alloc | apply IsS47.drewN | apply IsS47.drew | apply IsS47.set_0) | exact HI122.out)) hk NB122_120.out); have n2_ := Aside0.mk (hb); have n3_ := Aside0.mk (hi); clear HO_9; clear HI122; clear HB; clear HI120; have HO_9 := n0_; have HI122 := n1_; have HB := n2_; have HI120 := n3_; clear n0_ n1_ n2_ n3_; (try clear hb); (try clear hb2); (try clear hk); (try clear hi); (try clear hge)) | (go_at_call 22; (with_reducible refine (classes_Pages.calls (wrap64 (Int.tmod a1 7)) t140 _ A49.out).mono ?_); rintro e w' ⟨rfl, ⟨nd, rfl⟩⟩; (try first | exact ⟨rfl, _, World.drewN_drewN _ _ _⟩ | exact ⟨rfl, _, Eq.trans (World.drewN_drewN _ _ _) (congrArg (World.drewN _) (Nat.add_assoc _ _ _))⟩)) | (go_at_call 21; (with_reducible refine (cache_Cache_Pages.calls g122 x123000_1 t141 t142 w _ ?side1 ?side2 A51.out).mono ?_); (case side1 => repeat (first | (with_reducible first | exact HI122.out | apply IsS47.alloc | apply IsS47.drewN | apply IsS47.drew | apply IsS47.set_0) | exact HI122.out)); (case side2 => repeat (first | (with_reducible first | exact HB.out | apply below_alloc | apply pw_below_drewN | apply below_drew1 | refine below_set ?_ (IsS47.ge HI120.out) | refine below_set ?_ (IsS47.ge HI122.out)) | exact HB.out)); rintro e w60 ⟨rfl, hi, hb, hk⟩; have n0_ := Aside0.mk (Kd.R_mono (Kd.R_keep (IsS47.apart (show IsS47 w _ g122 x123000_1 from by repeat (first | (with_reducible first | exact HI122.out | apply IsS47.alloc | apply IsS47.drewN | apply IsS47.drew | apply IsS47.set_0) | exact HI122.out)) (by (with_reducible repeat (first | apply Kd.R_alloc | apply Kd.R_drewN | apply Kd.R_drew)); exact HO_9.out) (by decide)) hk (fun _ h => h.2)) (fun _ h => h.1)); have n1_ := Aside0.mk (IsS47.keep (by repeat (first | (with_reducible first | exact HI120.out | apply IsS47.alloc | apply IsS47.drewN | apply IsS47.drew | apply IsS47.set_0) | exact HI120.out)) hk NB120_122.out); have n2_ := Aside0.mk (hb); have n3_ := Aside0.mk (hi); clear HO_9; clear HI120; clear HB; clear HI122; have HO_9 := n0_; have HI120 := n1_; have HB := n2_; have HI122 := n3_; clear n0_ n1_ n2_ n3_; (try clear hb); (try clear hb2); (try clear hk); (try clear hi); (try clear hge)))
                        repeat (go_quiet (first | (go_at_call 19; (with_reducible refine (cache_Cache_Len.calls g120 x121000_13 (wrap64 (Int.tmod a1 7)) t136 t137 w _ ?side1 ?side2 A46.out).mono ?_); (case side1 => repeat (first | (with_reducible first | exact HI120.out | apply IsS47.alloc | apply IsS47.drewN | apply IsS47.drew | apply IsS47.set_0) | exact HI120.out)); (case side2 => repeat (first | (with_reducible first | exact HB.out | apply below_alloc | apply pw_below_drewN | apply below_drew1 | refine below_set ?_ (IsS47.ge HI120.out) | refine below_set ?_ (IsS47.ge HI122.out)) | exact HB.out)); rintro e w57 ⟨rfl, hi, hb, hk⟩; have n0_ := Aside0.mk (Kd.R_mono (Kd.R_keep (IsS47.apart (show IsS47 w _ g120 x121000_13 from by repeat (first | (with_reducible first | exact HI120.out | apply IsS47.alloc | apply IsS47.drewN | apply IsS47.drew | apply IsS47.set_0) | exact HI120.out)) (by (with_reducible repeat (first | apply Kd.R_alloc | apply Kd.R_drewN | apply Kd.R_drew)); exact HO_9.out) (by decide)) hk (fun _ h => h.2)) (fun _ h => h.1)); have n1_ := Aside0.mk (IsS47.keep (by repeat (first | (with_reducible first | exact HI122.out | apply IsS47.alloc | apply IsS47.drewN | apply IsS47.drew | apply IsS47.set_0) | exact HI122.out)) hk NB122_120.out); have n2_ := Aside0.mk (hb); have n3_ := Aside0.mk (hi); clear HO_9; clear HI122; clear HB; clear HI120; have HO_9 := n0_; have HI122 := n1_; have HB := n2_; have HI120 := n3_; clear n0_ n1_ n2_ n3_; (try clear hb); (try clear hb2); (try clear hk); (try clear hi); (try clear hge); obtain ⟨Ao58, co58, eo58⟩ := Kd.R_slice HO_9.out; subst eo58) | (go_at_call 21; (with_reducible refine (cache_Cache_Pages.calls g120 t137 t138 t139 w _ ?side1 ?side2 A48.out).mono ?_); (case side1 => repeat (first | (with_reducible first | exact HI120.out | apply IsS47.alloc | apply IsS47.drewN | apply IsS47.drew | apply IsS47.set_0) | exact HI120.out)); (case side2 => repeat (first | (with_reducible first | exact HB.out | apply below_alloc | apply pw_below_drewN | apply below_drew1 | refine below_set ?_ (IsS47.ge HI120.out) | refine below_set ?_ (IsS47.ge HI122.out)) | exact HB.out)); rintro e w59 ⟨rfl, hi, hb, hk⟩; have n0_ := Aside0.mk (Kd.R_mono (Kd.R_keep (IsS47.apart (show IsS47 w _ g120 t137 from by repeat (first | (with_reducible first | exact HI120.out | apply IsS47.alloc | apply IsS47.drewN | apply IsS47.drew | apply IsS47.set_0) | exact HI120.out)) (by (with_reducible repeat (first | apply Kd.R_alloc | apply Kd.R_drewN | apply Kd.R_drew)); exact HO_9.out) (by decide)) hk (fun _ h => h.2)) (fun _ h => h.1)); have n1_ := Aside0.mk (IsS47.keep (by repeat (first | (with_reducible first | exact HI122.out | apply IsS47.alloc | apply IsS47.drewN | apply IsS47.drew | apply IsS47.set_0) | exact HI122.out)) hk NB122_120.out); have n2_ := Aside0.mk (hb); have n3_ := Aside0.mk (hi); clear HO_9; clear HI122; clear HB; clear HI120; have HO_9 := n0_; have HI122 := n1_; have HB := n2_; have HI120 := n3_; clear n0_ n1_ n2_ n3_; (try clear hb); (try clear hb2); (try clear hk); (try clear hi); (try clear hge)) | (go_at_call 22; (with_reducible refine (classes_Pages.calls (wrap64 (Int.tmod a1 7)) t140 _ A49.out).mono ?_); rintro e w' ⟨rfl, ⟨nd, rfl⟩⟩; (try first | exact ⟨rfl, _, World.drewN_drewN _ _ _⟩ | exact ⟨rfl, _, Eq.trans (World.drewN_drewN _ _ _) (congrArg (World.drewN _) (Nat.add_assoc _ _ _))⟩)) | (go_at_call 21; (with_reducible refine (cache_Cache_Pages.calls g122 x123000_1 t141 t142 w _ ?side1 ?side2 A51.out).mono ?_); (case side1 => repeat (first | (with_reducible first | exact HI122.out | apply IsS47.alloc | apply IsS47.drewN | apply IsS47.drew | apply IsS47.set_0) | exact HI122.out)); (case side2 => repeat (first | (with_reducible first | exact HB.out | apply below_alloc | apply pw_below_drewN | apply below_drew1 | refine below_set ?_ (IsS47.ge HI120.out) | refine below_set ?_ (IsS47.ge HI122.out)) | exact HB.out)); rintro e w60 ⟨rfl, hi, hb, hk⟩; have n0_ := Aside0.mk (Kd.R_mono (Kd.R_keep (IsS47.apart (show IsS47 w _ g122 x123000_1 from by repeat (first | (with_reducible first | exact HI122.out | apply IsS47.alloc | apply IsS47.drewN | apply IsS47.drew | apply IsS47.set_0) | exact HI122.out)) (by (with_reducible repeat (first | apply Kd.R_alloc | apply Kd.R_drewN | apply Kd.R_drew)); exact HO_9.out) (by decide)) hk (fun _ h => h.2)) (fun _ h => h.1)); have n1_ := Aside0.mk (IsS47.keep (by repeat (first | (with_reducible first | exact HI120.out | apply IsS47.alloc | apply IsS47.drewN | apply IsS47.drew | apply IsS47.set_0) | exact HI120.out)) hk NB120_122.out); have n2_ := Aside0.mk (hb); have n3_ := Aside0.mk (hi); clear HO_9; clear HI120; clear HB; clear HI122; have HO_9 := n0_; have HI120 := n1_; have HB := n2_; have HI122 := n3_; clear n0_ n1_ n2_ n3_; (try clear hb); (try clear hb2); (try clear hk); (try clear hi); (try clear hge))); try go_wp2_with (first | (go_at_call 19; (with_reducible refine (cache_Cache_Len.calls g120 x121000_13 (wrap64 (Int.tmod a1 7)) t136 t137 w _ ?side1 ?side2 A46.out).mono ?_); (case side1 => repeat (first | (with_reducible first | exact HI120.out | apply IsS47.alloc | apply IsS47.drewN | apply IsS47.drew | apply IsS47.set_0) | exact HI120.out)); (case side2 => repeat (first | (with_reducible first | exact HB.out | apply below_alloc | apply pw_below_drewN | apply below_drew1 | refine below_set ?_ (IsS47.ge HI120.out) | refine below_set ?_ (IsS47.ge HI122.out)) | exact HB.out)); rintro e w57 ⟨rfl, hi, hb, hk⟩; have n0_ := Aside0.mk (Kd.R_mono (Kd.R_keep (IsS47.apart (show IsS47 w _ g120 x121000_13 from by repeat (first | (with_reducible first | exact HI120.out | apply IsS47.alloc | apply IsS47.drewN | apply IsS47.drew | apply IsS47.set_0) | exact HI120.out)) (by (with_reducible repeat (first | apply Kd.R_alloc | apply Kd.R_drewN | apply Kd.R_drew)); exact HO_9.out) (by decide)) hk (fun _ h => h.2)) (fun _ h => h.1)); have n1_ := Aside0.mk (IsS47.keep (by repeat (first | (with_reducible first | exact HI122.out | apply IsS47.alloc | apply IsS47.drewN | apply IsS47.drew | apply IsS47.set_0) | exact HI122.out)) hk NB122_120.out); have n2_ := Aside0.mk (hb); have n3_ := Aside0.mk (hi); clear HO_9; clear HI122; clear HB; clear HI120; have HO_9 := n0_; have HI122 := n1_; have HB := n2_; have HI120 := n3_; clear n0_ n1_ n2_ n3_; (try clear hb); (try clear hb2); (try clear hk); (try clear hi); (try clear hge); obtain ⟨Ao58, co58, eo58⟩ := Kd.R_slice HO_9.out; subst eo58) | (go_at_call 21; (with_reducible refine (cache_Cache_Pages.calls g120 t137 t138 t139 w _ ?side1 ?side2 A48.out).mono ?_); (case side1 => repeat (first | (with_reducible first | exact HI120.out | apply IsS47.alloc | apply IsS47.drewN | apply IsS47.drew | apply IsS47.set_0) | exact HI120.out)); (case side2 => repeat (first | (with_reducible first | exact HB.out | apply below_alloc | apply pw_below_drewN | apply below_drew1 | refine below_set ?_ (IsS47.ge HI120.out) | refine below_set ?_ (IsS47.ge HI122.out)) | exact HB.out)); rintro e w59 ⟨rfl, hi, hb, hk⟩; have n0_ := Aside0.mk (Kd.R_mono (Kd.R_keep (IsS47.apart (show IsS47 w _ g120 t137 from by repeat (first | (with_reducible first | exact HI120.out | apply IsS47.alloc | apply IsS47.drewN | apply IsS47.drew | apply IsS47.set_0) | exact HI120.out)) (by (with_reducible repeat (first | apply Kd.R_alloc | apply Kd.R_drewN | apply Kd.R_drew)); exact HO_9.out) (by decide)) hk (fun _ h => h.2)) (fun _ h => h.1)); have n1_ := Aside0.mk (IsS47.keep (by repeat (first | (with_reducible first | exact HI122.out | apply IsS47.alloc | apply IsS47.drewN | apply IsS47.drew | apply IsS47.set_0) | exact HI122.out)) hk NB122_120.out); have n2_ := Aside0.mk (hb); have n3_ := Aside0.mk (hi); clear HO_9; clear HI122; clear HB; clear HI120; have HO_9 := n0_; have HI122 := n1_; have HB := n2_; have HI120 := n3_; clear n0_ n1_ n2_ n3_; (try clear hb); (try clear hb2); (try clear hk); (try clear hi); (try clear hge)) | (go_at_call 22; (with_reducible refine (classes_Pages.calls (wrap64 (Int.tmod a1 7)) t140 _ A49.out).mono ?_); rintro e w' ⟨rfl, ⟨nd, rfl⟩⟩; (try first | exact ⟨rfl, _, World.drewN_drewN _ _ _⟩ | exact ⟨rfl, _, Eq.trans (World.drewN_drewN _ _ _) (congrArg (World.drewN _) (Nat.add_assoc _ _ _))⟩)) | (go_at_call 21; (with_reducible refine (cache_Cache_Pages.calls g122 x123000_1 t141 t142 w _ ?side1 ?side2 A51.out).mono ?_); (case side1 => repeat (first | (with_reducible first | exact HI122.out | apply IsS47.alloc | apply IsS47.drewN | apply IsS47.drew | apply IsS47.set_0) | exact HI122.out)); (case side2 => repeat (first | (with_reducible first | exact HB.out | apply below_alloc | apply pw_below_drewN | apply below_drew1 | refine below_set ?_ (IsS47.ge HI120.out) | refine below_set ?_ (IsS47.ge HI122.out)) | exact HB.out)); rintro e w60 ⟨rfl, hi, hb, hk⟩; have n0_ := Aside0.mk (Kd.R_mono (Kd.R_keep (IsS47.apart (show IsS47 w _ g122 x123000_1 from by repeat (first | (with_reducible first | exact HI122.out | apply IsS47.alloc | apply IsS47.drewN | apply IsS47.drew | apply IsS47.set_0) | exact HI122.out)) (by (with_reducible repeat (first | apply Kd.R_alloc | apply Kd.R_drewN | apply Kd.R_drew)); exact HO_9.out) (by decide)) hk (fun _ h => h.2)) (fun _ h => h.1)); have n1_ := Aside0.mk (IsS47.keep (by repeat (first | (with_reducible first | exact HI120.out | apply IsS47.alloc | apply IsS47.drewN | apply IsS47.drew | apply IsS47.set_0) | exact HI120.out)) hk NB120_122.out); have n2_ := Aside0.mk (hb); have n3_ := Aside0.mk (hi); clear HO_9; clear HI120; clear HB; clear HI122; have HO_9 := n0_; have HI120 := n1_; have HB := n2_; have HI122 := n3_; clear n0_ n1_ n2_ n3_; (try clear hb); (try clear hb2); (try clear hk); (try clear hi); (try clear hge))))
                        go_ret
                        exact ⟨by first | rfl | (simp [errW_none, errW_some] <;> rfl) | (simp [*, errW_none, errW_some] <;> rfl), by repeat (first | (with_reducible first | exact HB.out | apply below_alloc | apply pw_below_drewN | apply below_drew1 | refine below_set ?_ (IsS47.ge HI120.out) | refine below_set ?_ (IsS47.ge HI122.out)) | exact HB.out)⟩
                    · rw [if_neg c50] at H
                      have c50b0 : (t138 == (wrap64 ((x9_13.length : Int) * t140))) = false := beq_eq_false_iff_ne.mpr c50
                      have c50b1 : (t138 != (wrap64 ((x9_13.length : Int) * t140))) = true := bne_iff_ne.mpr c50
                      obtain rfl := Option.some.inj H
                      go_wp2_with (first | (go_at_call 19; (with_reducible refine (cache_Cache_Len.calls g120 x121000_13 (wrap64 (Int.tmod a1 7)) t136 t137 w _ ?side1 ?side2 A46.out).mono ?_); (case side1 => repeat (first | (with_reducible first | exact HI120.out | apply IsS47.alloc | apply IsS47.drewN | apply IsS47.drew | apply IsS47.set_0) | exact HI120.out)); (case side2 => repeat (first | (with_reducible first | exact HB.out | apply below_alloc | apply pw_below_drewN | apply below_drew1 | refine below_set ?_ (IsS47.ge HI120.out) | refine below_set ?_ (IsS47.ge HI122.out)) | exact HB.out)); rintro e w61 ⟨rfl, hi, hb, hk⟩; have n0_ := Aside0.mk (Kd.R_mono (Kd.R_keep (IsS47.apart (show IsS47 w _ g120 x121000_13 from by repeat (first | (with_reducible first | exact HI120.out | apply IsS47.alloc | apply IsS47.drewN | apply IsS47.drew | apply IsS47.set_0) | exact HI120.out)) (by (with_reducible repeat (first | apply Kd.R_alloc | apply Kd.R_drewN | apply Kd.R_drew)); exact HO_9.out) (by decide)) hk (fun _ h => h.2)) (fun _ h => h.1)); have n1_ := Aside0.mk (IsS47.keep (by repeat (first | (with_reducible first | exact HI122.out | apply IsS47.alloc | apply IsS47.drewN | apply IsS47.drew | apply IsS47.set_0) | exact HI122.out)) hk NB122_120.out); have n2_ := Aside0.mk (hb); have n3_ := Aside0.mk (hi); clear HO_9; clear HI122; clear HB; clear HI120; have HO_9 := n0_; have HI122 := n1_; have HB := n2_; have HI120 := n3_; clear n0_ n1_ n2_ n3_; (try clear hb); (try clear hb2); (try clear hk); (try clear hi); (try clear hge); obtain ⟨Ao62, co62, eo62⟩ := Kd.R_slice HO_9.out; subst eo62) | (go_at_call 21; (with_reducible refine (cache_Cache_Pages.calls g120 t137 t138 t139 w _ ?side1 ?side2 A48.out).mono ?_); (case side1 => repeat (first | (with_reducible first | exact HI120.out | apply IsS47.alloc | apply IsS47.drewN | apply IsS47.drew | apply IsS47.set_0) | exact HI120.out)); (case side2 => repeat (first | (with_reducible first | exact HB.out | apply below_alloc | apply pw_below_drewN | apply below_drew1 | refine below_set ?_ (IsS47.ge HI120.out) | refine below_set ?_ (IsS47.ge HI122.out)) | exact HB.out)); rintro e w63 ⟨rfl, hi, hb, hk⟩; have n0_ := Aside0.mk (Kd.R_mono (Kd.R_keep (IsS47.apart (show IsS47 w _ g120 t137 from by repeat (first | (with_reducible first | exact HI120.out | apply IsS47.alloc | apply IsS47.drewN | apply IsS47.drew | apply IsS47.set_0) | exact HI120.out)) (by (with_reducible repeat (first | apply Kd.R_alloc | apply Kd.R_drewN | apply Kd.R_drew)); exact HO_9.out) (by decide)) hk (fun _ h => h.2)) (fun _ h => h.1)); have n1_ := Aside0.mk (IsS47.keep (by repeat (first | (with_reducible first | exact HI122.out | apply IsS47.alloc | apply IsS47.drewN | apply IsS47.drew | apply IsS47.set_0) | exact HI122.out)) hk NB122_120.out); have n2_ := Aside0.mk (hb); have n3_ := Aside0.mk (hi); clear HO_9; clear HI122; clear HB; clear HI120; have HO_9 := n0_; have HI122 := n1_; have HB := n2_; have HI120 := n3_; clear n0_ n1_ n2_ n3_; (try clear hb); (try clear hb2); (try clear hk); (try clear hi); (try clear hge)) | (go_at_call 22; (with_reducible refine (classes_Pages.calls (wrap64 (Int.tmod a1 7)) t140 _ A49.out).mono ?_); rintro e w' ⟨rfl, ⟨nd, rfl⟩⟩; (try first | exact ⟨rfl, _, World.drewN_drewN _ _ _⟩ | exact ⟨rfl, _, Eq.trans (World.drewN_drewN _ _ _) (congrArg (World.drewN _) (Nat.add_assoc _ _ _))⟩)))
                      repeat (go_quiet (first | (go_at_call 19; (with_reducible refine (cache_Cache_Len.calls g120 x121000_13 (wrap64 (Int.tmod a1 7)) t136 t137 w _ ?side1 ?side2 A46.out).mono ?_); (case side1 => repeat (first | (with_reducible first | exact HI120.out | apply IsS47.alloc | apply IsS47.drewN | apply IsS47.drew | apply IsS47.set_0) | exact HI120.out)); (case side2 => repeat (first | (with_reducible first | exact HB.out | apply below_alloc | apply pw_below_drewN | apply below_drew1 | refine below_set ?_ (IsS47.ge HI120.out) | refine below_set ?_ (IsS47.ge HI122.out)) | exact HB.out)); rintro e w61 ⟨rfl, hi, hb, hk⟩; have n0_ := Aside0.mk (Kd.R_mono (Kd.R_keep (IsS47.apart (show IsS47 w _ g120 x121000_13 from by repeat (first | (with_reducible first | exact HI120.out | apply IsS47.alloc | apply IsS47.drewN | apply IsS47.drew | apply IsS47.set_0) | exact HI120.out)) (by (with_reducible repeat (first | apply Kd.R_alloc | apply Kd.R_drewN | apply Kd.R_drew)); exact HO_9.out) (by decide)) hk (fun _ h => h.2)) (fun _ h => h.1)); have n1_ := Aside0.mk (IsS47.keep (by repeat (first | (with_reducible first | exact HI122.out | apply IsS47.alloc | apply IsS47.drewN | apply IsS47.drew | apply IsS47.set_0) | exact HI122.out)) hk NB122_120.out); have n2_ := Aside0.mk (hb); have n3_ := Aside0.mk (hi); clear HO_9; clear HI122; clear HB; clear HI120; have HO_9 := n0_; have HI122 := n1_; have HB := n2_; have HI120 := n3_; clear n0_ n1_ n2_ n3_; (try clear hb); (try clear hb2); (try clear hk); (try clear hi); (try clear hge); obtain ⟨Ao62, co62, eo62⟩ := Kd.R_slice HO_9.out; subst eo62) | (go_at_call 21; (with_reducible refine (cache_Cache_Pages.calls g120 t137 t138 t139 w _ ?side1 ?side2 A48.out).mono ?_); (case side1 => repeat (first | (with_reducible first | exact HI120.out | apply IsS47.alloc | apply IsS47.drewN | apply IsS47.drew | apply IsS47.set_0) | exact HI120.out)); (case side2 => repeat (first | (with_reducible first | exact HB.out | apply below_alloc | apply pw_below_drewN | apply below_drew1 | refine below_set ?_ (IsS47.ge HI120.out) | refine below_set ?_ (IsS47.ge HI122.out)) | exact HB.out)); rintro e w63 ⟨rfl, hi, hb, hk⟩; have n0_ := Aside0.mk (Kd.R_mono (Kd.R_keep (IsS47.apart (show IsS47 w _ g120 t137 from by repeat (first | (with_reducible first | exact HI120.out | apply IsS47.alloc | apply IsS47.drewN | apply IsS47.drew | apply IsS47.set_0) | exact HI120.out)) (by (with_reducible repeat (first | apply Kd.R_alloc | apply Kd.R_drewN | apply Kd.R_drew)); exact HO_9.out) (by decide)) hk (fun _ h => h.2)) (fun _ h => h.1)); have n1_ := Aside0.mk (IsS47.keep (by repeat (first | (with_reducible first | exact HI122.out | apply IsS47.alloc | apply IsS47.drewN | apply IsS47.drew | apply IsS47.set_0) | exact HI122.out)) hk NB122_120.out); have n2_ := Aside0.mk (hb); have n3_ := Aside0.mk (hi); clear HO_9; clear HI122; clear HB; clear HI120; have HO_9 := n0_; have HI122 := n1_; have HB := n2_; have HI120 := n3_; clear n0_ n1_ n2_ n3_; (try clear hb); (try clear hb2); (try clear hk); (try clear hi); (try clear hge)) | (go_at_call 22; (with_reducible refine (classes_Pages.calls (wrap64 (Int.tmod a1 7)) t140 _ A49.out).mono ?_); rintro e w' ⟨rfl, ⟨nd, rfl⟩⟩; (try first | exact ⟨rfl, _, World.drewN_drewN _ _ _⟩ | exact ⟨rfl, _, Eq.trans (World.drewN_drewN _ _ _) (congrArg (World.drewN _) (Nat.add_assoc _ _ _))⟩))); try go_wp2_with (first | (go_at_call 19; (with_reducible refine (cache_Cache_Len.calls g120 x121000_13 (wrap64 (Int.tmod a1 7)) t136 t137 w _ ?side1 ?side2 A46.out).mono ?_); (case side1 => repeat (first | (with_reducible first | exact HI120.out | apply IsS47.alloc | apply IsS47.drewN | apply IsS47.drew | apply IsS47.set_0) | exact HI120.out)); (case side2 => repeat (first | (with_reducible first | exact HB.out | apply below_alloc | apply pw_below_drewN | apply below_drew1 | refine below_set ?_ (IsS47.ge HI120.out) | refine below_set ?_ (IsS47.ge HI122.out)) | exact HB.out)); rintro e w61 ⟨rfl, hi, hb, hk⟩; have n0_ := Aside0.mk (Kd.R_mono (Kd.R_keep (IsS47.apart (show IsS47 w _ g120 x121000_13 from by repeat (first | (with_reducible first | exact HI120.out | apply IsS47.alloc | apply IsS47.drewN | apply IsS47.drew | apply IsS47.set_0) | exact HI120.out)) (by (with_reducible repeat (first | apply Kd.R_alloc | apply Kd.R_drewN | apply Kd.R_drew)); exact HO_9.out) (by decide)) hk (fun _ h => h.2)) (fun _ h => h.1)); have n1_ := Aside0.mk (IsS47.keep (by repeat (first | (with_reducible first | exact HI122.out | apply IsS47.alloc | apply IsS47.drewN | apply IsS47.drew | apply IsS47.set_0) | exact HI122.out)) hk NB122_120.out); have n2_ := Aside0.mk (hb); have n3_ := Aside0.mk (hi); clear HO_9; clear HI122; clear HB; clear HI120; have HO_9 := n0_; have HI122 := n1_; have HB := n2_; have HI120 := n3_; clear n0_ n1_ n2_ n3_; (try clear hb); (try clear hb2); (try clear hk); (try clear hi); (try clear hge); obtain ⟨Ao62, co62, eo62⟩ := Kd.R_slice HO_9.out; subst eo62) | (go_at_call 21; (with_reducible refine (cache_Cache_Pages.calls g120 t137 t138 t139 w _ ?side1 ?side2 A48.out).mono ?_); (case side1 => repeat (first | (with_reducible first | exact HI120.out | apply IsS47.alloc | apply IsS47.drewN | apply IsS47.drew | apply IsS47.set_0) | exact HI120.out)); (case side2 => repeat (first | (with_reducible first | exact HB.out | apply below_alloc | apply pw_below_drewN | apply below_drew1 | refine below_set ?_ (IsS47.ge HI120.out) | refine below_set ?_ (IsS47.ge HI122.out)) | exact HB.out)); rintro e w63 ⟨rfl, hi, hb, hk⟩; have n0_ := Aside0.mk (Kd.R_mono (Kd.R_keep (IsS47.apart (show IsS47 w _ g120 t137 from by repeat (first | (with_reducible first | exact HI120.out | apply IsS47.alloc | apply IsS47.drewN | apply IsS47.drew | apply IsS47.set_0) | exact HI120.out)) (by (with_reducible repeat (first | apply Kd.R_alloc | apply Kd.R_drewN | apply Kd.R_drew)); exact HO_9.out) (by decide)) hk (fun _ h => h.2)) (fun _ h => h.1)); have n1_ := Aside0.mk (IsS47.keep (by repeat (first | (with_reducible first | exact HI122.out | apply IsS47.alloc | apply IsS47.drewN | apply IsS47.drew | apply IsS47.set_0) | exact HI122.out)) hk NB122_120.out); have n2_ := Aside0.mk (hb); have n3_ := Aside0.mk (hi); clear HO_9; clear HI122; clear HB; clear HI120; have HO_9 := n0_; have HI122 := n1_; have HB := n2_; have HI120 := n3_; clear n0_ n1_ n2_ n3_; (try clear hb); (try clear hb2); (try clear hk); (try clear hi); (try clear hge)) | (go_at_call 22; (with_reducible refine (classes_Pages.calls (wrap64 (Int.tmod a1 7)) t140 _ A49.out).mono ?_); rintro e w' ⟨rfl, ⟨nd, rfl⟩⟩; (try first | exact ⟨rfl, _, World.drewN_drewN _ _ _⟩ | exact ⟨rfl, _, Eq.trans (World.drewN_drewN _ _ _) (congrArg (World.drewN _) (Nat.add_assoc _ _ _))⟩))))
                      go_ret
                      exact ⟨by first | rfl | (simp [errW_none, errW_some] <;> rfl) | (simp [*, errW_none, errW_some] <;> rfl), by repeat (first | (with_reducible first | exact HB.out | apply below_alloc | apply pw_below_drewN | apply below_drew1 | refine below_set ?_ (IsS47.ge HI120.out) | refine below_set ?_ (IsS47.ge HI122.out)) | exact HB.out)⟩
                  · rw [if_neg c47] at H
                    have c47b0 : (t136 == (x9_13.length : Int)) = false := beq_eq_false_iff_ne.mpr c47
                    have c47b1 : (t136 != (x9_13.length : Int)) = true := bne_iff_ne.mpr c47
                    obtain rfl := Option.some.inj H
                    go_wp2_with (first | (go_at_call 19; (with_reducible refine (cache_Cache_Len.calls g120 x121000_13 (wrap64 (Int.tmod a1 7)) t136 t137 w _ ?side1 ?side2 A46.out).mono ?_); (case side1 => repeat (first | (with_reducible first | exact HI120.out | apply IsS47.alloc | apply IsS47.drewN | apply IsS47.drew | apply IsS47.set_0) | exact HI120.out)); (case side2 => repeat (first | (with_reducible first | exact HB.out | apply below_alloc | apply pw_below_drewN | apply below_drew1 | refine below_set ?_ (IsS47.ge HI120.out) | refine below_set ?_ (IsS47.ge HI122.out)) | exact HB.out)); rintro e w64 ⟨rfl, hi, hb, hk⟩; have n0_ := Aside0.mk (Kd.R_mono (Kd.R_keep (IsS47.apart (show IsS47 w _ g120 x121000_13 from by repeat (first | (with_reducible first | exact HI120.out | apply IsS47.alloc | apply IsS47.drewN | apply IsS47.drew | apply IsS47.set_0) | exact HI120.out)) (by (with_reducible repeat (first | apply Kd.R_alloc | apply Kd.R_drewN | apply Kd.R_drew)); exact HO_9.out) (by decide)) hk (fun _ h => h.2)) (fun _ h => h.1)); have n1_ := Aside0.mk (IsS47.keep (by repeat (first | (with_reducible first | exact HI122.out | apply IsS47.alloc | apply IsS47.drewN | apply IsS47.drew | apply IsS47.set_0) | exact HI122.out)) hk NB122_120.out); have n2_ := Aside0.mk (hb); have n3_ := Aside0.mk (hi); clear HO_9; clear HI122; clear HB; clear HI120; have HO_9 := n0_; have HI122 := n1_; have HB := n2_; have HI120 := n3_; clear n0_ n1_ n2_ n3_; (try clear hb); (try clear hb2); (try clear hk); (try clear hi); (try clear hge); obtain ⟨Ao65, co65, eo65⟩ := Kd.R_slice HO_9.out; subst eo65))
                    repeat (go_quiet (first | (go_at_call 19; (with_reducible refine (cache_Cache_Len.calls g120 x121000_13 (wrap64 (Int.tmod a1 7)) t136 t137 w _ ?side1 ?side2 A46.out).mono ?_); (case side1 => repeat (first | (with_reducible first | exact HI120.out | apply IsS47.alloc | apply IsS47.drewN | apply IsS47.drew | apply IsS47.set_0) | exact HI120.out)); (case side2 => repeat (first | (with_reducible first | exact HB.out | apply below_alloc | apply pw_below_drewN | apply below_drew1 | refine below_set ?_ (IsS47.ge HI120.out) | refine below_set ?_ (IsS47.ge HI122.out)) | exact HB.out)); rintro e w64 ⟨rfl, hi, hb, hk⟩; have n0_ := Aside0.mk (Kd.R_mono (Kd.R_keep (IsS47.apart (show IsS47 w _ g120 x121000_13 from by repeat (first | (with_reducible first | exact HI120.out | apply IsS47.alloc | apply IsS47.drewN | apply IsS47.drew | apply IsS47.set_0) | exact HI120.out)) (by (with_reducible repeat (first | apply Kd.R_alloc | apply Kd.R_drewN | apply Kd.R_drew)); exact HO_9.out) (by decide)) hk (fun _ h => h.2)) (fun _ h => h.1)); have n1_ := Aside0.mk (IsS47.keep (by repeat (first | (with_reducible first | exact HI122.out | apply IsS47.alloc | apply IsS47.drewN | apply IsS47.drew | apply IsS47.set_0) | exact HI122.out)) hk NB122_120.out); have n2_ := Aside0.mk (hb); have n3_ := Aside0.mk (hi); clear HO_9; clear HI122; clear HB; clear HI120; have HO_9 := n0_; have HI122 := n1_; have HB := n2_; have HI120 := n3_; clear n0_ n1_ n2_ n3_; (try clear hb); (try clear hb2); (try clear hk); (try clear hi); (try clear hge); obtain ⟨Ao65, co65, eo65⟩ := Kd.R_slice HO_9.out; subst eo65)); try go_wp2_with (first | (go_at_call 19; (with_reducible refine (cache_Cache_Len.calls g120 x121000_13 (wrap64 (Int.tmod a1 7)) t136 t137 w _ ?side1 ?side2 A46.out).mono ?_); (case side1 => repeat (first | (with_reducible first | exact HI120.out | apply IsS47.alloc | apply IsS47.drewN | apply IsS47.drew | apply IsS47.set_0) | exact HI120.out)); (case side2 => repeat (first | (with_reducible first | exact HB.out | apply below_alloc | apply pw_below_drewN | apply below_drew1 | refine below_set ?_ (IsS47.ge HI120.out) | refine below_set ?_ (IsS47.ge HI122.out)) | exact HB.out)); rintro e w64 ⟨rfl, hi, hb, hk⟩; have n0_ := Aside0.mk (Kd.R_mono (Kd.R_keep (IsS47.apart (show IsS47 w _ g120 x121000_13 from by repeat (first | (with_reducible first | exact HI120.out | apply IsS47.alloc | apply IsS47.drewN | apply IsS47.drew | apply IsS47.set_0) | exact HI120.out)) (by (with_reducible repeat (first | apply Kd.R_alloc | apply Kd.R_drewN | apply Kd.R_drew)); exact HO_9.out) (by decide)) hk (fun _ h => h.2)) (fun _ h => h.1)); have n1_ := Aside0.mk (IsS47.keep (by repeat (first | (with_reducible first | exact HI122.out | apply IsS47.alloc | apply IsS47.drewN | apply IsS47.drew | apply IsS47.set_0) | exact HI122.out)) hk NB122_120.out); have n2_ := Aside0.mk (hb); have n3_ := Aside0.mk (hi); clear HO_9; clear HI122; clear HB; clear HI120; have HO_9 := n0_; have HI122 := n1_; have HB := n2_; have HI120 := n3_; clear n0_ n1_ n2_ n3_; (try clear hb); (try clear hb2); (try clear hk); (try clear hi); (try clear hge); obtain ⟨Ao65, co65, eo65⟩ := Kd.R_slice HO_9.out; subst eo65)))
                    go_ret
                    exact ⟨by first | rfl | (simp [errW_none, errW_some] <;> rfl) | (simp [*, errW_none, errW_some] <;> rfl), by repeat (first | (with_reducible first | exact HB.out | apply below_alloc | apply pw_below_drewN | apply below_drew1 | refine below_set ?_ (IsS47.ge HI120.out) | refine below_set ?_ (IsS47.ge HI122.out)) | exact HB.out)⟩
            · rw [if_neg c13] at H
              exact absurd H (by simp)
          · rw [if_neg c12] at H
            have c12b0 : decide (x10_1 < (l0.length : Int)) = false := decide_eq_false c12
            clear c12
            replace H := Option.bind_eq_some_iff.mp H
            obtain ⟨⟨t143, t146⟩, A660, H⟩ := H
            replace H : (steadinglaw09_CacheTurns.l1 k1 x9_1 t143 0) = some r := H
            have A66 := Aside0.mk A660
            clear A660
            have H' := Aside0.mk H
            clear H
            go_wp2_with (first | (go_at_call 20; (with_reducible refine (cache_Cache_All.calls g120 x121000_1 t143 t146 w _ ?side1 ?side2 A66.out).mono ?_); (case side1 => repeat (first | (with_reducible first | exact HI120.out | apply IsS47.alloc | apply IsS47.drewN | apply IsS47.drew | apply IsS47.set_0) | exact HI120.out)); (case side2 => repeat (first | (with_reducible first | exact HB.out | apply below_alloc | apply pw_below_drewN | apply below_drew1 | refine below_set ?_ (IsS47.ge HI120.out) | refine below_set ?_ (IsS47.ge HI122.out)) | exact HB.out)); rintro e w67 ⟨v144, rfl, ho0, hi, hb, hk⟩; have n0_ := Aside0.mk (Kd.R_mono (Kd.R_keep (IsS47.apart (show IsS47 w _ g120 x121000_1 from by repeat (first | (with_reducible first | exact HI120.out | apply IsS47.alloc | apply IsS47.drewN | apply IsS47.drew | apply IsS47.set_0) | exact HI120.out)) (by (with_reducible repeat (first | apply Kd.R_alloc | apply Kd.R_drewN | apply Kd.R_drew)); exact HO_9.out) (by decide)) hk (fun _ h => h.2)) (fun _ h => h.1)); have n1_ := Aside0.mk (IsS47.keep (by repeat (first | (with_reducible first | exact HI122.out | apply IsS47.alloc | apply IsS47.drewN | apply IsS47.drew | apply IsS47.set_0) | exact HI122.out)) hk NB122_120.out); have n2_ := Aside0.mk (Kd.R_lower ho0 (below_size (by repeat (first | (with_reducible first | exact HB.out | apply below_alloc | apply pw_below_drewN | apply below_drew1 | refine below_set ?_ (IsS47.ge HI120.out) | refine below_set ?_ (IsS47.ge HI122.out)) | exact HB.out)))); have n3_ := Aside0.mk (hb); have n4_ := Aside0.mk (hi); clear HO_9; clear HI122; clear HB; clear HI120; have HO_9 := n0_; have HI122 := n1_; have HO145 := n2_; have HB := n3_; have HI120 := n4_; clear n0_ n1_ n2_ n3_ n4_; (try clear hb); (try clear hb2); (try clear hk); (try clear hi); (try clear hge); (try clear ho0)))
            repeat (go_quiet (first | (go_at_call 20; (with_reducible refine (cache_Cache_All.calls g120 x121000_1 t143 t146 w _ ?side1 ?side2 A66.out).mono ?_); (case side1 => repeat (first | (with_reducible first | exact HI120.out | apply IsS47.alloc | apply IsS47.drewN | apply IsS47.drew | apply IsS47.set_0) | exact HI120.out)); (case side2 => repeat (first | (with_reducible first | exact HB.out | apply below_alloc | apply pw_below_drewN | apply below_drew1 | refine below_set ?_ (IsS47.ge HI120.out) | refine below_set ?_ (IsS47.ge HI122.out)) | exact HB.out)); rintro e w67 ⟨v144, rfl, ho0, hi, hb, hk⟩; have n0_ := Aside0.mk (Kd.R_mono (Kd.R_keep (IsS47.apart (show IsS47 w _ g120 x121000_1 from by repeat (first | (with_reducible first | exact HI120.out | apply IsS47.alloc | apply IsS47.drewN | apply IsS47.drew | apply IsS47.set_0) | exact HI120.out)) (by (with_reducible repeat (first | apply Kd.R_alloc | apply Kd.R_drewN | apply Kd.R_drew)); exact HO_9.out) (by decide)) hk (fun _ h => h.2)) (fun _ h => h.1)); have n1_ := Aside0.mk (IsS47.keep (by repeat (first | (with_reducible first | exact HI122.out | apply IsS47.alloc | apply IsS47.drewN | apply IsS47.drew | apply IsS47.set_0) | exact HI122.out)) hk NB122_120.out); have n2_ := Aside0.mk (Kd.R_lower ho0 (below_size (by repeat (first | (with_reducible first | exact HB.out | apply below_alloc | apply pw_below_drewN | apply below_drew1 | refine below_set ?_ (IsS47.ge HI120.out) | refine below_set ?_ (IsS47.ge HI122.out)) | exact HB.out)))); have n3_ := Aside0.mk (hb); have n4_ := Aside0.mk (hi); clear HO_9; clear HI122; clear HB; clear HI120; have HO_9 := n0_; have HI122 := n1_; have HO145 := n2_; have HB := n3_; have HI120 := n4_; clear n0_ n1_ n2_ n3_ n4_; (try clear hb); (try clear hb2); (try clear hk); (try clear hi); (try clear hge); (try clear ho0))); try go_wp2_with (first | (go_at_call 20; (with_reducible refine (cache_Cache_All.calls g120 x121000_1 t143 t146 w _ ?side1 ?side2 A66.out).mono ?_); (case side1 => repeat (first | (with_reducible first | exact HI120.out | apply IsS47.alloc | apply IsS47.drewN | apply IsS47.drew | apply IsS47.set_0) | exact HI120.out)); (case side2 => repeat (first | (with_reducible first | exact HB.out | apply below_alloc | apply pw_below_drewN | apply below_drew1 | refine below_set ?_ (IsS47.ge HI120.out) | refine below_set ?_ (IsS47.ge HI122.out)) | exact HB.out)); rintro e w67 ⟨v144, rfl, ho0, hi, hb, hk⟩; have n0_ := Aside0.mk (Kd.R_mono (Kd.R_keep (IsS47.apart (show IsS47 w _ g120 x121000_1 from by repeat (first | (with_reducible first | exact HI120.out | apply IsS47.alloc | apply IsS47.drewN | apply IsS47.drew | apply IsS47.set_0) | exact HI120.out)) (by (with_reducible repeat (first | apply Kd.R_alloc | apply Kd.R_drewN | apply Kd.R_drew)); exact HO_9.out) (by decide)) hk (fun _ h => h.2)) (fun _ h => h.1)); have n1_ := Aside0.mk (IsS47.keep (by repeat (first | (with_reducible first | exact HI122.out | apply IsS47.alloc | apply IsS47.drewN | apply IsS47.drew | apply IsS47.set_0) | exact HI122.out)) hk NB122_120.out); have n2_ := Aside0.mk (Kd.R_lower ho0 (below_size (by repeat (first | (with_reducible first | exact HB.out | apply below_alloc | apply pw_below_drewN | apply below_drew1 | refine below_set ?_ (IsS47.ge HI120.out) | refine below_set ?_ (IsS47.ge HI122.out)) | exact HB.out)))); have n3_ := Aside0.mk (hb); have n4_ := Aside0.mk (hi); clear HO_9; clear HI122; clear HB; clear HI120; have HO_9 := n0_; have HI122 := n1_; have HO145 := n2_; have HB := n3_; have HI120 := n4_; clear n0_ n1_ n2_ n3_ n4_; (try clear hb); (try clear hb2); (try clear hk); (try clear hi); (try clear hge); (try clear ho0))))
            go_loopg [15] k1 (fun kq v15 w' => ∃ (x15_2 : Int), v15 = .int .i64 x15_2 ∧ Aside0 (steadinglaw09_CacheTurns.l1 kq x9_1 t143 x15_2 = some r) ∧ Aside0 (kq ≤ k1) ∧ Aside0 (Kd.R (Kd.int .i64) 3 w' w.heap.size (fun _ => True) u9 x9_1) ∧ Aside0 (Kd.R k36 36 w' w.heap.size (fun _ => True) v144 t143) ∧ Aside0 (Below w.heap.size w w'))
            case atStart => exact ⟨(0), (by first | rfl | (simp; done) | (simp [*]; done)), H', ⟨Nat.le_refl _⟩, ⟨by (with_reducible repeat (first | apply Kd.R_alloc | apply Kd.R_drewN | apply Kd.R_drew)); exact HO_9.out⟩, ⟨by (with_reducible repeat (first | apply Kd.R_alloc | apply Kd.R_drewN | apply Kd.R_drew)); exact HO145.out⟩, ⟨by repeat (first | (with_reducible first | exact HB.out | apply below_alloc | apply pw_below_drewN | apply below_drew1 | refine below_set ?_ (IsS47.ge HI120.out) | refine below_set ?_ (IsS47.ge HI122.out)) | exact HB.out)⟩⟩
            case round =>
              clear H'
              try clear c1
              try clear p1
              try clear q1
              try clear hx1
              try clear c2
              try clear p2
              try clear c3
              try clear c4
              try clear q4
              try clear c5
              try clear c5b0
              try clear c5b1
              try clear p6
              try clear c12
              try clear c12b0
              try clear p12
              try clear q12
              try clear hx12
              try clear c13
              try clear c13b0
              try clear p13
              try clear q13
              try clear hx13
              try clear q15
              try clear c16
              try clear c18
              try clear c18b0
              try clear c18b1
              try clear c18b2
              try clear c21
              try clear c22
              try clear c31
              try clear c31b0
              try clear c31b1
              try clear c31b2
              try clear c33
              try clear c35
              try clear c35b0
              try clear c36
              try clear c36b0
              try clear c39
              try clear c40
              try clear c42
              try clear c42b0
              try clear c42b1
              try clear c43
              try clear c43b0
              try clear c43b1
              try clear q45
              try clear c47
              try clear c47b0
              try clear c47b1
              try clear c50
              try clear c50b0
              try clear c50b1
              try clear c52
              try clear c52b0
              try clear c52b1
              try clear p64
              try clear hx123_0
              try clear hx132_0
              try clear p1
              try clear p12
              try clear p123
              try clear p13
              try clear p132
              try clear p2
              try clear p6
              try clear q1
              try clear q12
              try clear q123
              try clear q13
              try clear q132
              try clear q15
              try clear q4
              try clear q45
              obtain ⟨x15_2, rfl, HA, HK2, HO_9, HO_14, HB⟩ := hrel
              cases gk with
              | zero => exact absurd HA.out (by simp [steadinglaw09_CacheTurns.l1])
              | succ k2 =>
                have H := HA.out
                clear HA
                simp only [steadinglaw09_CacheTurns.l1] at H
                by_cases c68 : x15_2 < (t143.length : Int)
                · rw [if_pos c68] at H
                  have c68b0 : decide (x15_2 < (t143.length : Int)) = true := decide_eq_true c68
                  clear c68
                  by_cases c69 : 0 ≤ x15_2
                  · rw [if_pos c69] at H
                    have c69b0 : decide (0 ≤ x15_2) = true := decide_eq_true c69
                    clear c69
                    by_cases c70 : x15_2 < (x9_1.length : Int)
                    · rw [if_pos c70] at H
                      have c70b0 : decide (x15_2 < (x9_1.length : Int)) = true := decide_eq_true c70
                      clear c70
                      by_cases c71 : ((rd_T36 t143 x15_2).f0) = (rd x9_1 x15_2)
                      · rw [if_pos c71] at H
                        have c71b0 : (((rd_T36 t143 x15_2).f0) == (rd x9_1 x15_2)) = true := beq_iff_eq.mpr c71
                        have c71b1 : (((rd_T36 t143 x15_2).f0) != (rd x9_1 x15_2)) = false := bne_eq_false_iff_eq.mpr c71
                        clear c71
                        have H' := Aside0.mk H
                        clear H
                        obtain ⟨Ao72, co72, eo72⟩ := Kd.R_slice HO_14.out
                        subst eo72
                        have p147 : 0 ≤ (x15_2 : Int) := of_decide_eq_true (by first | (with_reducible assumption) | assumption)
                        have q147 : x15_2 < (t143.length : Int) := of_decide_eq_true (by first | (with_reducible assumption) | assumption)
                        obtain ⟨ad147, e147, hx147_0, hx147_1⟩ := at_T36 (Kd.R_reads' HO_14.out).2.2 x15_2 p147 q147
                        cases e147
                        replace p147 := eq_true p147
                        replace q147 := eq_true q147
                        obtain ⟨Ao73, co73, eo73⟩ := Kd.R_slice HO_9.out
                        subst eo73
                        have p148 : 0 ≤ (x15_2 : Int) := of_decide_eq_true (by first | (with_reducible assumption) | assumption)
                        have q148 : x15_2 < (x9_1.length : Int) := of_decide_eq_true (by first | (with_reducible assumption) | assumption)
                        obtain ⟨ad148, e148, hx148_0⟩ := Kd.at_int (Kd.R_reads' HO_9.out).2.2 x15_2 p148 q148
                        cases e148
                        replace p148 := eq_true p148
                        replace q148 := eq_true q148
                        go_wp2
                        repeat (go_quiet (fail); try go_wp2)
                        go_roundg k2
                        case measure => have := HK1.out; have := HK2.out; omega
                        case rel => exact ⟨(wrap64 (x15_2 + 1)), (by first | rfl | (simp; done) | (simp [*]; done)), H', ⟨by have := HK1.out; have := HK2.out; omega⟩, ⟨by (with_reducible repeat (first | apply Kd.R_alloc | apply Kd.R_drewN | apply Kd.R_drew)); exact HO_9.out⟩, ⟨by (with_reducible repeat (first | apply Kd.R_alloc | apply Kd.R_drewN | apply Kd.R_drew)); exact HO_14.out⟩, ⟨by repeat (first | (with_reducible first | exact HB.out | apply below_alloc | apply pw_below_drewN | apply below_drew1) | exact HB.out)⟩⟩
                      · rw [if_neg c71] at H
                        have c71b0 : (((rd_T36 t143 x15_2).f0) == (rd x9_1 x15_2)) = false := beq_eq_false_iff_ne.mpr c71
                        have c71b1 : (((rd_T36 t143 x15_2).f0) != (rd x9_1 x15_2)) = true := bne_iff_ne.mpr c71
                        obtain rfl := Option.some.inj H
                        obtain ⟨Ao74, co74, eo74⟩ := Kd.R_slice HO_14.out
                        subst eo74
                        have p147 : 0 ≤ (x15_2 : Int) := of_decide_eq_true (by first | (with_reducible assumption) | assumption)
                        have q147 : x15_2 < (t143.length : Int) := of_decide_eq_true (by first | (with_reducible assumption) | assumption)
                        obtain ⟨ad147, e147, hx147_0, hx147_1⟩ := at_T36 (Kd.R_reads' HO_14.out).2.2 x15_2 p147 q147
                        cases e147
                        replace p147 := eq_true p147
                        replace q147 := eq_true q147
                        obtain ⟨Ao75, co75, eo75⟩ := Kd.R_slice HO_9.out
                        subst eo75
                        have p148 : 0 ≤ (x15_2 : Int) := of_decide_eq_true (by first | (with_reducible assumption) | assumption)
                        have q148 : x15_2 < (x9_1.length : Int) := of_decide_eq_true (by first | (with_reducible assumption) | assumption)
                        obtain ⟨ad148, e148, hx148_0⟩ := Kd.at_int (Kd.R_reads' HO_9.out).2.2 x15_2 p148 q148
                        cases e148
                        replace p148 := eq_true p148
                        replace q148 := eq_true q148
                        go_wp2
                        repeat (go_quiet (fail); try go_wp2)
                        go_ret
                        exact ⟨by first | rfl | (simp [errW_none, errW_some] <;> rfl) | (simp [*, errW_none, errW_some] <;> rfl), by repeat (first | (with_reducible first | exact HB.out | apply below_alloc | apply pw_below_drewN | apply below_drew1) | exact HB.out)⟩
                    · rw [if_neg c70] at H
                      exact absurd H (by simp)
                  · rw [if_neg c69] at H
                    exact absurd H (by simp)
                · rw [if_neg c68] at H
                  have c68b0 : decide (x15_2 < (t143.length : Int)) = false := decide_eq_false c68
                  clear c68
                  obtain rfl := Option.some.inj H
                  obtain ⟨Ao76, co76, eo76⟩ := Kd.R_slice HO_14.out
                  subst eo76
                  obtain ⟨Ao77, co77, eo77⟩ := Kd.R_slice HO_9.out
                  subst eo77
                  go_wp2
                  repeat (go_quiet (fail); try go_wp2)
                  go_ret
                  exact ⟨by first | rfl | (simp [errW_none, errW_some] <;> rfl) | (simp [*, errW_none, errW_some] <;> rfl), by repeat (first | (with_reducible first | exact HB.out | apply below_alloc | apply pw_below_drewN | apply below_drew1) | exact HB.out)⟩
  · replace c4 := Bool.eq_false_iff.mpr c4
    subst c4
    have H1 : (some false) = some r := by rw [if_neg (show ¬ (false = true) by decide)] at H; exact H
    clear H
    have H := H1
    clear H1
    obtain rfl := Option.some.inj H
    go_enter Try.func5, Try.ntmps5
    go_wp2_with (first | (go_at_call 15; (with_reducible refine (steadinglaw09_awake.calls  false _ A3.out).mono ?_); rintro e w78 ⟨rfl, hb⟩; have n0_ := Aside0.mk (below_step (by repeat (first | (with_reducible first | exact HB.out | apply below_alloc | apply pw_below_drewN | apply below_drew1) | exact HB.out)) hb); clear HB; have HB := n0_; clear n0_; (try clear hb); (try clear hb2); (try clear hk); (try clear hi); (try clear hge)))
    repeat (go_quiet (first | (go_at_call 15; (with_reducible refine (steadinglaw09_awake.calls  false _ A3.out).mono ?_); rintro e w78 ⟨rfl, hb⟩; have n0_ := Aside0.mk (below_step (by repeat (first | (with_reducible first | exact HB.out | apply below_alloc | apply pw_below_drewN | apply below_drew1) | exact HB.out)) hb); clear HB; have HB := n0_; clear n0_; (try clear hb); (try clear hb2); (try clear hk); (try clear hi); (try clear hge))); try go_wp2_with (first | (go_at_call 15; (with_reducible refine (steadinglaw09_awake.calls  false _ A3.out).mono ?_); rintro e w78 ⟨rfl, hb⟩; have n0_ := Aside0.mk (below_step (by repeat (first | (with_reducible first | exact HB.out | apply below_alloc | apply pw_below_drewN | apply below_drew1) | exact HB.out)) hb); clear HB; have HB := n0_; clear n0_; (try clear hb); (try clear hb2); (try clear hk); (try clear hi); (try clear hge))))
    go_ret
    exact ⟨by first | rfl | (simp [errW_none, errW_some] <;> rfl) | (simp [*, errW_none, errW_some] <;> rfl), by repeat (first | (with_reducible first | exact HB.out | apply below_alloc | apply pw_below_drewN | apply below_drew1) | exact HB.out)⟩

/-- THE ONE PURE STATEMENT of steadinglaw09_CacheTurns: yours. -/
def steadinglaw09_CacheTurns.Pure : Prop := ∀ (l0 : List Bool) (a1 : Int), l0.length ≤ maxLen → l0.length * 1 ≤ 140737488351232 → (Lit.int .u8 a1).wf = true → ∃ k, steadinglaw09_CacheTurns.f k l0 a1 = some true
theorem steadinglaw09_CacheTurns.walk (P : steadinglaw09_CacheTurns.Pure) (a0 : Option Addr) (len0 cap0 : Nat) (l0 : List Bool) (a1 : Int) (w : World) (w0 : l0.length = len0 ∧ len0 ≤ cap0 ∧ len0 ≤ maxLen ∧ Kd.C Kd.bool w a0 len0 l0 ∧ ∀ p ∈ l0, (fun _ => True) p) (y0 : len0 * 1 ≤ 140737488351232) (w1 : (Lit.int .u8 a1).wf = true) :
    Calls Try.prog 5 #[.slice a0 len0 cap0, .int .u8 a1] w fun e w' => e = .returned (.bool true) ∧ Below w.heap.size w w' := by
  obtain ⟨rfl, hc0, hm0, hr0, hw0⟩ := w0
  obtain ⟨k, h⟩ := P l0 a1 hm0 y0 w1
  refine (steadinglaw09_CacheTurns.calls k _ _ l0 a1 true w hr0 hc0 h).mono ?_
  rintro e w' ⟨rfl, hd⟩
  exact ⟨rfl, hd⟩

end Go.Proofs.Ytbbhfbpkopocgaa.PCacheTurns
