-- PRINTED BY print.sh 35421559b90ae4d0a3588c463048766b98c2df88dd9212a6774a882060cdf62d: not written by this session
import Derived.Test.YtklccppfofhplaaPClassesLeastx0
import Derived.Test.YtklccppfofhplaaPClassesLeastx1
namespace Go.Proofs.Ytklccppfofhplaa.PClassesLeast
open Go.RowKit Go.Proofs.YtklccppfofhplaaW.PrintWords Go.Proofs.YtklccppfofhplaaW.PrintLast Go.Proofs.YtklccppfofhplaaW.PrintMore
attribute [local go_sem] max2_int min2_int max_two min_two max_three min_three max_four min_four   -- for this text's walks alone
set_option linter.unusedVariables false
set_option linter.unusedSimpArgs false

/-! ### steadinglaw07_ClassesLeast: function 13 -/
mutual
def steadinglaw07_ClassesLeast.j0 : Nat → Int → Int → Bool → Option (Bool)
  | 0, _, _, _ => none
  | k + 1, x4, x5, x18 => if x18 = true then (some (x5 == (-1))) else ((classes_Pages.f x5).bind fun t130 => (if t130 < x4 then (steadinglaw07_ClassesLeast.j1 k x5 true) else (if x5 > 0 then ((classes_Pages.f (wrap64 (x5 - 1))).bind fun t131 => (steadinglaw07_ClassesLeast.j1 k x5 (decide (t131 ≥ x4)))) else (steadinglaw07_ClassesLeast.j1 k x5 false))))
def steadinglaw07_ClassesLeast.j1 : Nat → Int → Bool → Option (Bool)
  | 0, _, _ => none
  | k + 1, x5, x35 => if x35 = true then (some false) else ((classes_Pages.f x5).bind fun t132 => ((classes_Class.f k t132).bind fun t133 => (if t133 = x5 then ((classes_Pages.f x5).bind fun t134 => ((bits_Pow.f (IntKind.u64.wrap (t134))).bind fun t135 => (some t135))) else (some false))))
end
def steadinglaw07_ClassesLeast.f (k : Nat) (a0 : Int) : Option (Bool) := (steadinglaw07_awake.f k).bind fun t128 => (if t128 = true then ((classes_Class.f k (wrap64 (a0))).bind fun t129 => (if (wrap64 (a0)) < 1 then (steadinglaw07_ClassesLeast.j0 k (wrap64 (a0)) t129 true) else (steadinglaw07_ClassesLeast.j0 k (wrap64 (a0)) t129 (decide ((wrap64 (a0)) > 64))))) else (some false))
theorem steadinglaw07_ClassesLeast.mono_l : ∀ k, (∀ y0 y1 y2, LeO (steadinglaw07_ClassesLeast.j0 k y0 y1 y2) (steadinglaw07_ClassesLeast.j0 (k + 1) y0 y1 y2)) ∧ (∀ y0 y1, LeO (steadinglaw07_ClassesLeast.j1 k y0 y1) (steadinglaw07_ClassesLeast.j1 (k + 1) y0 y1))
  | 0 => ⟨fun _ _ _ r h => by simp [steadinglaw07_ClassesLeast.j0] at h, fun _ _ r h => by simp [steadinglaw07_ClassesLeast.j1] at h⟩
  | k + 1 => by
    obtain ⟨ih0, ih1⟩ := steadinglaw07_ClassesLeast.mono_l k
    refine ⟨?_, ?_⟩
    · intro y0 y1 y2
      unfold steadinglaw07_ClassesLeast.j0
      repeat' first
      | (with_reducible exact ih0 _ _ _)
      | (with_reducible exact ih1 _ _)
      | (with_reducible exact classes_Class.mono _ _)
      | (with_reducible exact steadinglaw07_awake.mono _)
      | (with_reducible exact LeO.refl _)
      | (with_reducible exact LeO.none _)
      | (with_reducible refine LeO.ite ?_ ?_)
      | (with_reducible refine LeO.bind ?_ (fun _ => ?_))
      | exact ih0 _ _ _
      | exact ih1 _ _
      | exact classes_Class.mono _ _
      | exact steadinglaw07_awake.mono _
      | exact LeO.none _
      | refine LeO.ite ?_ ?_
      | refine LeO.bind ?_ (fun _ => ?_)
    · intro y0 y1
      unfold steadinglaw07_ClassesLeast.j1
      repeat' first
      | (with_reducible exact ih0 _ _ _)
      | (with_reducible exact ih1 _ _)
      | (with_reducible exact classes_Class.mono _ _)
      | (with_reducible exact steadinglaw07_awake.mono _)
      | (with_reducible exact LeO.refl _)
      | (with_reducible exact LeO.none _)
      | (with_reducible refine LeO.ite ?_ ?_)
      | (with_reducible refine LeO.bind ?_ (fun _ => ?_))
      | exact ih0 _ _ _
      | exact ih1 _ _
      | exact classes_Class.mono _ _
      | exact steadinglaw07_awake.mono _
      | exact LeO.none _
      | refine LeO.ite ?_ ?_
      | refine LeO.bind ?_ (fun _ => ?_)
theorem steadinglaw07_ClassesLeast.mono : ∀ a0 k, LeO (steadinglaw07_ClassesLeast.f k a0) (steadinglaw07_ClassesLeast.f (k + 1) a0) := by
  intro a0 k
  obtain ⟨ih0, ih1⟩ := steadinglaw07_ClassesLeast.mono_l k
  unfold steadinglaw07_ClassesLeast.f
  repeat' first
      | (with_reducible exact ih0 _ _ _)
      | (with_reducible exact ih1 _ _)
      | (with_reducible exact classes_Class.mono _ _)
      | (with_reducible exact steadinglaw07_awake.mono _)
      | (with_reducible exact LeO.refl _)
      | (with_reducible exact LeO.none _)
      | (with_reducible refine LeO.ite ?_ ?_)
      | (with_reducible refine LeO.bind ?_ (fun _ => ?_))
      | exact ih0 _ _ _
      | exact ih1 _ _
      | exact classes_Class.mono _ _
      | exact steadinglaw07_awake.mono _
      | exact LeO.none _
      | refine LeO.ite ?_ ?_
      | refine LeO.bind ?_ (fun _ => ?_)
set_option maxHeartbeats 8000000 in
set_option maxRecDepth 100000 in
theorem steadinglaw07_ClassesLeast.calls (k : Nat) (a0 : Int) (r : Bool) (w : World) (h : steadinglaw07_ClassesLeast.f k a0 = some r) :
    Calls Try.prog 13 #[.int .u8 a0] w fun e w' => e = .returned (.bool r) ∧ Drawn0 w w' := by
  have H : ((steadinglaw07_awake.f k).bind fun t128 => (if t128 = true then ((classes_Class.f k (wrap64 (a0))).bind fun t129 => (if (wrap64 (a0)) < 1 then (steadinglaw07_ClassesLeast.j0 k (wrap64 (a0)) t129 true) else (steadinglaw07_ClassesLeast.j0 k (wrap64 (a0)) t129 (decide ((wrap64 (a0)) > 64))))) else (some false))) = some r := h
  clear h
  replace H := Option.bind_eq_some_iff.mp H
  obtain ⟨t128, A20, H⟩ := H
  replace H : (if t128 = true then ((classes_Class.f k (wrap64 (a0))).bind fun t129 => (if (wrap64 (a0)) < 1 then (steadinglaw07_ClassesLeast.j0 k (wrap64 (a0)) t129 true) else (steadinglaw07_ClassesLeast.j0 k (wrap64 (a0)) t129 (decide ((wrap64 (a0)) > 64))))) else (some false)) = some r := H
  have A2 := Aside0.mk A20
  clear A20
  by_cases c3 : t128 = true
  · subst c3
    have H1 : ((classes_Class.f k (wrap64 (a0))).bind fun t129 => (if (wrap64 (a0)) < 1 then (steadinglaw07_ClassesLeast.j0 k (wrap64 (a0)) t129 true) else (steadinglaw07_ClassesLeast.j0 k (wrap64 (a0)) t129 (decide ((wrap64 (a0)) > 64))))) = some r := by rw [if_pos rfl] at H; exact H
    clear H
    have H := H1
    clear H1
    replace H := Option.bind_eq_some_iff.mp H
    obtain ⟨t129, A40, H⟩ := H
    replace H : (if (wrap64 (a0)) < 1 then (steadinglaw07_ClassesLeast.j0 k (wrap64 (a0)) t129 true) else (steadinglaw07_ClassesLeast.j0 k (wrap64 (a0)) t129 (decide ((wrap64 (a0)) > 64)))) = some r := H
    have A4 := Aside0.mk A40
    clear A40
    have HC5 := Aside0.mk H
    clear H
    go_enter Try.func13, Try.ntmps13
    go_upto_region 6 with (first | ((with_reducible refine gate_callee (f := 26) rfl ?_); refine goesL_ (some 6) rfl rfl Try.func26 (by kernel_rfl) rfl #[] rfl (by (try simp only [List.map_toArray, List.map_cons, List.map_nil]); first | done | rfl | (simp only [List.length_drop, List.length_take]; rfl)) ?_; (with_reducible refine (steadinglaw07_awake.calls k  true _ A2.out).mono ?_); rintro e w' ⟨rfl, ⟨nd, rfl⟩⟩; refine ⟨_, rfl, ?_⟩) | ((with_reducible refine gate_callee (f := 29) rfl ?_); refine goesL_ (some 12) rfl rfl Try.func29 (by kernel_rfl) rfl #[.int .i64 (wrap64 (a0))] rfl (by (try simp only [List.map_toArray, List.map_cons, List.map_nil]); first | done | rfl | (simp only [List.length_drop, List.length_take]; rfl)) ?_; (with_reducible refine (classes_Class.calls k (wrap64 (a0)) t129 _ A4.out).mono ?_); rintro e w' ⟨rfl, ⟨nd, rfl⟩⟩; refine ⟨_, rfl, ?_⟩))
    (try simp only [Act.put, List.setIfInBounds_toArray, List.set_cons_zero, List.set_cons_succ])
    go_cut [18] (fun v18 wc => ∃ (kq : Nat) (x18_4 : Bool), v18 = .bool x18_4 ∧ Aside0 (steadinglaw07_ClassesLeast.j0 kq (wrap64 (a0)) t129 x18_4 = some r) ∧ Aside0 (kq ≤ k) ∧ Drawn0 w wc)
    case first =>
      have H := HC5.out
      clear HC5
      by_cases c6 : (wrap64 (a0)) < 1
      · rw [if_pos c6] at H
        have c6b0 : decide ((wrap64 (a0)) < 1) = true := decide_eq_true c6
        clear c6
        (first | rw [c6b0] | (simp only [i64_w, i32_w]; rw [c6b0]) | skip)
        have H' := Aside0.mk H
        clear H
        go_wp2
        go_meet
        case rel => exact ⟨_, (true), (by first | rfl | (simp; done) | (simp [*]; done)), H', ⟨by first | omega | exact Nat.le_refl _⟩, by repeat (first | exact Drawn0.refl _ | apply Drawn0.step)⟩
      · rw [if_neg c6] at H
        have c6b0 : decide ((wrap64 (a0)) < 1) = false := decide_eq_false c6
        clear c6
        (first | rw [c6b0] | (simp only [i64_w, i32_w]; rw [c6b0]) | skip)
        have H' := Aside0.mk H
        clear H
        go_wp2
        go_meet
        case rel => exact ⟨_, (decide ((wrap64 (a0)) > 64)), (by first | rfl | (simp; done) | (simp [*]; done)), H', ⟨by first | omega | exact Nat.le_refl _⟩, by repeat (first | exact Drawn0.refl _ | apply Drawn0.step)⟩
    case rest =>
      clear HC5
      try clear c1
      try clear c2
      try clear p2
      try clear c3
      try clear c6
      try clear c6b0
      try clear p6
      obtain ⟨kq, x18_4, rfl, HA, HJ4, ⟨mc4, rfl⟩⟩ := hcut
      cases kq with
      | zero => exact absurd HA.out (by simp [steadinglaw07_ClassesLeast.j0])
      | succ kj4 =>
        have H := HA.out
        clear HA
        simp only [steadinglaw07_ClassesLeast.j0] at H
        by_cases c7 : x18_4 = true
        · subst c7
          have H1 : (some (t129 == (-1))) = some r := by rw [if_pos rfl] at H; exact H
          clear H
          have H := H1
          clear H1
          obtain rfl := Option.some.inj H
          go_wp2
          go_ret
          exact ⟨by first | rfl | (simp; done) | (simp [*]; done), by repeat (first | exact Drawn0.refl _ | apply Drawn0.step)⟩
        · replace c7 := Bool.eq_false_iff.mpr c7
          subst c7
          have H1 : ((classes_Pages.f t129).bind fun t130 => (if t130 < (wrap64 (a0)) then (steadinglaw07_ClassesLeast.j1 kj4 t129 true) else (if t129 > 0 then ((classes_Pages.f (wrap64 (t129 - 1))).bind fun t131 => (steadinglaw07_ClassesLeast.j1 kj4 t129 (decide (t131 ≥ (wrap64 (a0)))))) else (steadinglaw07_ClassesLeast.j1 kj4 t129 false)))) = some r := by rw [if_neg (show ¬ (false = true) by decide)] at H; exact H
          clear H
          have H := H1
          clear H1
          have HC8 := Aside0.mk H
          clear H
          go_upto_region 8 with (fail)
          go_cut [35] (fun v35 wc => ∃ (kq : Nat) (x35_7 : Bool), v35 = .bool x35_7 ∧ Aside0 (steadinglaw07_ClassesLeast.j1 kq t129 x35_7 = some r) ∧ Aside0 (kq ≤ kj4) ∧ Drawn0 w wc)
          case first =>
            have H := HC8.out
            clear HC8
            replace H := Option.bind_eq_some_iff.mp H
            obtain ⟨t130, A90, H⟩ := H
            replace H : (if t130 < (wrap64 (a0)) then (steadinglaw07_ClassesLeast.j1 kj4 t129 true) else (if t129 > 0 then ((classes_Pages.f (wrap64 (t129 - 1))).bind fun t131 => (steadinglaw07_ClassesLeast.j1 kj4 t129 (decide (t131 ≥ (wrap64 (a0)))))) else (steadinglaw07_ClassesLeast.j1 kj4 t129 false))) = some r := H
            have A9 := Aside0.mk A90
            clear A90
            by_cases c10 : t130 < (wrap64 (a0))
            · rw [if_pos c10] at H
              have c10b0 : decide (t130 < (wrap64 (a0))) = true := decide_eq_true c10
              clear c10
              (first | rw [c10b0] | (simp only [i64_w, i32_w]; rw [c10b0]) | skip)
              have H' := Aside0.mk H
              clear H
              go_wp2_with (first | ((with_reducible refine gate_callee (f := 27) rfl ?_); refine goesL_ (some 22) rfl rfl Try.func27 (by kernel_rfl) rfl #[.int .i64 t129] rfl (by (try simp only [List.map_toArray, List.map_cons, List.map_nil]); first | done | rfl | (simp only [List.length_drop, List.length_take]; rfl)) ?_; (with_reducible refine (classes_Pages.calls t129 t130 _ A9.out).mono ?_); rintro e w' ⟨rfl, ⟨nd, rfl⟩⟩; refine ⟨_, rfl, ?_⟩))
              go_meet
              case rel => exact ⟨_, (true), (by first | rfl | (simp; done) | (simp [*]; done)), H', ⟨by have := HJ4.out; first | omega | exact Nat.le_refl _⟩, by repeat (first | exact Drawn0.refl _ | apply Drawn0.step)⟩
            · rw [if_neg c10] at H
              have c10b0 : decide (t130 < (wrap64 (a0))) = false := decide_eq_false c10
              clear c10
              (first | rw [c10b0] | (simp only [i64_w, i32_w]; rw [c10b0]) | skip)
              by_cases c11 : t129 > 0
              · rw [if_pos c11] at H
                have c11b0 : decide (0 < t129) = true := decide_eq_true c11
                clear c11
                replace H := Option.bind_eq_some_iff.mp H
                obtain ⟨t131, A120, H⟩ := H
                replace H : (steadinglaw07_ClassesLeast.j1 kj4 t129 (decide (t131 ≥ (wrap64 (a0))))) = some r := H
                have A12 := Aside0.mk A120
                clear A120
                have H' := Aside0.mk H
                clear H
                go_wp2_with (first | ((with_reducible refine gate_callee (f := 27) rfl ?_); refine goesL_ (some 22) rfl rfl Try.func27 (by kernel_rfl) rfl #[.int .i64 t129] rfl (by (try simp only [List.map_toArray, List.map_cons, List.map_nil]); first | done | rfl | (simp only [List.length_drop, List.length_take]; rfl)) ?_; (with_reducible refine (classes_Pages.calls t129 t130 _ A9.out).mono ?_); rintro e w' ⟨rfl, ⟨nd, rfl⟩⟩; refine ⟨_, rfl, ?_⟩) | (go_at_call 27; (with_reducible refine (classes_Pages.calls (wrap64 (t129 - 1)) t131 _ A12.out).mono ?_); rintro e w' ⟨rfl, ⟨nd, rfl⟩⟩))
                go_meet
                case rel => exact ⟨_, (decide (t131 ≥ (wrap64 (a0)))), (by first | rfl | (simp; done) | (simp [*]; done)), H', ⟨by have := HJ4.out; first | omega | exact Nat.le_refl _⟩, by repeat (first | exact Drawn0.refl _ | apply Drawn0.step)⟩
              · rw [if_neg c11] at H
                have c11b0 : decide (0 < t129) = false := decide_eq_false c11
                clear c11
                have H' := Aside0.mk H
                clear H
                go_wp2_with (first | ((with_reducible refine gate_callee (f := 27) rfl ?_); refine goesL_ (some 22) rfl rfl Try.func27 (by kernel_rfl) rfl #[.int .i64 t129] rfl (by (try simp only [List.map_toArray, List.map_cons, List.map_nil]); first | done | rfl | (simp only [List.length_drop, List.length_take]; rfl)) ?_; (with_reducible refine (classes_Pages.calls t129 t130 _ A9.out).mono ?_); rintro e w' ⟨rfl, ⟨nd, rfl⟩⟩; refine ⟨_, rfl, ?_⟩))
                go_meet
                case rel => exact ⟨_, (false), (by first | rfl | (simp; done) | (simp [*]; done)), H', ⟨by have := HJ4.out; first | omega | exact Nat.le_refl _⟩, by repeat (first | exact Drawn0.refl _ | apply Drawn0.step)⟩
          case rest =>
            clear HC8
            try clear c1
            try clear c2
            try clear p2
            try clear c3
            try clear c4
            try clear c6
            try clear c6b0
            try clear p6
            try clear c7
            try clear c10
            try clear c10b0
            try clear c11
            try clear c11b0
            try clear p2
            try clear p6
            obtain ⟨kq, x35_7, rfl, HA, HJ7, ⟨mc7, rfl⟩⟩ := hcut
            cases kq with
            | zero => exact absurd HA.out (by simp [steadinglaw07_ClassesLeast.j1])
            | succ kj7 =>
              have H := HA.out
              clear HA
              simp only [steadinglaw07_ClassesLeast.j1] at H
              by_cases c13 : x35_7 = true
              · subst c13
                have H1 : (some false) = some r := by rw [if_pos rfl] at H; exact H
                clear H
                have H := H1
                clear H1
                obtain rfl := Option.some.inj H
                go_wp2
                go_ret
                exact ⟨by first | rfl | (simp; done) | (simp [*]; done), by repeat (first | exact Drawn0.refl _ | apply Drawn0.step)⟩
              · replace c13 := Bool.eq_false_iff.mpr c13
                subst c13
                have H1 : ((classes_Pages.f t129).bind fun t132 => ((classes_Class.f kj7 t132).bind fun t133 => (if t133 = t129 then ((classes_Pages.f t129).bind fun t134 => ((bits_Pow.f (IntKind.u64.wrap (t134))).bind fun t135 => (some t135))) else (some false)))) = some r := by rw [if_neg (show ¬ (false = true) by decide)] at H; exact H
                clear H
                have H := H1
                clear H1
                replace H := Option.bind_eq_some_iff.mp H
                obtain ⟨t132, A140, H⟩ := H
                replace H : ((classes_Class.f kj7 t132).bind fun t133 => (if t133 = t129 then ((classes_Pages.f t129).bind fun t134 => ((bits_Pow.f (IntKind.u64.wrap (t134))).bind fun t135 => (some t135))) else (some false))) = some r := H
                have A14 := Aside0.mk A140
                clear A140
                replace H := Option.bind_eq_some_iff.mp H
                obtain ⟨t133, A150, H⟩ := H
                replace H : (if t133 = t129 then ((classes_Pages.f t129).bind fun t134 => ((bits_Pow.f (IntKind.u64.wrap (t134))).bind fun t135 => (some t135))) else (some false)) = some r := H
                have A15 := Aside0.mk A150
                clear A150
                by_cases c16 : t133 = t129
                · rw [if_pos c16] at H
                  have c16b0 : (t133 == t129) = true := beq_iff_eq.mpr c16
                  have c16b1 : (t133 != t129) = false := bne_eq_false_iff_eq.mpr c16
                  clear c16
                  replace H := Option.bind_eq_some_iff.mp H
                  obtain ⟨t134, A170, H⟩ := H
                  replace H : ((bits_Pow.f (IntKind.u64.wrap (t134))).bind fun t135 => (some t135)) = some r := H
                  have A17 := Aside0.mk A170
                  clear A170
                  replace H := Option.bind_eq_some_iff.mp H
                  obtain ⟨t135, A180, H⟩ := H
                  replace H : (some t135) = some r := H
                  have A18 := Aside0.mk A180
                  clear A180
                  obtain rfl := Option.some.inj H
                  go_wp2_with (first | ((with_reducible refine gate_callee (f := 27) rfl ?_); refine goesL_ (some 37) rfl rfl Try.func27 (by kernel_rfl) rfl #[.int .i64 t129] rfl (by (try simp only [List.map_toArray, List.map_cons, List.map_nil]); first | done | rfl | (simp only [List.length_drop, List.length_take]; rfl)) ?_; (with_reducible refine (classes_Pages.calls t129 t132 _ A14.out).mono ?_); rintro e w' ⟨rfl, ⟨nd, rfl⟩⟩; refine ⟨_, rfl, ?_⟩) | ((with_reducible refine gate_callee (f := 29) rfl ?_); refine goesL_ (some 38) rfl rfl Try.func29 (by kernel_rfl) rfl #[.int .i64 t132] rfl (by (try simp only [List.map_toArray, List.map_cons, List.map_nil]); first | done | rfl | (simp only [List.length_drop, List.length_take]; rfl)) ?_; (with_reducible refine (classes_Class.calls kj7 t132 t133 _ A15.out).mono ?_); rintro e w' ⟨rfl, ⟨nd, rfl⟩⟩; refine ⟨_, rfl, ?_⟩) | (go_at_call 27; (with_reducible refine (classes_Pages.calls t129 t134 _ A17.out).mono ?_); rintro e w' ⟨rfl, ⟨nd, rfl⟩⟩) | (go_at_call 37; (with_reducible refine (bits_Pow.calls (IntKind.u64.wrap (t134)) t135 _ A18.out).mono ?_); rintro e w' ⟨rfl, ⟨nd, rfl⟩⟩))
                  go_ret
                  exact ⟨by first | rfl | (simp; done) | (simp [*]; done), by repeat (first | exact Drawn0.refl _ | apply Drawn0.step)⟩
                · rw [if_neg c16] at H
                  have c16b0 : (t133 == t129) = false := beq_eq_false_iff_ne.mpr c16
                  have c16b1 : (t133 != t129) = true := bne_iff_ne.mpr c16
                  obtain rfl := Option.some.inj H
                  go_wp2_with (first | ((with_reducible refine gate_callee (f := 27) rfl ?_); refine goesL_ (some 37) rfl rfl Try.func27 (by kernel_rfl) rfl #[.int .i64 t129] rfl (by (try simp only [List.map_toArray, List.map_cons, List.map_nil]); first | done | rfl | (simp only [List.length_drop, List.length_take]; rfl)) ?_; (with_reducible refine (classes_Pages.calls t129 t132 _ A14.out).mono ?_); rintro e w' ⟨rfl, ⟨nd, rfl⟩⟩; refine ⟨_, rfl, ?_⟩) | ((with_reducible refine gate_callee (f := 29) rfl ?_); refine goesL_ (some 38) rfl rfl Try.func29 (by kernel_rfl) rfl #[.int .i64 t132] rfl (by (try simp only [List.map_toArray, List.map_cons, List.map_nil]); first | done | rfl | (simp only [List.length_drop, List.length_take]; rfl)) ?_; (with_reducible refine (classes_Class.calls kj7 t132 t133 _ A15.out).mono ?_); rintro e w' ⟨rfl, ⟨nd, rfl⟩⟩; refine ⟨_, rfl, ?_⟩))
                  go_ret
                  exact ⟨by first | rfl | (simp; done) | (simp [*]; done), by repeat (first | exact Drawn0.refl _ | apply Drawn0.step)⟩
  · replace c3 := Bool.eq_false_iff.mpr c3
    subst c3
    have H1 : (some false) = some r := by rw [if_neg (show ¬ (false = true) by decide)] at H; exact H
    clear H
    have H := H1
    clear H1
    obtain rfl := Option.some.inj H
    go_enter Try.func13, Try.ntmps13
    go_wp2_with (first | ((with_reducible refine gate_callee (f := 26) rfl ?_); refine goesL_ (some 6) rfl rfl Try.func26 (by kernel_rfl) rfl #[] rfl (by (try simp only [List.map_toArray, List.map_cons, List.map_nil]); first | done | rfl | (simp only [List.length_drop, List.length_take]; rfl)) ?_; (with_reducible refine (steadinglaw07_awake.calls k  false _ A2.out).mono ?_); rintro e w' ⟨rfl, ⟨nd, rfl⟩⟩; refine ⟨_, rfl, ?_⟩))
    go_ret
    exact ⟨by first | rfl | (simp; done) | (simp [*]; done), by repeat (first | exact Drawn0.refl _ | apply Drawn0.step)⟩

/-- THE ONE PURE STATEMENT of steadinglaw07_ClassesLeast: yours. -/
def steadinglaw07_ClassesLeast.Pure : Prop := ∀ (a0 : Int), (Lit.int .u8 a0).wf = true → ∃ k, steadinglaw07_ClassesLeast.f k a0 = some true
theorem steadinglaw07_ClassesLeast.walk (P : steadinglaw07_ClassesLeast.Pure) (a0 : Int) (w : World) (w0 : (Lit.int .u8 a0).wf = true) :
    Calls Try.prog 13 #[.int .u8 a0] w fun e w' => e = .returned (.bool true) ∧ Below w.heap.size w w' := by
  obtain ⟨k, h⟩ := P a0 w0
  refine (steadinglaw07_ClassesLeast.calls k a0 true w h).mono ?_
  rintro e w' ⟨rfl, hd⟩
  exact ⟨rfl, hd.below⟩

end Go.Proofs.Ytklccppfofhplaa.PClassesLeast
