-- PRINTED BY print.sh 35421559b90ae4d0a3588c463048766b98c2df88dd9212a6774a882060cdf62d: not written by this session
import Derived.Test.YtklccppfofhplaaPClassesHoldx0
import Derived.Test.YtklccppfofhplaaPClassesHoldx1
namespace Go.Proofs.Ytklccppfofhplaa.PClassesHold
open Go.RowKit Go.Proofs.YtklccppfofhplaaW.PrintWords Go.Proofs.YtklccppfofhplaaW.PrintLast Go.Proofs.YtklccppfofhplaaW.PrintMore
attribute [local go_sem] max2_int min2_int max_two min_two max_three min_three max_four min_four   -- for this text's walks alone
set_option linter.unusedVariables false
set_option linter.unusedSimpArgs false

/-! ### steadinglaw07_ClassesHold: function 11 -/
def steadinglaw07_ClassesHold.f (k : Nat) (a0 : Int) (a1 : Int) : Option (Bool) := (steadinglaw07_awake.f k).bind fun t128 => (if t128 = true then (if 0 ≤ (Int.tmod a1 13) then ((classes_Chunk.f k a0 (shl .u64 1 (Int.tmod a1 13))).bind fun bt129 => (if bt129.2.2 = true then ((bits_Up.f 32 (shl .u64 1 (Int.tmod a1 13))).bind fun bt132 => ((bits_Pages.f (IntKind.u64.wrap (bt132.1 + a0))).bind fun t134 => (if (IntKind.u64.wrap (bt132.1 + a0)) > (IntKind.u64.wrap ((IntKind.u64.wrap (bt129.1)) * 4096)) then (some false) else (if bt129.2.1 = true then (if bt129.1 > 64 then (some ((IntKind.u64.wrap (bt129.1)) == t134)) else (some false)) else (if bt129.1 ≤ 64 then ((bits_Pow.f (IntKind.u64.wrap (bt129.1))).bind fun t135 => (if t135 = true then (some (decide ((IntKind.u64.wrap (bt129.1)) < (IntKind.u64.wrap (2 * t134))))) else (some false))) else (some false)))))) else (if a0 = 0 then (some true) else (some (decide (a0 > 4294963200)))))) else (none)) else (some false))
theorem steadinglaw07_ClassesHold.mono : ∀ a0 a1 k, LeO (steadinglaw07_ClassesHold.f k a0 a1) (steadinglaw07_ClassesHold.f (k + 1) a0 a1) := by
  intro a0 a1 k
  unfold steadinglaw07_ClassesHold.f
  repeat' first
      | (with_reducible exact classes_Chunk.mono _ _ _)
      | (with_reducible exact steadinglaw07_awake.mono _)
      | (with_reducible exact LeO.refl _)
      | (with_reducible exact LeO.none _)
      | (with_reducible refine LeO.ite ?_ ?_)
      | (with_reducible refine LeO.bind ?_ (fun _ => ?_))
      | exact classes_Chunk.mono _ _ _
      | exact steadinglaw07_awake.mono _
      | exact LeO.none _
      | refine LeO.ite ?_ ?_
      | refine LeO.bind ?_ (fun _ => ?_)
set_option maxHeartbeats 8000000 in
set_option maxRecDepth 100000 in
theorem steadinglaw07_ClassesHold.calls (k : Nat) (a0 : Int) (a1 : Int) (r : Bool) (w : World) (h : steadinglaw07_ClassesHold.f k a0 a1 = some r) :
    Calls Try.prog 11 #[.int .u64 a0, .int .u8 a1] w fun e w' => e = .returned (.bool r) ∧ Drawn0 w w' := by
  have H : ((steadinglaw07_awake.f k).bind fun t128 => (if t128 = true then (if 0 ≤ (Int.tmod a1 13) then ((classes_Chunk.f k a0 (shl .u64 1 (Int.tmod a1 13))).bind fun bt129 => (if bt129.2.2 = true then ((bits_Up.f 32 (shl .u64 1 (Int.tmod a1 13))).bind fun bt132 => ((bits_Pages.f (IntKind.u64.wrap (bt132.1 + a0))).bind fun t134 => (if (IntKind.u64.wrap (bt132.1 + a0)) > (IntKind.u64.wrap ((IntKind.u64.wrap (bt129.1)) * 4096)) then (some false) else (if bt129.2.1 = true then (if bt129.1 > 64 then (some ((IntKind.u64.wrap (bt129.1)) == t134)) else (some false)) else (if bt129.1 ≤ 64 then ((bits_Pow.f (IntKind.u64.wrap (bt129.1))).bind fun t135 => (if t135 = true then (some (decide ((IntKind.u64.wrap (bt129.1)) < (IntKind.u64.wrap (2 * t134))))) else (some false))) else (some false)))))) else (if a0 = 0 then (some true) else (some (decide (a0 > 4294963200)))))) else (none)) else (some false))) = some r := h
  clear h
  replace H := Option.bind_eq_some_iff.mp H
  obtain ⟨t128, A30, H⟩ := H
  replace H : (if t128 = true then (if 0 ≤ (Int.tmod a1 13) then ((classes_Chunk.f k a0 (shl .u64 1 (Int.tmod a1 13))).bind fun bt129 => (if bt129.2.2 = true then ((bits_Up.f 32 (shl .u64 1 (Int.tmod a1 13))).bind fun bt132 => ((bits_Pages.f (IntKind.u64.wrap (bt132.1 + a0))).bind fun t134 => (if (IntKind.u64.wrap (bt132.1 + a0)) > (IntKind.u64.wrap ((IntKind.u64.wrap (bt129.1)) * 4096)) then (some false) else (if bt129.2.1 = true then (if bt129.1 > 64 then (some ((IntKind.u64.wrap (bt129.1)) == t134)) else (some false)) else (if bt129.1 ≤ 64 then ((bits_Pow.f (IntKind.u64.wrap (bt129.1))).bind fun t135 => (if t135 = true then (some (decide ((IntKind.u64.wrap (bt129.1)) < (IntKind.u64.wrap (2 * t134))))) else (some false))) else (some false)))))) else (if a0 = 0 then (some true) else (some (decide (a0 > 4294963200)))))) else (none)) else (some false)) = some r := H
  have A3 := Aside0.mk A30
  clear A30
  by_cases c4 : t128 = true
  · subst c4
    have H1 : (if 0 ≤ (Int.tmod a1 13) then ((classes_Chunk.f k a0 (shl .u64 1 (Int.tmod a1 13))).bind fun bt129 => (if bt129.2.2 = true then ((bits_Up.f 32 (shl .u64 1 (Int.tmod a1 13))).bind fun bt132 => ((bits_Pages.f (IntKind.u64.wrap (bt132.1 + a0))).bind fun t134 => (if (IntKind.u64.wrap (bt132.1 + a0)) > (IntKind.u64.wrap ((IntKind.u64.wrap (bt129.1)) * 4096)) then (some false) else (if bt129.2.1 = true then (if bt129.1 > 64 then (some ((IntKind.u64.wrap (bt129.1)) == t134)) else (some false)) else (if bt129.1 ≤ 64 then ((bits_Pow.f (IntKind.u64.wrap (bt129.1))).bind fun t135 => (if t135 = true then (some (decide ((IntKind.u64.wrap (bt129.1)) < (IntKind.u64.wrap (2 * t134))))) else (some false))) else (some false)))))) else (if a0 = 0 then (some true) else (some (decide (a0 > 4294963200)))))) else (none)) = some r := by rw [if_pos rfl] at H; exact H
    clear H
    have H := H1
    clear H1
    obtain ⟨ji5, hji5⟩ : ∃ j_ : Int, (Int.tmod a1 13) = j_ := ⟨_, rfl⟩
    replace H : (if 0 ≤ (ji5) then ((classes_Chunk.f k a0 (shl .u64 1 (ji5))).bind fun bt129 => (if bt129.2.2 = true then ((bits_Up.f 32 (shl .u64 1 (ji5))).bind fun bt132 => ((bits_Pages.f (IntKind.u64.wrap (bt132.1 + a0))).bind fun t134 => (if (IntKind.u64.wrap (bt132.1 + a0)) > (IntKind.u64.wrap ((IntKind.u64.wrap (bt129.1)) * 4096)) then (some false) else (if bt129.2.1 = true then (if bt129.1 > 64 then (some ((IntKind.u64.wrap (bt129.1)) == t134)) else (some false)) else (if bt129.1 ≤ 64 then ((bits_Pow.f (IntKind.u64.wrap (bt129.1))).bind fun t135 => (if t135 = true then (some (decide ((IntKind.u64.wrap (bt129.1)) < (IntKind.u64.wrap (2 * t134))))) else (some false))) else (some false)))))) else (if a0 = 0 then (some true) else (some (decide (a0 > 4294963200)))))) else (none)) = some r := by first | (rw [hji5] at H; exact H) | (simp only [hji5] at H ⊢; exact H)
    (try rw [hji5] at A3)
    by_cases c6 : 0 ≤ (ji5)
    · rw [if_pos c6] at H
      have c6b0 := eq_true c6
      have c6b1 : decide (0 ≤ (ji5)) = true := decide_eq_true c6
      clear c6
      obtain ⟨ji7, hji7⟩ : ∃ j_ : Int, (shl .u64 1 (ji5)) = j_ := ⟨_, rfl⟩
      replace H : ((classes_Chunk.f k a0 (ji7)).bind fun bt129 => (if bt129.2.2 = true then ((bits_Up.f 32 (ji7)).bind fun bt132 => ((bits_Pages.f (IntKind.u64.wrap (bt132.1 + a0))).bind fun t134 => (if (IntKind.u64.wrap (bt132.1 + a0)) > (IntKind.u64.wrap ((IntKind.u64.wrap (bt129.1)) * 4096)) then (some false) else (if bt129.2.1 = true then (if bt129.1 > 64 then (some ((IntKind.u64.wrap (bt129.1)) == t134)) else (some false)) else (if bt129.1 ≤ 64 then ((bits_Pow.f (IntKind.u64.wrap (bt129.1))).bind fun t135 => (if t135 = true then (some (decide ((IntKind.u64.wrap (bt129.1)) < (IntKind.u64.wrap (2 * t134))))) else (some false))) else (some false)))))) else (if a0 = 0 then (some true) else (some (decide (a0 > 4294963200)))))) = some r := by first | (rw [hji7] at H; exact H) | (simp only [hji7] at H ⊢; exact H)
      (try rw [hji7] at A3)
      have hji7_ : (IntKind.u64.wrap (1 * 2 ^ min (ji5).toNat 64)) = ji7 := hji7
      have hji7z : (ji5) ≤ 64 → (IntKind.u64.wrap (1 * 2 ^ (ji5).toNat)) = ji7 := shl_small hji7
      have hji7u : (IntKind.u64.wrap (2 ^ min (ji5).toNat 64)) = ji7 := by have h_ := hji7_; rw [Int.one_mul] at h_; exact h_
      have hji7v : (ji5) ≤ 64 → (IntKind.u64.wrap (2 ^ (ji5).toNat)) = ji7 := fun hle_ => by have h_ := hji7z hle_; rw [Int.one_mul] at h_; exact h_
      replace H := Option.bind_eq_some_iff.mp H
      obtain ⟨⟨t129, t130, t131⟩, A80, H⟩ := H
      replace H : (if t131 = true then ((bits_Up.f 32 (ji7)).bind fun bt132 => ((bits_Pages.f (IntKind.u64.wrap (bt132.1 + a0))).bind fun t134 => (if (IntKind.u64.wrap (bt132.1 + a0)) > (IntKind.u64.wrap ((IntKind.u64.wrap (t129)) * 4096)) then (some false) else (if t130 = true then (if t129 > 64 then (some ((IntKind.u64.wrap (t129)) == t134)) else (some false)) else (if t129 ≤ 64 then ((bits_Pow.f (IntKind.u64.wrap (t129))).bind fun t135 => (if t135 = true then (some (decide ((IntKind.u64.wrap (t129)) < (IntKind.u64.wrap (2 * t134))))) else (some false))) else (some false)))))) else (if a0 = 0 then (some true) else (some (decide (a0 > 4294963200))))) = some r := H
      have A8 := Aside0.mk A80
      clear A80
      by_cases c9 : t131 = true
      · subst c9
        have H1 : ((bits_Up.f 32 (ji7)).bind fun bt132 => ((bits_Pages.f (IntKind.u64.wrap (bt132.1 + a0))).bind fun t134 => (if (IntKind.u64.wrap (bt132.1 + a0)) > (IntKind.u64.wrap ((IntKind.u64.wrap (t129)) * 4096)) then (some false) else (if t130 = true then (if t129 > 64 then (some ((IntKind.u64.wrap (t129)) == t134)) else (some false)) else (if t129 ≤ 64 then ((bits_Pow.f (IntKind.u64.wrap (t129))).bind fun t135 => (if t135 = true then (some (decide ((IntKind.u64.wrap (t129)) < (IntKind.u64.wrap (2 * t134))))) else (some false))) else (some false)))))) = some r := by rw [if_pos rfl] at H; exact H
        clear H
        have H := H1
        clear H1
        replace H := Option.bind_eq_some_iff.mp H
        obtain ⟨⟨t132, t133⟩, A100, H⟩ := H
        replace H : ((bits_Pages.f (IntKind.u64.wrap (t132 + a0))).bind fun t134 => (if (IntKind.u64.wrap (t132 + a0)) > (IntKind.u64.wrap ((IntKind.u64.wrap (t129)) * 4096)) then (some false) else (if t130 = true then (if t129 > 64 then (some ((IntKind.u64.wrap (t129)) == t134)) else (some false)) else (if t129 ≤ 64 then ((bits_Pow.f (IntKind.u64.wrap (t129))).bind fun t135 => (if t135 = true then (some (decide ((IntKind.u64.wrap (t129)) < (IntKind.u64.wrap (2 * t134))))) else (some false))) else (some false))))) = some r := H
        have A10 := Aside0.mk A100
        clear A100
        replace H := Option.bind_eq_some_iff.mp H
        obtain ⟨t134, A110, H⟩ := H
        replace H : (if (IntKind.u64.wrap (t132 + a0)) > (IntKind.u64.wrap ((IntKind.u64.wrap (t129)) * 4096)) then (some false) else (if t130 = true then (if t129 > 64 then (some ((IntKind.u64.wrap (t129)) == t134)) else (some false)) else (if t129 ≤ 64 then ((bits_Pow.f (IntKind.u64.wrap (t129))).bind fun t135 => (if t135 = true then (some (decide ((IntKind.u64.wrap (t129)) < (IntKind.u64.wrap (2 * t134))))) else (some false))) else (some false)))) = some r := H
        have A11 := Aside0.mk A110
        clear A110
        by_cases c12 : (IntKind.u64.wrap (t132 + a0)) > (IntKind.u64.wrap ((IntKind.u64.wrap (t129)) * 4096))
        · rw [if_pos c12] at H
          have c12b0 : decide ((IntKind.u64.wrap ((IntKind.u64.wrap (t129)) * 4096)) < (IntKind.u64.wrap (t132 + a0))) = true := decide_eq_true c12
          clear c12
          obtain rfl := Option.some.inj H
          go_enter Try.func11, Try.ntmps11
          go_wp2_with (first | ((with_reducible refine gate_callee (f := 26) rfl ?_); refine goesL_ (some 13) rfl rfl Try.func26 (by kernel_rfl) rfl #[] rfl (by (try simp only [List.map_toArray, List.map_cons, List.map_nil]); first | done | rfl | (simp only [List.length_drop, List.length_take]; rfl)) ?_; (with_reducible refine (steadinglaw07_awake.calls k  true _ A3.out).mono ?_); rintro e w' ⟨rfl, ⟨nd, rfl⟩⟩; refine ⟨_, rfl, ?_⟩) | ((with_reducible refine gate_callee (f := 33) rfl ?_); refine goesL_ (some 22) rfl rfl Try.func33 (by kernel_rfl) rfl #[.int .u64 a0, .int .u64 ji7] rfl (by (try simp only [List.map_toArray, List.map_cons, List.map_nil]); first | done | (simp only [hji7]; rfl) | rfl | (simp only [List.length_drop, List.length_take]; rfl)) ?_; (with_reducible refine (classes_Chunk.calls k a0 ji7 t129 t130 true _ A8.out).mono ?_); rintro e w' ⟨rfl, ⟨nd, rfl⟩⟩; refine ⟨_, rfl, ?_⟩) | ((with_reducible refine gate_callee (f := 35) rfl ?_); refine goesL_ (some 36) rfl rfl Try.func35 (by kernel_rfl) rfl #[.int .u64 32, .int .u64 ji7] rfl (by (try simp only [List.map_toArray, List.map_cons, List.map_nil]); first | done | (simp only [hji7]; rfl) | rfl | (simp only [List.length_drop, List.length_take]; rfl)) ?_; (with_reducible refine (bits_Up.calls 32 ji7 t132 t133 _ A10.out).mono ?_); rintro e w' ⟨rfl, ⟨nd, rfl⟩⟩; refine ⟨_, rfl, ?_⟩) | ((with_reducible refine gate_callee (f := 36) rfl ?_); refine goesL_ (some 42) rfl rfl Try.func36 (by kernel_rfl) rfl #[.int .u64 (IntKind.u64.wrap (t132 + a0))] rfl (by (try simp only [List.map_toArray, List.map_cons, List.map_nil]); first | done | rfl | (simp only [List.length_drop, List.length_take]; rfl)) ?_; (with_reducible refine (bits_Pages.calls (IntKind.u64.wrap (t132 + a0)) t134 _ A11.out).mono ?_); rintro e w' ⟨rfl, ⟨nd, rfl⟩⟩; refine ⟨_, rfl, ?_⟩))
          go_ret
          exact ⟨by first | rfl | (simp; done) | (simp only [← hji5, ← hji7] <;> (first | rfl | simp)) | (simp [*]; done), by repeat (first | exact Drawn0.refl _ | apply Drawn0.step)⟩
        · rw [if_neg c12] at H
          have c12b0 : decide ((IntKind.u64.wrap ((IntKind.u64.wrap (t129)) * 4096)) < (IntKind.u64.wrap (t132 + a0))) = false := decide_eq_false c12
          clear c12
          by_cases c13 : t130 = true
          · subst c13
            have H1 : (if t129 > 64 then (some ((IntKind.u64.wrap (t129)) == t134)) else (some false)) = some r := by rw [if_pos rfl] at H; exact H
            clear H
            have H := H1
            clear H1
            by_cases c14 : t129 > 64
            · rw [if_pos c14] at H
              have c14b0 : decide (64 < t129) = true := decide_eq_true c14
              clear c14
              obtain rfl := Option.some.inj H
              go_enter Try.func11, Try.ntmps11
              go_wp2_with (first | ((with_reducible refine gate_callee (f := 26) rfl ?_); refine goesL_ (some 13) rfl rfl Try.func26 (by kernel_rfl) rfl #[] rfl (by (try simp only [List.map_toArray, List.map_cons, List.map_nil]); first | done | rfl | (simp only [List.length_drop, List.length_take]; rfl)) ?_; (with_reducible refine (steadinglaw07_awake.calls k  true _ A3.out).mono ?_); rintro e w' ⟨rfl, ⟨nd, rfl⟩⟩; refine ⟨_, rfl, ?_⟩) | ((with_reducible refine gate_callee (f := 33) rfl ?_); refine goesL_ (some 22) rfl rfl Try.func33 (by kernel_rfl) rfl #[.int .u64 a0, .int .u64 ji7] rfl (by (try simp only [List.map_toArray, List.map_cons, List.map_nil]); first | done | (simp only [hji7]; rfl) | rfl | (simp only [List.length_drop, List.length_take]; rfl)) ?_; (with_reducible refine (classes_Chunk.calls k a0 ji7 t129 true true _ A8.out).mono ?_); rintro e w' ⟨rfl, ⟨nd, rfl⟩⟩; refine ⟨_, rfl, ?_⟩) | ((with_reducible refine gate_callee (f := 35) rfl ?_); refine goesL_ (some 36) rfl rfl Try.func35 (by kernel_rfl) rfl #[.int .u64 32, .int .u64 ji7] rfl (by (try simp only [List.map_toArray, List.map_cons, List.map_nil]); first | done | (simp only [hji7]; rfl) | rfl | (simp only [List.length_drop, List.length_take]; rfl)) ?_; (with_reducible refine (bits_Up.calls 32 ji7 t132 t133 _ A10.out).mono ?_); rintro e w' ⟨rfl, ⟨nd, rfl⟩⟩; refine ⟨_, rfl, ?_⟩) | ((with_reducible refine gate_callee (f := 36) rfl ?_); refine goesL_ (some 42) rfl rfl Try.func36 (by kernel_rfl) rfl #[.int .u64 (IntKind.u64.wrap (t132 + a0))] rfl (by (try simp only [List.map_toArray, List.map_cons, List.map_nil]); first | done | rfl | (simp only [List.length_drop, List.length_take]; rfl)) ?_; (with_reducible refine (bits_Pages.calls (IntKind.u64.wrap (t132 + a0)) t134 _ A11.out).mono ?_); rintro e w' ⟨rfl, ⟨nd, rfl⟩⟩; refine ⟨_, rfl, ?_⟩))
              go_ret
              exact ⟨by first | rfl | (simp; done) | (simp only [← hji5, ← hji7] <;> (first | rfl | simp)) | (simp [*]; done), by repeat (first | exact Drawn0.refl _ | apply Drawn0.step)⟩
            · rw [if_neg c14] at H
              have c14b0 : decide (64 < t129) = false := decide_eq_false c14
              clear c14
              obtain rfl := Option.some.inj H
              go_enter Try.func11, Try.ntmps11
              go_wp2_with (first | ((with_reducible refine gate_callee (f := 26) rfl ?_); refine goesL_ (some 13) rfl rfl Try.func26 (by kernel_rfl) rfl #[] rfl (by (try simp only [List.map_toArray, List.map_cons, List.map_nil]); first | done | rfl | (simp only [List.length_drop, List.length_take]; rfl)) ?_; (with_reducible refine (steadinglaw07_awake.calls k  true _ A3.out).mono ?_); rintro e w' ⟨rfl, ⟨nd, rfl⟩⟩; refine ⟨_, rfl, ?_⟩) | ((with_reducible refine gate_callee (f := 33) rfl ?_); refine goesL_ (some 22) rfl rfl Try.func33 (by kernel_rfl) rfl #[.int .u64 a0, .int .u64 ji7] rfl (by (try simp only [List.map_toArray, List.map_cons, List.map_nil]); first | done | (simp only [hji7]; rfl) | rfl | (simp only [List.length_drop, List.length_take]; rfl)) ?_; (with_reducible refine (classes_Chunk.calls k a0 ji7 t129 true true _ A8.out).mono ?_); rintro e w' ⟨rfl, ⟨nd, rfl⟩⟩; refine ⟨_, rfl, ?_⟩) | ((with_reducible refine gate_callee (f := 35) rfl ?_); refine goesL_ (some 36) rfl rfl Try.func35 (by kernel_rfl) rfl #[.int .u64 32, .int .u64 ji7] rfl (by (try simp only [List.map_toArray, List.map_cons, List.map_nil]); first | done | (simp only [hji7]; rfl) | rfl | (simp only [List.length_drop, List.length_take]; rfl)) ?_; (with_reducible refine (bits_Up.calls 32 ji7 t132 t133 _ A10.out).mono ?_); rintro e w' ⟨rfl, ⟨nd, rfl⟩⟩; refine ⟨_, rfl, ?_⟩) | ((with_reducible refine gate_callee (f := 36) rfl ?_); refine goesL_ (some 42) rfl rfl Try.func36 (by kernel_rfl) rfl #[.int .u64 (IntKind.u64.wrap (t132 + a0))] rfl (by (try simp only [List.map_toArray, List.map_cons, List.map_nil]); first | done | rfl | (simp only [List.length_drop, List.length_take]; rfl)) ?_; (with_reducible refine (bits_Pages.calls (IntKind.u64.wrap (t132 + a0)) t134 _ A11.out).mono ?_); rintro e w' ⟨rfl, ⟨nd, rfl⟩⟩; refine ⟨_, rfl, ?_⟩))
              go_ret
              exact ⟨by first | rfl | (simp; done) | (simp only [← hji5, ← hji7] <;> (first | rfl | simp)) | (simp [*]; done), by repeat (first | exact Drawn0.refl _ | apply Drawn0.step)⟩
          · replace c13 := Bool.eq_false_iff.mpr c13
            subst c13
            have H1 : (if t129 ≤ 64 then ((bits_Pow.f (IntKind.u64.wrap (t129))).bind fun t135 => (if t135 = true then (some (decide ((IntKind.u64.wrap (t129)) < (IntKind.u64.wrap (2 * t134))))) else (some false))) else (some false)) = some r := by rw [if_neg (show ¬ (false = true) by decide)] at H; exact H
            clear H
            have H := H1
            clear H1
            by_cases c15 : t129 ≤ 64
            · rw [if_pos c15] at H
              have c15b0 : decide (t129 ≤ 64) = true := decide_eq_true c15
              clear c15
              replace H := Option.bind_eq_some_iff.mp H
              obtain ⟨t135, A160, H⟩ := H
              replace H : (if t135 = true then (some (decide ((IntKind.u64.wrap (t129)) < (IntKind.u64.wrap (2 * t134))))) else (some false)) = some r := H
              have A16 := Aside0.mk A160
              clear A160
              by_cases c17 : t135 = true
              · subst c17
                have H1 : (some (decide ((IntKind.u64.wrap (t129)) < (IntKind.u64.wrap (2 * t134))))) = some r := by rw [if_pos rfl] at H; exact H
                clear H
                have H := H1
                clear H1
                obtain rfl := Option.some.inj H
                go_enter Try.func11, Try.ntmps11
                go_wp2_with (first | ((with_reducible refine gate_callee (f := 26) rfl ?_); refine goesL_ (some 13) rfl rfl Try.func26 (by kernel_rfl) rfl #[] rfl (by (try simp only [List.map_toArray, List.map_cons, List.map_nil]); first | done | rfl | (simp only [List.length_drop, List.length_take]; rfl)) ?_; (with_reducible refine (steadinglaw07_awake.calls k  true _ A3.out).mono ?_); rintro e w' ⟨rfl, ⟨nd, rfl⟩⟩; refine ⟨_, rfl, ?_⟩) | ((with_reducible refine gate_callee (f := 33) rfl ?_); refine goesL_ (some 22) rfl rfl Try.func33 (by kernel_rfl) rfl #[.int .u64 a0, .int .u64 ji7] rfl (by (try simp only [List.map_toArray, List.map_cons, List.map_nil]); first | done | (simp only [hji7]; rfl) | rfl | (simp only [List.length_drop, List.length_take]; rfl)) ?_; (with_reducible refine (classes_Chunk.calls k a0 ji7 t129 false true _ A8.out).mono ?_); rintro e w' ⟨rfl, ⟨nd, rfl⟩⟩; refine ⟨_, rfl, ?_⟩) | ((with_reducible refine gate_callee (f := 35) rfl ?_); refine goesL_ (some 36) rfl rfl Try.func35 (by kernel_rfl) rfl #[.int .u64 32, .int .u64 ji7] rfl (by (try simp only [List.map_toArray, List.map_cons, List.map_nil]); first | done | (simp only [hji7]; rfl) | rfl | (simp only [List.length_drop, List.length_take]; rfl)) ?_; (with_reducible refine (bits_Up.calls 32 ji7 t132 t133 _ A10.out).mono ?_); rintro e w' ⟨rfl, ⟨nd, rfl⟩⟩; refine ⟨_, rfl, ?_⟩) | ((with_reducible refine gate_callee (f := 36) rfl ?_); refine goesL_ (some 42) rfl rfl Try.func36 (by kernel_rfl) rfl #[.int .u64 (IntKind.u64.wrap (t132 + a0))] rfl (by (try simp only [List.map_toArray, List.map_cons, List.map_nil]); first | done | rfl | (simp only [List.length_drop, List.length_take]; rfl)) ?_; (with_reducible refine (bits_Pages.calls (IntKind.u64.wrap (t132 + a0)) t134 _ A11.out).mono ?_); rintro e w' ⟨rfl, ⟨nd, rfl⟩⟩; refine ⟨_, rfl, ?_⟩) | (go_at_call 37; (with_reducible refine (bits_Pow.calls (IntKind.u64.wrap (t129)) true _ A16.out).mono ?_); rintro e w' ⟨rfl, ⟨nd, rfl⟩⟩))
                go_ret
                exact ⟨by first | rfl | (simp; done) | (simp only [← hji5, ← hji7] <;> (first | rfl | simp)) | (simp [*]; done), by repeat (first | exact Drawn0.refl _ | apply Drawn0.step)⟩
              · replace c17 := Bool.eq_false_iff.mpr c17
                subst c17
                have H1 : (some false) = some r := by rw [if_neg (show ¬ (false = true) by decide)] at H; exact H
                clear H
                have H := H1
                clear H1
                obtain rfl := Option.some.inj H
                go_enter Try.func11, Try.ntmps11
                go_wp2_with (first | ((with_reducible refine gate_callee (f := 26) rfl ?_); refine goesL_ (some 13) rfl rfl Try.func26 (by kernel_rfl) rfl #[] rfl (by (try simp only [List.map_toArray, List.map_cons, List.map_nil]); first | done | rfl | (simp only [List.length_drop, List.length_take]; rfl)) ?_; (with_reducible refine (steadinglaw07_awake.calls k  true _ A3.out).mono ?_); rintro e w' ⟨rfl, ⟨nd, rfl⟩⟩; refine ⟨_, rfl, ?_⟩) | ((with_reducible refine gate_callee (f := 33) rfl ?_); refine goesL_ (some 22) rfl rfl Try.func33 (by kernel_rfl) rfl #[.int .u64 a0, .int .u64 ji7] rfl (by (try simp only [List.map_toArray, List.map_cons, List.map_nil]); first | done | (simp only [hji7]; rfl) | rfl | (simp only [List.length_drop, List.length_take]; rfl)) ?_; (with_reducible refine (classes_Chunk.calls k a0 ji7 t129 false true _ A8.out).mono ?_); rintro e w' ⟨rfl, ⟨nd, rfl⟩⟩; refine ⟨_, rfl, ?_⟩) | ((with_reducible refine gate_callee (f := 35) rfl ?_); refine goesL_ (some 36) rfl rfl Try.func35 (by kernel_rfl) rfl #[.int .u64 32, .int .u64 ji7] rfl (by (try simp only [List.map_toArray, List.map_cons, List.map_nil]); first | done | (simp only [hji7]; rfl) | rfl | (simp only [List.length_drop, List.length_take]; rfl)) ?_; (with_reducible refine (bits_Up.calls 32 ji7 t132 t133 _ A10.out).mono ?_); rintro e w' ⟨rfl, ⟨nd, rfl⟩⟩; refine ⟨_, rfl, ?_⟩) | ((with_reducible refine gate_callee (f := 36) rfl ?_); refine goesL_ (some 42) rfl rfl Try.func36 (by kernel_rfl) rfl #[.int .u64 (IntKind.u64.wrap (t132 + a0))] rfl (by (try simp only [List.map_toArray, List.map_cons, List.map_nil]); first | done | rfl | (simp only [List.length_drop, List.length_take]; rfl)) ?_; (with_reducible refine (bits_Pages.calls (IntKind.u64.wrap (t132 + a0)) t134 _ A11.out).mono ?_); rintro e w' ⟨rfl, ⟨nd, rfl⟩⟩; refine ⟨_, rfl, ?_⟩) | (go_at_call 37; (with_reducible refine (bits_Pow.calls (IntKind.u64.wrap (t129)) false _ A16.out).mono ?_); rintro e w' ⟨rfl, ⟨nd, rfl⟩⟩))
                go_ret
                exact ⟨by first | rfl | (simp; done) | (simp only [← hji5, ← hji7] <;> (first | rfl | simp)) | (simp [*]; done), by repeat (first | exact Drawn0.refl _ | apply Drawn0.step)⟩
            · rw [if_neg c15] at H
              have c15b0 : decide (t129 ≤ 64) = false := decide_eq_false c15
              clear c15
              obtain rfl := Option.some.inj H
              go_enter Try.func11, Try.ntmps11
              go_wp2_with (first | ((with_reducible refine gate_callee (f := 26) rfl ?_); refine goesL_ (some 13) rfl rfl Try.func26 (by kernel_rfl) rfl #[] rfl (by (try simp only [List.map_toArray, List.map_cons, List.map_nil]); first | done | rfl | (simp only [List.length_drop, List.length_take]; rfl)) ?_; (with_reducible refine (steadinglaw07_awake.calls k  true _ A3.out).mono ?_); rintro e w' ⟨rfl, ⟨nd, rfl⟩⟩; refine ⟨_, rfl, ?_⟩) | ((with_reducible refine gate_callee (f := 33) rfl ?_); refine goesL_ (some 22) rfl rfl Try.func33 (by kernel_rfl) rfl #[.int .u64 a0, .int .u64 ji7] rfl (by (try simp only [List.map_toArray, List.map_cons, List.map_nil]); first | done | (simp only [hji7]; rfl) | rfl | (simp only [List.length_drop, List.length_take]; rfl)) ?_; (with_reducible refine (classes_Chunk.calls k a0 ji7 t129 false true _ A8.out).mono ?_); rintro e w' ⟨rfl, ⟨nd, rfl⟩⟩; refine ⟨_, rfl, ?_⟩) | ((with_reducible refine gate_callee (f := 35) rfl ?_); refine goesL_ (some 36) rfl rfl Try.func35 (by kernel_rfl) rfl #[.int .u64 32, .int .u64 ji7] rfl (by (try simp only [List.map_toArray, List.map_cons, List.map_nil]); first | done | (simp only [hji7]; rfl) | rfl | (simp only [List.length_drop, List.length_take]; rfl)) ?_; (with_reducible refine (bits_Up.calls 32 ji7 t132 t133 _ A10.out).mono ?_); rintro e w' ⟨rfl, ⟨nd, rfl⟩⟩; refine ⟨_, rfl, ?_⟩) | ((with_reducible refine gate_callee (f := 36) rfl ?_); refine goesL_ (some 42) rfl rfl Try.func36 (by kernel_rfl) rfl #[.int .u64 (IntKind.u64.wrap (t132 + a0))] rfl (by (try simp only [List.map_toArray, List.map_cons, List.map_nil]); first | done | rfl | (simp only [List.length_drop, List.length_take]; rfl)) ?_; (with_reducible refine (bits_Pages.calls (IntKind.u64.wrap (t132 + a0)) t134 _ A11.out).mono ?_); rintro e w' ⟨rfl, ⟨nd, rfl⟩⟩; refine ⟨_, rfl, ?_⟩))
              go_ret
              exact ⟨by first | rfl | (simp; done) | (simp only [← hji5, ← hji7] <;> (first | rfl | simp)) | (simp [*]; done), by repeat (first | exact Drawn0.refl _ | apply Drawn0.step)⟩
      · replace c9 := Bool.eq_false_iff.mpr c9
        subst c9
        have H1 : (if a0 = 0 then (some true) else (some (decide (a0 > 4294963200)))) = some r := by rw [if_neg (show ¬ (false = true) by decide)] at H; exact H
        clear H
        have H := H1
        clear H1
        by_cases c18 : a0 = 0
        · rw [if_pos c18] at H
          have c18b0 : (a0 == 0) = true := beq_iff_eq.mpr c18
          have c18b1 : (a0 != 0) = false := bne_eq_false_iff_eq.mpr c18
          clear c18
          obtain rfl := Option.some.inj H
          go_enter Try.func11, Try.ntmps11
          go_wp2_with (first | ((with_reducible refine gate_callee (f := 26) rfl ?_); refine goesL_ (some 13) rfl rfl Try.func26 (by kernel_rfl) rfl #[] rfl (by (try simp only [List.map_toArray, List.map_cons, List.map_nil]); first | done | rfl | (simp only [List.length_drop, List.length_take]; rfl)) ?_; (with_reducible refine (steadinglaw07_awake.calls k  true _ A3.out).mono ?_); rintro e w' ⟨rfl, ⟨nd, rfl⟩⟩; refine ⟨_, rfl, ?_⟩) | ((with_reducible refine gate_callee (f := 33) rfl ?_); refine goesL_ (some 22) rfl rfl Try.func33 (by kernel_rfl) rfl #[.int .u64 a0, .int .u64 ji7] rfl (by (try simp only [List.map_toArray, List.map_cons, List.map_nil]); first | done | (simp only [hji7]; rfl) | rfl | (simp only [List.length_drop, List.length_take]; rfl)) ?_; (with_reducible refine (classes_Chunk.calls k a0 ji7 t129 t130 false _ A8.out).mono ?_); rintro e w' ⟨rfl, ⟨nd, rfl⟩⟩; refine ⟨_, rfl, ?_⟩))
          go_ret
          exact ⟨by first | rfl | (simp; done) | (simp only [← hji5, ← hji7] <;> (first | rfl | simp)) | (simp [*]; done), by repeat (first | exact Drawn0.refl _ | apply Drawn0.step)⟩
        · rw [if_neg c18] at H
          have c18b0 : (a0 == 0) = false := beq_eq_false_iff_ne.mpr c18
          have c18b1 : (a0 != 0) = true := bne_iff_ne.mpr c18
          obtain rfl := Option.some.inj H
          go_enter Try.func11, Try.ntmps11
          go_wp2_with (first | ((with_reducible refine gate_callee (f := 26) rfl ?_); refine goesL_ (some 13) rfl rfl Try.func26 (by kernel_rfl) rfl #[] rfl (by (try simp only [List.map_toArray, List.map_cons, List.map_nil]); first | done | rfl | (simp only [List.length_drop, List.length_take]; rfl)) ?_; (with_reducible refine (steadinglaw07_awake.calls k  true _ A3.out).mono ?_); rintro e w' ⟨rfl, ⟨nd, rfl⟩⟩; refine ⟨_, rfl, ?_⟩) | ((with_reducible refine gate_callee (f := 33) rfl ?_); refine goesL_ (some 22) rfl rfl Try.func33 (by kernel_rfl) rfl #[.int .u64 a0, .int .u64 ji7] rfl (by (try simp only [List.map_toArray, List.map_cons, List.map_nil]); first | done | (simp only [hji7]; rfl) | rfl | (simp only [List.length_drop, List.length_take]; rfl)) ?_; (with_reducible refine (classes_Chunk.calls k a0 ji7 t129 t130 false _ A8.out).mono ?_); rintro e w' ⟨rfl, ⟨nd, rfl⟩⟩; refine ⟨_, rfl, ?_⟩))
          go_ret
          exact ⟨by first | rfl | (simp; done) | (simp only [← hji5, ← hji7] <;> (first | rfl | simp)) | (simp [*]; done), by repeat (first | exact Drawn0.refl _ | apply Drawn0.step)⟩
    · rw [if_neg c6] at H
      exact absurd H (by simp)
  · replace c4 := Bool.eq_false_iff.mpr c4
    subst c4
    have H1 : (some false) = some r := by rw [if_neg (show ¬ (false = true) by decide)] at H; exact H
    clear H
    have H := H1
    clear H1
    obtain rfl := Option.some.inj H
    go_enter Try.func11, Try.ntmps11
    go_wp2_with (first | ((with_reducible refine gate_callee (f := 26) rfl ?_); refine goesL_ (some 13) rfl rfl Try.func26 (by kernel_rfl) rfl #[] rfl (by (try simp only [List.map_toArray, List.map_cons, List.map_nil]); first | done | rfl | (simp only [List.length_drop, List.length_take]; rfl)) ?_; (with_reducible refine (steadinglaw07_awake.calls k  false _ A3.out).mono ?_); rintro e w' ⟨rfl, ⟨nd, rfl⟩⟩; refine ⟨_, rfl, ?_⟩))
    go_ret
    exact ⟨by first | rfl | (simp; done) | (simp [*]; done), by repeat (first | exact Drawn0.refl _ | apply Drawn0.step)⟩

/-- THE ONE PURE STATEMENT of steadinglaw07_ClassesHold: yours. -/
def steadinglaw07_ClassesHold.Pure : Prop := ∀ (a0 : Int) (a1 : Int), (Lit.int .u64 a0).wf = true → (Lit.int .u8 a1).wf = true → ∃ k, steadinglaw07_ClassesHold.f k a0 a1 = some true
theorem steadinglaw07_ClassesHold.walk (P : steadinglaw07_ClassesHold.Pure) (a0 : Int) (a1 : Int) (w : World) (w0 : (Lit.int .u64 a0).wf = true) (w1 : (Lit.int .u8 a1).wf = true) :
    Calls Try.prog 11 #[.int .u64 a0, .int .u8 a1] w fun e w' => e = .returned (.bool true) ∧ Below w.heap.size w w' := by
  obtain ⟨k, h⟩ := P a0 a1 w0 w1
  refine (steadinglaw07_ClassesHold.calls k a0 a1 true w h).mono ?_
  rintro e w' ⟨rfl, hd⟩
  exact ⟨rfl, hd.below⟩

end Go.Proofs.Ytklccppfofhplaa.PClassesHold
