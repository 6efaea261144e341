/- ClassesRise: more bytes, or a greater alignment, need no less pages. -/
import Derived.Test.YtkiamhpnngehaaaClassesAwake
namespace Go.Proofs.Ytkiamhpnngehaaa.Sp
open Go.RowKit Go.WideMaps Go.Proofs.Ytkiamhpnngehaaa.In Go.Proofs.Ytkiamhpnngehaaa.Plain
set_option linter.unusedVariables false
set_option linter.unusedSimpArgs false

theorem pw_in (z : Nat) (h : z < 13) : IntKind.u64.wrap (2 ^ z) = 2 ^ z := by
  have h : z = 0 ∨ z = 1 ∨ z = 2 ∨ z = 3 ∨ z = 4 ∨ z = 5 ∨ z = 6 ∨ z = 7 ∨ z = 8 ∨ z = 9 ∨ z = 10 ∨ z = 11 ∨ z = 12 := by omega
  rcases h with rfl | rfl | rfl | rfl | rfl | rfl | rfl | rfl | rfl | rfl | rfl | rfl | rfl <;> decide
theorem hpw (z : Nat) (h : z < 13) : Pw (IntKind.u64.wrap (2 ^ z)) := by
  rw [pw_in z h]
  have h : z = 0 ∨ z = 1 ∨ z = 2 ∨ z = 3 ∨ z = 4 ∨ z = 5 ∨ z = 6 ∨ z = 7 ∨ z = 8 ∨ z = 9 ∨ z = 10 ∨ z = 11 ∨ z = 12 := by omega
  rcases h with rfl | rfl | rfl | rfl | rfl | rfl | rfl | rfl | rfl | rfl | rfl | rfl | rfl <;> simp [Pw]
theorem hmo (z u : Nat) (h : z ≤ u) (hu : u < 13) : IntKind.u64.wrap (2 ^ z) ≤ IntKind.u64.wrap (2 ^ u) := by
  rw [pw_in z (by omega), pw_in u hu]
  have h1 : 2 ^ z ≤ 2 ^ u := Nat.pow_le_pow_right (by omega) h
  have e1 : ((2 ^ z : Nat) : Int) = 2 ^ z := by simp
  have e2 : ((2 ^ u : Nat) : Int) = 2 ^ u := by simp
  omega
/-- What the law asks for. -/
theorem rise_key (a0 a1 : Int) (h0 : 0 ≤ a0 ∧ a0 ≤ 18446744073709551615) (h1 : 0 ≤ a1 ∧ a1 ≤ 18446744073709551615) (z u : Nat) (hz : z < 13) (hu : u < 13) (hzu : z ≤ u) : ∃ a b : Int, IntKind.u64.wrap (2 ^ z) = a ∧ IntKind.u64.wrap (2 ^ u) = b ∧ ∃ (n m o s : Int) (p q k r : Bool), RowKit.Hid (∀ W, Calls Try.prog 20 #[.int .u64 a0, .int .u64 a] W fun e w' => e = .returned (.tuple #[.int .u64 n, .bool p]) ∧ W = w') ∧
      RowKit.Hid (∀ W, Calls Try.prog 20 #[.int .u64 a0, .int .u64 b] W fun e w' => e = .returned (.tuple #[.int .u64 m, .bool q]) ∧ W = w') ∧
      RowKit.Hid (∀ W, Calls Try.prog 21 #[.int .u64 a0, .int .u64 a1] W fun e w' => e = .returned (.tuple #[.int .u64 s, .bool k]) ∧ W = w') ∧
      RowKit.Hid (∀ W, Calls Try.prog 20 #[.int .u64 s, .int .u64 a] W fun e w' => e = .returned (.tuple #[.int .u64 o, .bool r]) ∧ W = w') ∧
      ((p = true → q = true → n ≤ m) ∧ (q = true → p = true)) ∧ (k = true → p = true → r = true → n ≤ o) := by
  have pa := hpw z hz
  have pb := hpw u hu
  have ab := fst_mono _ _ (hmo z u hzu hu)
  have ra := fst_range _ pa
  have rb := fst_range _ pb
  have hs := add_range (a := a0) (b := a1) h0.1 h1.1
  exact ⟨_, _, rfl, rfl, _, _, _, _, _, _, _, _, Lib.hid (fun W => need_any _ a0 W pa h0), Lib.hid (fun W => need_any _ a0 W pb h0), Lib.hid (fun W => bAdd_any a0 a1 W h0 h1), Lib.hid (fun W => need_any _ _ W pa hs), rise_1 a0 _ _ h0 ra rb ab, rise_2 a0 a1 _ h0 h1 ra⟩

set_option maxRecDepth 100000 in
set_option maxHeartbeats 1000000 in
theorem ClassesRise_any (w : World) (a0 a1 a2 a3 : Int) (h0 : 0 ≤ a0 ∧ a0 ≤ 18446744073709551615) (h1 : 0 ≤ a1 ∧ a1 ≤ 18446744073709551615) (h2 : 0 ≤ a2 ∧ a2 ≤ 255) (h3 : 0 ≤ a3 ∧ a3 ≤ 255) :
    Calls Try.prog 8 #[.int .u64 a0, .int .u64 a1, .int .u8 a2, .int .u8 a3] w fun e w' => e = .returned (.bool true) ∧ Below w.heap.size w w' := by
  obtain ⟨x, hx⟩ : ∃ x : Nat, a2.tmod 13 = x := ⟨(a2.tmod 13).toNat, by rw [Int.tmod_eq_emod_of_nonneg h2.1]; omega⟩
  obtain ⟨y, hy⟩ : ∃ y : Nat, a3.tmod 13 = y := ⟨(a3.tmod 13).toNat, by rw [Int.tmod_eq_emod_of_nonneg h3.1]; omega⟩
  have hx13 : x < 13 := by rw [Int.tmod_eq_emod_of_nonneg h2.1] at hx; omega
  have hy13 : y < 13 := by rw [Int.tmod_eq_emod_of_nonneg h3.1] at hy; omega
  have hx64 : wrap64 (x : Int) = x := (by unfold wrap64; omega)
  have hy64 : wrap64 (y : Int) = y := (by unfold wrap64; omega)
  have hx8 : (x : Int) % 256 = x := by omega
  have hy8 : (y : Int) % 256 = y := by omega
  have H := Lib.hid (And.intro h0 (And.intro h1 (And.intro h2 h3)))
  clear h0 h1 h2 h3
  go_enter Try.func8, Try.ntmps8
  go_wp2_with fail
  refine (awake7_any w).mono ?_
  rintro e w1 ⟨rfl, rfl⟩
  obtain ⟨h0, h1, h2, h3⟩ := H.out
  have key := rise_key a0 a1 h0 h1
  clear H h0 h1 h2 h3
  by_cases hxy : (x : Int) < (y : Int)
  case' pos =>
    have hle : (x : Int) ≤ (y : Int) := by omega
    obtain ⟨a, b, hza, hzb, n, m, o, s, p, q, k, r, HN, HM, HA, HO, hp, hk⟩ := key x y hx13 hy13 (by omega)
  case' neg =>
    by_cases hle : (x : Int) ≤ (y : Int)
    case' pos =>
      obtain rfl : x = y := by omega
      obtain ⟨a, b, hza, hzb, n, m, o, s, p, q, k, r, HN, HM, HA, HO, hp, hk⟩ := key x x hx13 hx13 (by omega)
      obtain rfl : a = b := hza.symm.trans hzb
      clear hzb
    case' neg =>
      obtain ⟨a, b, hza, hzb, n, m, o, s, p, q, k, r, HN, HM, HA, HO, hp, hk⟩ := key y x hy13 hx13 (by omega)
  all_goals
    have HP := Lib.hid (And.intro hp hk)
    clear hp hk key
    go_wp2_with fail
    refine (HN.out _).mono ?_
    rintro e w1 ⟨rfl, rfl⟩
    go_wp2_with fail
    refine (HM.out _).mono ?_
    rintro e w1 ⟨rfl, rfl⟩
    go_wp2_with fail
    refine (HA.out _).mono ?_
    rintro e w1 ⟨rfl, rfl⟩
    go_wp2_with fail
    refine (HO.out _).mono ?_
    rintro e w1 ⟨rfl, rfl⟩
    clear HN HM HA HO
    rcases p with _ | _ <;> rcases q with _ | _
    · rcases k with _ | _ <;> rcases r with _ | _ <;> (go_wp2_with fail; go_ret; exact ⟨rfl, Below.refl _ _⟩)
    · exact absurd (HP.out.1.2 rfl) (by decide)
    · rcases k with _ | _ <;> rcases r with _ | _
      · (go_wp2_with fail; go_ret; exact ⟨rfl, Below.refl _ _⟩)
      · (go_wp2_with fail; go_ret; exact ⟨rfl, Below.refl _ _⟩)
      · (go_wp2_with fail; go_ret; exact ⟨rfl, Below.refl _ _⟩)
      · have hno := HP.out.2 rfl rfl rfl
        (go_wp2_with fail; go_ret; exact ⟨rfl, Below.refl _ _⟩)
    · have hnm : ¬ m < n := by have := HP.out.1.1 rfl rfl; omega
      rcases k with _ | _ <;> rcases r with _ | _
      · (go_wp2_with fail; go_ret; exact ⟨rfl, Below.refl _ _⟩)
      · (go_wp2_with fail; go_ret; exact ⟨rfl, Below.refl _ _⟩)
      · (go_wp2_with fail; go_ret; exact ⟨rfl, Below.refl _ _⟩)
      · have hno := HP.out.2 rfl rfl rfl
        (go_wp2_with fail; go_ret; exact ⟨rfl, Below.refl _ _⟩)

theorem ClassesRise_walk (a0 a1 a2 a3 : Int) (w : World) (h0 : (Lit.int .u64 a0).wf = true) (h1 : (Lit.int .u64 a1).wf = true) (h2 : (Lit.int .u8 a2).wf = true) (h3 : (Lit.int .u8 a3).wf = true) :
    Calls Try.prog 8 #[.int .u64 a0, .int .u64 a1, .int .u8 a2, .int .u8 a3] w fun e w' => e = .returned (.bool true) ∧ Below w.heap.size w w' :=
  ClassesRise_any w a0 a1 a2 a3 (wf_u64 h0) (wf_u64 h1) (wf_u8 h2) (wf_u8 h3)
end Go.Proofs.Ytkiamhpnngehaaa.Sp
