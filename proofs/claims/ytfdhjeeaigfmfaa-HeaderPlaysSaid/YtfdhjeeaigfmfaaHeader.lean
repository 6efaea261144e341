/- header: whether one may be, where a page begins, its bytes. -/
import Derived.Test.YtfdhjeeaigfmfaaCellsAwake
import Derived.Test.YtfdhjeeaigfmfaaInH
namespace Go.Proofs.Ytfdhjeeaigfmfaa.Sp
open Go.RowKit Go.WideMaps Go.Proofs.Ytfdhjeeaigfmfaa.In Go.Proofs.Ytfdhjeeaigfmfaa.Plain
set_option linter.unusedVariables false
set_option linter.unusedSimpArgs false

/-- May a header be? -/
def hRight (h : Hd) : Prop := 1 ≤ h.pages ∧ h.pages ≤ 1048576 ∧ 0 ≤ h.kind ∧ h.kind ≤ 255
instance (h : Hd) : Decidable (hRight h) := by unfold hRight; infer_instance
def hdV (h : Hd) : Value := .agg #[.int .i64 h.pages, .int .i64 h.kind, .int .u64 h.owner, .int .u64 h.next]
/-- Where a page begins. -/
def atP (s : SpS) (p : Int) : Int := if 0 ≤ p ∧ p < s.pages then p * 4096 else (s.pages : Int) * 4096
def magicL : List Int := [115, 116, 101, 97, 100, 105, 110, 103]
/-- A header's bytes. -/
def hdL (h : Hd) : List Int := magicL ++ (le 4 h.pages ++ le 4 h.kind) ++ (le 8 h.owner ++ le 8 h.next)

set_option maxRecDepth 100000 in
set_option maxHeartbeats 4000000 in
theorem hright_any (h : Hd) (W : World) : Calls Try.prog 78 #[.agg #[.int .i64 h.pages, .int .i64 h.kind, .int .u64 h.owner, .int .u64 h.next]] W fun e w' => e = .returned (.bool (decide (hRight h))) ∧ Below W.heap.size W w' := by
  obtain ⟨p, k, o, n⟩ := h
  have HD : ∀ b : Bool, (hRight ⟨p, k, o, n⟩ ↔ b = true) → decide (hRight ⟨p, k, o, n⟩) = b := fun b hb => by
    cases b with
    | true => exact decide_eq_true (hb.2 rfl)
    | false => exact decide_eq_false (fun h => by have := hb.1 h; cases this)
  have HDD := Lib.hid HD
  clear HD
  simp only
  by_cases h1 : 1 ≤ p
  · by_cases h2 : p ≤ 1048576
    · by_cases h3 : 0 ≤ k
      · by_cases h4 : k < 256
        · have e : decide (hRight ⟨p, k, o, n⟩) = true := HDD.out true ⟨fun _ => rfl, fun _ => ⟨h1, h2, h3, by show k ≤ 255; omega⟩⟩
          rw [e]
          clear e
          go_enter Try.func78, Try.ntmps78
          go_wp2
          go_ret
          exact ⟨rfl, (Below.refl _ _).alloc (Nat.le_refl _) _⟩
        · have e : decide (hRight ⟨p, k, o, n⟩) = false := HDD.out false ⟨fun h => absurd h.2.2.2 (by show ¬ k ≤ 255; omega), fun h => by cases h⟩
          rw [e]
          clear e
          go_enter Try.func78, Try.ntmps78
          go_wp2
          go_ret
          exact ⟨rfl, (Below.refl _ _).alloc (Nat.le_refl _) _⟩
      · have e : decide (hRight ⟨p, k, o, n⟩) = false := HDD.out false ⟨fun h => absurd h.2.2.1 h3, fun h => by cases h⟩
        rw [e]
        clear e
        go_enter Try.func78, Try.ntmps78
        go_wp2
        go_ret
        exact ⟨rfl, (Below.refl _ _).alloc (Nat.le_refl _) _⟩
    · have e : decide (hRight ⟨p, k, o, n⟩) = false := HDD.out false ⟨fun h => absurd h.2.1 h2, fun h => by cases h⟩
      rw [e]
      clear e
      go_enter Try.func78, Try.ntmps78
      go_wp2
      go_ret
      exact ⟨rfl, (Below.refl _ _).alloc (Nat.le_refl _) _⟩
  · have e : decide (hRight ⟨p, k, o, n⟩) = false := HDD.out false ⟨fun h => absurd h.1 h1, fun h => by cases h⟩
    rw [e]
    clear e
    go_enter Try.func78, Try.ntmps78
    go_wp2
    go_ret
    exact ⟨rfl, (Below.refl _ _).alloc (Nat.le_refl _) _⟩

set_option maxRecDepth 100000 in
set_option maxHeartbeats 4000000 in
theorem St.hat {w0 W : World} {g : Nat} {s : SpS} (hs : St w0 W g s) (p : Int) (hp : -9223372036854775808 ≤ p ∧ p ≤ 9223372036854775807) : Calls Try.prog 79 #[.pointer (some ⟨g, 0, none⟩), .int .i64 p] W fun e w' => e = .returned (.int .u64 (atP s p)) ∧ W = w' := by
  have HP := Lib.hid hs.pages_
  have HS := Lib.hid hs.size_
  have hpp := hs.pages
  unfold atP
  by_cases h1 : p < 0
  · have e : ¬ (0 ≤ p ∧ p < (s.pages : Int)) := by omega
    rw [if_neg e]
    clear e hs
    go_enter Try.func79, Try.ntmps79
    go_wp2_with (first | (go_at_call 30; (with_reducible refine HP.out.mono ?_); rintro e' w' ⟨rfl, rfl⟩) | (go_at_call 31; (with_reducible refine HS.out.mono ?_); rintro e' w' ⟨rfl, rfl⟩))
    go_ret
    exact ⟨rfl, rfl⟩
  · by_cases h2 : (s.pages : Int) ≤ p
    · have e : ¬ (0 ≤ p ∧ p < (s.pages : Int)) := by omega
      rw [if_neg e]
      clear e hs
      go_enter Try.func79, Try.ntmps79
      go_wp2_with (first | (go_at_call 30; (with_reducible refine HP.out.mono ?_); rintro e' w' ⟨rfl, rfl⟩) | (go_at_call 31; (with_reducible refine HS.out.mono ?_); rintro e' w' ⟨rfl, rfl⟩))
      go_ret
      exact ⟨rfl, rfl⟩
    · have e : 0 ≤ p ∧ p < (s.pages : Int) := by omega
      rw [if_pos e]
      have h3 : p ≤ 1048576 := by omega
      clear hs
      go_enter Try.func79, Try.ntmps79
      go_wp2_with (first | (go_at_call 30; (with_reducible refine HP.out.mono ?_); rintro e' w' ⟨rfl, rfl⟩) | (go_at_call 31; (with_reducible refine HS.out.mono ?_); rintro e' w' ⟨rfl, rfl⟩))
      go_ret
      exact ⟨rfl, rfl⟩
set_option maxRecDepth 100000 in
set_option maxHeartbeats 4000000 in
theorem hat_nil (p : Int) (W : World) : Calls Try.prog 79 #[.pointer none, .int .i64 p] W fun e w' => e = .returned (.int .u64 0) ∧ W = w' := by
  by_cases h1 : p < 0
  · go_enter Try.func79, Try.ntmps79
    go_wp2_with (first | (go_at_call 30; (with_reducible refine (pages_nil _).mono ?_); rintro e' w' ⟨rfl, rfl⟩) | (go_at_call 31; (with_reducible refine (size_nil _).mono ?_); rintro e' w' ⟨rfl, rfl⟩))
    go_ret
    exact ⟨rfl, rfl⟩
  · go_enter Try.func79, Try.ntmps79
    go_wp2_with (first | (go_at_call 30; (with_reducible refine (pages_nil _).mono ?_); rintro e' w' ⟨rfl, rfl⟩) | (go_at_call 31; (with_reducible refine (size_nil _).mono ?_); rintro e' w' ⟨rfl, rfl⟩))
    go_ret
    exact ⟨rfl, rfl⟩
end Go.Proofs.Ytfdhjeeaigfmfaa.Sp
