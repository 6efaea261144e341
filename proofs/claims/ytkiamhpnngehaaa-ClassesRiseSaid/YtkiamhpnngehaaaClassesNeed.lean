/- classes.Need at an alignment that is a power of two below 8192. -/
import Derived.Test.YtkiamhpnngehaaaSpaceSmall
import Derived.Test.YtkiamhpnngehaaaBitsFacts
namespace Go.Proofs.Ytkiamhpnngehaaa.Sp
open Go.RowKit Go.WideMaps Go.Proofs.Ytkiamhpnngehaaa.Plain
set_option linter.unusedVariables false
set_option linter.unusedSimpArgs false

set_option maxRecDepth 100000 in
set_option maxHeartbeats 1000000 in
theorem bAdd_any (a b : Int) (w : World) (ha : 0 ≤ a ∧ a ≤ 18446744073709551615) (hb : 0 ≤ b ∧ b ≤ 18446744073709551615) :
    Calls Try.prog 21 #[.int .u64 a, .int .u64 b] w fun e w' => e = .returned (.tuple #[.int .u64 (addV a b), .bool (addB a b)]) ∧ w = w' := by
  go_enter Try.func21, Try.ntmps21
  have e1 : (if (IntKind.u64.wrap (a + b)) ≥ a then (some (IntKind.u64.wrap (a + b), true)) else (some (0, false))) = some (addV a b, addB a b) := add_raw ha.1 ha.2 hb.1 hb.2
  obtain ⟨s, hs⟩ : ∃ s, IntKind.u64.wrap (a + b) = s := ⟨_, rfl⟩
  rw [hs] at e1
  have E := Lib.hid e1
  clear e1 ha hb
  by_cases c : a ≤ s
  · go_wp2
    go_ret2
    have := E.out
    rw [if_pos c] at this
    injection this with this
    injection this with h1 h2
    exact ⟨by rw [← h1, ← h2]; rfl, rfl⟩
  · go_wp2
    go_ret2
    have := E.out
    rw [if_neg (by omega)] at this
    injection this with this
    injection this with h1 h2
    exact ⟨by rw [← h1, ← h2]; rfl, rfl⟩

set_option maxRecDepth 100000 in
set_option maxHeartbeats 1000000 in
theorem bPages_any (n : Int) (w : World) (hn : 0 ≤ n ∧ n ≤ 18446744073709551615) :
    Calls Try.prog 63 #[.int .u64 n] w fun e w' => e = .returned (.int .u64 (pgs n)) ∧ w = w' := by
  have hand : Go.bits .and .u64 n 4095 = n % 4096 := and_4095 hn.1 hn.2
  obtain ⟨r, hr⟩ : ∃ r, n % 4096 = r := ⟨_, rfl⟩
  rw [hr] at hand
  have hR := Lib.hid hr
  have hN := Lib.hid hn
  clear hr hn
  go_enter Try.func63, Try.ntmps63
  by_cases c : r = 0
  · subst c
    go_wp2
    go_ret
    refine ⟨?_, rfl⟩
    have e1 := hR.out
    have e2 := hN.out
    have : pgs n = n / 4096 := by unfold pgs; omega
    rw [this]
    rfl
  · go_wp2
    go_ret
    refine ⟨?_, rfl⟩
    have e1 := hR.out
    have e2 := hN.out
    have : pgs n = IntKind.u64.wrap (n / 4096 + 1) := by rw [u64w (by omega) (by omega)]; unfold pgs; omega
    rw [this]
    rfl

/-- The powers of two below 8192. -/
def Pw (a : Int) : Prop := a = 1 ∨ a = 2 ∨ a = 4 ∨ a = 8 ∨ a = 16 ∨ a = 32 ∨ a = 64 ∨ a = 128 ∨ a = 256 ∨ a = 512 ∨ a = 1024 ∨ a = 2048 ∨ a = 4096
set_option maxRecDepth 100000 in
set_option maxHeartbeats 1000000 in
theorem bPow_any (a : Int) (w : World) (h : Pw a) :
    Calls Try.prog 76 #[.int .u64 a] w fun e w' => e = .returned (.bool true) ∧ w = w' := by
  rcases h with rfl | rfl | rfl | rfl | rfl | rfl | rfl | rfl | rfl | rfl | rfl | rfl | rfl
  all_goals
    go_enter Try.func76, Try.ntmps76
    go_wp2
    go_ret
    exact ⟨rfl, rfl⟩

/-- Where bytes of an alignment begin. -/
def fst (a : Int) : Int := if a ≤ 32 then 32 else a
set_option maxRecDepth 100000 in
set_option maxHeartbeats 1000000 in
theorem bUp_any (a : Int) (w : World) (h : Pw a) :
    Calls Try.prog 62 #[.int .u64 32, .int .u64 a] w fun e w' => e = .returned (.tuple #[.int .u64 (fst a), .bool true]) ∧ w = w' := by
  have HP := Lib.hid (bPow_any a w h)
  rcases h with rfl | rfl | rfl | rfl | rfl | rfl | rfl | rfl | rfl | rfl | rfl | rfl | rfl
  all_goals
    go_enter Try.func62, Try.ntmps62
    go_wp2_with fail
    refine HP.out.mono ?_
    rintro e' w' ⟨rfl, rfl⟩
    go_wp2_with fail
    refine (bAdd_any _ _ _ (by decide) (by decide)).mono ?_
    rintro e' w' ⟨rfl, rfl⟩
    go_wp2_with fail
    go_ret2
    exact ⟨rfl, rfl⟩

def needV (s f : Int) : Int := if s = 0 then 0 else pgs (addV f s)
def needB (s f : Int) : Bool := if s = 0 then false else addB f s
theorem fst_range (a : Int) (h : Pw a) : 32 ≤ fst a ∧ fst a ≤ 4096 := by
  unfold Pw at h; unfold fst; split <;> omega
theorem fst_mono (a b : Int) (h : a ≤ b) : fst a ≤ fst b := by
  unfold fst; split <;> split <;> omega
set_option maxRecDepth 100000 in
set_option maxHeartbeats 4000000 in
theorem need_any (a : Int) (s : Int) (w : World) (h : Pw a) (hs : 0 ≤ s ∧ s ≤ 18446744073709551615) :
    Calls Try.prog 20 #[.int .u64 s, .int .u64 a] w fun e w' => e = .returned (.tuple #[.int .u64 (needV s (fst a)), .bool (needB s (fst a))]) ∧ w = w' := by
  have HU := Lib.hid (bUp_any a w h)
  have hf := fst_range a h
  have no : ¬ (4096 : Int) < a := by unfold Pw at h; omega
  have HA := Lib.hid (bAdd_any (fst a) s w (by omega) hs)
  have HP := Lib.hid (bPages_any (addV (fst a) s) w (add_range (by omega) hs.1))
  obtain ⟨f, hfe⟩ : ∃ f : Int, fst a = f := ⟨_, rfl⟩
  rw [hfe] at HU HA HP ⊢
  clear hfe hs hf h
  by_cases c : s = 0
  · subst c
    go_enter Try.func20, Try.ntmps20
    go_wp2_with fail
    go_ret2
    exact ⟨rfl, rfl⟩
  · have e1 : needV s f = pgs (addV f s) := if_neg c
    have e2 : needB s f = addB f s := if_neg c
    rw [e1, e2]
    clear e1 e2
    go_enter Try.func20, Try.ntmps20
    go_wp2_with fail
    refine HU.out.mono ?_
    rintro e w1 ⟨rfl, rfl⟩
    go_wp2_with fail
    refine HA.out.mono ?_
    rintro e w1 ⟨rfl, rfl⟩
    go_wp2_with fail
    refine HP.out.mono ?_
    rintro e w1 ⟨rfl, rfl⟩
    go_wp2_with fail
    go_ret2
    exact ⟨rfl, rfl⟩
end Go.Proofs.Ytkiamhpnngehaaa.Sp
