/- WordsSigns: a number with its sign has the same bytes; of twice the width it is the same number. -/
import Derived.Test.YtkiamhpnngehaaaLawWBack
namespace Go.Proofs.Ytkiamhpnngehaaa.Sp
open Go.RowKit Go.WideMaps Go.Proofs.Ytkiamhpnngehaaa.In Go.Proofs.Ytkiamhpnngehaaa.Plain
set_option linter.unusedVariables false
set_option linter.unusedSimpArgs false

theorem sgn_range (k n : Int) (hk : wideP k) : (k = 1 → -128 ≤ sgn k n ∧ sgn k n ≤ 127) ∧ (k = 2 → -32768 ≤ sgn k n ∧ sgn k n ≤ 32767) ∧ (k = 4 → -2147483648 ≤ sgn k n ∧ sgn k n ≤ 2147483647) ∧ (k = 8 → -9223372036854775808 ≤ sgn k n ∧ sgn k n ≤ 9223372036854775807) := by
  refine ⟨?_, ?_, ?_, ?_⟩ <;> rintro rfl <;> simp [sgn] <;> omega
/-- A number with its sign, as an unsigned one. -/
def usgn (k n : Int) : Int := sgn k n % 18446744073709551616
theorem usgn_mod (k : Nat) (n : Int) (hk : wideP (k : Int)) : usgn k n % 256 ^ k = n % 256 ^ k := by
  have : k = 1 ∨ k = 2 ∨ k = 4 ∨ k = 8 := by unfold wideP at hk; omega
  rcases this with rfl | rfl | rfl | rfl <;> simp [usgn, sgn] <;> omega
theorem usgn_le (k : Nat) (n : Int) (hk : wideP (k : Int)) : le k (usgn k n) = le k n := le_inj_mod.2 (usgn_mod k n hk)
theorem sgn_twice (n : Int) : sgn 2 (usgn 1 n) = sgn 1 n ∧ sgn 4 (usgn 2 n) = sgn 2 n ∧ sgn 8 (usgn 4 n) = sgn 4 n := by
  refine ⟨?_, ?_, ?_⟩ <;> simp [usgn, sgn] <;> omega
theorem usgn8 (n : Int) (h : 0 ≤ n ∧ n ≤ 18446744073709551615) : usgn 8 n = n := by simp [usgn, sgn]; omega

set_option maxRecDepth 100000 in
set_option maxHeartbeats 1000000 in
theorem WordsSigns_any (w : World) (a0 a1 : Int) (h0 : 0 ≤ a0 ∧ a0 ≤ 18446744073709551615) (h1 : 0 ≤ a1 ∧ a1 ≤ 255) :
    Calls Try.prog 5 #[.int .u64 a0, .int .u8 a1] w fun e w' => e = .returned (.bool true) ∧ Below w.heap.size w w' := by
  obtain ⟨m, k, hm, hm3, hw, hk⟩ := widthW a1 h1.1
  have HS := Lib.hid (fun W => signed_ok (k : Int) a0 W hk h0)
  have hu : 0 ≤ usgn k a0 ∧ usgn k a0 ≤ 18446744073709551615 := by unfold usgn; omega
  have hwu : IntKind.u64.wrap (sgn k a0) = usgn k a0 := by simp [usgn, IntKind.wrap, IntKind.signed, IntKind.bits]
  obtain ⟨s, hs⟩ : ∃ s, sgn k a0 = s := ⟨_, rfl⟩
  obtain ⟨u, hus⟩ : ∃ u, usgn k a0 = u := ⟨_, rfl⟩
  rw [hs] at HS hwu
  rw [hus] at hwu hu
  have hle : le k u = le k a0 := by rw [← hus]; exact usgn_le k a0 hk
  have HK := Lib.hid hk
  have HLE := Lib.hid hle
  have HU := Lib.hid hu
  have HSU := Lib.hid (And.intro hs hus)
  clear hk hle hs hus
  go_enter Try.func5, Try.ntmps5
  go_wp2_with fail
  refine (awake2_any w).mono ?_
  rintro e w1 ⟨rfl, hb1⟩
  go_wp2_with fail
  rw [hw]
  refine (HS.out w1).mono ?_
  rintro e w2 ⟨rfl, rfl⟩
  obtain ⟨S, hS⟩ : ∃ S, strOfNums (le k a0) = S := ⟨_, rfl⟩
  have HA0 := Lib.hid h0
  have HB : RowKit.Hid (∀ (p : Nat) (x : Int) (W : World), le k x = le k a0 → 0 ≤ x ∧ x ≤ 18446744073709551615 → W.cell? ⟨p, 0, none⟩ = some (.int .u64 x) → Calls Try.prog 18 #[.int .i64 (k : Int), .slice (some ⟨p, 0, none⟩) 1 1] W fun e w' => ∃ r' : Nat, e = .returned (.slice (some ⟨r', 0, none⟩) k k) ∧ (∀ W'', Below w'.heap.size w' W'' → (convert 22 9 (.slice (some ⟨r', 0, none⟩) k k)).run Try.prog W'' = .ok (.string S) W'') ∧ Below W.heap.size W w') := by
    intro p x W hx hxr hc
    have hkb := HK.out.bd
    refine (wBytes_ok k 1 1 (some ⟨p, 0, none⟩) [x] W rfl HK.out (by omega) (fun v hv => by rw [List.mem_singleton.1 hv]; exact hxr) (fun _ => ⟨_, _, rfl, fun j hj => by
      obtain rfl : j = 0 := by omega
      exact hc⟩)).mono ?_
    rintro e w' ⟨r', rfl, hr', hz, hb'⟩
    rw [show bytesL k [x] = le k x by simp [bytesL], hx] at hz
    rw [Nat.mul_one]
    refine ⟨r', rfl, fun W'' h'' => ?_, hb'⟩
    have := (hz.row.kp (KpT.of_below h'')).string0 k k (le_length k a0)
    rw [hS] at this
    exact this
  go_wp2_with fail
  have HB1 := Lib.hid hb1
  clear h0 hu hb1
  go_region_with (go_at_call 18; go_loud (first | ((refine Calls.mono (HB.out _ a0 _ ?_ ?_ ?_) ?_); (exact rfl); (exact HA0.out); (first | exact cell_one (al_new (w := w7) (o := (.cells #[.int .u64 a0] 23)) rfl) | exact (Chg.of_below (S := fun _ => False) hb7).cell (cell_one (al_new (w := w1.alloc (.cells #[.int .u64 u] 23)) (o := (.cells #[.int .u64 a0] 23)) (size_al w1 _).symm)) (fun h => h) | exact (Chg.of_below (S := fun _ => False) hb7).cell (cell_one (al_old (w := w1.alloc (.cells #[.int .u64 a0] 23)) (al_new (w := w1) (o := (.cells #[.int .u64 a0] 23)) rfl))) (fun h => h)); (rintro e w8 ⟨r8, rfl, hdv, hb8⟩); (have hF : Below w.heap.size w w8 := by first | exact hE.trans (hb8.mono hE.size) | exact (hE.alloc hE.size (.cells #[.int .u64 a0] 23)).trans (hb8.mono (hE.alloc hE.size (.cells #[.int .u64 a0] 23)).size)); (have hdv0 := hdv _ (Below.refl _ _)); (first | (have hcvB := hcv _ hb8) | (have hcvB := hcv _ (((Below.refl w7.heap.size w7).alloc (Nat.le_refl _) _).trans (hb8.mono ((Below.refl w7.heap.size w7).alloc (Nat.le_refl _) _).size))))) | ((refine Calls.mono (HB.out _ u _ ?_ ?_ ?_) ?_); (exact HLE.out); (exact HU.out); (first | exact cell_one (al_new (w := w1) (o := (.cells #[.int .u64 u] 23)) rfl) | exact cell_one (al_old (w := w1.alloc (.cells #[.int .u64 u] 23)) (al_new (w := w1) (o := (.cells #[.int .u64 u] 23)) rfl)) | exact cell_one (al_new (w := w1.alloc (.cells #[.int .u64 a0] 23)) (o := (.cells #[.int .u64 u] 23)) (size_al w1 _).symm)); (rintro e w7 ⟨r7, rfl, hcv, hb7⟩); (have hE : Below w.heap.size w w7 := by first | exact (HB1.out.alloc HB1.out.size (.cells #[.int .u64 u] 23)).trans (hb7.mono (HB1.out.alloc HB1.out.size (.cells #[.int .u64 u] 23)).size) | exact (HB1.out.alloc HB1.out.size (.cells #[.int .u64 u] 23)).drew.trans (hb7.mono (HB1.out.alloc HB1.out.size (.cells #[.int .u64 u] 23)).size) | exact ((HB1.out.alloc HB1.out.size (.cells #[.int .u64 u] 23)).alloc (HB1.out.alloc HB1.out.size (.cells #[.int .u64 u] 23)).size (.cells #[.int .u64 a0] 23)).trans (hb7.mono ((HB1.out.alloc HB1.out.size (.cells #[.int .u64 u] 23)).alloc (HB1.out.alloc HB1.out.size (.cells #[.int .u64 u] 23)).size (.cells #[.int .u64 a0] 23)).size) | exact ((HB1.out.alloc HB1.out.size (.cells #[.int .u64 u] 23)).alloc (HB1.out.alloc HB1.out.size (.cells #[.int .u64 u] 23)).size (.cells #[.int .u64 a0] 23)).drew.trans (hb7.mono ((HB1.out.alloc HB1.out.size (.cells #[.int .u64 u] 23)).alloc (HB1.out.alloc HB1.out.size (.cells #[.int .u64 u] 23)).size (.cells #[.int .u64 a0] 23)).size) | exact ((HB1.out.alloc HB1.out.size (.cells #[.int .u64 a0] 23)).alloc (HB1.out.alloc HB1.out.size (.cells #[.int .u64 a0] 23)).size (.cells #[.int .u64 u] 23)).trans (hb7.mono ((HB1.out.alloc HB1.out.size (.cells #[.int .u64 a0] 23)).alloc (HB1.out.alloc HB1.out.size (.cells #[.int .u64 a0] 23)).size (.cells #[.int .u64 u] 23)).size) | exact ((HB1.out.alloc HB1.out.size (.cells #[.int .u64 a0] 23)).alloc (HB1.out.alloc HB1.out.size (.cells #[.int .u64 a0] 23)).size (.cells #[.int .u64 u] 23)).drew.trans (hb7.mono ((HB1.out.alloc HB1.out.size (.cells #[.int .u64 a0] 23)).alloc (HB1.out.alloc HB1.out.size (.cells #[.int .u64 a0] 23)).size (.cells #[.int .u64 u] 23)).size)); (have hcv0 := hcv _ (Below.refl _ _)); (have hcv1 := fun o => hcv _ ((Below.refl _ w7).alloc (Nat.le_refl _) o)))))
  all_goals
    (have HG := Lib.hid hF)
    clear hF hE hcv0 hcv1 hcvB hdv0 hcv hdv hb7 hb8
    (have hk4 : k = 1 ∨ k = 2 ∨ k = 4 ∨ k = 8 := by have := HK.out; unfold wideP at this; omega)
    generalize w8 = w9 at HG ⊢
    clear HB HS hw hm hm3 HLE
    rcases hk4 with rfl | rfl | rfl | rfl
    · have HF := Lib.hid (fun W => signed_ok 2 u W (.inr (.inl rfl)) HU.out)
      rw [show sgn 2 u = s by rw [← HSU.out.2, ← HSU.out.1]; exact (sgn_twice a0).1] at HF
      have hr := (sgn_range 1 a0 (.inl rfl)).1 rfl
      rw [show sgn 1 a0 = s from HSU.out.1] at hr
      obtain ⟨hr1, hr2⟩ := hr
      have hr3 : s < 128 := by omega
      clear hr2
      go_wp2_with (go_at_call 17; ((refine (HF.out _).mono ?_); rintro e w7 ⟨rfl, rfl⟩))
      go_ret
      exact ⟨rfl, by first | exact HG.out | exact HG.out.drew⟩
    · have HF := Lib.hid (fun W => signed_ok 4 u W (.inr (.inr (.inl rfl))) HU.out)
      rw [show sgn 4 u = s by rw [← HSU.out.2, ← HSU.out.1]; exact (sgn_twice a0).2.1] at HF
      have hr := (sgn_range 2 a0 (.inr (.inl rfl))).2.1 rfl
      rw [show sgn 2 a0 = s from HSU.out.1] at hr
      obtain ⟨hr1, hr2⟩ := hr
      have hr3 : s < 32768 := by omega
      clear hr2
      go_wp2_with (go_at_call 17; ((refine (HF.out _).mono ?_); rintro e w7 ⟨rfl, rfl⟩))
      go_ret
      exact ⟨rfl, by first | exact HG.out | exact HG.out.drew⟩
    · have HF := Lib.hid (fun W => signed_ok 8 u W (.inr (.inr (.inr rfl))) HU.out)
      rw [show sgn 8 u = s by rw [← HSU.out.2, ← HSU.out.1]; exact (sgn_twice a0).2.2] at HF
      have hr := (sgn_range 4 a0 (.inr (.inr (.inl rfl)))).2.2.1 rfl
      rw [show sgn 4 a0 = s from HSU.out.1] at hr
      obtain ⟨hr1, hr2⟩ := hr
      have hr3 : s < 2147483648 := by omega
      clear hr2
      go_wp2_with (go_at_call 17; ((refine (HF.out _).mono ?_); rintro e w7 ⟨rfl, rfl⟩))
      go_ret
      exact ⟨rfl, by first | exact HG.out | exact HG.out.drew⟩
    · obtain rfl : u = a0 := by rw [← HSU.out.2]; exact usgn8 a0 HA0.out
      go_wp2_with fail
      go_ret
      exact ⟨rfl, by first | exact HG.out | exact HG.out.drew⟩
theorem WordsSigns_walk (a0 a1 : Int) (w : World) (h0 : (Lit.int .u64 a0).wf = true) (h1 : (Lit.int .u8 a1).wf = true) :
    Calls Try.prog 5 #[.int .u64 a0, .int .u8 a1] w fun e w' => e = .returned (.bool true) ∧ Below w.heap.size w w' :=
  WordsSigns_any w a0 a1 (u64_lit h0) (u8_lit h1)
end Go.Proofs.Ytkiamhpnngehaaa.Sp
