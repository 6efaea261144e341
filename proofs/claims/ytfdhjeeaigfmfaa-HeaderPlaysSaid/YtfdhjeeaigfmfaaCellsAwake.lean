/- The document's example of cells comes out. -/
import Derived.Test.YtfdhjeeaigfmfaaCellsFill
namespace Go.Proofs.Ytfdhjeeaigfmfaa.Sp
open Go.RowKit Go.WideMaps Go.Proofs.Ytfdhjeeaigfmfaa.In Go.Proofs.Ytfdhjeeaigfmfaa.Plain
set_option linter.unusedVariables false

theorem got_put (mem : Nat → Int) (t k : Nat) (n : Int) : num (seen (lay mem t (le k n)) t k) = n % 256 ^ k := by
  have := seen_lay_same mem t (le k n)
  rw [le_length] at this
  rw [this, num_le]
theorem rightC_of {t k : Nat} (hw : wideP (k : Int)) (h : t % k = 0) : rightC (t : Int) (k : Int) := ⟨hw, by rw [← Int.natCast_emod, h]; rfl⟩

set_option maxRecDepth 100000 in
set_option maxHeartbeats 4000000 in
theorem awake4_any (w : World) : Calls Try.prog 33 #[] w fun e w' => e = .returned (.bool true) ∧ Below w.heap.size w w' := by
  have R : rightC ((4 : Nat) : Int) ((2 : Nat) : Int) := rightC_of (by decide) (by decide)
  go_enter Try.func33, Try.ntmps33
  go_wp2_with fail
  refine (St.new 1 (Below.refl _ _)).mono ?_
  rintro e w1 ⟨g, rfl, hg, hs1, hb1⟩
  go_wp2_with fail
  refine (hs1.put 4 2 258 R (by decide) (by decide)).mono ?_
  rintro e w2 ⟨rfl, hs2, hk2⟩
  go_wp2_with fail
  refine (hs2.add 4 2 65535 R (by decide)).mono ?_
  rintro e w3 ⟨he, hs3, hk3⟩
  have e1 : num (seen (lay (newS 1).mem 4 (le 2 258)) 4 2) = 258 := by rw [got_put]; decide
  have he2 : e = .returned (.tuple #[.int .u64 258, .int .i64 0]) := by rw [he]; exact congrArg (fun x => Ending.returned (.tuple #[.int .u64 x, .int .i64 0])) e1
  subst he2
  clear he
  go_wp2_with fail
  refine (hs3.get 4 2 R (by decide)).mono ?_
  rintro e w4 ⟨he, hs4, hk4⟩
  have e2 : num (seen (lay (lay (newS 1).mem 4 (le 2 258)) 4 (le 2 (IntKind.u64.wrap (num (seen (lay (newS 1).mem 4 (le 2 258)) 4 2) + 65535)))) 4 2) = 257 := by rw [got_put, e1]; decide
  have he2 : e = .returned (.tuple #[.int .u64 257, .int .i64 0]) := by rw [he]; exact congrArg (fun x => Ending.returned (.tuple #[.int .u64 x, .int .i64 0])) e2
  subst he2
  have HA := Lib.hid (fun W => cPut_arg (some ⟨g, 0, none⟩) 2 4 1 W (by decide) (by decide))
  have K1 := Lib.hid (hs4.ticks_v 4 (by kernel_rfl))
  have HB := Lib.hid hs4.below
  clear he e1 e2 hs1 hs2 hs3 hs4 hk2 hk3 hk4 hb1 hg
  go_wp2_with (first | (go_at_call 34; ((with_reducible refine (HA.out _).mono ?_); rintro e w7 ⟨rfl, rfl⟩)) | (go_at_call 27; (with_reducible refine K1.out.mono ?_); rintro e w7 ⟨rfl, rfl⟩))
  go_ret
  exact ⟨rfl, HB.out⟩
end Go.Proofs.Ytfdhjeeaigfmfaa.Sp
