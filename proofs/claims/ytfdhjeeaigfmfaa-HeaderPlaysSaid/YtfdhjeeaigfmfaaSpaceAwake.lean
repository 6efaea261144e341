/- The document's examples of a space come out. -/
import Derived.Test.YtfdhjeeaigfmfaaSpaceKeep
import Derived.Lib.SlBytesConst
namespace Go.Proofs.Ytfdhjeeaigfmfaa.Sp
open Go.RowKit Go.WideMaps
set_option linter.unusedVariables false

set_option maxRecDepth 100000 in
set_option maxHeartbeats 4000000 in
theorem awake3_any (w : World) : Calls Try.prog 15 #[] w fun e w' => e = .returned (.bool true) ∧ Below w.heap.size w w' := by
  have kc := fun (w : World) (C : Array Value) (n c : Nat) => Lib.run_convert_bytes_const (P := Try.prog) w 32 5 C n c (by kernel_rfl) (by kernel_rfl)
  go_enter Try.func15, Try.ntmps15
  go_wp2_with fail
  refine (St.new 1 (Below.refl _ _)).mono ?_
  rintro e w1 ⟨g, rfl, hg, hs1, hb1⟩
  go_wp2_with fail
  refine ((hs1.al _).store 4094 _ 2 2 [97, 98] rfl (Nat.le_refl _) (Row.srcW (Row.lit w1 [97, 98] (2, 3)) (by decide)) (by decide) (by decide) (by decide)).mono ?_
  rintro e w2 ⟨rfl, hs2, hk2⟩
  go_wp2_with fail
  refine ((hs2.al _).store_err 4095 3 _ 2 2 (by decide) (by decide) (by decide) (by decide)).mono ?_
  rintro e w3 ⟨rfl, rfl⟩
  go_wp2_with fail
  refine ((hs2.al _).load 4093 3 (by decide) (by decide) (by decide) (by decide)).mono ?_
  rintro e w4 ⟨r, rfl, hr, hrow, hs4, hk4⟩
  go_wp2_with fail
  refine (St.new 2 (Below.refl _ _)).mono ?_
  rintro e w5 ⟨g2, rfl, hg2, ht5, hb5⟩
  go_wp2_with fail
  refine (ht5.load 4095 2 (by decide) (by decide) (by decide) (by decide)).mono ?_
  rintro e w6 ⟨r2, rfl, hr2, hrow2, ht6, hk6⟩
  have hs6 := hs4.step ht6.below
  have hrow6 := (hrow.kp (KpT.of_below hb5)).kp hk6
  have hstr := hrow6.string0 3 3 (by rw [seen_length]; rfl)
  have e1 : strOfNums (seen (lay (fun _ => 0) 4094 [97, 98]) 4093 3) = ⟨#[0, 97, 98]⟩ := by decide
  replace hstr : (convert 32 9 (.slice (some ⟨r, 0, none⟩) 3 3)).run Try.prog w6 = .ok (.string ⟨#[0, 97, 98]⟩) w6 := e1 ▸ hstr
  have K1 := Lib.hid (hs6.ticks_v 2 (by kernel_rfl))
  have K2 := Lib.hid (ht6.ticks_v 2 (by kernel_rfl))
  have K3 := Lib.hid (hs6.size_v 4096 (by kernel_rfl))
  have HF := Lib.hid (hs4.below.trans (ht6.below.mono hs4.below.size))
  clear e1 hs6 ht6 ht5 hs4 hs2 hs1
  go_wp2_with (first | (go_at_call 27; first | ((with_reducible refine K1.out.mono ?_); rintro e w7 ⟨rfl, rfl⟩) | ((with_reducible refine K2.out.mono ?_); rintro e w7 ⟨rfl, rfl⟩)) | (go_at_call 31; (with_reducible refine K3.out.mono ?_); rintro e w7 ⟨rfl, rfl⟩))
  go_ret
  exact ⟨rfl, HF.out⟩
end Go.Proofs.Ytfdhjeeaigfmfaa.Sp
