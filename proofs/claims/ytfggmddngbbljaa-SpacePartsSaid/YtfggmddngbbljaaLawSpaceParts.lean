/- The row of SpaceParts, out of its walk. -/
import Derived.Test.YtfggmddngbbljaaRows
import Derived.Test.YtfggmddngbbljaaLawParts
import Derived.WalkKit
import Derived.ProofKit
import Derived.OpenShut
import Derived.ShutString
import Derived.ChangeOld
import Derived.Below
import Derived.SizedLaws
import Derived.Test.YtfggmddngbbljaaIn
namespace Go.Proofs.Ytfggmddngbbljaa.spaceParts
open Go.ChangeShapes Go.WideShapes Go.ChangeAt Go.RowKit
open Go.ChangeMaps (open_string shut_string)
set_option linter.unusedVariables false
theorem own : ownKnob Try.prog.godebug = none := by kernel_rfl
theorem laidOut : laidOutB Try.prog = true := by kernel_rfl
set_option maxRecDepth 100000 in
theorem lifted (os : Os) (started : os.Started) (H : Type) (enc : TypeId × Value → H) :
    ReturnsInHanded {} Try.checked os 9 .any (Rows.spacePartsSpec.pre6 enc Try.prog Try.f9 Rows.spacePartsRow.domain false) (Rows.spacePartsSpec.post enc Try.prog Try.f9 false true false false) := by
  refine returnsInHanded_of_change_sized (C := Try.checked) own started (by kernel_rfl) Try.func9
    (ChangeSpec.witness6 (enc := enc) (C := Try.checked) false ⟨#[], #[.slice none 0 0, .int .u16 0, .slice none 0 0, .int .u8 0, .slice none 0 0], []⟩ 8 (by kernel_rfl) (by kernel_rfl) (by kernel_rfl) (by kernel_rfl)) ?_
  intro W base args ds gs before hval0 hW hcnd hsz0 _
  have hsz : (DataW.weightsEach Try.prog (Try.f9.params.toList ++ Rows.spacePartsSpec.plain.varTypes Try.prog) (ds ++ gs)).all (· ≤ reachBytes) = true := hsz0
  have hval : ∀ (j : Nat) t v, Try.f9.params[j]? = some t → args[j]? = some v → Value.okWide Try.prog W .any base t v := hval0
  have hW' := hW
  obtain ⟨p, q, hA0, hV, rfl, hfz, hnd⟩ := hW
  have hA : DataW.TrodAll enc Try.prog W 0 (fun _ => true) true Try.f9.params.toList args.toList ds p := hA0
  rw [Try.params9] at hA hval hsz
  obtain ⟨v0, vs0, d0, ds0, p0, q0, hargs, rfl, rfl, h0, r0⟩ := trodAll_cons hA
  obtain ⟨v1, vs1, d1, ds1, p1, q1, rfl, rfl, rfl, h1, r1⟩ := trodAll_cons r0
  obtain ⟨v2, vs2, d2, ds2, p2, q2, rfl, rfl, rfl, h2, r2⟩ := trodAll_cons r1
  obtain ⟨v3, vs3, d3, ds3, p3, q3, rfl, rfl, rfl, h3, r3⟩ := trodAll_cons r2
  obtain ⟨v4, vs4, d4, ds4, p4, q4, rfl, rfl, rfl, h4, r4⟩ := trodAll_cons r3
  obtain ⟨rfl, rfl, rfl⟩ := trodAll_nil r4
  obtain rfl : args = #[v0, v1, v2, v3, v4] := by cases args; simp_all
  obtain ⟨rfl, rfl⟩ := trodVars_none hV
  obtain ⟨a0, len0, cap0, rfl⟩ := okWide_slice Try.underlying22 (hval 0 22 v0 rfl rfl)
  have k0 := h0
  have lt0 : ∀ x ∈ p0, x.block < W.heap.size := by obtain ⟨m, hm⟩ := k0; exact DataW.trod_lt m _ _ _ hm
  obtain ⟨l0, w0⟩ : ∃ l : List In.Act3, l.length = len0 ∧ len0 ≤ cap0 ∧ len0 ≤ maxLen ∧ In.Lst In.KAct3 5 W a0 l ∧ ∀ p ∈ l, In.wfAct3 p := by
    obtain ⟨fuel, hf⟩ := h0
    exact In.rows_of_trod In.KAct3 In.wfAct3 Try.underlying22 (by kernel_rfl) (fun n cs y h => In.act3_el n cs y h) (by simpa [Value.cells] using hf)
  have y0 : len0 * 56 ≤ 140737488351232 := In.sized_rows hsz (j := 0) (t := 22) rfl rfl Try.underlying22 (by kernel_rfl) h0
  obtain ⟨a1, rfl, rfl, rfl, w1⟩ := open_int Try.underlying36 (hval 1 36 v1 rfl rfl) h1
  obtain ⟨a2, len2, cap2, rfl⟩ := okWide_slice Try.underlying24 (hval 2 24 v2 rfl rfl)
  have k2 := h2
  have lt2 : ∀ x ∈ p2, x.block < W.heap.size := by obtain ⟨m, hm⟩ := k2; exact DataW.trod_lt m _ _ _ hm
  obtain ⟨l2, w2⟩ : ∃ l : List Int, l.length = len2 ∧ len2 ≤ cap2 ∧ len2 ≤ maxLen ∧ In.Lst (In.KInt .u8) 1 W a2 l ∧ ∀ p ∈ l, (In.wfInt .u8) p := by
    obtain ⟨fuel, hf⟩ := h2
    exact In.rows_of_trod (In.KInt .u8) (In.wfInt .u8) Try.underlying24 (by kernel_rfl) (In.int_el Try.underlying5) (by simpa [Value.cells] using hf)
  have y2 : len2 * 1 ≤ 140737488351232 := In.sized_rows hsz (j := 2) (t := 24) rfl rfl Try.underlying24 (by kernel_rfl) h2
  obtain ⟨a3, rfl, rfl, rfl, w3⟩ := open_int Try.underlying5 (hval 3 5 v3 rfl rfl) h3
  obtain ⟨a4, len4, cap4, rfl⟩ := okWide_slice Try.underlying24 (hval 4 24 v4 rfl rfl)
  have k4 := h4
  have lt4 : ∀ x ∈ p4, x.block < W.heap.size := by obtain ⟨m, hm⟩ := k4; exact DataW.trod_lt m _ _ _ hm
  obtain ⟨l4, w4⟩ : ∃ l : List Int, l.length = len4 ∧ len4 ≤ cap4 ∧ len4 ≤ maxLen ∧ In.Lst (In.KInt .u8) 1 W a4 l ∧ ∀ p ∈ l, (In.wfInt .u8) p := by
    obtain ⟨fuel, hf⟩ := h4
    exact In.rows_of_trod (In.KInt .u8) (In.wfInt .u8) Try.underlying24 (by kernel_rfl) (In.int_el Try.underlying5) (by simpa [Value.cells] using hf)
  have y4 : len4 * 1 ≤ 140737488351232 := In.sized_rows hsz (j := 4) (t := 24) rfl rfl Try.underlying24 (by kernel_rfl) h4
  clear hA0 hval0 hsz0 hsz
  refine (Sp.SpaceParts_walk a0 len0 cap0 l0 a1 a2 len2 cap2 l2 a3 a4 len4 cap4 l4 W w0 y0 w1 w2 y2 w3 w4 y4).mono fun e W' ⟨he, bel⟩ => ?_
  subst he
  exact ⟨_, rfl, _, _, _, [], _, [], hW', trodAll_mk1 (shut_bool Try.underlying4 _), (trodAll_cons_mk (Below.trod laidOut (by kernel_rfl) (of_decide_eq_true (by kernel_rfl)) k0 bel lt0) (trodAll_cons_mk (shut_int Try.underlying36 w1) (trodAll_cons_mk (Below.trod laidOut (by kernel_rfl) (of_decide_eq_true (by kernel_rfl)) k2 bel lt2) (trodAll_cons_mk (shut_int Try.underlying5 w3) (trodAll_cons_mk (Below.trod laidOut (by kernel_rfl) (of_decide_eq_true (by kernel_rfl)) k4 bel lt4) trodAll_mk0))))), rfl, bel.frame _, fun h => by cases h⟩
theorem over : Rows.spacePartsRow.holds Try.pinned (OpenSpec.ofChange Rows.spacePartsSpec) :=
  OpenClaim.holds_of_wide 9 Try.f9 rfl rfl rfl rfl rfl rfl rfl ⟨rfl, rfl, rfl, rfl, rfl⟩ rfl rfl rfl rfl rfl (by kernel_rfl) Try.func9 (by kernel_rfl)
    (of_decide_eq_true (by kernel_rfl)) (by unfold Func.isWrapper; first | (rw [if_pos (by decide +kernel)]; kernel_rfl) | (rw [if_neg (by decide +kernel)]; exact ⟨rfl, rfl⟩))
    (fun os started H enc _ => lifted os started H enc)
theorem proved : Rows.SpacePartsSaid := over
#print axioms proved
end Go.Proofs.Ytfggmddngbbljaa.spaceParts
namespace Go.Proofs.Ytfggmddngbbljaa
/-- The row, under a short name, for the claim. -/
theorem spaceParts_holds : Rows.SpacePartsSaid := spaceParts.proved
end Go.Proofs.Ytfggmddngbbljaa
