/- Headers that are linked one to the other lead from the last one to the first one, whatever is written behind them. -/
import Derived.Test.YtfdhjeeaigfmfaaRows
import Derived.Test.YtfdhjeeaigfmfaaLawHLinks
import Derived.WalkKit
import Derived.ProofKit
import Derived.OpenShut
import Derived.ShutString
import Derived.ChangeOld
import Derived.Below
import Derived.SizedLaws
import Derived.Test.YtfdhjeeaigfmfaaIn
namespace Go.Proofs.Ytfdhjeeaigfmfaa.headerLinks
open Go.ChangeShapes Go.WideShapes Go.ChangeAt Go.RowKit
open Go.ChangeMaps (open_string shut_string)
set_option linter.unusedVariables false
theorem own : ownKnob Try.prog.godebug = none := by kernel_rfl
theorem laidOut : laidOutB Try.prog = true := by kernel_rfl
set_option maxRecDepth 100000 in
theorem lifted (os : Os) (started : os.Started) (H : Type) (enc : TypeId × Value → H) :
    ReturnsInHanded {} Try.checked os 14 .any (Rows.headerLinksSpec.pre6 enc Try.prog Try.f14 Rows.headerLinksRow.domain false) (Rows.headerLinksSpec.post enc Try.prog Try.f14 false true false false) := by
  refine returnsInHanded_of_change_sized (C := Try.checked) own started (by kernel_rfl) Try.func14
    (ChangeSpec.witness6 (enc := enc) (C := Try.checked) false ⟨#[], #[.slice none 0 0, .slice none 0 0], []⟩ 8 (by kernel_rfl) (by kernel_rfl) (by kernel_rfl) (by kernel_rfl)) ?_
  intro W base args ds gs before hval0 hW hcnd hsz0 _
  have hsz : (DataW.weightsEach Try.prog (Try.f14.params.toList ++ Rows.headerLinksSpec.plain.varTypes Try.prog) (ds ++ gs)).all (· ≤ reachBytes) = true := hsz0
  have hval : ∀ (j : Nat) t v, Try.f14.params[j]? = some t → args[j]? = some v → Value.okWide Try.prog W .any base t v := hval0
  have hW' := hW
  obtain ⟨p, q, hA0, hV, rfl, hfz, hnd⟩ := hW
  have hA : DataW.TrodAll enc Try.prog W 0 (fun _ => true) true Try.f14.params.toList args.toList ds p := hA0
  rw [Try.params14] at hA hval hsz
  obtain ⟨v0, vs0, d0, ds0, p0, q0, hargs, rfl, rfl, h0, r0⟩ := trodAll_cons hA
  obtain ⟨v1, vs1, d1, ds1, p1, q1, rfl, rfl, rfl, h1, r1⟩ := trodAll_cons r0
  obtain ⟨rfl, rfl, rfl⟩ := trodAll_nil r1
  obtain rfl : args = #[v0, v1] := by cases args; simp_all
  obtain ⟨rfl, rfl⟩ := trodVars_none hV
  obtain ⟨a0, len0, cap0, rfl⟩ := okWide_slice Try.underlying32 (hval 0 32 v0 rfl rfl)
  have k0 := h0
  have lt0 : ∀ x ∈ p0, x.block < W.heap.size := by obtain ⟨m, hm⟩ := k0; exact DataW.trod_lt m _ _ _ hm
  obtain ⟨l0, w0⟩ : ∃ l : List Int, l.length = len0 ∧ len0 ≤ cap0 ∧ len0 ≤ maxLen ∧ In.Lst (In.KInt .u8) 1 W a0 l ∧ ∀ p ∈ l, (In.wfInt .u8) p := by
    obtain ⟨fuel, hf⟩ := h0
    exact In.rows_of_trod (In.KInt .u8) (In.wfInt .u8) Try.underlying32 (by kernel_rfl) (In.int_el Try.underlying5) (by simpa [Value.cells] using hf)
  have y0 : len0 * 1 ≤ 140737488351232 := In.sized_rows hsz (j := 0) (t := 32) rfl rfl Try.underlying32 (by kernel_rfl) h0
  obtain ⟨a1, len1, cap1, rfl⟩ := okWide_slice Try.underlying32 (hval 1 32 v1 rfl rfl)
  have k1 := h1
  have lt1 : ∀ x ∈ p1, x.block < W.heap.size := by obtain ⟨m, hm⟩ := k1; exact DataW.trod_lt m _ _ _ hm
  obtain ⟨l1, w1⟩ : ∃ l : List Int, l.length = len1 ∧ len1 ≤ cap1 ∧ len1 ≤ maxLen ∧ In.Lst (In.KInt .u8) 1 W a1 l ∧ ∀ p ∈ l, (In.wfInt .u8) p := by
    obtain ⟨fuel, hf⟩ := h1
    exact In.rows_of_trod (In.KInt .u8) (In.wfInt .u8) Try.underlying32 (by kernel_rfl) (In.int_el Try.underlying5) (by simpa [Value.cells] using hf)
  have y1 : len1 * 1 ≤ 140737488351232 := In.sized_rows hsz (j := 1) (t := 32) rfl rfl Try.underlying32 (by kernel_rfl) h1
  clear hA0 hval0 hsz0 hsz
  refine (Sp.HeaderLinks_walk a0 len0 cap0 l0 a1 len1 cap1 l1 W w0 y0 w1 y1).mono fun e W' ⟨he, bel⟩ => ?_
  subst he
  exact ⟨_, rfl, _, _, _, [], _, [], hW', trodAll_mk1 (shut_bool Try.underlying4 _), (trodAll_cons_mk (Below.trod laidOut (by kernel_rfl) (of_decide_eq_true (by kernel_rfl)) k0 bel lt0) (trodAll_cons_mk (Below.trod laidOut (by kernel_rfl) (of_decide_eq_true (by kernel_rfl)) k1 bel lt1) trodAll_mk0)), rfl, bel.frame _, fun h => by cases h⟩
theorem over : Rows.headerLinksRow.holds Try.pinned (OpenSpec.ofChange Rows.headerLinksSpec) :=
  OpenClaim.holds_of_wide 14 Try.f14 rfl rfl rfl rfl rfl rfl rfl ⟨rfl, rfl, rfl, rfl, rfl⟩ rfl rfl rfl rfl rfl (by kernel_rfl) Try.func14 (by kernel_rfl)
    (of_decide_eq_true (by kernel_rfl)) (by unfold Func.isWrapper; first | (rw [if_pos (by decide +kernel)]; kernel_rfl) | (rw [if_neg (by decide +kernel)]; exact ⟨rfl, rfl⟩))
    (fun os started H enc _ => lifted os started H enc)
theorem proved : Rows.HeaderLinksSaid := over
#print axioms proved
end Go.Proofs.Ytfdhjeeaigfmfaa.headerLinks
namespace Go.Proofs.Ytfdhjeeaigfmfaa
/-- The row, under a short name, for the claim. -/
theorem headerLinks_holds : Rows.HeaderLinksSaid := headerLinks.proved
end Go.Proofs.Ytfdhjeeaigfmfaa
