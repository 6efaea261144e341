/- HeaderInside: bytes behind a header stay as they are, whatever is done to the header. -/
import Derived.Test.YtfdhjeeaigfmfaaRows
import Derived.Test.YtfdhjeeaigfmfaaLawHInside
import Derived.WalkKit
import Derived.ProofKit
import Derived.OpenShut
import Derived.ShutString
import Derived.ChangeOld
import Derived.Below
import Derived.SizedLaws
import Derived.Lib.SmallJoins
import Derived.Test.YtfdhjeeaigfmfaaIn
namespace Go.Proofs.Ytfdhjeeaigfmfaa.headerInside
open Go.ChangeShapes Go.WideShapes Go.ChangeAt Go.RowKit
open Go.ChangeMaps (open_string shut_string)
set_option linter.unusedVariables false
theorem own : ownKnob Try.prog.godebug = none := by kernel_rfl
theorem laidOut : laidOutB Try.prog = true := by kernel_rfl
set_option maxRecDepth 100000 in
theorem lifted (os : Os) (started : os.Started) (H : Type) (enc : TypeId × Value → H) :
    ReturnsInHanded {} Try.checked os 12 .any (Rows.headerInsideSpec.pre6 enc Try.prog Try.f12 Rows.headerInsideRow.domain false) (Rows.headerInsideSpec.post enc Try.prog Try.f12 false true false false) := by
  refine returnsInHanded_of_change_sized (C := Try.checked) own started (by kernel_rfl) Try.func12
    (ChangeSpec.witness6 (enc := enc) (C := Try.checked) false ⟨#[], #[.int .u8 0, .agg #[.int .i64 0, .int .i64 0, .int .u64 0, .int .u64 0], .slice none 0 0, .int .u64 0], []⟩ 8 (by kernel_rfl) (by kernel_rfl) (by kernel_rfl) (by kernel_rfl)) ?_
  intro W base args ds gs before hval0 hW hcnd hsz0 _
  have hsz : (DataW.weightsEach Try.prog (Try.f12.params.toList ++ Rows.headerInsideSpec.plain.varTypes Try.prog) (ds ++ gs)).all (· ≤ reachBytes) = true := hsz0
  have hval : ∀ (j : Nat) t v, Try.f12.params[j]? = some t → args[j]? = some v → Value.okWide Try.prog W .any base t v := hval0
  have hW' := hW
  obtain ⟨p, q, hA0, hV, rfl, hfz, hnd⟩ := hW
  have hA : DataW.TrodAll enc Try.prog W 0 (fun _ => true) true Try.f12.params.toList args.toList ds p := hA0
  rw [Try.params12] at hA hval hsz
  obtain ⟨v0, vs0, d0, ds0, p0, q0, hargs, rfl, rfl, h0, r0⟩ := trodAll_cons hA
  obtain ⟨v1, vs1, d1, ds1, p1, q1, rfl, rfl, rfl, h1, r1⟩ := trodAll_cons r0
  obtain ⟨v2, vs2, d2, ds2, p2, q2, rfl, rfl, rfl, h2, r2⟩ := trodAll_cons r1
  obtain ⟨v3, vs3, d3, ds3, p3, q3, rfl, rfl, rfl, h3, r3⟩ := trodAll_cons r2
  obtain ⟨rfl, rfl, rfl⟩ := trodAll_nil r3
  obtain rfl : args = #[v0, v1, v2, v3] := by cases args; simp_all
  obtain ⟨rfl, rfl⟩ := trodVars_none hV
  obtain ⟨a0, rfl, rfl, rfl, w0⟩ := open_int Try.underlying5 (hval 0 5 v0 rfl rfl) h0
  have k1 := h1
  have lt1 : ∀ x ∈ p1, x.block < W.heap.size := by obtain ⟨m, hm⟩ := k1; exact DataW.trod_lt m _ _ _ hm
  obtain ⟨s1_0, s1_1, s1_2, s1_3, z0, z1, z2, z3, m1, rfl, e1, e2, i0, i1, i2, i3⟩ := Joins.open_agg4 Try.underlying82 (by kernel_rfl) (by kernel_rfl) (hval 1 82 v1 rfl rfl) h1
  obtain ⟨a1_0, e, _, w1_0⟩ := DataW.trod_int Try.underlying3 i0
  injection e with e; subst e
  obtain ⟨a1_1, e, _, w1_1⟩ := DataW.trod_int Try.underlying3 i1
  injection e with e; subst e
  obtain ⟨a1_2, e, _, w1_2⟩ := DataW.trod_int Try.underlying31 i2
  injection e with e; subst e
  obtain ⟨a1_3, e, _, w1_3⟩ := DataW.trod_int Try.underlying31 i3
  injection e with e; subst e
  obtain ⟨a2, len2, cap2, rfl⟩ := okWide_slice Try.underlying32 (hval 2 32 v2 rfl rfl)
  have k2 := h2
  have lt2 : ∀ x ∈ p2, x.block < W.heap.size := by obtain ⟨m, hm⟩ := k2; exact DataW.trod_lt m _ _ _ hm
  obtain ⟨l2, w2⟩ : ∃ l : List Int, l.length = len2 ∧ len2 ≤ cap2 ∧ len2 ≤ maxLen ∧ In.Lst (In.KInt .u8) 1 W a2 l ∧ ∀ p ∈ l, (In.wfInt .u8) p := by
    obtain ⟨fuel, hf⟩ := h2
    exact In.rows_of_trod (In.KInt .u8) (In.wfInt .u8) Try.underlying32 (by kernel_rfl) (In.int_el Try.underlying5) (by simpa [Value.cells] using hf)
  have y2 : len2 * 1 ≤ 140737488351232 := In.sized_rows hsz (j := 2) (t := 32) rfl rfl Try.underlying32 (by kernel_rfl) h2
  obtain ⟨a3, rfl, rfl, rfl, w3⟩ := open_int Try.underlying31 (hval 3 31 v3 rfl rfl) h3
  clear hA0 hval0 hsz0 hsz
  refine (Sp.HeaderInside_walk a0 a1_0 a1_1 a1_2 a1_3 a2 len2 cap2 l2 a3 W w0 w1_0 w1_1 w1_2 w1_3 w2 y2 w3).mono fun e W' ⟨he, bel⟩ => ?_
  subst he
  exact ⟨_, rfl, _, _, _, [], _, [], hW', trodAll_mk1 (shut_bool Try.underlying4 _), (trodAll_cons_mk (shut_int Try.underlying5 w0) (trodAll_cons_mk (Below.trod laidOut (by kernel_rfl) (of_decide_eq_true (by kernel_rfl)) k1 bel lt1) (trodAll_cons_mk (Below.trod laidOut (by kernel_rfl) (of_decide_eq_true (by kernel_rfl)) k2 bel lt2) (trodAll_cons_mk (shut_int Try.underlying31 w3) trodAll_mk0)))), rfl, bel.frame _, fun h => by cases h⟩
theorem over : Rows.headerInsideRow.holds Try.pinned (OpenSpec.ofChange Rows.headerInsideSpec) :=
  OpenClaim.holds_of_wide 12 Try.f12 rfl rfl rfl rfl rfl rfl rfl ⟨rfl, rfl, rfl, rfl, rfl⟩ rfl rfl rfl rfl rfl (by kernel_rfl) Try.func12 (by kernel_rfl)
    (of_decide_eq_true (by kernel_rfl)) (by unfold Func.isWrapper; first | (rw [if_pos (by decide +kernel)]; kernel_rfl) | (rw [if_neg (by decide +kernel)]; exact ⟨rfl, rfl⟩))
    (fun os started H enc _ => lifted os started H enc)
theorem proved : Rows.HeaderInsideSaid := over
#print axioms proved
end Go.Proofs.Ytfdhjeeaigfmfaa.headerInside
namespace Go.Proofs.Ytfdhjeeaigfmfaa
/-- The row, under a short name, for the claim. -/
theorem headerInside_holds : Rows.HeaderInsideSaid := headerInside.proved
end Go.Proofs.Ytfdhjeeaigfmfaa
