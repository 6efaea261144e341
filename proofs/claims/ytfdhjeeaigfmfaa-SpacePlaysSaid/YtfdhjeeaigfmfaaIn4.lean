/- Acts on numbers in a space that come in. -/
import Derived.Test.YtfdhjeeaigfmfaaIn
namespace Go.Proofs.Ytfdhjeeaigfmfaa.In
open Go.RowKit Go.ChangeShapes Go.WideShapes Go.Deep
set_option linter.unusedVariables false


structure Act4 where
  do_ : Int
  at_ : Int
  width : Int
  n : Int
  times : Int
def KAct4 (w : World) (x : Act4) (cs : List Value) : Prop := cs = [.int .u8 x.do_, .int .u64 x.at_, .int .i64 x.width, .int .u64 x.n, .int .i64 x.times]
def wfAct4 (x : Act4) : Prop := wfInt .u8 x.do_ ∧ wfInt .u64 x.at_ ∧ wfInt .i64 x.width ∧ wfInt .u64 x.n ∧ wfInt .i64 x.times
section
variable {H : Type} {enc : TypeId × Value → H} {w : World} {base : Nat} {spare : Nat → Bool} {held : Bool}
set_option maxRecDepth 100000 in
theorem act4_el : ∀ n cs y, DataW.trod enc Try.prog w base spare held n 69 cs = some y → ∃ p, KAct4 w p cs ∧ wfAct4 p := by
  intro n cs y h
  obtain ⟨xs, n', _, _, hcl, hxl, hf⟩ := DataW.trod_struct Try.underlying69 h
  have hlen : cs.length = 5 := hcl.trans (by kernel_rfl)
  match cs, hlen, xs, hxl, hf with
  | [c0, c1, c2, c3, c4], _, [y0, y1, y2, y3, y4], _, hf =>
    have g0 : DataW.trod enc Try.prog w base spare held n' 5 [c0] = some y0 := by
      have := hf 0 _ rfl
      simpa [show Try.prog.cellsOf 5 = 1 from by kernel_rfl] using this
    have g1 : DataW.trod enc Try.prog w base spare held n' 31 [c1] = some y1 := by
      have := hf 1 _ rfl
      simpa [show Try.prog.cellsOf 31 = 1 from by kernel_rfl] using this
    have g2 : DataW.trod enc Try.prog w base spare held n' 3 [c2] = some y2 := by
      have := hf 2 _ rfl
      simpa [show Try.prog.cellsOf 3 = 1 from by kernel_rfl] using this
    have g3 : DataW.trod enc Try.prog w base spare held n' 31 [c3] = some y3 := by
      have := hf 3 _ rfl
      simpa [show Try.prog.cellsOf 31 = 1 from by kernel_rfl] using this
    have g4 : DataW.trod enc Try.prog w base spare held n' 3 [c4] = some y4 := by
      have := hf 4 _ rfl
      simpa [show Try.prog.cellsOf 3 = 1 from by kernel_rfl] using this
    obtain ⟨z0, e0, _, w0⟩ := DataW.trod_int Try.underlying5 g0
    obtain ⟨z1, e1, _, w1⟩ := DataW.trod_int Try.underlying31 g1
    obtain ⟨z2, e2, _, w2⟩ := DataW.trod_int Try.underlying3 g2
    obtain ⟨z3, e3, _, w3⟩ := DataW.trod_int Try.underlying31 g3
    obtain ⟨z4, e4, _, w4⟩ := DataW.trod_int Try.underlying3 g4
    injection e0 with e0; injection e1 with e1; injection e2 with e2; injection e3 with e3; injection e4 with e4
    subst e0 e1 e2 e3 e4
    exact ⟨⟨z0, z1, z2, z3, z4⟩, rfl, w0, w1, w2, w3, w4⟩
end
end Go.Proofs.Ytfdhjeeaigfmfaa.In
