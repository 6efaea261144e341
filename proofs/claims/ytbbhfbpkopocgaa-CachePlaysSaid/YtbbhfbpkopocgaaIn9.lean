/- Acts on a cache that come in. -/
import Derived.Test.YtbbhfbpkopocgaaIn
namespace Go.Proofs.Ytbbhfbpkopocgaa.In
open Go.RowKit Go.ChangeShapes Go.WideShapes Go.Deep
set_option linter.unusedVariables false


structure Act9 where
  do_ : Int
  cls : Int
  page : Int
def KAct9 (w : World) (x : Act9) (cs : List Value) : Prop := cs = [.int .u8 x.do_, .int .i64 x.cls, .int .i64 x.page]
def wfAct9 (x : Act9) : Prop := wfInt .u8 x.do_ ∧ wfInt .i64 x.cls ∧ wfInt .i64 x.page
section
variable {H : Type} {enc : TypeId × Value → H} {w : World} {base : Nat} {spare : Nat → Bool} {held : Bool}
set_option maxRecDepth 100000 in
theorem act9_el : ∀ n cs y, DataW.trod enc Try.prog w base spare held n 50 cs = some y → ∃ p, KAct9 w p cs ∧ wfAct9 p := by
  intro n cs y h
  obtain ⟨xs, n', _, _, hcl, hxl, hf⟩ := DataW.trod_struct Try.underlying50 h
  have hlen : cs.length = 3 := hcl.trans (by kernel_rfl)
  match cs, hlen, xs, hxl, hf with
  | [c0, c1, c2], _, [y0, y1, y2], _, hf =>
    have g0 : DataW.trod enc Try.prog w base spare held n' 5 [c0] = some y0 := by
      have := hf 0 _ rfl
      simpa [show Try.prog.cellsOf 5 = 1 from by kernel_rfl] using this
    have g1 : DataW.trod enc Try.prog w base spare held n' 3 [c1] = some y1 := by
      have := hf 1 _ rfl
      simpa [show Try.prog.cellsOf 3 = 1 from by kernel_rfl] using this
    have g2 : DataW.trod enc Try.prog w base spare held n' 3 [c2] = some y2 := by
      have := hf 2 _ rfl
      simpa [show Try.prog.cellsOf 3 = 1 from by kernel_rfl] using this
    obtain ⟨z0, e0, _, w0⟩ := DataW.trod_int Try.underlying5 g0
    obtain ⟨z1, e1, _, w1⟩ := DataW.trod_int Try.underlying3 g1
    obtain ⟨z2, e2, _, w2⟩ := DataW.trod_int Try.underlying3 g2
    injection e0 with e0; injection e1 with e1; injection e2 with e2
    subst e0 e1 e2
    exact ⟨⟨z0, z1, z2⟩, rfl, w0, w1, w2⟩
end
end Go.Proofs.Ytbbhfbpkopocgaa.In
