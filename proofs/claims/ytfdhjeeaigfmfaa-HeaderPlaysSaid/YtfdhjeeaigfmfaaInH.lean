/- Heads that come in. -/
import Derived.Test.YtfdhjeeaigfmfaaIn
namespace Go.Proofs.Ytfdhjeeaigfmfaa.In
open Go.RowKit Go.ChangeShapes Go.WideShapes Go.Deep
set_option linter.unusedVariables false


structure Hd where
  pages : Int
  kind : Int
  owner : Int
  next : Int
def KHd (w : World) (x : Hd) (cs : List Value) : Prop := cs = [.int .i64 x.pages, .int .i64 x.kind, .int .u64 x.owner, .int .u64 x.next]
def wfHd (x : Hd) : Prop := wfInt .i64 x.pages ∧ wfInt .i64 x.kind ∧ wfInt .u64 x.owner ∧ wfInt .u64 x.next
section
variable {H : Type} {enc : TypeId × Value → H} {w : World} {base : Nat} {spare : Nat → Bool} {held : Bool}
set_option maxRecDepth 100000 in
theorem hd_el : ∀ n cs y, DataW.trod enc Try.prog w base spare held n 82 cs = some y → ∃ p, KHd w p cs ∧ wfHd p := by
  intro n cs y h
  obtain ⟨xs, n', _, _, hcl, hxl, hf⟩ := DataW.trod_struct Try.underlying82 h
  have hlen : cs.length = 4 := hcl.trans (by kernel_rfl)
  match cs, hlen, xs, hxl, hf with
  | [c0, c1, c2, c3], _, [y0, y1, y2, y3], _, hf =>
    have g0 : DataW.trod enc Try.prog w base spare held n' 3 [c0] = some y0 := by
      have := hf 0 _ rfl
      simpa [show Try.prog.cellsOf 3 = 1 from by kernel_rfl] using this
    have g1 : DataW.trod enc Try.prog w base spare held n' 3 [c1] = some y1 := by
      have := hf 1 _ rfl
      simpa [show Try.prog.cellsOf 3 = 1 from by kernel_rfl] using this
    have g2 : DataW.trod enc Try.prog w base spare held n' 31 [c2] = some y2 := by
      have := hf 2 _ rfl
      simpa [show Try.prog.cellsOf 31 = 1 from by kernel_rfl] using this
    have g3 : DataW.trod enc Try.prog w base spare held n' 31 [c3] = some y3 := by
      have := hf 3 _ rfl
      simpa [show Try.prog.cellsOf 31 = 1 from by kernel_rfl] using this
    obtain ⟨z0, e0, _, w0⟩ := DataW.trod_int Try.underlying3 g0
    obtain ⟨z1, e1, _, w1⟩ := DataW.trod_int Try.underlying3 g1
    obtain ⟨z2, e2, _, w2⟩ := DataW.trod_int Try.underlying31 g2
    obtain ⟨z3, e3, _, w3⟩ := DataW.trod_int Try.underlying31 g3
    injection e0 with e0; injection e1 with e1; injection e2 with e2; injection e3 with e3
    subst e0 e1 e2 e3
    exact ⟨⟨z0, z1, z2, z3⟩, rfl, w0, w1, w2, w3⟩
end
end Go.Proofs.Ytfdhjeeaigfmfaa.In
