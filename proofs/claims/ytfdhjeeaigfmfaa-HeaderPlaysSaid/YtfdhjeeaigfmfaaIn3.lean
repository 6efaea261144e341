/- Acts on a space that come in. -/
import Derived.Test.YtfdhjeeaigfmfaaIn
namespace Go.Proofs.Ytfdhjeeaigfmfaa.In
open Go.RowKit Go.ChangeShapes Go.WideShapes Go.Deep
set_option linter.unusedVariables false

/-! ### an act on a space -/
structure Act3 where
  do_ : Int
  at_ : Int
  from_ : Int
  n : Int
  A : Option Addr
  c : Nat
  b : List Int
def KAct3 (w : World) (x : Act3) (cs : List Value) : Prop := cs = [.int .u8 x.do_, .int .u64 x.at_, .int .u64 x.from_, .int .u64 x.n, .slice x.A x.b.length x.c] ∧ x.b.length ≤ x.c ∧ x.b.length ≤ maxLen ∧ Lst (KInt .u8) 1 w x.A x.b
def wfAct3 (x : Act3) : Prop := wfInt .u8 x.do_ ∧ wfInt .u64 x.at_ ∧ wfInt .u64 x.from_ ∧ wfInt .u64 x.n ∧ ∀ v ∈ x.b, wfInt .u8 v
section
variable {H : Type} {enc : TypeId × Value → H} {w : World} {base : Nat} {spare : Nat → Bool} {held : Bool}
set_option maxRecDepth 100000 in
theorem act3_el : ∀ n cs y, DataW.trod enc Try.prog w base spare held n 34 cs = some y → ∃ p, KAct3 w p cs ∧ wfAct3 p := by
  intro n cs y h
  obtain ⟨xs, n', _, _, hcl, hxl, hf⟩ := DataW.trod_struct Try.underlying34 h
  have hlen : cs.length = 5 := hcl.trans (by kernel_rfl)
  match cs, hlen, xs, hxl, hf with
  | [c0, c1, c2, c3, c4], _, [y0, y1, y2, y3, y4], _, hf =>
    have g0 : DataW.trod enc Try.prog w base spare held n' 5 [c0] = some y0 := by
      have := hf 0 _ rfl
      simpa [show Try.prog.cellsOf 5 = 1 from by kernel_rfl] using this
    have g1 : DataW.trod enc Try.prog w base spare held n' 31 [c1] = some y1 := by
      have := hf 1 _ rfl
      simpa [show Try.prog.cellsOf 31 = 1 from by kernel_rfl] using this
    have g2 : DataW.trod enc Try.prog w base spare held n' 31 [c2] = some y2 := by
      have := hf 2 _ rfl
      simpa [show Try.prog.cellsOf 31 = 1 from by kernel_rfl] using this
    have g3 : DataW.trod enc Try.prog w base spare held n' 31 [c3] = some y3 := by
      have := hf 3 _ rfl
      simpa [show Try.prog.cellsOf 31 = 1 from by kernel_rfl] using this
    have g4 : DataW.trod enc Try.prog w base spare held n' 32 [c4] = some y4 := by
      have := hf 4 _ rfl
      simpa [show Try.prog.cellsOf 32 = 1 from by kernel_rfl] using this
    obtain ⟨z0, e0, _, w0⟩ := DataW.trod_int Try.underlying5 g0
    obtain ⟨z1, e1, _, w1⟩ := DataW.trod_int Try.underlying31 g1
    obtain ⟨z2, e2, _, w2⟩ := DataW.trod_int Try.underlying31 g2
    obtain ⟨z3, e3, _, w3⟩ := DataW.trod_int Try.underlying31 g3
    injection e0 with e0; injection e1 with e1; injection e2 with e2; injection e3 with e3
    subst e0 e1 e2 e3
    obtain ⟨A4, len4, cap4, rfl⟩ : ∃ A len cap, c4 = .slice A len cap := by
      rcases open_slice Try.underlying32 g4 with ⟨h0, _⟩ | ⟨A, len', cap', m, n, D, Pl, hcs, _⟩
      · simp at h0; exact ⟨_, _, _, h0⟩
      · simp at hcs; exact ⟨_, _, _, hcs⟩
    obtain ⟨l, rfl, h2, h3, h4, h5⟩ := rows_of_trod (KInt .u8) (wfInt .u8) Try.underlying32 (by kernel_rfl) (int_el Try.underlying5) g4
    exact ⟨⟨z0, z1, z2, z3, A4, cap4, l⟩, ⟨rfl, h2, h3, h4⟩, w0, w1, w2, w3, h5⟩
end
end Go.Proofs.Ytfdhjeeaigfmfaa.In
