/- Acts on headers that come in. -/
import Derived.Test.YtfdhjeeaigfmfaaInH
namespace Go.Proofs.Ytfdhjeeaigfmfaa.In
open Go.RowKit Go.ChangeShapes Go.WideShapes Go.Deep
set_option linter.unusedVariables false

structure Act8 where
  do_ : Int
  page : Int
  h : Hd
  at_ : Int
  A : Option Addr
  c : Nat
  b : List Int
def KAct8 (w : World) (x : Act8) (cs : List Value) : Prop := cs = [.int .u8 x.do_, .int .i64 x.page, .int .i64 x.h.pages, .int .i64 x.h.kind, .int .u64 x.h.owner, .int .u64 x.h.next, .int .u64 x.at_, .slice x.A x.b.length x.c] ∧ x.b.length ≤ x.c ∧ x.b.length ≤ maxLen ∧ Lst (KInt .u8) 1 w x.A x.b
def wfAct8 (x : Act8) : Prop := wfInt .u8 x.do_ ∧ wfInt .i64 x.page ∧ wfHd x.h ∧ wfInt .u64 x.at_ ∧ ∀ v ∈ x.b, wfInt .u8 v
section
variable {H : Type} {enc : TypeId × Value → H} {w : World} {base : Nat} {spare : Nat → Bool} {held : Bool}
set_option maxRecDepth 100000 in
theorem act8_el : ∀ n cs y, DataW.trod enc Try.prog w base spare held n 84 cs = some y → ∃ p, KAct8 w p cs ∧ wfAct8 p := by
  intro n cs y h
  obtain ⟨xs, n', _, _, hcl, hxl, hf⟩ := DataW.trod_struct Try.underlying84 h
  have hlen : cs.length = 8 := hcl.trans (by kernel_rfl)
  match cs, hlen, xs, hxl, hf with
  | [c0, c1, c2, c3, c4, c5, c6, c7], _, [y0, y1, y2, y3, y4], _, hf =>
    have g0 : DataW.trod enc Try.prog w base spare held n' 5 [c0] = some y0 := by
      have := hf 0 _ rfl
      simpa [show Try.prog.cellsOf 5 = 1 from by kernel_rfl] using this
    have g1 : DataW.trod enc Try.prog w base spare held n' 3 [c1] = some y1 := by
      have := hf 1 _ rfl
      simpa [show Try.prog.cellsOf 3 = 1 from by kernel_rfl] using this
    have g2 : DataW.trod enc Try.prog w base spare held n' 82 [c2, c3, c4, c5] = some y2 := by
      have := hf 2 _ rfl
      simpa [show Try.prog.cellsOf 82 = 4 from by kernel_rfl] using this
    have g3 : DataW.trod enc Try.prog w base spare held n' 31 [c6] = some y3 := by
      have := hf 3 _ rfl
      simpa [show Try.prog.cellsOf 31 = 1 from by kernel_rfl] using this
    have g4 : DataW.trod enc Try.prog w base spare held n' 32 [c7] = some y4 := by
      have := hf 4 _ rfl
      simpa [show Try.prog.cellsOf 32 = 1 from by kernel_rfl] using this
    obtain ⟨z0, e0, _, w0⟩ := DataW.trod_int Try.underlying5 g0
    obtain ⟨z1, e1, _, w1⟩ := DataW.trod_int Try.underlying3 g1
    obtain ⟨z2, e2, w2⟩ := hd_el _ _ _ g2
    obtain ⟨z3, e3, _, w3⟩ := DataW.trod_int Try.underlying31 g3
    injection e0 with e0; injection e1 with e1; injection e3 with e3
    unfold KHd at e2
    injection e2 with e20 e2
    injection e2 with e21 e2
    injection e2 with e22 e2
    injection e2 with e23 e2
    subst e0 e1 e20 e21 e22 e23 e3
    obtain ⟨A4, len4, cap4, rfl⟩ : ∃ A len cap, c7 = .slice A len cap := by
      rcases open_slice Try.underlying32 g4 with ⟨h0, _⟩ | ⟨A, len', cap', m, n, D, Pl, hcs, _⟩
      · simp at h0; exact ⟨_, _, _, h0⟩
      · simp at hcs; exact ⟨_, _, _, hcs⟩
    obtain ⟨l, rfl, h2, h3, h4, h5⟩ := rows_of_trod (KInt .u8) (wfInt .u8) Try.underlying32 (by kernel_rfl) (int_el Try.underlying5) g4
    exact ⟨⟨z0, z1, z2, z3, A4, cap4, l⟩, ⟨rfl, h2, h3, h4⟩, w0, w1, w2, w3, h5⟩
end
end Go.Proofs.Ytfdhjeeaigfmfaa.In
