/- Slices that come in, of whole numbers or of structs: as lists. -/
import Derived.Test.YtfdhjeeaigfmfaaProg
import Derived.Deep.Slices
import Derived.Deep.Fields
import Derived.ChangeSame
import Derived.SizedLaws
import Derived.WalkKit
import Derived.RowKit3
import Derived.ProofKit
import Derived.OpenShut
import Derived.ChangeOld
import Derived.Below
import Derived.KernelRfl
namespace Go.Proofs.Ytfdhjeeaigfmfaa.In
open Go.RowKit Go.ChangeShapes Go.WideShapes Go.Deep
set_option linter.unusedVariables false

/-- Elements one behind the other, each of sz cells. -/
def Lst {α : Type} (K : World → α → List Value → Prop) (sz : Nat) (w : World) (A : Option Addr) (l : List α) : Prop :=
  ∀ (j : Nat) (p : α), l[j]? = some p → ∃ (ad : Addr) (c : List Value), A = some ad ∧ c.length = sz ∧ K w p c ∧ ∀ (i : Nat) (u : Value), c[i]? = some u → w.cell? (ad.add (j * sz + i)) = some u
/-- A whole number's cell. -/
def KInt (k : IntKind) (w : World) (x : Int) (c : List Value) : Prop := c = [.int k x]
def wfInt (k : IntKind) (x : Int) : Prop := (Lit.int k x).wf = true
def KBool (w : World) (x : Bool) (c : List Value) : Prop := c = [.bool x]
def wfBool (x : Bool) : Prop := True

section
variable {H : Type} {enc : TypeId × Value → H} {P : Program} {w : World} {base : Nat} {spare : Nat → Bool} {held : Bool}
theorem lst_of_trod {α : Type} (K : World → α → List Value → Prop) (sz : Nat) (wf : α → Prop) {t e : TypeId} {fuel : Nat} {a : Option Addr} {len cap : Nat} {x : DataW H × List MemPlace} (ht : P.underlying t = some (.slice e)) (hsz : P.cellsOf e = sz)
    (hel : ∀ n cs y, DataW.trod enc P w base spare held n e cs = some y → ∃ p, K w p cs ∧ wf p) (h : DataW.trod enc P w base spare held fuel t [.slice a len cap] = some x) :
    ∃ l : List α, l.length = len ∧ len ≤ cap ∧ len ≤ maxLen ∧ Lst K sz w a l ∧ ∀ p ∈ l, wf p := by
  rcases open_slice ht h with ⟨h0, _⟩ | ⟨A, len', cap', m, n, D, Pl, hcs, hb, hl, hm, hmm, hx, hi⟩
  · simp at h0
    obtain ⟨rfl, rfl, rfl⟩ := h0
    exact ⟨[], rfl, Nat.le_refl _, Nat.zero_le _, fun j p hj => (by simp at hj), fun p hp => (by cases hp)⟩
  · simp at hcs
    obtain ⟨rfl, rfl, rfl⟩ := hcs
    have hlm : len ≤ m := by rw [hmm]; split <;> omega
    have key : ∀ k, k ≤ len → ∃ l : List α, l.length = k ∧ (∀ (j : Nat) (p : α), l[j]? = some p → ∃ c : List Value, c.length = sz ∧ K w p c ∧ ∀ (i : Nat) (u : Value), c[i]? = some u → w.cell? (A.add (j * sz + i)) = some u) ∧ ∀ p ∈ l, wf p := by
      intro k
      induction k with
      | zero => exact fun _ => ⟨[], rfl, fun j p h => by simp at h, fun p hp => by cases hp⟩
      | succ k ih =>
        intro hk
        obtain ⟨l, h1, h2, h3⟩ := ih (by omega)
        obtain ⟨cs', hc, ht'⟩ := hi k (by omega)
        obtain ⟨p, hp, hw⟩ := hel _ _ _ ht'
        rw [hsz] at hc
        obtain ⟨_, hcl, hat⟩ := World.cells?_some hc
        refine ⟨l ++ [p], by simp [h1], fun j q hq => ?_, fun q hq => ?_⟩
        · rcases Nat.lt_or_ge j k with hj | hj
          · rw [List.getElem?_append_left (by omega)] at hq
            exact h2 j q hq
          · rw [List.getElem?_append_right (by omega)] at hq
            have hj0 : j = k := by
              rcases Nat.lt_or_ge k j with h | h
              · rw [List.getElem?_eq_none (by simp; omega)] at hq; cases hq
              · omega
            subst hj0
            rw [h1, Nat.sub_self] at hq
            obtain rfl : p = q := by simpa using hq
            refine ⟨cs', hcl, hp, fun i u hu => ?_⟩
            have hi2 : i < cs'.length := (List.getElem?_eq_some_iff.1 hu).1
            rw [← Go.Deep.add_add, hat i (by omega), hu]
        · rcases List.mem_append.1 hq with h | h
          · exact h3 q h
          · rw [List.mem_singleton.1 h]; exact hw
    obtain ⟨l, h1, h2, h3⟩ := key len (Nat.le_refl _)
    exact ⟨l, h1, hl, Nat.le_trans hl hm, fun j p hj => by
      obtain ⟨c, k1, k2, k3⟩ := h2 j p hj
      exact ⟨A, c, rfl, k1, k2, k3⟩, h3⟩
theorem rows_of_trod {α : Type} (K : World → α → List Value → Prop) {sz : Nat} (wf : α → Prop) {t e : TypeId} {fuel : Nat} {a : Option Addr} {len cap : Nat} {x : DataW H × List MemPlace} (ht : P.underlying t = some (.slice e)) (hsz : P.cellsOf e = sz)
    (hel : ∀ n cs y, DataW.trod enc P w base spare held n e cs = some y → ∃ p, K w p cs ∧ wf p) (h : DataW.trod enc P w base spare held fuel t [.slice a len cap] = some x) :
    ∃ l : List α, l.length = len ∧ len ≤ cap ∧ len ≤ maxLen ∧ Lst K sz w a l ∧ ∀ p ∈ l, wf p := lst_of_trod K sz wf ht hsz hel h
theorem sized_rows {t e : TypeId} {a : Option Addr} {len cap : Nat} {d : DataW H} {ps : List MemPlace} {ts : List TypeId} {ds : List (DataW H)} {j : Nat}
    (hsz : (DataW.weightsEach P ts ds).all (· ≤ reachBytes) = true) (ht : ts[j]? = some t) (hd : ds[j]? = some d) (hu : P.underlying t = some (.slice e)) {B : Nat} (hB : P.bytesOf e = B)
    (h : DataW.Trod enc P w base spare held t (.slice a len cap) d ps) : len * B ≤ 140737488351232 := by
  obtain ⟨fuel, hf⟩ := h
  rcases open_slice hu hf with ⟨h0, _⟩ | ⟨A, len', cap', m, n, D, Pl, hcs, hb, hl, hm, hmm, hx, hi⟩
  · simp [Value.cells] at h0
    obtain ⟨rfl, rfl, rfl⟩ := h0
    simp
  · simp [Value.cells] at hcs
    obtain ⟨rfl, rfl, rfl⟩ := hcs
    obtain ⟨hx, _⟩ := Prod.mk.inj hx
    subst hx
    have z := sized_slice hsz ht hd hu
    rw [hB] at z
    have h1 : ((List.range len).map D).length = len := by simp
    have h2 : len * B ≤ (((List.range len).map D).length + ((List.range (m - len)).map fun j => D (len + j)).length) * B := Nat.mul_le_mul_right _ (by omega)
    exact Nat.le_trans h2 z
theorem int_el {k : IntKind} {e : TypeId} (he : P.underlying e = some (.int k)) : ∀ n cs y, DataW.trod enc P w base spare held n e cs = some y → ∃ p, KInt k w p cs ∧ wfInt k p := by
  intro n cs y h
  obtain ⟨z, e1, _, w1⟩ := DataW.trod_int he h
  exact ⟨z, e1, w1⟩
theorem bool_el {e : TypeId} (he : P.underlying e = some .bool) : ∀ n cs y, DataW.trod enc P w base spare held n e cs = some y → ∃ p, KBool w p cs ∧ wfBool p := by
  intro n cs y h
  obtain ⟨z, e1, _⟩ := DataW.trod_bool he h
  exact ⟨z, e1, trivial⟩

end

/-! ### an act on a space -/
structure Act3 where
  do_ : Int
  at_ : Int
  from_ : Int
  n : Int
  A : Option Addr
  c : Nat
  b : List Int
def KAct3 (w : World) (x : Act3) (cs : List Value) : Prop := cs = [.int .u8 x.do_, .int .u64 x.at_, .int .u64 x.from_, .int .u64 x.n, .slice x.A x.b.length x.c] ∧ x.b.length ≤ x.c ∧ x.b.length ≤ maxLen ∧ Lst (KInt .u8) 1 w x.A x.b
def wfAct3 (x : Act3) : Prop := wfInt .u8 x.do_ ∧ wfInt .u64 x.at_ ∧ wfInt .u64 x.from_ ∧ wfInt .u64 x.n ∧ ∀ v ∈ x.b, wfInt .u8 v
section
variable {H : Type} {enc : TypeId × Value → H} {w : World} {base : Nat} {spare : Nat → Bool} {held : Bool}
set_option maxRecDepth 100000 in
theorem act3_el : ∀ n cs y, DataW.trod enc Try.prog w base spare held n 34 cs = some y → ∃ p, KAct3 w p cs ∧ wfAct3 p := by
  intro n cs y h
  obtain ⟨xs, n', _, _, hcl, hxl, hf⟩ := DataW.trod_struct Try.underlying34 h
  have hlen : cs.length = 5 := hcl.trans (by kernel_rfl)
  match cs, hlen, xs, hxl, hf with
  | [c0, c1, c2, c3, c4], _, [y0, y1, y2, y3, y4], _, hf =>
    have g0 : DataW.trod enc Try.prog w base spare held n' 5 [c0] = some y0 := by
      have := hf 0 _ rfl
      simpa [show Try.prog.cellsOf 5 = 1 from by kernel_rfl] using this
    have g1 : DataW.trod enc Try.prog w base spare held n' 31 [c1] = some y1 := by
      have := hf 1 _ rfl
      simpa [show Try.prog.cellsOf 31 = 1 from by kernel_rfl] using this
    have g2 : DataW.trod enc Try.prog w base spare held n' 31 [c2] = some y2 := by
      have := hf 2 _ rfl
      simpa [show Try.prog.cellsOf 31 = 1 from by kernel_rfl] using this
    have g3 : DataW.trod enc Try.prog w base spare held n' 31 [c3] = some y3 := by
      have := hf 3 _ rfl
      simpa [show Try.prog.cellsOf 31 = 1 from by kernel_rfl] using this
    have g4 : DataW.trod enc Try.prog w base spare held n' 32 [c4] = some y4 := by
      have := hf 4 _ rfl
      simpa [show Try.prog.cellsOf 32 = 1 from by kernel_rfl] using this
    obtain ⟨z0, e0, _, w0⟩ := DataW.trod_int Try.underlying5 g0
    obtain ⟨z1, e1, _, w1⟩ := DataW.trod_int Try.underlying31 g1
    obtain ⟨z2, e2, _, w2⟩ := DataW.trod_int Try.underlying31 g2
    obtain ⟨z3, e3, _, w3⟩ := DataW.trod_int Try.underlying31 g3
    injection e0 with e0; injection e1 with e1; injection e2 with e2; injection e3 with e3
    subst e0 e1 e2 e3
    obtain ⟨A4, len4, cap4, rfl⟩ : ∃ A len cap, c4 = .slice A len cap := by
      rcases open_slice Try.underlying32 g4 with ⟨h0, _⟩ | ⟨A, len', cap', m, n, D, Pl, hcs, _⟩
      · simp at h0; exact ⟨_, _, _, h0⟩
      · simp at hcs; exact ⟨_, _, _, hcs⟩
    obtain ⟨l, rfl, h2, h3, h4, h5⟩ := rows_of_trod (KInt .u8) (wfInt .u8) Try.underlying32 (by kernel_rfl) (int_el Try.underlying5) g4
    exact ⟨⟨z0, z1, z2, z3, A4, cap4, l⟩, ⟨rfl, h2, h3, h4⟩, w0, w1, w2, w3, h5⟩
end
end Go.Proofs.Ytfdhjeeaigfmfaa.In
