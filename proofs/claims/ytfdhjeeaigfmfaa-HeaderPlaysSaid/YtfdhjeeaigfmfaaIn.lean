/- Slices that come in, of whole numbers or of structs: as lists. -/
import Derived.Test.YtfdhjeeaigfmfaaProg
import Derived.Deep.Slices
import Derived.Deep.Fields
import Derived.ChangeSame
import Derived.SizedLaws
import Derived.WalkKit
import Derived.RowKit3
import Derived.ProofKit
import Derived.OpenShut
import Derived.ChangeOld
import Derived.Below
import Derived.KernelRfl
namespace Go.Proofs.Ytfdhjeeaigfmfaa.In
open Go.RowKit Go.ChangeShapes Go.WideShapes Go.Deep
set_option linter.unusedVariables false

/-- Elements one behind the other, each of sz cells. -/
def Lst {α : Type} (K : World → α → List Value → Prop) (sz : Nat) (w : World) (A : Option Addr) (l : List α) : Prop :=
  ∀ (j : Nat) (p : α), l[j]? = some p → ∃ (ad : Addr) (c : List Value), A = some ad ∧ c.length = sz ∧ K w p c ∧ ∀ (i : Nat) (u : Value), c[i]? = some u → w.cell? (ad.add (j * sz + i)) = some u
/-- A whole number's cell. -/
def KInt (k : IntKind) (w : World) (x : Int) (c : List Value) : Prop := c = [.int k x]
def wfInt (k : IntKind) (x : Int) : Prop := (Lit.int k x).wf = true
def KBool (w : World) (x : Bool) (c : List Value) : Prop := c = [.bool x]
def wfBool (x : Bool) : Prop := True

section
variable {H : Type} {enc : TypeId × Value → H} {P : Program} {w : World} {base : Nat} {spare : Nat → Bool} {held : Bool}
theorem lst_of_trod {α : Type} (K : World → α → List Value → Prop) (sz : Nat) (wf : α → Prop) {t e : TypeId} {fuel : Nat} {a : Option Addr} {len cap : Nat} {x : DataW H × List MemPlace} (ht : P.underlying t = some (.slice e)) (hsz : P.cellsOf e = sz)
    (hel : ∀ n cs y, DataW.trod enc P w base spare held n e cs = some y → ∃ p, K w p cs ∧ wf p) (h : DataW.trod enc P w base spare held fuel t [.slice a len cap] = some x) :
    ∃ l : List α, l.length = len ∧ len ≤ cap ∧ len ≤ maxLen ∧ Lst K sz w a l ∧ ∀ p ∈ l, wf p := by
  rcases open_slice ht h with ⟨h0, _⟩ | ⟨A, len', cap', m, n, D, Pl, hcs, hb, hl, hm, hmm, hx, hi⟩
  · simp at h0
    obtain ⟨rfl, rfl, rfl⟩ := h0
    exact ⟨[], rfl, Nat.le_refl _, Nat.zero_le _, fun j p hj => (by simp at hj), fun p hp => (by cases hp)⟩
  · simp at hcs
    obtain ⟨rfl, rfl, rfl⟩ := hcs
    have hlm : len ≤ m := by rw [hmm]; split <;> omega
    have key : ∀ k, k ≤ len → ∃ l : List α, l.length = k ∧ (∀ (j : Nat) (p : α), l[j]? = some p → ∃ c : List Value, c.length = sz ∧ K w p c ∧ ∀ (i : Nat) (u : Value), c[i]? = some u → w.cell? (A.add (j * sz + i)) = some u) ∧ ∀ p ∈ l, wf p := by
      intro k
      induction k with
      | zero => exact fun _ => ⟨[], rfl, fun j p h => by simp at h, fun p hp => by cases hp⟩
      | succ k ih =>
        intro hk
        obtain ⟨l, h1, h2, h3⟩ := ih (by omega)
        obtain ⟨cs', hc, ht'⟩ := hi k (by omega)
        obtain ⟨p, hp, hw⟩ := hel _ _ _ ht'
        rw [hsz] at hc
        obtain ⟨_, hcl, hat⟩ := World.cells?_some hc
        refine ⟨l ++ [p], by simp [h1], fun j q hq => ?_, fun q hq => ?_⟩
        · rcases Nat.lt_or_ge j k with hj | hj
          · rw [List.getElem?_append_left (by omega)] at hq
            exact h2 j q hq
          · rw [List.getElem?_append_right (by omega)] at hq
            have hj0 : j = k := by
              rcases Nat.lt_or_ge k j with h | h
              · rw [List.getElem?_eq_none (by simp; omega)] at hq; cases hq
              · omega
            subst hj0
            rw [h1, Nat.sub_self] at hq
            obtain rfl : p = q := by simpa using hq
            refine ⟨cs', hcl, hp, fun i u hu => ?_⟩
            have hi2 : i < cs'.length := (List.getElem?_eq_some_iff.1 hu).1
            rw [← Go.Deep.add_add, hat i (by omega), hu]
        · rcases List.mem_append.1 hq with h | h
          · exact h3 q h
          · rw [List.mem_singleton.1 h]; exact hw
    obtain ⟨l, h1, h2, h3⟩ := key len (Nat.le_refl _)
    exact ⟨l, h1, hl, Nat.le_trans hl hm, fun j p hj => by
      obtain ⟨c, k1, k2, k3⟩ := h2 j p hj
      exact ⟨A, c, rfl, k1, k2, k3⟩, h3⟩
theorem rows_of_trod {α : Type} (K : World → α → List Value → Prop) {sz : Nat} (wf : α → Prop) {t e : TypeId} {fuel : Nat} {a : Option Addr} {len cap : Nat} {x : DataW H × List MemPlace} (ht : P.underlying t = some (.slice e)) (hsz : P.cellsOf e = sz)
    (hel : ∀ n cs y, DataW.trod enc P w base spare held n e cs = some y → ∃ p, K w p cs ∧ wf p) (h : DataW.trod enc P w base spare held fuel t [.slice a len cap] = some x) :
    ∃ l : List α, l.length = len ∧ len ≤ cap ∧ len ≤ maxLen ∧ Lst K sz w a l ∧ ∀ p ∈ l, wf p := lst_of_trod K sz wf ht hsz hel h
theorem sized_rows {t e : TypeId} {a : Option Addr} {len cap : Nat} {d : DataW H} {ps : List MemPlace} {ts : List TypeId} {ds : List (DataW H)} {j : Nat}
    (hsz : (DataW.weightsEach P ts ds).all (· ≤ reachBytes) = true) (ht : ts[j]? = some t) (hd : ds[j]? = some d) (hu : P.underlying t = some (.slice e)) {B : Nat} (hB : P.bytesOf e = B)
    (h : DataW.Trod enc P w base spare held t (.slice a len cap) d ps) : len * B ≤ 140737488351232 := by
  obtain ⟨fuel, hf⟩ := h
  rcases open_slice hu hf with ⟨h0, _⟩ | ⟨A, len', cap', m, n, D, Pl, hcs, hb, hl, hm, hmm, hx, hi⟩
  · simp [Value.cells] at h0
    obtain ⟨rfl, rfl, rfl⟩ := h0
    simp
  · simp [Value.cells] at hcs
    obtain ⟨rfl, rfl, rfl⟩ := hcs
    obtain ⟨hx, _⟩ := Prod.mk.inj hx
    subst hx
    have z := sized_slice hsz ht hd hu
    rw [hB] at z
    have h1 : ((List.range len).map D).length = len := by simp
    have h2 : len * B ≤ (((List.range len).map D).length + ((List.range (m - len)).map fun j => D (len + j)).length) * B := Nat.mul_le_mul_right _ (by omega)
    exact Nat.le_trans h2 z
theorem int_el {k : IntKind} {e : TypeId} (he : P.underlying e = some (.int k)) : ∀ n cs y, DataW.trod enc P w base spare held n e cs = some y → ∃ p, KInt k w p cs ∧ wfInt k p := by
  intro n cs y h
  obtain ⟨z, e1, _, w1⟩ := DataW.trod_int he h
  exact ⟨z, e1, w1⟩
theorem bool_el {e : TypeId} (he : P.underlying e = some .bool) : ∀ n cs y, DataW.trod enc P w base spare held n e cs = some y → ∃ p, KBool w p cs ∧ wfBool p := by
  intro n cs y h
  obtain ⟨z, e1, _⟩ := DataW.trod_bool he h
  exact ⟨z, e1, trivial⟩

end

end Go.Proofs.Ytfdhjeeaigfmfaa.In
