/- Slices of structs that come in: as lists. -/
import Derived.Test.YtbbhfbpkopocgaaProg
import Derived.Test.YtbbhfbpkopocgaaWWords
import Derived.Test.YtbbhfbpkopocgaaWSized
import Derived.Deep.Slices
import Derived.Deep.Fields
import Derived.ChangeSame
import Derived.KernelRfl
namespace Go.Proofs.Ytbbhfbpkopocgaa.Acts
open Go.RowKit Go.ChangeShapes Go.WideShapes Go.Deep Go.Proofs.YtbbhfbpkopocgaaW.PrintWords
set_option linter.unusedVariables false
section
variable {H : Type} {enc : TypeId × Value → H} {P : Program} {w : World} {base : Nat} {spare : Nat → Bool} {held : Bool}
theorem rows_of_trod {α : Type} (d : Kd α) (wf : α → Prop) {t e : TypeId} {fuel : Nat} {a : Option Addr} {len cap : Nat} {x : DataW H × List MemPlace} (ht : P.underlying t = some (.slice e)) (hsz : P.cellsOf e = d.sz)
    (hel : ∀ n cs y, DataW.trod enc P w base spare held n e cs = some y → ∃ p, d.K w p cs ∧ wf p) (h : DataW.trod enc P w base spare held fuel t [.slice a len cap] = some x) :
    ∃ l : List α, l.length = len ∧ len ≤ cap ∧ len ≤ maxLen ∧ d.C w a len l ∧ ∀ p ∈ l, wf p := by
  rcases open_slice ht h with ⟨h0, _⟩ | ⟨A, len', cap', m, n, D, Pl, hcs, hb, hl, hm, hmm, hx, hi⟩
  · simp at h0
    obtain ⟨rfl, rfl, rfl⟩ := h0
    exact ⟨[], rfl, Nat.le_refl _, Nat.zero_le _, ⟨rfl, by omega, fun h => by omega⟩, fun p hp => by cases hp⟩
  · simp at hcs
    obtain ⟨rfl, rfl, rfl⟩ := hcs
    have hlm : len ≤ m := by rw [hmm]; split <;> omega
    have key : ∀ k, k ≤ len → ∃ l : List α, l.length = k ∧ (∀ j p, l[j]? = some p → ∃ c, c.length = d.sz ∧ d.K w p c ∧ ∀ i u, c[i]? = some u → w.cell? (A.add (j * d.sz + i)) = some u) ∧ ∀ p ∈ l, wf p := by
      intro k
      induction k with
      | zero => exact fun _ => ⟨[], rfl, fun j p h => by simp at h, fun p hp => by cases hp⟩
      | succ k ih =>
        intro hk
        obtain ⟨l, h1, h2, h3⟩ := ih (by omega)
        obtain ⟨cs', hc, ht'⟩ := hi k (by omega)
        obtain ⟨p, hp, hw⟩ := hel _ _ _ ht'
        rw [hsz] at hc
        obtain ⟨_, hcl, hat⟩ := World.cells?_some hc
        refine ⟨l ++ [p], by simp [h1], fun j q hq => ?_, fun q hq => ?_⟩
        · rcases Nat.lt_or_ge j k with hj | hj
          · rw [List.getElem?_append_left (by omega)] at hq
            exact h2 j q hq
          · rw [List.getElem?_append_right (by omega)] at hq
            have hj0 : j = k := by
              rcases Nat.lt_or_ge k j with h | h
              · rw [List.getElem?_eq_none (by simp; omega)] at hq; cases hq
              · omega
            subst hj0
            rw [h1, Nat.sub_self] at hq
            obtain rfl : p = q := by simpa using hq
            refine ⟨cs', hcl, hp, fun i u hu => ?_⟩
            have hi2 : i < cs'.length := (List.getElem?_eq_some_iff.1 hu).1
            rw [← Go.Deep.add_add, hat i (by omega), hu]
        · rcases List.mem_append.1 hq with h | h
          · exact h3 q h
          · rw [List.mem_singleton.1 h]; exact hw
    obtain ⟨l, h1, h2, h3⟩ := key len (Nat.le_refl _)
    refine ⟨l, h1, hl, Nat.le_trans hl hm, ⟨h1, ?_, fun _ => ⟨A, rfl, h2⟩⟩, h3⟩
    have : len ≤ maxLen := Nat.le_trans hl hm
    simpa [maxLen] using this
theorem sized_rows {t e : TypeId} {a : Option Addr} {len cap : Nat} {d : DataW H} {ps : List MemPlace} {ts : List TypeId} {ds : List (DataW H)} {j : Nat}
    (hsz : (DataW.weightsEach P ts ds).all (· ≤ reachBytes) = true) (ht : ts[j]? = some t) (hd : ds[j]? = some d) (hu : P.underlying t = some (.slice e)) {B : Nat} (hB : P.bytesOf e = B)
    (h : DataW.Trod enc P w base spare held t (.slice a len cap) d ps) : len * B ≤ 140737488351232 := by
  obtain ⟨fuel, hf⟩ := h
  rcases open_slice hu hf with ⟨h0, _⟩ | ⟨A, len', cap', m, n, D, Pl, hcs, hb, hl, hm, hmm, hx, hi⟩
  · simp [Value.cells] at h0
    obtain ⟨rfl, rfl, rfl⟩ := h0
    simp
  · simp [Value.cells] at hcs
    obtain ⟨rfl, rfl, rfl⟩ := hcs
    obtain ⟨hx, _⟩ := Prod.mk.inj hx
    subst hx
    have z := sized_slice hsz ht hd hu
    rw [hB] at z
    have h1 : ((List.range len).map D).length = len := by simp
    have h2 : len * B ≤ (((List.range len).map D).length + ((List.range (m - len)).map fun j => D (len + j)).length) * B := Nat.mul_le_mul_right _ (by omega)
    exact Nat.le_trans h2 z
end
end Go.Proofs.Ytbbhfbpkopocgaa.Acts
#check @Go.Proofs.Try.underlying50
