/- A literal's row is marked: what that leaves as it was. -/
import Derived.Test.YtfdhjeeaigfmfaaHeaderJoin
import Derived.Test.YtfdhjeeaigfmfaaWordsOne
import Derived.Test.YtfdhjeeaigfmfaaRegionFacts
import Derived.Lib.SlBytesConst
namespace Go.Proofs.Ytfdhjeeaigfmfaa.Sp
open Go.RowKit Go.WideMaps Go.Proofs.Ytfdhjeeaigfmfaa.In Go.Proofs.Ytfdhjeeaigfmfaa.Plain
set_option linter.unusedVariables false
set_option linter.unusedSimpArgs false

theorem freeze_heap (w : World) (b k j : Nat) : (w.freeze ⟨b, k, none⟩ 1).heap[j]? = if b = j then (w.heap[j]?).map (fun | .cells c elem (lo, hi) => .cells c elem (if lo == hi then (k, k + 1) else (min lo k, max hi (k + 1))) | o => o) else w.heap[j]? := by
  unfold World.freeze
  rw [if_neg (by decide)]
  simp only [Array.getElem?_modify]
  rfl
/-- Marks of rows of bytes may be others; all else is as it was. -/
def Marks (W W' : World) : Prop := W'.os = W.os ∧ W'.tape = W.tape ∧ W'.output = W.output ∧ W.heap.size ≤ W'.heap.size ∧ ∀ (k : Nat) (cs : Array Value) (t : TypeId) (fr : Nat × Nat), W.heap[k]? = some (.cells cs t fr) → ∃ fr', W'.heap[k]? = some (.cells cs t fr') ∧ (t ≠ 5 → fr' = fr)
theorem Marks.of_below {W W' : World} (h : Below W.heap.size W W') : Marks W W' :=
  ⟨h.os, h.tape, h.output, h.size, fun k cs t fr hk => ⟨fr, (h.block k (Array.getElem?_eq_some_iff.1 hk).1).trans hk, fun _ => rfl⟩⟩
theorem Row.marks {W W' : World} {r : Nat} {l : List Int} (h : Row W r l) (hm : Marks W W') : Row W' r l := by
  obtain ⟨fr, h⟩ := h
  obtain ⟨fr', h', _⟩ := hm.2.2.2.2 _ _ _ _ h
  exact ⟨fr', h'⟩
theorem mark_run (w : World) (b n c : Nat) (l : List Int) (h : Row w b l) : ∃ w', (convert 32 32 (.slice (some ⟨b, 0, none⟩) n c)).run Try.prog w = .ok (.slice (some ⟨b, 0, none⟩) n c) w' ∧ Marks w w' ∧ ∀ B, B ≤ b → Below B w w' := by
  obtain ⟨fr, h⟩ := h
  have ht : Try.prog.underlying 32 = some (.slice 5) := by kernel_rfl
  have he : Try.prog.underlying 5 = some (.int .u8) := by kernel_rfl
  have hsh : w.shape? b = some (5, (l.map (Value.int .u8)).toArray.size) := by
    unfold World.shape?
    rw [h]
  refine ⟨w.freeze ⟨b, (l.map (Value.int .u8)).toArray.size, none⟩ 1, ?_, ?_, ?_⟩
  · simp [convert, run_underlying ht, run_underlying he, markStringish, hsh]
  · refine ⟨by unfold World.freeze; rw [if_neg (by decide)], by unfold World.freeze; rw [if_neg (by decide)], by unfold World.freeze; rw [if_neg (by decide)], by unfold World.freeze; rw [if_neg (by decide)]; simp, fun k cs t fr2 hk => ?_⟩
    rw [freeze_heap, hk]
    by_cases e : b = k
    · subst e
      rw [h] at hk
      injection hk with hk
      injection hk with h1 h2 h3
      subst h1 h2 h3
      rw [if_pos rfl]
      exact ⟨_, rfl, fun hne => absurd rfl hne⟩
    · rw [if_neg e]
      exact ⟨fr2, rfl, fun _ => rfl⟩
  · intro B hB
    refine ⟨by unfold World.freeze; rw [if_neg (by decide)], by unfold World.freeze; rw [if_neg (by decide)], by unfold World.freeze; rw [if_neg (by decide)], by unfold World.freeze; rw [if_neg (by decide)]; simp, fun k hk => ?_⟩
    rw [freeze_heap, if_neg (by omega)]
end Go.Proofs.Ytfdhjeeaigfmfaa.Sp
