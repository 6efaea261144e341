/- CacheTurns -/
import Derived.Test.YtbbhfbpkopocgaaPCacheTurnsx2
import Derived.Lib.Hide
namespace Go.Proofs.Ytbbhfbpkopocgaa.Pure
open Go.RowKit Go.Proofs.Ytbbhfbpkopocgaa.PCacheTurns Go.Proofs.YtbbhfbpkopocgaaW.PrintWords Go.Proofs.YtbbhfbpkopocgaaW.PrintLast Go.Proofs.YtbbhfbpkopocgaaW.PrintMore Go.Proofs.Ytbbhfbpkopocgaa.Hand
set_option linter.unusedVariables false
set_option linter.unusedSimpArgs false
namespace CacheTurnsP

theorem put_at (S : Nat → List Int) (k : Nat) (l : List Int) : put S k l k = l := by unfold put; simp
theorem put_ne (S : Nat → List Int) {k j : Nat} (l : List Int) (h : j ≠ k) : put S k l j = S j := by unfold put; rw [if_neg h]
theorem push_f (S : Stacks) {k : Nat} (hk : k < 7) {p : Int} (hp : 0 ≤ p) : cache_Cache_Push.f S (k : Int) p = some (decide ((S k).length < 4), if (S k).length < 4 then put S k (S k ++ [p]) else S) := by
  unfold cache_Cache_Push.f pushF
  by_cases h : (S k).length < 4
  · rw [if_pos ⟨⟨by omega, by omega⟩, hp, by rw [Int.toNat_natCast]; exact h⟩, if_pos h, decide_eq_true h, Int.toNat_natCast]
  · rw [if_neg (fun h' => h (by have := h'.2.2; rwa [Int.toNat_natCast] at this)), if_neg h, decide_eq_false h]
theorem pop_f (S : Stacks) {k : Nat} (hk : k < 7) : cache_Cache_Pop.f S (k : Int) = some (if 0 < (S k).length then ((S k).getLastD 0, true, put S k (S k).dropLast) else (0, false, S)) := by
  unfold cache_Cache_Pop.f popF
  by_cases h : 0 < (S k).length
  · rw [if_pos ⟨⟨by omega, by omega⟩, by rw [Int.toNat_natCast]; exact h⟩, if_pos h, Int.toNat_natCast]
  · rw [if_neg (fun h' => h (by have := h'.2; rwa [Int.toNat_natCast] at this)), if_neg h]
theorem len_f (S : Stacks) {k : Nat} (hk : k < 7) : cache_Cache_Len.f S (k : Int) = some (((S k).length : Int), S) := by
  unfold cache_Cache_Len.f
  rw [lenF_in S hk]
theorem mod7 {a : Int} (h0 : 0 ≤ a) (h1 : a ≤ 255) : ∃ m : Nat, m < 7 ∧ wrap64 (Int.tmod a 7) = (m : Int) := by
  rw [Int.tmod_eq_emod_of_nonneg h0]
  exact ⟨(a % 7).toNat, by omega, by unfold wrap64; omega⟩
theorem awake_f : steadinglaw09_awake.f = some true := by decide +kernel
theorem wf_u8 {a : Int} (h : (Lit.int .u8 a).wf = true) : 0 ≤ a ∧ a ≤ 255 := by
  simpa [Lit.wf, IntKind.min, IntKind.max, IntKind.signed, IntKind.bits] using h
theorem wf_u16 {a : Int} (h : (Lit.int .u16 a).wf = true) : 0 ≤ a ∧ a ≤ 65535 := by
  simpa [Lit.wf, IntKind.min, IntKind.max, IntKind.signed, IntKind.bits] using h

theorem ws (i : Nat) (h : i < 1000) : wrap64 ((i : Int) + 1) = ((i + 1 : Nat) : Int) := by unfold wrap64; omega
theorem wm {i : Nat} (h0 : 0 < i) (h : i < 1000) : wrap64 ((i : Int) - 1) = ((i - 1 : Nat) : Int) := by unfold wrap64; omega
theorem cpages_f (k : Nat) (h : k < 7) : classes_Pages.f (k : Int) = some (2 ^ k) := by
  have : k = 0 ∨ k = 1 ∨ k = 2 ∨ k = 3 ∨ k = 4 ∨ k = 5 ∨ k = 6 := by omega
  rcases this with rfl | rfl | rfl | rfl | rfl | rfl | rfl <;> decide +kernel
/-- one pile, at class k -/
def One (k : Nat) (l : List Int) (S : Stacks) : Prop := S k = l ∧ ∀ j, j < 7 → j ≠ k → S j = []
theorem one_put {k : Nat} {l : List Int} {S : Stacks} (h : One k l S) (m : List Int) : One k m (put S k m) := ⟨put_at _ _ _, fun j hj e => by rw [put_ne _ _ e, h.2 j hj e]⟩
theorem one_sum {k : Nat} {l : List Int} {S : Stacks} (h : One k l S) : ∀ m, m ≤ 7 → sumP S m = if k < m then (l.length : Int) * 2 ^ k else 0
  | 0, _ => by simp [sumP]
  | m + 1, hm => by
    unfold sumP
    rw [one_sum h m (by omega)]
    by_cases e : m = k
    · subst e; rw [if_neg (by omega), if_pos (by omega), h.1]; omega
    · rw [h.2 m (by omega) e]
      by_cases hlt : k < m
      · rw [if_pos hlt, if_pos (by omega)]; simp
      · rw [if_neg hlt, if_neg (by omega)]; simp
theorem one_all {k : Nat} {l : List Int} {S : Stacks} (h : One k l S) : ∀ m, m ≤ 7 → allL S m = if k < m then l.map (fun p => (⟨p, 2 ^ k⟩ : S36)) else []
  | 0, _ => by simp [allL]
  | m + 1, hm => by
    unfold allL
    rw [one_all h m (by omega)]
    by_cases e : m = k
    · subst e; rw [if_neg (by omega), if_pos (by omega), h.1]; rfl
    · rw [h.2 m (by omega) e]
      by_cases hlt : k < m
      · rw [if_pos hlt, if_pos (by omega)]; simp
      · rw [if_neg hlt, if_neg (by omega)]; rfl
theorem wmul {n k : Nat} (hn : n ≤ 4) (hk : k < 7) : wrap64 ((n : Int) * 2 ^ k) = (n : Int) * 2 ^ k := by
  have h1 : (2 : Int) ^ k ≤ 64 := by have h := Nat.pow_le_pow_right (n := 2) (by decide) (show k ≤ 6 by omega); exact_mod_cast h
  have h0 : (0 : Int) < 2 ^ k := Int.pow_pos (by decide)
  have h2 : (n : Int) * 2 ^ k ≤ 4 * 2 ^ k := Int.mul_le_mul_of_nonneg_right (by omega) (by omega)
  have h3 : 0 ≤ (n : Int) * 2 ^ k := Int.mul_nonneg (by omega) (by omega)
  generalize (n : Int) * 2 ^ k = z at *
  unfold wrap64; omega
theorem end_run (l : List Int) (hl : l.length ≤ 4) (k : Nat) (d : Nat) : ∀ (i c : Nat), i + d = l.length → d < c → steadinglaw09_CacheTurns.l1 c l (l.map (fun p => (⟨p, 2 ^ k⟩ : S36))) (i : Int) = some true := by
  induction d with
  | zero =>
    intro i c hi hc
    obtain ⟨c, rfl⟩ : ∃ m, c = m + 1 := ⟨c - 1, by omega⟩
    simp only [steadinglaw09_CacheTurns.l1]
    rw [List.length_map, if_neg (by omega)]
    simp
  | succ d ih =>
    intro i c hi hc
    obtain ⟨c, rfl⟩ : ∃ m, c = m + 1 := ⟨c - 1, by omega⟩
    simp only [steadinglaw09_CacheTurns.l1]
    have hlt : i < l.length := by omega
    have e : (rd_T36 (l.map (fun p => (⟨p, 2 ^ k⟩ : S36))) (i : Int)).f0 = rd l (i : Int) := by
      unfold rd_T36 rd
      simp [hlt]
    rw [List.length_map, if_pos (by omega), if_pos (Int.natCast_nonneg i), if_pos (by omega), if_pos e, ws i (by omega)]
    exact ih (i + 1) c (by omega) (by omega)
theorem j2_run (t : List Bool) {k : Nat} (hk : k < 7) (l : List Int) (hl : l.length ≤ 4) (S : Stacks) (hS : One k l S) (i : Nat) (hi : i < 900) (c : Nat) (K : steadinglaw09_CacheTurns.l0 c t (k : Int) l ((i + 1 : Nat) : Int) S none7 = some true) :
    steadinglaw09_CacheTurns.j2 (c + 1) t (k : Int) l (i : Int) S none7 = some true := by
  have e : pagesF S = (l.length : Int) * 2 ^ k := by unfold pagesF; rw [one_sum hS 7 (Nat.le_refl _), if_pos hk]
  have e0 : pagesF none7 = 0 := rfl
  have el : cache_Cache_Len.f S (k : Int) = some ((l.length : Int), S) := by rw [len_f S hk, hS.1]
  have ep : cache_Cache_Pages.f S = some ((l.length : Int) * 2 ^ k, S) := by unfold cache_Cache_Pages.f; rw [e]
  have e7 : cache_Cache_Pages.f none7 = some (0, none7) := by unfold cache_Cache_Pages.f; rw [e0]
  have ei := ws i (Nat.lt_trans hi (by decide))
  have ew := wmul hl hk
  rw [← ei] at K
  unfold steadinglaw09_CacheTurns.j2
  generalize wrap64 = W at *
  rw [el, Option.bind_some, if_pos rfl, ep, Option.bind_some, cpages_f k hk, Option.bind_some, if_pos ew.symm, e7, Option.bind_some, if_pos rfl]
  exact K
theorem l0_run (t : List Bool) (ht : t.length ≤ 60) {k : Nat} (hk : k < 7) (d : Nat) : ∀ (i c : Nat) (l : List Int) (S : Stacks), i + d = t.length → One k l S → l.length ≤ 4 → 10 + 3 * d < c → steadinglaw09_CacheTurns.l0 c t (k : Int) l (i : Int) S none7 = some true := by
  induction d with
  | zero =>
    intro i c l S hi hS hl hc
    obtain ⟨c, rfl⟩ : ∃ m, c = m + 1 := ⟨c - 1, by omega⟩
    simp only [steadinglaw09_CacheTurns.l0]
    rw [if_neg (by omega)]
    unfold cache_Cache_All.f
    rw [one_all hS 7 (Nat.le_refl _), if_pos hk]
    simp only [Option.bind_some]
    exact end_run l hl k l.length 0 c (by omega) (by omega)
  | succ d ih =>
    intro i c l S hi hS hl hc
    obtain ⟨c, rfl⟩ : ∃ m, c = m + 1 + 1 + 1 := ⟨c - 3, by omega⟩
    generalize hq : c + 1 + 1 = q
    simp only [steadinglaw09_CacheTurns.l0]
    rw [if_pos (by omega), if_pos (Int.natCast_nonneg i), push_f S hk (Int.natCast_nonneg i), pop_f S hk, hS.1]
    simp only [Option.bind_some]
    have hx : ∀ (l' : List Int) (S' : Stacks), One k l' S' → l'.length ≤ 4 → steadinglaw09_CacheTurns.j2 q t (k : Int) l' (i : Int) S' none7 = some true := fun l' S' h1 h2 => by
      rw [← hq]
      exact j2_run t hk l' h2 S' h1 i (by omega) (c + 1) (ih (i + 1) (c + 1) l' S' (by omega) h1 h2 (by omega))
    by_cases hb : rdOf false t (i : Int) = true
    · rw [if_pos hb]
      by_cases h4 : l.length < 4
      · have q1 : decide ((l.length : Int) < 4) = true := decide_eq_true (by omega)
        have q2 : decide (l.length < 4) = true := decide_eq_true h4
        rw [q1, q2, if_neg (by simp), if_pos rfl, if_pos (by omega), if_pos h4]
        exact hx _ _ (one_put hS _) (by simp; omega)
      · have q1 : decide ((l.length : Int) < 4) = false := decide_eq_false (by omega)
        have q2 : decide (l.length < 4) = false := decide_eq_false h4
        rw [q1, q2, if_neg (by simp), if_neg (by simp), if_neg h4]
        exact hx _ _ hS hl
    · rw [if_neg hb]
      have hj : ∀ (b : Bool) (S' : Stacks), (b = true → 0 < l.length) → One k (if b = true then l.take (l.length - 1) else l) S' → steadinglaw09_CacheTurns.j1 q t (k : Int) l (i : Int) b false S' none7 = some true := fun b S' h1 h2 => by
        rw [← hq]
        generalize hq2 : c + 1 = q3
        simp only [steadinglaw09_CacheTurns.j1]
        rw [if_neg (by simp), ← hq2]
        cases b with
        | true =>
          have hpos := h1 rfl
          have hle : (l.take (l.length - 1)).length ≤ 4 := by simp; omega
          rw [if_pos rfl, wm hpos (by omega), if_pos (Int.natCast_nonneg _), if_pos (by omega), Int.toNat_natCast]
          exact j2_run t hk _ hle S' h2 i (by omega) c (ih (i + 1) c _ S' (by omega) h2 hle (by omega))
        | false =>
          rw [if_neg (by simp)]
          exact j2_run t hk l hl S' h2 i (by omega) c (ih (i + 1) c l S' (by omega) h2 hl (by omega))
      by_cases h0 : 0 < l.length
      · have q1 : decide ((l.length : Int) > 0) = true := decide_eq_true (by omega)
        have e : rd l ((l.length - 1 : Nat) : Int) = l.getLastD 0 := by
          rw [getLastD_at l h0]
          unfold rd
          simp [show l.length - 1 < l.length from by omega]
        rw [if_pos h0, q1, if_neg (by simp), if_pos rfl, wm h0 (by omega), if_pos (Int.natCast_nonneg _), if_pos (by omega), e]
        have eb : (l.getLastD 0 != l.getLastD 0) = false := by simp
        rw [eb]
        refine hj true _ (fun _ => h0) ?_
        rw [if_pos rfl, ← List.dropLast_eq_take]
        exact one_put hS _
      · have q1 : decide ((l.length : Int) > 0) = false := decide_eq_false (by omega)
        rw [if_neg h0, q1, if_neg (by simp), if_neg (by simp)]
        exact hj false S (fun h => by cases h) (by rw [if_neg (by simp)]; exact hS)
end CacheTurnsP
open CacheTurnsP
theorem CacheTurns : steadinglaw09_CacheTurns.Pure := by
  intro l a1 hl hl2 h1
  have h1' := wf_u8 h1
  obtain ⟨K, hK⟩ : ∃ K : Nat, 250 < K := ⟨251, by omega⟩
  refine ⟨K, ?_⟩
  unfold steadinglaw09_CacheTurns.f
  rw [awake_f]
  simp only [Option.bind_some]
  rw [if_pos trivial]
  by_cases hlen : (l.length : Int) > 60
  · rw [if_pos hlen]
  · obtain ⟨k, hk, ek⟩ := mod7 h1'.1 h1'.2
    rw [if_neg hlen, ek]
    unfold cache_New.f
    simp only [Option.bind_some]
    have := l0_run l (by omega) hk l.length 0 K [] none7 (by omega) ⟨rfl, fun _ _ _ => rfl⟩ (by simp) (by omega)
    simpa using this

end Go.Proofs.Ytbbhfbpkopocgaa.Pure
