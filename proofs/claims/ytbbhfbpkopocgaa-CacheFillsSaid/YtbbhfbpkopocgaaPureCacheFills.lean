/- CacheFills -/
import Derived.Test.YtbbhfbpkopocgaaPCacheFillsx2
import Derived.Lib.Hide
namespace Go.Proofs.Ytbbhfbpkopocgaa.Pure
open Go.RowKit Go.Proofs.Ytbbhfbpkopocgaa.PCacheFills Go.Proofs.YtbbhfbpkopocgaaW.PrintWords Go.Proofs.YtbbhfbpkopocgaaW.PrintLast Go.Proofs.YtbbhfbpkopocgaaW.PrintMore Go.Proofs.Ytbbhfbpkopocgaa.Hand
set_option linter.unusedVariables false
set_option linter.unusedSimpArgs false
namespace CacheFillsP

theorem put_at (S : Nat → List Int) (k : Nat) (l : List Int) : put S k l k = l := by unfold put; simp
theorem put_ne (S : Nat → List Int) {k j : Nat} (l : List Int) (h : j ≠ k) : put S k l j = S j := by unfold put; rw [if_neg h]
theorem push_f (S : Stacks) {k : Nat} (hk : k < 7) {p : Int} (hp : 0 ≤ p) : cache_Cache_Push.f S (k : Int) p = some (decide ((S k).length < 4), if (S k).length < 4 then put S k (S k ++ [p]) else S) := by
  unfold cache_Cache_Push.f pushF
  by_cases h : (S k).length < 4
  · rw [if_pos ⟨⟨by omega, by omega⟩, hp, by rw [Int.toNat_natCast]; exact h⟩, if_pos h, decide_eq_true h, Int.toNat_natCast]
  · rw [if_neg (fun h' => h (by have := h'.2.2; rwa [Int.toNat_natCast] at this)), if_neg h, decide_eq_false h]
theorem pop_f (S : Stacks) {k : Nat} (hk : k < 7) : cache_Cache_Pop.f S (k : Int) = some (if 0 < (S k).length then ((S k).getLastD 0, true, put S k (S k).dropLast) else (0, false, S)) := by
  unfold cache_Cache_Pop.f popF
  by_cases h : 0 < (S k).length
  · rw [if_pos ⟨⟨by omega, by omega⟩, by rw [Int.toNat_natCast]; exact h⟩, if_pos h, Int.toNat_natCast]
  · rw [if_neg (fun h' => h (by have := h'.2; rwa [Int.toNat_natCast] at this)), if_neg h]
theorem len_f (S : Stacks) {k : Nat} (hk : k < 7) : cache_Cache_Len.f S (k : Int) = some (((S k).length : Int), S) := by
  unfold cache_Cache_Len.f
  rw [lenF_in S hk]
theorem mod7 {a : Int} (h0 : 0 ≤ a) (h1 : a ≤ 255) : ∃ m : Nat, m < 7 ∧ wrap64 (Int.tmod a 7) = (m : Int) := by
  rw [Int.tmod_eq_emod_of_nonneg h0]
  exact ⟨(a % 7).toNat, by omega, by unfold wrap64; omega⟩
theorem awake_f : steadinglaw09_awake.f = some true := by decide +kernel
theorem wf_u8 {a : Int} (h : (Lit.int .u8 a).wf = true) : 0 ≤ a ∧ a ≤ 255 := by
  simpa [Lit.wf, IntKind.min, IntKind.max, IntKind.signed, IntKind.bits] using h
theorem wf_u16 {a : Int} (h : (Lit.int .u16 a).wf = true) : 0 ≤ a ∧ a ≤ 65535 := by
  simpa [Lit.wf, IntKind.min, IntKind.max, IntKind.signed, IntKind.bits] using h

def rng (n : Int) (k m : Nat) : List Int := (List.range m).map fun (j : Nat) => n + 10 * (k : Int) + (j : Int)
theorem rng_length (n : Int) (k m : Nat) : (rng n k m).length = m := by unfold rng; simp
theorem rng_snoc (n : Int) (k m : Nat) : rng n k m ++ [n + 10 * (k : Int) + (m : Int)] = rng n k (m + 1) := by unfold rng; rw [List.range_succ]; simp
theorem rng_last (n : Int) (k m : Nat) : (rng n k (m + 1)).getLastD 0 = n + 10 * (k : Int) + (m : Int) := by rw [← rng_snoc]; simp [List.getLastD_eq_getLast?]
theorem rng_drop (n : Int) (k m : Nat) : (rng n k (m + 1)).dropLast = rng n k m := by rw [← rng_snoc]; simp
theorem wr (n : Int) (k : Nat) (i : Int) (n0 : 0 ≤ n) (n1 : n ≤ 65535) (hk : k < 7) (i0 : 0 ≤ i) (i1 : i ≤ 5) : wrap64 ((wrap64 (n + (wrap64 (10 * (k : Int))))) + i) = n + 10 * (k : Int) + i := by
  have e1 : wrap64 (10 * (k : Int)) = 10 * (k : Int) := by unfold wrap64; omega
  rw [e1]
  clear e1
  have e2 : wrap64 (n + 10 * (k : Int)) = n + 10 * (k : Int) := by unfold wrap64; omega
  rw [e2]
  clear e2
  unfold wrap64; omega
theorem ws (i : Nat) (h : i < 100) : wrap64 ((i : Int) + 1) = ((i + 1 : Nat) : Int) := by unfold wrap64; omega
theorem wp (i : Nat) (h : i < 100) : wrap64 (((i + 1 : Nat) : Int) - 1) = (i : Int) := by unfold wrap64; omega

theorem l1_run (x1 n : Int) (n0 : 0 ≤ n) (n1 : n ≤ 65535) (i : Nat) (hi : i < 5) (c : Nat)
    (K : ∀ S' : Stacks, (∀ k, k < 7 → S' k = rng n k (min (i + 1) 4)) → steadinglaw09_CacheFills.l0 c x1 n ((i + 1 : Nat) : Int) S' = some true) (d : Nat) :
    ∀ (kk : Nat) (S : Stacks), kk + d = 7 → (∀ k, k < 7 → S k = rng n k (min (i + (if k < kk then 1 else 0)) 4)) → steadinglaw09_CacheFills.l1 (c + d + 1) x1 n (i : Int) (kk : Int) S = some true := by
  induction d with
  | zero =>
    intro kk S hk hS
    simp only [steadinglaw09_CacheFills.l1]
    rw [if_neg (by omega), ws i (by omega)]
    refine K S fun k h => ?_
    rw [hS k h, if_pos (by omega)]
  | succ d ih =>
    intro kk S hk hS
    have hk7 : kk < 7 := by omega
    rw [show c + (d + 1) + 1 = (c + d + 1) + 1 from by omega]
    generalize hq : c + d + 1 = q at *
    simp only [steadinglaw09_CacheFills.l1]
    have hkk := hS kk hk7
    rw [if_neg (by omega), Nat.add_zero] at hkk
    have hlen : (S kk).length = min i 4 := by rw [hkk, rng_length]
    rw [if_pos (by omega), wr n kk i n0 n1 hk7 (by omega) (by omega), push_f S hk7 (show (0 : Int) ≤ n + 10 * (kk : Int) + (i : Int) from by omega), ws kk (by omega)]
    simp only [Option.bind_some]
    by_cases h4 : i < 4
    · have q1 : decide ((S kk).length < 4) = true := decide_eq_true (by omega)
      have q2 : decide ((i : Int) < 4) = true := decide_eq_true (by omega)
      rw [q1, q2, if_neg (by simp), if_pos (by omega)]
      refine ih (kk + 1) _ (by omega) fun k h => ?_
      by_cases e : k = kk
      · subst e
        rw [put_at, hkk, if_pos (by omega), show min i 4 = i from by omega, rng_snoc, show min (i + 1) 4 = i + 1 from by omega]
      · rw [put_ne _ _ e, hS k h]
        by_cases hlt : k < kk
        · rw [if_pos hlt, if_pos (by omega)]
        · rw [if_neg hlt, if_neg (by omega)]
    · have q1 : decide ((S kk).length < 4) = false := decide_eq_false (by omega)
      have q2 : decide ((i : Int) < 4) = false := decide_eq_false (by omega)
      rw [q1, q2, if_neg (by simp), if_neg (show ¬ (S kk).length < 4 from by omega)]
      refine ih (kk + 1) _ (by omega) fun k h => ?_
      rw [hS k h]
      congr 1
      split <;> split <;> omega

def L28 (n : Int) : List S36 := (List.range 28).map fun (i : Nat) => (⟨n + 10 * ((i / 4 : Nat) : Int) + ((i % 4 : Nat) : Int), 2 ^ (i / 4)⟩ : S36)
theorem all_L28 {n : Int} {S : Stacks} (hS : ∀ k, k < 7 → S k = rng n k 4) : allL S 7 = L28 n := by
  simp only [allL]
  rw [hS 0 (by omega), hS 1 (by omega), hS 2 (by omega), hS 3 (by omega), hS 4 (by omega), hS 5 (by omega), hS 6 (by omega)]
  rfl
theorem pages_508 {n : Int} {S : Stacks} (hS : ∀ k, k < 7 → S k = rng n k 4) : pagesF S = 508 := by
  unfold pagesF
  simp only [sumP]
  rw [hS 0 (by omega), hS 1 (by omega), hS 2 (by omega), hS 3 (by omega), hS 4 (by omega), hS 5 (by omega), hS 6 (by omega)]
  simp only [rng_length]
  decide
theorem all_none {S : Stacks} (hS : ∀ k, k < 7 → S k = []) : allL S 7 = [] := by
  simp only [allL]
  rw [hS 0 (by omega), hS 1 (by omega), hS 2 (by omega), hS 3 (by omega), hS 4 (by omega), hS 5 (by omega), hS 6 (by omega)]
  rfl
theorem pages_none {S : Stacks} (hS : ∀ k, k < 7 → S k = []) : pagesF S = 0 := by
  unfold pagesF
  simp only [sumP]
  rw [hS 0 (by omega), hS 1 (by omega), hS 2 (by omega), hS 3 (by omega), hS 4 (by omega), hS 5 (by omega), hS 6 (by omega)]
  rfl
theorem cpages_f (k : Nat) (h : k < 7) : classes_Pages.f (k : Int) = some (2 ^ k) := by
  have : k = 0 ∨ k = 1 ∨ k = 2 ∨ k = 3 ∨ k = 4 ∨ k = 5 ∨ k = 6 := by omega
  rcases this with rfl | rfl | rfl | rfl | rfl | rfl | rfl <;> decide +kernel

theorem l4_run (n : Int) (n0 : 0 ≤ n) (n1 : n ≤ 65535) (kk : Nat) (hk : kk < 7) (c : Nat)
    (K : ∀ S' : Stacks, (∀ k, k < 7 → S' k = if k < kk + 1 then [] else rng n k 4) → steadinglaw09_CacheFills.l3 c n ((kk + 1 : Nat) : Int) S' = some true) (d : Nat) :
    ∀ (S : Stacks), d ≤ 4 → S kk = rng n kk d → (∀ k, k < 7 → k ≠ kk → S k = if k < kk then [] else rng n k 4) → steadinglaw09_CacheFills.l4 (c + d + 1) n (kk : Int) ((d : Int) - 1) S = some true := by
  induction d with
  | zero =>
    intro S _ h1 h2
    simp only [steadinglaw09_CacheFills.l4]
    rw [if_neg (by omega), ws kk (by omega)]
    refine K S fun k h => ?_
    by_cases e : k = kk
    · subst e; rw [h1, if_pos (by omega)]; rfl
    · rw [h2 k h e]
      by_cases hlt : k < kk
      · rw [if_pos hlt, if_pos (by omega)]
      · rw [if_neg hlt, if_neg (by omega)]
  | succ d ih =>
    intro S hd h1 h2
    rw [show c + (d + 1) + 1 = (c + d + 1) + 1 from by omega]
    generalize hq : c + d + 1 = q at *
    simp only [steadinglaw09_CacheFills.l4]
    have hlen : (S kk).length = d + 1 := by rw [h1, rng_length]
    rw [show (((d + 1 : Nat) : Int) - 1) = (d : Int) from by omega, if_pos (by omega), pop_f S hk, if_pos (by omega), wr n kk d n0 n1 hk (by omega) (by omega), h1, rng_last, rng_drop]
    simp only [Option.bind_some]
    rw [if_pos trivial, if_pos trivial, show wrap64 ((d : Int) - 1) = (d : Int) - 1 from by unfold wrap64; omega]
    refine ih _ (by omega) (by rw [put_at]) fun k h e => ?_
    rw [put_ne _ _ e, h2 k h e]
theorem l3_run (n : Int) (n0 : 0 ≤ n) (n1 : n ≤ 65535) (d : Nat) : ∀ (c kk : Nat) (S : Stacks), kk + d = 7 → 6 * d < c → (∀ k, k < 7 → S k = if k < kk then [] else rng n k 4) → steadinglaw09_CacheFills.l3 c n (kk : Int) S = some true := by
  induction d with
  | zero =>
    intro c kk S hk hc hS
    obtain ⟨c, rfl⟩ : ∃ m, c = m + 1 := ⟨c - 1, by omega⟩
    simp only [steadinglaw09_CacheFills.l3]
    have h0 : ∀ k, k < 7 → S k = [] := fun k h => by rw [hS k h, if_pos (by omega)]
    rw [if_neg (by omega)]
    unfold cache_Cache_Pages.f cache_Cache_All.f
    rw [pages_none h0]
    simp only [Option.bind_some]
    rw [if_pos trivial, all_none h0]
    rfl
  | succ d ih =>
    intro c kk S hk hc hS
    obtain ⟨c, rfl⟩ : ∃ m, c = m + 4 + 1 + 1 := ⟨c - 6, by omega⟩
    simp only [steadinglaw09_CacheFills.l3]
    rw [if_pos (by omega)]
    exact l4_run n n0 n1 kk (by omega) c (fun S' h' => ih c (kk + 1) S' (by omega) (by omega) h') 4 S (by omega) (by rw [hS kk (by omega), if_neg (by omega)]) (fun k h e => hS k h)
theorem L28_length (n : Int) : (L28 n).length = 28 := by unfold L28; simp
theorem L28_at (n : Int) {i : Nat} (h : i < 28) : rd_T36 (L28 n) (i : Int) = (⟨n + 10 * ((i / 4 : Nat) : Int) + ((i % 4 : Nat) : Int), 2 ^ (i / 4)⟩ : S36) := by
  unfold rd_T36 L28
  simp [h]
theorem l2_run (x1 n : Int) (n0 : 0 ≤ n) (n1 : n ≤ 65535) (x0 : 0 ≤ x1) (x255 : x1 ≤ 255) (S : Stacks) (hS : ∀ k, k < 7 → S k = rng n k 4) (c : Nat) (hc : 50 < c) (d : Nat) :
    ∀ i : Nat, i + d = 28 → steadinglaw09_CacheFills.l2 (c + d + 1) x1 n (L28 n) (i : Int) S = some true := by
  induction d with
  | zero =>
    intro i hi
    obtain ⟨c, rfl⟩ : ∃ m, c = m + 1 := ⟨c - 1, by omega⟩
    generalize hq : c + 1 = q at *
    simp only [steadinglaw09_CacheFills.l2]
    rw [L28_length, if_neg (by omega)]
    obtain ⟨j, hj, ej⟩ := mod7 x0 x255
    rw [ej]
    clear ej
    have hlen : (S j).length = 3 + 1 := by rw [hS j hj, rng_length]
    have ew : wrap64 ((wrap64 (n + (wrap64 (10 * (j : Int))))) + 3) = n + 10 * (j : Int) + ((3 : Nat) : Int) := wr n j 3 n0 n1 hj (by omega) (by omega)
    rw [pop_f S hj, if_pos (by omega), hS j hj, rng_last, rng_drop, ew]
    clear ew
    simp only [Option.bind_some]
    rw [if_pos trivial, if_pos trivial, len_f _ hj, put_at, rng_length]
    simp only [Option.bind_some]
    rw [if_pos (by rfl), push_f _ hj (show (0 : Int) ≤ n + 10 * (j : Int) + ((3 : Nat) : Int) from by omega), put_at, rng_length, if_pos (by omega)]
    simp only [Option.bind_some]
    rw [← hq]
    simp only [steadinglaw09_CacheFills.j4]
    rw [if_neg (by simp)]
    refine l3_run n n0 n1 7 c 0 _ (by omega) (by omega) fun k h => ?_
    rw [if_neg (by omega), rng_snoc]
    by_cases e : k = j
    · subst e; rw [put_at]
    · rw [put_ne _ _ e, put_ne _ _ e, hS k h]
  | succ d ih =>
    intro i hi
    rw [show c + (d + 1) + 1 = (c + d + 1) + 1 from by omega]
    generalize hq : c + d + 1 = q at *
    simp only [steadinglaw09_CacheFills.l2]
    have hi28 : i < 28 := by omega
    have e1 : wrap64 (Int.tdiv (i : Int) 4) = ((i / 4 : Nat) : Int) := by rw [Int.tdiv_eq_ediv_of_nonneg (Int.natCast_nonneg i)]; unfold wrap64; omega
    have e2 : Int.tmod (i : Int) 4 = ((i % 4 : Nat) : Int) := by rw [Int.tmod_eq_emod_of_nonneg (Int.natCast_nonneg i)]; omega
    rw [L28_length, if_pos (by omega), if_pos (Int.natCast_nonneg i), L28_at n hi28, e1, e2]
    clear e1 e2
    rw [wr n (i / 4) ((i % 4 : Nat) : Int) n0 n1 (by omega) (by omega) (by omega), if_pos rfl, cpages_f _ (by omega)]
    simp only [Option.bind_some]
    rw [if_pos trivial, ws i (by omega)]
    exact ih (i + 1) (by omega)
theorem j2_no (k : Nat) (x1 n : Int) (l : List S36) (S : Stacks) : steadinglaw09_CacheFills.j2 (k + 1) x1 n l ((508 : Int) != 508) S = steadinglaw09_CacheFills.l2 k x1 n l 0 S := by
  simp only [steadinglaw09_CacheFills.j2]
  rw [if_neg (by simp)]
theorem rounds (x1 n : Int) (n0 : 0 ≤ n) (n1 : n ≤ 65535) (x0 : 0 ≤ x1) (x255 : x1 ≤ 255) (d : Nat) : ∀ (i : Nat) (S : Stacks), i + d = 5 → (∀ k, k < 7 → S k = rng n k (min i 4)) →
    steadinglaw09_CacheFills.l0 (9 * d + 1 + 1 + 29 + 1 + 60) x1 n (i : Int) S = some true := by
  induction d with
  | zero =>
    intro i S hi hS
    have hS4 : ∀ k, k < 7 → S k = rng n k 4 := fun k h => by rw [hS k h, show min i 4 = 4 from by omega]
    rw [show 9 * 0 + 1 + 1 + 29 + 1 + 60 = 91 + 1 from rfl]
    generalize hq : 91 = q
    simp only [steadinglaw09_CacheFills.l0]
    unfold cache_Cache_All.f cache_Cache_Pages.f
    rw [if_neg (by omega), all_L28 hS4]
    simp only [Option.bind_some]
    rw [L28_length, if_pos (by rfl)]

    rw [pages_508 hS4]
    rw [← hq, show (91 : Nat) = 90 + 1 from rfl]
    rw [j2_no]
    exact l2_run x1 n n0 n1 x0 x255 S hS4 61 (by omega) 28 0 rfl
  | succ d ih =>
    intro i S hi hS
    rw [show 9 * (d + 1) + 1 + 1 + 29 + 1 + 60 = (9 * d + 1 + 1 + 29 + 1 + 60) + 7 + 1 + 1 from by omega]
    generalize hq : (9 * d + 1 + 1 + 29 + 1 + 60) + 7 + 1 = q
    simp only [steadinglaw09_CacheFills.l0]
    rw [if_pos (by omega), ← hq]
    exact l1_run x1 n n0 n1 i (by omega) _ (fun S' h' => ih (i + 1) S' (by omega) h') 7 0 S (by omega) (fun k h => by rw [hS k h, if_neg (by omega), Nat.add_zero])
end CacheFillsP
open CacheFillsP
theorem CacheFills : steadinglaw09_CacheFills.Pure := by
  intro a0 a1 h0 h1
  have h0' := wf_u16 h0
  have h1' := wf_u8 h1
  refine ⟨9 * 5 + 1 + 1 + 29 + 1 + 60, ?_⟩
  unfold steadinglaw09_CacheFills.f
  rw [awake_f]
  simp only [Option.bind_some]
  rw [if_pos trivial]
  unfold cache_New.f
  simp only [Option.bind_some]
  have e0 : wrap64 a0 = a0 := by unfold wrap64; omega
  rw [e0]
  clear e0
  exact rounds a1 a0 h0'.1 h0'.2 h1'.1 h1'.2 5 0 none7 (by omega) (fun k h => by simp [none7, rng])

end Go.Proofs.Ytbbhfbpkopocgaa.Pure
