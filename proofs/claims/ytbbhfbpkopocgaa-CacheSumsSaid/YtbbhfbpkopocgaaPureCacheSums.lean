/- CacheSums -/
import Derived.Test.YtbbhfbpkopocgaaPCacheSumsx2
import Derived.Lib.Hide
namespace Go.Proofs.Ytbbhfbpkopocgaa.Pure
open Go.RowKit Go.Proofs.Ytbbhfbpkopocgaa.PCacheSums Go.Proofs.YtbbhfbpkopocgaaW.PrintWords Go.Proofs.YtbbhfbpkopocgaaW.PrintLast Go.Proofs.YtbbhfbpkopocgaaW.PrintMore Go.Proofs.Ytbbhfbpkopocgaa.Hand
set_option linter.unusedVariables false
set_option linter.unusedSimpArgs false
namespace CacheSumsP

theorem put_at (S : Nat → List Int) (k : Nat) (l : List Int) : put S k l k = l := by unfold put; simp
theorem put_ne (S : Nat → List Int) {k j : Nat} (l : List Int) (h : j ≠ k) : put S k l j = S j := by unfold put; rw [if_neg h]
theorem push_f (S : Stacks) {k : Nat} (hk : k < 7) {p : Int} (hp : 0 ≤ p) : cache_Cache_Push.f S (k : Int) p = some (decide ((S k).length < 4), if (S k).length < 4 then put S k (S k ++ [p]) else S) := by
  unfold cache_Cache_Push.f pushF
  by_cases h : (S k).length < 4
  · rw [if_pos ⟨⟨by omega, by omega⟩, hp, by rw [Int.toNat_natCast]; exact h⟩, if_pos h, decide_eq_true h, Int.toNat_natCast]
  · rw [if_neg (fun h' => h (by have := h'.2.2; rwa [Int.toNat_natCast] at this)), if_neg h, decide_eq_false h]
theorem pop_f (S : Stacks) {k : Nat} (hk : k < 7) : cache_Cache_Pop.f S (k : Int) = some (if 0 < (S k).length then ((S k).getLastD 0, true, put S k (S k).dropLast) else (0, false, S)) := by
  unfold cache_Cache_Pop.f popF
  by_cases h : 0 < (S k).length
  · rw [if_pos ⟨⟨by omega, by omega⟩, by rw [Int.toNat_natCast]; exact h⟩, if_pos h, Int.toNat_natCast]
  · rw [if_neg (fun h' => h (by have := h'.2; rwa [Int.toNat_natCast] at this)), if_neg h]
theorem len_f (S : Stacks) {k : Nat} (hk : k < 7) : cache_Cache_Len.f S (k : Int) = some (((S k).length : Int), S) := by
  unfold cache_Cache_Len.f
  rw [lenF_in S hk]
theorem mod7 {a : Int} (h0 : 0 ≤ a) (h1 : a ≤ 255) : ∃ m : Nat, m < 7 ∧ wrap64 (Int.tmod a 7) = (m : Int) := by
  rw [Int.tmod_eq_emod_of_nonneg h0]
  exact ⟨(a % 7).toNat, by omega, by unfold wrap64; omega⟩
theorem awake_f : steadinglaw09_awake.f = some true := by decide +kernel
theorem wf_u8 {a : Int} (h : (Lit.int .u8 a).wf = true) : 0 ≤ a ∧ a ≤ 255 := by
  simpa [Lit.wf, IntKind.min, IntKind.max, IntKind.signed, IntKind.bits] using h
theorem wf_u16 {a : Int} (h : (Lit.int .u16 a).wf = true) : 0 ≤ a ∧ a ≤ 65535 := by
  simpa [Lit.wf, IntKind.min, IntKind.max, IntKind.signed, IntKind.bits] using h

def Inv (S : Stacks) : Prop := ∀ k, k < 7 → (S k).length ≤ 4
theorem inv_none : Inv none7 := fun _ _ => by simp [none7]
theorem inv_push {S : Stacks} (h : Inv S) (k p : Int) : Inv (pushF S k p).2 := by
  unfold pushF
  split
  · rename_i hc
    intro j hj
    by_cases e : j = k.toNat
    · subst e
      dsimp only
      rw [put_at]
      simp
      omega
    · dsimp only; rw [put_ne _ _ e]; exact h j hj
  · exact h
theorem inv_pop {S : Stacks} (h : Inv S) (k : Int) : Inv (popF S k).2.2 := by
  unfold popF
  split
  · rename_i hc
    intro j hj
    by_cases e : j = k.toNat
    · subst e
      dsimp only
      rw [put_at]
      have := h _ hj
      simp
      omega
    · dsimp only; rw [put_ne _ _ e]; exact h j hj
  · exact h
def fl (S : Stacks) : Nat → List Int
  | 0 => []
  | k + 1 => fl S k ++ List.replicate (S k).length (2 ^ k)
theorem map_runs (l : List Int) (c : Int) : (l.map (fun p => (⟨p, c⟩ : S36))).map S36.f1 = List.replicate l.length c := by
  induction l with
  | nil => rfl
  | cons x l ih => simp only [List.map_cons, List.length_cons, List.replicate_succ, ih]
theorem fl_eq (S : Stacks) : ∀ k, (allL S k).map S36.f1 = fl S k
  | 0 => rfl
  | k + 1 => by unfold allL fl; rw [List.map_append, fl_eq S k, map_runs]
theorem fl_sorted (S : Stacks) : ∀ k, (fl S k).Pairwise (· ≤ ·) ∧ ∀ x ∈ fl S k, 0 ≤ x ∧ x ≤ 2 ^ k
  | 0 => ⟨List.Pairwise.nil, fun x hx => by cases hx⟩
  | k + 1 => by
    obtain ⟨h1, h2⟩ := fl_sorted S k
    have hp : (0 : Int) < 2 ^ k := Int.pow_pos (by decide)
    have hq : (2 : Int) ^ (k + 1) = 2 * 2 ^ k := by rw [Int.pow_succ]; omega
    unfold fl
    refine ⟨List.pairwise_append.2 ⟨h1, List.pairwise_replicate.2 (.inr (Int.le_refl _)), fun a ha b hb => by rw [List.eq_of_mem_replicate hb]; exact (h2 a ha).2⟩, fun x hx => ?_⟩
    rcases List.mem_append.1 hx with h | h
    · have := h2 x h; omega
    · rw [List.eq_of_mem_replicate h]; omega
def tot : List Int → Int
  | [] => 0
  | x :: l => x + tot l
theorem tot_append : ∀ l m : List Int, tot (l ++ m) = tot l + tot m
  | [], m => by simp [tot]
  | x :: l, m => by simp only [List.cons_append, tot, tot_append l m]; omega
theorem tot_rep (c : Int) : ∀ n : Nat, tot (List.replicate n c) = n * c
  | 0 => by simp [tot]
  | n + 1 => by rw [List.replicate_succ, tot, tot_rep c n]; rw [Int.natCast_succ, Int.add_mul]; omega
theorem fl_tot (S : Stacks) : ∀ k, tot (fl S k) = sumP S k
  | 0 => rfl
  | k + 1 => by unfold fl sumP; rw [tot_append, fl_tot S k, tot_rep]
theorem tot_nonneg : ∀ l : List Int, (∀ x ∈ l, 0 ≤ x) → 0 ≤ tot l
  | [], _ => by simp [tot]
  | x :: l, h => by
    have h1 := h x List.mem_cons_self
    have h2 := tot_nonneg l (fun y hy => h y (List.mem_cons_of_mem _ hy))
    unfold tot; omega
theorem tot_take (l : List Int) (h : ∀ x ∈ l, 0 ≤ x) (i : Nat) : 0 ≤ tot (l.take i) ∧ tot (l.take i) ≤ tot l := by
  have h1 := tot_nonneg (l.take i) (fun x hx => h x (List.mem_of_mem_take hx))
  have h2 := tot_nonneg (l.drop i) (fun x hx => h x (List.mem_of_mem_drop hx))
  have h3 := tot_append (l.take i) (l.drop i)
  rw [List.take_append_drop] at h3
  omega
theorem tot_step (l : List Int) {i : Nat} (h : i < l.length) : tot (l.take (i + 1)) = tot (l.take i) + l[i] := by
  rw [List.take_succ_eq_append_getElem h, tot_append]
  simp [tot]
theorem pow_inj7 {j k : Nat} (hj : j < 7) (hk : k < 7) (h : (2 : Int) ^ j = 2 ^ k) : j = k := by
  have a : j = 0 ∨ j = 1 ∨ j = 2 ∨ j = 3 ∨ j = 4 ∨ j = 5 ∨ j = 6 := by omega
  have b : k = 0 ∨ k = 1 ∨ k = 2 ∨ k = 3 ∨ k = 4 ∨ k = 5 ∨ k = 6 := by omega
  rcases a with rfl | rfl | rfl | rfl | rfl | rfl | rfl <;> rcases b with rfl | rfl | rfl | rfl | rfl | rfl | rfl <;> first | rfl | (exact absurd h (by decide))
theorem fl_count (S : Stacks) {k : Nat} (hk : k < 7) : ∀ m, m ≤ 7 → (fl S m).count (2 ^ k) = if k < m then (S k).length else 0
  | 0, _ => by simp [fl]
  | m + 1, hm => by
    unfold fl
    rw [List.count_append, fl_count S hk m (by omega), List.count_replicate]
    by_cases e : m = k
    · subst e; simp
    · have : ((2 : Int) ^ m == 2 ^ k) = false := by
        rw [beq_eq_false_iff_ne]
        exact fun h => e (pow_inj7 (by omega) hk h)
      rw [this]
      simp only [Bool.false_eq_true, if_false, Nat.add_zero]
      by_cases hlt : k < m
      · rw [if_pos hlt, if_pos (by omega)]
      · rw [if_neg hlt, if_neg (by omega)]
theorem cpages_f (k : Nat) (h : k < 7) : classes_Pages.f (k : Int) = some (2 ^ k) := by
  have : k = 0 ∨ k = 1 ∨ k = 2 ∨ k = 3 ∨ k = 4 ∨ k = 5 ∨ k = 6 := by omega
  rcases this with rfl | rfl | rfl | rfl | rfl | rfl | rfl <;> decide +kernel
theorem ws (i : Nat) (h : i < 1000) : wrap64 ((i : Int) + 1) = ((i + 1 : Nat) : Int) := by unfold wrap64; omega
theorem ww {a b : Int} (h0 : 0 ≤ a + b) (h : a + b ≤ 508) : wrap64 (a + b) = a + b := by unfold wrap64; omega
theorem wm {i : Nat} (h0 : 0 < i) (h : i < 1000) : wrap64 ((i : Int) - 1) = ((i - 1 : Nat) : Int) := by unfold wrap64; omega
theorem cnt_le28 {S : Stacks} (h : Inv S) : (allL S 7).length ≤ 28 := by
  rw [allL_length]
  exact Nat.le_trans (cnt_le h 7 (Nat.le_refl _)) (by omega)
theorem rd_f1 (S : Stacks) {i : Nat} (h : i < (allL S 7).length) (h' : i < (fl S 7).length) : (rd_T36 (allL S 7) (i : Int)).f1 = (fl S 7)[i] := by
  have e : (fl S 7)[i] = ((allL S 7).map S36.f1)[i]'(by simpa using h) := by congr 1; exact (fl_eq S 7).symm
  rw [e, List.getElem_map]
  unfold rd_T36
  simp [h]
theorem fl_length (S : Stacks) : (fl S 7).length = (allL S 7).length := by rw [← fl_eq]; simp
theorem l3_run (S : Stacks) (hI : Inv S) (x7 : Int) {k : Nat} (hk : k < 7) (c0 : Nat) (K : ∀ c, c0 ≤ c → steadinglaw09_CacheSums.l2 c (allL S 7) x7 ((k + 1 : Nat) : Int) S = some true) (d : Nat) :
    ∀ (i c : Nat), i + d = (allL S 7).length → c0 + d < c → steadinglaw09_CacheSums.l3 c (allL S 7) x7 (k : Int) ((((fl S 7).take i).count (2 ^ k) : Nat) : Int) (i : Int) S = some true := by
  have h28 := cnt_le28 hI
  have hfl := fl_length S
  induction d with
  | zero =>
    intro i c hi hc
    obtain ⟨c, rfl⟩ : ∃ m, c = m + 1 := ⟨c - 1, by omega⟩
    simp only [steadinglaw09_CacheSums.l3]
    have e : (fl S 7).take i = fl S 7 := List.take_of_length_le (by omega)
    have h4 := hI k hk
    rw [if_neg (by omega), len_f S hk, e, fl_count S hk 7 (Nat.le_refl _), if_pos hk]
    simp only [Option.bind_some]
    rw [if_pos trivial, if_neg (by omega), ws k (by omega)]
    exact K c (by omega)
  | succ d ih =>
    intro i c hi hc
    obtain ⟨c, rfl⟩ : ∃ m, c = m + 1 := ⟨c - 1, by omega⟩
    simp only [steadinglaw09_CacheSums.l3]
    have hlt : i < (allL S 7).length := by omega
    have hlt' : i < (fl S 7).length := by omega
    have hle : ((fl S 7).take i).count (2 ^ k) ≤ i := Nat.le_trans List.count_le_length (by simp; omega)
    rw [if_pos (by omega), if_pos (Int.natCast_nonneg i), cpages_f k hk, rd_f1 S hlt hlt']
    simp only [Option.bind_some]
    have hs := ih (i + 1) c (by omega) (by omega)
    rw [List.take_succ_eq_append_getElem hlt', List.count_append] at hs
    rw [ws i (by omega)]
    by_cases he : (fl S 7)[i] = 2 ^ k
    · rw [if_pos he, ws _ (by omega)]
      rw [he] at hs
      simpa using hs
    · rw [if_neg he]
      have : List.count (2 ^ k) [(fl S 7)[i]] = 0 := by
        rw [List.count_eq_zero]
        intro hm
        exact he (List.mem_singleton.1 hm).symm
      rw [this, Nat.add_zero] at hs
      exact hs
theorem tail_run (S : Stacks) (k : Nat) (h : 7 ≤ k) (c : Nat) (hc : 0 < c) : steadinglaw09_CacheSums.l2 c (allL S 7) (pagesF S) (k : Int) S = some true := by
  obtain ⟨c, rfl⟩ : ∃ m, c = m + 1 := ⟨c - 1, by omega⟩
  simp only [steadinglaw09_CacheSums.l2]
  rw [if_neg (by omega)]
  unfold cache_Cache_Pages.f cache_Cache_Clear.f cache_Cache_All.f
  simp only [Option.bind_some]
  rw [if_pos trivial]
  rfl
theorem l2_run (S : Stacks) (hI : Inv S) (d : Nat) : ∀ (k c : Nat), k + d = 7 → 40 * d < c → steadinglaw09_CacheSums.l2 c (allL S 7) (pagesF S) (k : Int) S = some true := by
  have h28 := cnt_le28 hI
  induction d with
  | zero => exact fun k c hk hc => tail_run S k (by omega) c (by omega)
  | succ d ih =>
    intro k c hk hc
    obtain ⟨c, rfl⟩ : ∃ m, c = m + 1 := ⟨c - 1, by omega⟩
    simp only [steadinglaw09_CacheSums.l2]
    rw [if_pos (by omega)]
    have := l3_run S hI (pagesF S) (k := k) (by omega) (40 * d + 1) (fun c' h => ih (k + 1) c' (by omega) (by omega)) (allL S 7).length 0 c (by omega) (by omega)
    simpa using this
theorem l1_run (S : Stacks) (hI : Inv S) (d : Nat) : ∀ (i c : Nat), i + d = (allL S 7).length → 290 + d < c → steadinglaw09_CacheSums.l1 c (allL S 7) (tot ((fl S 7).take i)) (i : Int) S = some true := by
  have h28 := cnt_le28 hI
  have hfl := fl_length S
  have hst := fl_sorted S 7
  have htot := fl_tot S 7
  have hle := (sumP_le hI 7 (Nat.le_refl _)).2
  have e7 : (4 : Int) * (2 ^ 7 - 1) = 508 := by decide
  rw [e7] at hle
  clear e7
  induction d with
  | zero =>
    intro i c hi hc
    obtain ⟨c, rfl⟩ : ∃ m, c = m + 1 := ⟨c - 1, by omega⟩
    simp only [steadinglaw09_CacheSums.l1]
    have e : (fl S 7).take i = fl S 7 := List.take_of_length_le (by omega)
    rw [if_neg (by omega), e, htot]
    exact l2_run S hI 7 0 c rfl (by omega)
  | succ d ih =>
    intro i c hi hc
    obtain ⟨c, rfl⟩ : ∃ m, c = m + 1 := ⟨c - 1, by omega⟩
    simp only [steadinglaw09_CacheSums.l1]
    have hlt : i < (allL S 7).length := by omega
    have hlt' : i < (fl S 7).length := by omega
    have b1 := tot_take (fl S 7) (fun x hx => (hst.2 x hx).1) (i + 1)
    have hs := ih (i + 1) c (by omega) (by omega)
    have hstep := tot_step (fl S 7) hlt'
    have hx := (hst.2 _ (List.getElem_mem hlt')).1
    rw [hstep] at hs b1
    have q1 : 0 ≤ tot ((fl S 7).take i) + (fl S 7)[i] := b1.1
    have q2 : tot ((fl S 7).take i) + (fl S 7)[i] ≤ 508 := Int.le_trans b1.2 (by rw [htot]; exact hle)
    rw [if_pos (by omega), if_pos (Int.natCast_nonneg i), rd_f1 S hlt hlt', ww q1 q2, ws i (by omega)]
    clear hstep q1 q2 b1 hx hle htot
    by_cases h0 : i = 0
    · subst h0
      rw [if_neg (by omega)]
      exact hs
    · rw [wm (by omega) (by omega)]
      have hso : (fl S 7)[i - 1]'(by omega) ≤ (fl S 7)[i] := List.pairwise_iff_getElem.1 hst.1 (i - 1) i (by omega) hlt' (by omega)
      rw [if_pos (by omega), if_pos (Int.natCast_nonneg _), if_pos (by omega), rd_f1 S (i := i - 1) (by omega) (by omega), if_neg (by omega)]
      exact hs
theorem l0_run (l : List S50) (hl : l.length ≤ 80) (d : Nat) : ∀ (i c : Nat) (S : Stacks), i + d = l.length → Inv S → 330 + d < c → steadinglaw09_CacheSums.l0 c l (i : Int) S = some true := by
  induction d with
  | zero =>
    intro i c S hi hI hc
    obtain ⟨c, rfl⟩ : ∃ m, c = m + 1 := ⟨c - 1, by omega⟩
    simp only [steadinglaw09_CacheSums.l0]
    rw [if_neg (by omega)]
    unfold cache_Cache_All.f
    simp only [Option.bind_some]
    have h28 := cnt_le28 hI
    have := l1_run S hI (allL S 7).length 0 c (by omega) (by omega)
    rw [List.take_zero] at this
    exact this
  | succ d ih =>
    intro i c S hi hI hc
    obtain ⟨c, rfl⟩ : ∃ m, c = m + 1 := ⟨c - 1, by omega⟩
    simp only [steadinglaw09_CacheSums.l0]
    rw [if_pos (by omega), if_pos (Int.natCast_nonneg i), ws i (by omega)]
    unfold cache_Cache_Push.f cache_Cache_Pop.f
    simp only [Option.bind_some]
    split
    · split
      · exact ih _ _ _ (by omega) (inv_pop (inv_push hI _ _) _) (by omega)
      · exact ih _ _ _ (by omega) (inv_push hI _ _) (by omega)
    · split
      · exact ih _ _ _ (by omega) (inv_pop hI _) (by omega)
      · exact ih _ _ _ (by omega) hI (by omega)
end CacheSumsP
open CacheSumsP
theorem CacheSums : steadinglaw09_CacheSums.Pure := by
  intro l hl hl2 hw
  obtain ⟨K, hK⟩ : ∃ K : Nat, 450 < K := ⟨451, by omega⟩
  refine ⟨K, ?_⟩
  unfold steadinglaw09_CacheSums.f
  rw [awake_f]
  simp only [Option.bind_some]
  rw [if_pos trivial]
  by_cases hlen : (l.length : Int) > 80
  · rw [if_pos hlen]
  · rw [if_neg hlen]
    unfold cache_New.f
    simp only [Option.bind_some]
    have := l0_run l (by omega) l.length 0 K none7 (by omega) inv_none (by omega)
    simpa using this

end Go.Proofs.Ytbbhfbpkopocgaa.Pure
