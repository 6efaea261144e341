/- The reference of the cache: a row of classes and pages; how many, how many pages. -/
import Derived.Test.YtbbhfbpkopocgaaCacheApp
import Derived.BigQuiet
namespace Go.Proofs.Ytbbhfbpkopocgaa.Hand
open Go.RowKit
set_option linter.unusedVariables false
set_option linter.unusedSimpArgs false

/-- A chunk that is kept: its class, its page. -/
abbrev Lg := List (Nat × Int)
def oneE (x : Nat × Int) : List Value := [.int .i64 (x.1 : Int), .int .i64 x.2]
def encE (L : Lg) : List Value := L.flatMap oneE
def RefL (base : Nat) (w : World) (v : Value) (L : Lg) : Prop := w.ownsRow base 98 2 v L.length (encE L) ∧ (∀ x ∈ L, x.1 < 7) ∧ L.length ≤ 100
theorem encE_length (L : Lg) : (encE L).length = L.length * 2 := by
  induction L with
  | nil => rfl
  | cons x l ih => rw [encE, List.flatMap_cons, List.length_append, List.length_cons]; rw [encE] at ih; rw [ih]; simp [oneE]; omega
theorem encE_app (L M : Lg) : encE (L ++ M) = encE L ++ encE M := by simp [encE]
theorem encE_at (L : Lg) (i : Nat) (h : i < L.length) (j : Nat) (hj : j < 2) : (encE L)[i * 2 + j]? = (oneE L[i])[j]? := by
  induction L generalizing i with
  | nil => simp at h
  | cons x l ih =>
    have hc : encE (x :: l) = oneE x ++ encE l := by simp [encE]
    rw [hc]
    cases i with
    | zero =>
      rw [Nat.zero_mul, Nat.zero_add, List.getElem?_append_left (by simp [oneE]; omega)]
      rfl
    | succ i =>
      rw [List.getElem?_append_right (by simp [oneE]; omega), show (i + 1) * 2 + j - (oneE x).length = i * 2 + j by simp [oneE]; omega, ih i (by simpa using h)]
      rfl
theorem encE_one (L : Lg) : ∀ u ∈ encE L, u.oneCell' = true := by
  intro u hu
  obtain ⟨x, _, hx⟩ := List.mem_flatMap.1 hu
  simp [oneE] at hx
  rcases hx with rfl | rfl <;> rfl
/-- The row's form, and its cells. -/
theorem refL_form {base : Nat} {w : World} {v : Value} {L : Lg} (h : RefL base w v L) :
    ∃ A c, v = .slice A L.length c ∧ L.length ≤ c ∧ (0 < L.length → ∃ g, A = some ⟨g, 0, none⟩ ∧ base ≤ g ∧ ∀ i (hi : i < L.length), w.cell? ⟨g, i * 2, none⟩ = some (.int .i64 (L[i].1 : Int)) ∧ w.cell? ⟨g, i * 2 + 1, none⟩ = some (.int .i64 L[i].2)) := by
  obtain ⟨hown, h7, h28⟩ := h
  rcases hown.2 with ⟨rfl, hl0⟩ | ⟨g, cap, cur, rfl, hbg, hg, hnc, _, hcs, htake⟩
  · obtain rfl : L = [] := List.eq_nil_of_length_eq_zero hl0
    exact ⟨none, 0, rfl, Nat.le_refl _, fun h => absurd h (by decide)⟩
  · refine ⟨_, cap, rfl, hnc, fun _ => ⟨g, rfl, hbg, fun i hi => ?_⟩⟩
    have h0 := hown.cells (g := g) rfl (i * 2 + 0) _ (encE_at L i hi 0 (by omega))
    have h1 := hown.cells (g := g) rfl (i * 2 + 1) _ (encE_at L i hi 1 (by omega))
    rw [Addr.add_lit, Nat.zero_add] at h0 h1
    exact ⟨h0, h1⟩

set_option maxRecDepth 100000 in
set_option maxHeartbeats 1000000 in
theorem refPages_any (k : Int) (w : World) : Calls Try.prog 50 #[.int .i64 k] w fun e w' => e = .returned (.int .i64 (pg k)) ∧ w = w' := by
  go_enter Try.func50, Try.ntmps50
  go_wp2
  go_loop [3, 4] (fun n i => ∃ j : Nat, j ≤ 7 ∧ n = .int .i64 (2 ^ j) ∧ i = .int .i64 (j : Int) ∧ ¬ (0 ≤ k ∧ k < j)) (fun _ i => 7 - (intOf i).toNat)
  case atStart => exact ⟨0, by omega, rfl, rfl, by omega⟩
  case round =>
    obtain ⟨j, hj, rfl, rfl, hk⟩ := hrel
    have hw : wrap64 ((2 : Int) ^ j * 2) = 2 ^ (j + 1) := by
      have h : j = 0 ∨ j = 1 ∨ j = 2 ∨ j = 3 ∨ j = 4 ∨ j = 5 ∨ j = 6 ∨ j = 7 := by omega
      rcases h with rfl | rfl | rfl | rfl | rfl | rfl | rfl | rfl <;> simp [wrap64]
    obtain ⟨P, hP⟩ : ∃ P : Int, (2 : Int) ^ j = P := ⟨_, rfl⟩
    obtain ⟨Q, hQ⟩ : ∃ Q : Int, (2 : Int) ^ (j + 1) = Q := ⟨_, rfl⟩
    rw [hP, hQ] at hw
    rw [hP]
    have HP := Lib.hid (And.intro hP hQ)
    have HK := Lib.hid hk
    clear hP hQ hk
    by_cases h7 : j < 7
    · have h7i : (j : Int) < 7 := by omega
      by_cases he : (j : Int) = k
      · have hb : ((j : Int) == k) = true := by simpa using he
        have hpg : pg k = P := by rw [← HP.out.1, ← he]; exact pg_in h7
        have HPG := Lib.hid hpg
        clear hpg
        go_wp2
        go_ret
        exact ⟨by rw [HPG.out]; rfl, rfl⟩
      · have hb : ((j : Int) == k) = false := by simpa using he
        have hne : ¬ (0 ≤ k ∧ k < ((j + 1 : Nat) : Int)) := by have := HK.out; omega
        have HN := Lib.hid hne
        clear hne
        go_wp2
        go_round
        case rel => exact ⟨j + 1, by omega, by rw [HP.out.2, hw], by go_num, HN.out⟩
        case measure => simp [intOf]; omega
    · have h7i : ¬ (j : Int) < 7 := by omega
      have hpg : pg k = 0 := pg_out (by have := HK.out; omega)
      have HPG := Lib.hid hpg
      clear hpg
      go_wp2
      go_ret
      exact ⟨by rw [HPG.out]; rfl, rfl⟩

/-- How many are of a class. -/
def cntL (L : Lg) (k : Int) : Nat := L.countP (fun x => decide ((x.1 : Int) = k))
theorem cntL_next (L : Lg) (k : Int) (j : Nat) (h : j < L.length) : cntL (L.take (j + 1)) k = if ((L[j]).1 : Int) = k then cntL (L.take j) k + 1 else cntL (L.take j) k := by
  unfold cntL
  rw [List.take_add_one, List.getElem?_eq_getElem h, List.countP_append]
  by_cases he : ((L[j]).1 : Int) = k
  · rw [if_pos he]; simp [he]
  · rw [if_neg he]; simp [he]
set_option maxRecDepth 100000 in
set_option maxHeartbeats 1000000 in
theorem refLen_any (base : Nat) (v : Value) (L : Lg) (k : Int) (w : World) (h : RefL base w v L) : Calls Try.prog 26 #[v, .int .i64 k] w fun e w' => e = .returned (.int .i64 (cntL L k : Int)) ∧ w = w' := by
  obtain ⟨A, c, rfl, hc, hA⟩ := refL_form h
  have H := Lib.hid hA
  have H28 := Lib.hid h.2.2
  clear hA h
  go_enter Try.func26, Try.ntmps26
  go_wp2
  go_loop [5, 6] (fun n i => ∃ j : Nat, j ≤ L.length ∧ n = .int .i64 (cntL (L.take j) k : Int) ∧ i = .int .i64 (j : Int)) (fun _ i => L.length - (intOf i).toNat)
  case atStart => exact ⟨0, by omega, by simp [cntL], rfl⟩
  case round =>
    obtain ⟨j, hj, rfl, rfl⟩ := hrel
    obtain ⟨m, hm⟩ : ∃ m, cntL (L.take j) k = m := ⟨_, rfl⟩
    have hmj : m ≤ 100 := by
      rw [← hm]
      exact Nat.le_trans (List.countP_le_length) (by have := H28.out; rw [List.length_take]; omega)
    rw [hm]
    have hL28 := H28.out
    by_cases hlt : j < L.length
    · have hlti : (j : Int) < (L.length : Int) := by omega
      obtain ⟨g, rfl, hbg, hcl⟩ := H.out (by omega)
      obtain ⟨c0, c1⟩ := hcl j hlt
      have hn := cntL_next L k j hlt
      rw [hm] at hn
      have HN := Lib.hid hn
      have H0 := Lib.hid hm
      clear hn hm hcl
      by_cases he : ((L[j]).1 : Int) = k
      · have hb : (((L[j]).1 : Int) == k) = true := by simpa using he
        generalize L[j] = x at *
        have HE := Lib.hid he
        clear he
        go_wp2
        go_round
        case rel => exact ⟨j + 1, by omega, by rw [HN.out, if_pos HE.out]; go_num, by go_num⟩
        case measure => simp [intOf]; omega
      · have hb : (((L[j]).1 : Int) == k) = false := by simpa using he
        generalize L[j] = x at *
        have HE := Lib.hid he
        clear he
        go_wp2
        go_round
        case rel => exact ⟨j + 1, by omega, by rw [HN.out, if_neg HE.out], by go_num⟩
        case measure => simp [intOf]; omega
    · have hlti : ¬ (j : Int) < (L.length : Int) := by omega
      obtain rfl : j = L.length := by omega
      rw [List.take_length] at hm
      have HMM := Lib.hid hm
      clear hm
      go_wp2
      go_ret
      exact ⟨by rw [HMM.out]; rfl, rfl⟩
/-- How many pages they have. -/
def sumL (L : Lg) : Nat := (L.map fun x => 2 ^ x.1).sum
theorem sumL_next (L : Lg) (j : Nat) (h : j < L.length) : sumL (L.take (j + 1)) = sumL (L.take j) + 2 ^ (L[j]).1 := by
  unfold sumL
  rw [List.take_add_one, List.getElem?_eq_getElem h, List.map_append, List.sum_append]
  simp
theorem sumL_le (L : Lg) (h : ∀ x ∈ L, x.1 < 7) : sumL L ≤ L.length * 64 := by
  induction L with
  | nil => simp [sumL]
  | cons x l ih =>
    have h1 := ih (fun y hy => h y (List.mem_cons_of_mem _ hy))
    have h2 : 2 ^ x.1 ≤ 2 ^ 6 := Nat.pow_le_pow_right (by omega) (by have := h x (List.mem_cons_self); omega)
    unfold sumL at *
    simp at *
    omega
set_option maxRecDepth 100000 in
set_option maxHeartbeats 1000000 in
theorem refSum_any (base : Nat) (v : Value) (L : Lg) (w : World) (h : RefL base w v L) : Calls Try.prog 27 #[v] w fun e w' => e = .returned (.int .i64 (sumL L : Int)) ∧ w = w' := by
  obtain ⟨A, c, rfl, hc, hA⟩ := refL_form h
  have H := Lib.hid hA
  have H28 := Lib.hid h.2.2
  have H7 := Lib.hid h.2.1
  clear hA h
  go_enter Try.func27, Try.ntmps27
  go_wp2
  go_loop [3, 4] (fun n i => ∃ j : Nat, j ≤ L.length ∧ n = .int .i64 (sumL (L.take j) : Int) ∧ i = .int .i64 (j : Int)) (fun _ i => L.length - (intOf i).toNat)
  case atStart => exact ⟨0, by omega, by simp [sumL], rfl⟩
  case round =>
    obtain ⟨j, hj, rfl, rfl⟩ := hrel
    obtain ⟨m, hm⟩ : ∃ m, sumL (L.take j) = m := ⟨_, rfl⟩
    have hmj : m ≤ 100 * 64 := by
      rw [← hm]
      exact Nat.le_trans (sumL_le _ (fun x hx => H7.out x (List.mem_of_mem_take hx))) (Nat.mul_le_mul_right 64 (by have := H28.out; rw [List.length_take]; omega))
    rw [hm]
    have hL28 := H28.out
    by_cases hlt : j < L.length
    · have hlti : (j : Int) < (L.length : Int) := by omega
      obtain ⟨g, rfl, hbg, hcl⟩ := H.out (by omega)
      obtain ⟨c0, c1⟩ := hcl j hlt
      have hn := sumL_next L j hlt
      rw [hm] at hn
      have HN := Lib.hid hn
      have H0 := Lib.hid hm
      have h7 := H7.out _ (List.getElem_mem hlt)
      clear hn hm hcl
      generalize L[j] = x at *
      obtain ⟨xk, xp⟩ := x
      simp only at c0 c1 h7 HN
      obtain ⟨P, hP⟩ : ∃ P : Nat, 2 ^ xk = P := ⟨_, rfl⟩
      have hp64 : P ≤ 64 := by rw [← hP]; exact Nat.pow_le_pow_right (by omega) (show xk ≤ 6 by omega)
      have hpg : pg (xk : Int) = (P : Int) := by rw [pg_in h7, ← hP]; simp
      have HPG := Lib.hid (hpg ▸ refPages_any (xk : Int) w)
      rw [hP] at HN
      have hsum : wrap64 ((m : Int) + (P : Int)) = ((m + P : Nat) : Int) := by unfold wrap64; omega
      clear hP hpg h7
      go_wp2_with fail
      refine HPG.out.mono ?_
      rintro e w1 ⟨rfl, rfl⟩
      go_wp2
      go_round
      case rel => exact ⟨j + 1, by omega, by rw [HN.out]; simp, by go_num⟩
      case measure => simp [intOf]; omega
    · have hlti : ¬ (j : Int) < (L.length : Int) := by omega
      obtain rfl : j = L.length := by omega
      rw [List.take_length] at hm
      have HMM := Lib.hid hm
      clear hm
      go_wp2
      go_ret
      exact ⟨by rw [HMM.out]; rfl, rfl⟩
end Go.Proofs.Ytbbhfbpkopocgaa.Hand
