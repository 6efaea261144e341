/- CacheLast -/
import Derived.Test.YtbbhfbpkopocgaaPCacheLastx1
import Derived.Lib.Hide
namespace Go.Proofs.Ytbbhfbpkopocgaa.Pure
open Go.RowKit Go.Proofs.Ytbbhfbpkopocgaa.PCacheLast Go.Proofs.YtbbhfbpkopocgaaW.PrintWords Go.Proofs.YtbbhfbpkopocgaaW.PrintLast Go.Proofs.YtbbhfbpkopocgaaW.PrintMore Go.Proofs.Ytbbhfbpkopocgaa.Hand
set_option linter.unusedVariables false
set_option linter.unusedSimpArgs false
namespace CacheLastP

theorem put_at (S : Nat → List Int) (k : Nat) (l : List Int) : put S k l k = l := by unfold put; simp
theorem put_ne (S : Nat → List Int) {k j : Nat} (l : List Int) (h : j ≠ k) : put S k l j = S j := by unfold put; rw [if_neg h]
theorem push_f (S : Stacks) {k : Nat} (hk : k < 7) {p : Int} (hp : 0 ≤ p) : cache_Cache_Push.f S (k : Int) p = some (decide ((S k).length < 4), if (S k).length < 4 then put S k (S k ++ [p]) else S) := by
  unfold cache_Cache_Push.f pushF
  by_cases h : (S k).length < 4
  · rw [if_pos ⟨⟨by omega, by omega⟩, hp, by rw [Int.toNat_natCast]; exact h⟩, if_pos h, decide_eq_true h, Int.toNat_natCast]
  · rw [if_neg (fun h' => h (by have := h'.2.2; rwa [Int.toNat_natCast] at this)), if_neg h, decide_eq_false h]
theorem pop_f (S : Stacks) {k : Nat} (hk : k < 7) : cache_Cache_Pop.f S (k : Int) = some (if 0 < (S k).length then ((S k).getLastD 0, true, put S k (S k).dropLast) else (0, false, S)) := by
  unfold cache_Cache_Pop.f popF
  by_cases h : 0 < (S k).length
  · rw [if_pos ⟨⟨by omega, by omega⟩, by rw [Int.toNat_natCast]; exact h⟩, if_pos h, Int.toNat_natCast]
  · rw [if_neg (fun h' => h (by have := h'.2; rwa [Int.toNat_natCast] at this)), if_neg h]
theorem len_f (S : Stacks) {k : Nat} (hk : k < 7) : cache_Cache_Len.f S (k : Int) = some (((S k).length : Int), S) := by
  unfold cache_Cache_Len.f
  rw [lenF_in S hk]
theorem mod7 {a : Int} (h0 : 0 ≤ a) (h1 : a ≤ 255) : ∃ m : Nat, m < 7 ∧ wrap64 (Int.tmod a 7) = (m : Int) := by
  rw [Int.tmod_eq_emod_of_nonneg h0]
  exact ⟨(a % 7).toNat, by omega, by unfold wrap64; omega⟩
theorem awake_f : steadinglaw09_awake.f = some true := by decide +kernel
theorem wf_u8 {a : Int} (h : (Lit.int .u8 a).wf = true) : 0 ≤ a ∧ a ≤ 255 := by
  simpa [Lit.wf, IntKind.min, IntKind.max, IntKind.signed, IntKind.bits] using h

theorem take_last (l : List Int) {i : Nat} (h : i < l.length) : (l.take (i + 1)).getLastD 0 = l[i] := by
  have hl : (l.take (i + 1)).length = i + 1 := by simp; omega
  rw [getLastD_at _ (by omega)]
  simp [hl]
theorem down (l : List Int) (hl : l.length ≤ 10) (hb : ∀ x ∈ l, 0 ≤ x ∧ x ≤ 255) {k : Nat} (hk : k < 7) (d : Nat) : ∀ (c : Nat) (S : Stacks), d ≤ l.length → S k = l.take d → d < c →
    steadinglaw09_CacheLast.l1 c l (k : Int) ((d : Int) - 1) S = some true := by
  induction d with
  | zero =>
    intro c S hd hS hc
    obtain ⟨c, rfl⟩ : ∃ m, c = m + 1 := ⟨c - 1, by omega⟩
    simp only [steadinglaw09_CacheLast.l1]
    rw [if_neg (by omega), pop_f S hk, hS]
    simp
  | succ d ih =>
    intro c S hd hS hc
    obtain ⟨c, rfl⟩ : ∃ m, c = m + 1 := ⟨c - 1, by omega⟩
    simp only [steadinglaw09_CacheLast.l1]
    have hlen : (S k).length = d + 1 := by rw [hS]; simp; omega
    have hx := hb l[d] (List.getElem_mem _)
    have e1 : ((d + 1 : Nat) : Int) - 1 = (d : Int) := by omega
    have e2 : rd l (d : Int) = l[d] := by unfold rd; simp [show d < l.length from by omega]
    have e3 : wrap64 (l[d]) = l[d] := by unfold wrap64; omega
    rw [e1, if_pos (by omega), pop_f S hk, if_pos (by omega)]
    simp only [Option.bind_some]
    rw [if_pos trivial, if_pos (by omega), if_pos (by omega), e2, e3, hS, take_last l (by omega), if_pos rfl, len_f _ hk, put_at]
    simp only [Option.bind_some]
    rw [if_pos (by simp; omega), show wrap64 ((d : Int) - 1) = (d : Int) - 1 from by unfold wrap64; omega]
    refine ih c _ (by omega) ?_ (by omega)
    rw [put_at, List.dropLast_eq_take, List.length_take, List.take_take]
    congr 1
    omega
set_option maxHeartbeats 1000000 in
theorem up (l : List Int) (hl : l.length ≤ 10) (hb : ∀ x ∈ l, 0 ≤ x ∧ x ≤ 255) {k o : Nat} (hk : k < 7) (ho : o < 7) (d : Nat) : ∀ (c i : Nat) (S : Stacks), i + d = l.length → S k = l.take (min i 4) → 2 * d + 20 < c →
    steadinglaw09_CacheLast.l0 c l (k : Int) (o : Int) ((min i 4 : Nat) : Int) (i : Int) S = some true := by
  induction d with
  | zero =>
    intro c i S hi hS hc
    obtain ⟨c, rfl⟩ : ∃ m, c = m + 1 := ⟨c - 1, by omega⟩
    simp only [steadinglaw09_CacheLast.l0]
    rw [if_neg (by omega), show wrap64 (((min i 4 : Nat) : Int) - 1) = ((min i 4 : Nat) : Int) - 1 from by unfold wrap64; omega]
    exact down l hl hb hk (min i 4) c S (by omega) hS (by omega)
  | succ d ih =>
    intro c i S hi hS hc
    obtain ⟨c, rfl⟩ : ∃ m, c = m + 1 + 1 := ⟨c - 2, by omega⟩
    have hx := hb l[i] (List.getElem_mem (by omega))
    have e2 : rd l (i : Int) = l[i]'(by omega) := by unfold rd; simp [show i < l.length from by omega]
    have hlen : (S k).length = min i 4 := by rw [hS]; simp; omega
    have ei : wrap64 ((i : Int) + 1) = ((i + 1 : Nat) : Int) := by unfold wrap64; omega
    have EI := Lib.hid ei
    clear ei
    have em : i < 4 → wrap64 (((min i 4 : Nat) : Int) + 1) = ((min (i + 1) 4 : Nat) : Int) := fun _ => by unfold wrap64; omega
    have EM := Lib.hid em
    clear em
    have e3 : wrap64 (l[i]'(by omega)) = l[i]'(by omega) := by unfold wrap64; omega
    have E3 := Lib.hid e3
    clear e3
    have E2 := Lib.hid e2
    clear e2
    have hj : ∀ (S' : Stacks), S' k = l.take (min (i + 1) 4) → steadinglaw09_CacheLast.j1 (c + 1) l (k : Int) (o : Int) ((min (i + 1) 4 : Nat) : Int) (i : Int) S' = some true := by
      intro S' hS'
      simp only [steadinglaw09_CacheLast.j1]
      rw [EI.out]
      by_cases hok : (o : Int) = (k : Int)
      · rw [if_pos hok]
        exact ih c (i + 1) S' (by omega) hS' (by omega)
      · have hko : k ≠ o := fun e => hok (by rw [e])
        rw [if_neg hok, push_f S' ho (Int.natCast_nonneg i)]
        simp only [Option.bind_some]
        have hS2 : (if (S' o).length < 4 then put S' o (S' o ++ [(i : Int)]) else S') k = S' k := by
          split
          · exact put_ne _ _ hko
          · rfl
        generalize (if (S' o).length < 4 then put S' o (S' o ++ [(i : Int)]) else S') = S2 at *
        by_cases hm : Int.tmod (i : Int) 2 = 1
        · rw [if_pos hm, pop_f S2 ho]
          simp only [Option.bind_some]
          have hS3 : (if 0 < (S2 o).length then ((S2 o).getLastD 0, true, put S2 o (S2 o).dropLast) else (0, false, S2)).2.2 k = S2 k := by
            split
            · exact put_ne _ _ hko
            · rfl
          exact ih c (i + 1) _ (by omega) (by rw [hS3, hS2, hS']) (by omega)
        · rw [if_neg hm]
          exact ih c (i + 1) _ (by omega) (by rw [hS2, hS']) (by omega)
    rw [show c + 1 + 1 = (c + 1) + 1 from rfl]
    simp only [steadinglaw09_CacheLast.l0]
    rw [if_pos (by omega), if_pos (by omega), E2.out, E3.out, push_f S hk hx.1]
    simp only [Option.bind_some]
    by_cases h4 : i < 4
    · have hd : decide ((S k).length < 4) = true := decide_eq_true (by omega)
      have hq : decide ((i : Int) < 4) = true := decide_eq_true (by omega)
      rw [hd, hq, if_neg (by simp), if_pos rfl, if_pos (by omega), EM.out h4]
      refine hj _ ?_
      rw [put_at, hS, show min i 4 = i from by omega, show min (i + 1) 4 = i + 1 from by omega, List.take_succ_eq_append_getElem (by omega)]
    · have hd : decide ((S k).length < 4) = false := decide_eq_false (by omega)
      have hq : decide ((i : Int) < 4) = false := decide_eq_false (by omega)
      rw [hd, hq, if_neg (by simp), if_neg (by simp), if_neg (show ¬ (S k).length < 4 from by omega), show ((min i 4 : Nat) : Int) = ((min (i + 1) 4 : Nat) : Int) from by omega]
      refine hj _ ?_
      rw [hS, show min i 4 = min (i + 1) 4 from by omega]
end CacheLastP
open CacheLastP
theorem CacheLast : steadinglaw09_CacheLast.Pure := by
  intro a0 l a2 h0 hl hl2 hb h2
  have h0' := wf_u8 h0
  have h2' := wf_u8 h2
  refine ⟨60, ?_⟩
  unfold steadinglaw09_CacheLast.f
  rw [awake_f]
  simp only [Option.bind_some]
  rw [if_pos trivial]
  by_cases hlen : (l.length : Int) > 10
  · rw [if_pos hlen]
  · obtain ⟨k, hk, ek⟩ := mod7 h0'.1 h0'.2
    obtain ⟨o, ho, eo⟩ := mod7 h2'.1 h2'.2
    rw [if_neg hlen, ek, eo]
    unfold cache_New.f
    simp only [Option.bind_some]
    exact up l (by omega) (fun x hx => wf_u8 (hb x hx)) hk ho l.length 60 0 none7 (by omega) rfl (by omega)

end Go.Proofs.Ytbbhfbpkopocgaa.Pure
