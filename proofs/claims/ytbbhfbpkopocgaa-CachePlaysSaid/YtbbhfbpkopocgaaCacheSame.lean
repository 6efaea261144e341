/- Two equal rows of runs are the same, to the reference. -/
import Derived.Test.YtbbhfbpkopocgaaCacheMore
namespace Go.Proofs.Ytbbhfbpkopocgaa.Hand
open Go.RowKit
set_option linter.unusedVariables false
set_option linter.unusedSimpArgs false

/-- Pairs of whole numbers. -/
def Pairs (n : Nat) (xs : List Value) : Prop := ∀ j, j < n → ∃ p q : Int, xs[j * 2]? = some (.int .i64 p) ∧ xs[j * 2 + 1]? = some (.int .i64 q)
theorem row_cells {w : World} {b n : Nat} {v : Value} {xs : List Value} (h : w.ownsRow b 36 2 v n xs) :
    ∃ A c, v = .slice A n c ∧ n ≤ c ∧ (0 < n → ∃ g, A = some ⟨g, 0, none⟩ ∧ g < w.heap.size ∧ ∀ i u, xs[i]? = some u → w.cell? ⟨g, i, none⟩ = some u) := by
  have hh := h
  rcases h.2 with ⟨rfl, hl0⟩ | ⟨g, cap, cur, rfl, hbg, hg, hnc, _⟩
  · subst hl0
    exact ⟨none, 0, rfl, Nat.le_refl _, fun h => absurd h (by decide)⟩
  · refine ⟨_, cap, rfl, hnc, fun _ => ⟨g, rfl, (hh.lt g rfl).2, fun i u hu => ?_⟩⟩
    have := hh.cells (g := g) rfl i u hu
    rwa [Addr.add_lit, Nat.zero_add] at this

set_option maxRecDepth 100000 in
set_option maxHeartbeats 2000000 in
theorem same_ok (ba bb n : Nat) (va vb : Value) (xs : List Value) (w : World) (ha : w.ownsRow ba 36 2 va n xs) (hb : w.ownsRow bb 36 2 vb n xs) (hx : Pairs n xs) (hn : n ≤ 1000) : Calls Try.prog 28 #[va, vb] w fun e w' => e = .returned (.bool true) ∧ Below w.heap.size w w' := by
  obtain ⟨A, c, rfl, hc, hA⟩ := row_cells ha
  obtain ⟨B, d, rfl, hd, hB⟩ := row_cells hb
  have HA := Lib.hid hA
  have HB := Lib.hid hB
  have HX := Lib.hid hx
  clear ha hb hA hB hx
  go_enter Try.func28, Try.ntmps28
  go_wp2_with fail
  go_loopw [5] (fun i wr => ∃ j : Nat, j ≤ n ∧ i = .int .i64 (j : Int) ∧ Below w.heap.size w wr) (fun i _ => n - (intOf i).toNat)
  case atStart => exact ⟨0, Nat.zero_le _, rfl, Below.refl _ _⟩
  case round =>
    obtain ⟨j, hj, rfl, hbl⟩ := hrel
    have HBL := Lib.hid hbl
    by_cases hlt : j < n
    · have hlti : (j : Int) < (n : Int) := by omega
      obtain ⟨g, rfl, hg, hcg⟩ := HA.out (by omega)
      obtain ⟨f, rfl, hf, hcf⟩ := HB.out (by omega)
      obtain ⟨p, q, hp, hq⟩ := HX.out j hlt
      clear hbl
      go_wp2_with fail
      refine Rg.wp_region_grow 9 9 rfl (by kernel_rfl) (fun ix W vv => match ix with
        | 0 => vv = .slice (some ⟨g, 0, none⟩) n c
        | 1 => vv = .int .i64 (j : Int)
        | 2 => vv = .pointer (some ⟨g, j * 2, none⟩)
        | 3 => vv = .agg #[.int .i64 p, .int .i64 q]
        | 4 => vv = .slice (some ⟨f, 0, none⟩) n d
        | 5 => vv = .int .i64 (j : Int)
        | 6 => vv = .pointer (some ⟨f, j * 2, none⟩)
        | 7 => vv = .agg #[.int .i64 p, .int .i64 q]
        | 8 => vv = .bool false
        | _ => True) ?_ ?_ ?_
      · intro ix W W' vv hix h hb
        have hj2 : ix = 0 ∨ ix = 1 ∨ ix = 2 ∨ ix = 3 ∨ ix = 4 ∨ ix = 5 ∨ ix = 6 ∨ ix = 7 ∨ ix = 8 := by omega
        rcases hj2 with rfl | rfl | rfl | rfl | rfl | rfl | rfl | rfl | rfl
        all_goals first
          | exact h
      · intro ix a W K hix hbl hfr hdep hK
        have hj2 : ix = 0 ∨ ix = 1 ∨ ix = 2 ∨ ix = 3 ∨ ix = 4 ∨ ix = 5 ∨ ix = 6 ∨ ix = 7 ∨ ix = 8 := by omega
        rcases hj2 with rfl | rfl | rfl | rfl | rfl | rfl | rfl | rfl | rfl
        · have s0 : a.tmps[0]? = some _ := hfr 0 (by kernel_rfl)
          refine Rg.wpOp_wp rfl rfl ?_
          go_simp
          exact hK _ _ rfl (Below.refl _ _)
        · have s5 : a.tmps[5]? = some _ := hfr 5 (by kernel_rfl)
          refine Rg.wpOp_wp rfl rfl ?_
          go_simp
          exact hK _ _ rfl (Below.refl _ _)
        · obtain ⟨_, s17, rfl⟩ := hdep 0 17 (by kernel_rfl) rfl
          obtain ⟨_, s18, rfl⟩ := hdep 1 18 (by kernel_rfl) rfl
          have hqn : j < n := hlt
          refine Rg.wpOp_wp rfl rfl ?_
          go_simp
          exact hK _ _ rfl (Below.refl _ _)
        · obtain ⟨_, s19, rfl⟩ := hdep 2 19 (by kernel_rfl) rfl
          have e0 := ((HBL.out.trans (hbl.mono HBL.out.size)).cell (p := ⟨g, j * 2, none⟩) hg).trans (hcg _ _ hp)
          have e1 := ((HBL.out.trans (hbl.mono HBL.out.size)).cell (p := ⟨g, j * 2 + 1, none⟩) hg).trans (hcg _ _ hq)
          refine Rg.wpOp_wp rfl rfl ?_
          go_simp
          exact hK _ _ rfl (Below.refl _ _)
        · have s1 : a.tmps[1]? = some _ := hfr 1 (by kernel_rfl)
          refine Rg.wpOp_wp rfl rfl ?_
          go_simp
          exact hK _ _ rfl (Below.refl _ _)
        · have s5 : a.tmps[5]? = some _ := hfr 5 (by kernel_rfl)
          refine Rg.wpOp_wp rfl rfl ?_
          go_simp
          exact hK _ _ rfl (Below.refl _ _)
        · obtain ⟨_, s21, rfl⟩ := hdep 4 21 (by kernel_rfl) rfl
          obtain ⟨_, s22, rfl⟩ := hdep 5 22 (by kernel_rfl) rfl
          have hqn : j < n := hlt
          refine Rg.wpOp_wp rfl rfl ?_
          go_simp
          exact hK _ _ rfl (Below.refl _ _)
        · obtain ⟨_, s23, rfl⟩ := hdep 6 23 (by kernel_rfl) rfl
          have e0 := ((HBL.out.trans (hbl.mono HBL.out.size)).cell (p := ⟨f, j * 2, none⟩) hf).trans (hcf _ _ hp)
          have e1 := ((HBL.out.trans (hbl.mono HBL.out.size)).cell (p := ⟨f, j * 2 + 1, none⟩) hf).trans (hcf _ _ hq)
          refine Rg.wpOp_wp rfl rfl ?_
          go_simp
          exact hK _ _ rfl (Below.refl _ _)
        · obtain ⟨_, s20, rfl⟩ := hdep 3 20 (by kernel_rfl) rfl
          obtain ⟨_, s24, rfl⟩ := hdep 7 24 (by kernel_rfl) rfl
          refine Rg.wpOp_wp rfl rfl ?_
          go_simp
          exact hK _ _ rfl (Below.refl _ _)
      · intro vv W hvv hbl
        have e8 : vv 8 = .bool false := hvv 8 (by decide)
        have HN := Lib.hid (HBL.out.trans (hbl.mono HBL.out.size))
        clear hvv hbl hcg hcf hp hq
        refine Rg.of_fakes_all [Rg.fake (some 17) (vv 0), Rg.fake (some 18) (vv 1), Rg.fake (some 19) (vv 2), Rg.fake (some 20) (vv 3), Rg.fake (some 21) (vv 4), Rg.fake (some 22) (vv 5), Rg.fake (some 23) (vv 6), Rg.fake (some 24) (vv 7), Rg.fake (some 25) (vv 8)] rfl ?_
        simp only [Rg.fake, e8]
        go_wp2_with fail
        go_roundw
        case rel => exact ⟨j + 1, by omega, by go_num, HN.out⟩
        case measure => simp [intOf]; omega
    · have hlti : ¬ (j : Int) < (n : Int) := by omega
      go_wp2_with fail
      go_ret
      exact ⟨rfl, HBL.out⟩

theorem pairs_all (S : Nat → List Int) : ∀ k, (allC S k).length = cnt S k * 2 ∧ Pairs (cnt S k) (allC S k)
  | 0 => ⟨rfl, fun j hj => by simp [cnt] at hj⟩
  | k + 1 => by
    obtain ⟨h1, h2⟩ := pairs_all S k
    have key : ∀ l : List Int, (rowsOf k l).length = l.length * 2 ∧ Pairs l.length (rowsOf k l) := by
      intro l
      induction l with
      | nil => exact ⟨rfl, fun j hj => by simp at hj⟩
      | cons p l ih =>
        obtain ⟨g1, g2⟩ := ih
        have e : rowsOf k (p :: l) = runC k p ++ rowsOf k l := by simp [rowsOf]
        rw [e]
        refine ⟨by rw [List.length_append, g1]; simp [runC]; omega, fun j hj => ?_⟩
        cases j with
        | zero => exact ⟨p, 2 ^ k, rfl, rfl⟩
        | succ j =>
          obtain ⟨a, b, ha, hb⟩ := g2 j (by simpa using hj)
          refine ⟨a, b, ?_, ?_⟩
          · rw [List.getElem?_append_right (by simp [runC]; omega), ← ha]; congr 1; simp [runC]; omega
          · rw [List.getElem?_append_right (by simp [runC]; omega), ← hb]; congr 1; simp [runC]; omega
    obtain ⟨g1, g2⟩ := key (S k)
    refine ⟨by unfold allC cnt; rw [List.length_append, h1, g1]; omega, fun j hj => ?_⟩
    unfold allC
    unfold cnt at hj
    by_cases h : j < cnt S k
    · obtain ⟨a, b, ha, hb⟩ := h2 j h
      exact ⟨a, b, by rw [List.getElem?_append_left (by omega)]; exact ha, by rw [List.getElem?_append_left (by omega)]; exact hb⟩
    · obtain ⟨a, b, ha, hb⟩ := g2 (j - cnt S k) (by omega)
      refine ⟨a, b, ?_, ?_⟩
      · rw [List.getElem?_append_right (by omega), ← ha]; congr 1; omega
      · rw [List.getElem?_append_right (by omega), ← hb]; congr 1; omega
end Go.Proofs.Ytbbhfbpkopocgaa.Hand
