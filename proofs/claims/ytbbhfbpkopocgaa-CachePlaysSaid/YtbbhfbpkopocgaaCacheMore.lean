/- The reference of the cache: all of it; two rows of runs compared; a cache that is not there. -/
import Derived.Test.YtbbhfbpkopocgaaCachePop
import Derived.Test.YtbbhfbpkopocgaaCacheAll
namespace Go.Proofs.Ytbbhfbpkopocgaa.Hand
open Go.RowKit
set_option linter.unusedVariables false
set_option linter.unusedSimpArgs false

theorem of_nil (k : Int) (w : World) : Calls Try.prog 49 #[.pointer none, .int .i64 k] w fun e w' => e = .returned (.pointer none) ∧ w = w' := by
  go_enter Try.func49, Try.ntmps49
  go_wp2
  go_ret
  exact ⟨rfl, rfl⟩
theorem push_nil (k p : Int) (w : World) : Calls Try.prog 17 #[.pointer none, .int .i64 k, .int .i64 p] w fun e w' => e = .returned (.bool false) ∧ w = w' := by
  go_enter Try.func17, Try.ntmps17
  go_wp2_with (go_at_call 49; refine (of_nil _ _).mono ?_; rintro e w' ⟨rfl, rfl⟩)
  go_ret
  exact ⟨rfl, rfl⟩
theorem pop_nil (k : Int) (w : World) : Calls Try.prog 18 #[.pointer none, .int .i64 k] w fun e w' => e = .returned (.tuple #[.int .i64 0, .bool false]) ∧ w = w' := by
  go_enter Try.func18, Try.ntmps18
  go_wp2_with (go_at_call 49; refine (of_nil _ _).mono ?_; rintro e w' ⟨rfl, rfl⟩)
  go_ret2
  exact ⟨rfl, rfl⟩
theorem len_nil (k : Int) (w : World) : Calls Try.prog 19 #[.pointer none, .int .i64 k] w fun e w' => e = .returned (.int .i64 0) ∧ w = w' := by
  go_enter Try.func19, Try.ntmps19
  go_wp2_with (go_at_call 49; refine (of_nil _ _).mono ?_; rintro e w' ⟨rfl, rfl⟩)
  go_ret
  exact ⟨rfl, rfl⟩
theorem clear_nil (w : World) : Calls Try.prog 25 #[.pointer none] w fun e w' => e = .returned (.tuple #[]) ∧ w = w' := by
  go_enter Try.func25, Try.ntmps25
  go_wp2
  go_end0
  exact ⟨rfl, rfl⟩
theorem sum_nil (w : World) : Calls Try.prog 21 #[.pointer none] w fun e w' => e = .returned (.int .i64 0) ∧ w = w' := by
  go_enter Try.func21, Try.ntmps21
  go_wp2
  go_loop [3, 5] (fun n i => ∃ k : Nat, k ≤ 7 ∧ i = .int .i64 k ∧ n = .int .i64 0) (fun _ i => 7 - (intOf i).toNat)
  case atStart => exact ⟨0, by omega, rfl, rfl⟩
  case round =>
    obtain ⟨k, hk, rfl, rfl⟩ := hrel
    by_cases h7 : k < 7
    · have e2 := pg_in h7
      obtain ⟨P, hP⟩ : ∃ P : Int, (2 : Int) ^ k = P := ⟨_, rfl⟩
      rw [hP] at e2
      have E2 := Lib.hid e2
      clear e2 hP
      go_wp2_with (first | (go_at_call 19; refine (len_nil _ _).mono ?_; rintro e w' ⟨rfl, rfl⟩) | (go_at_call 22; refine (pages_any _ _).mono ?_; rw [E2.out]; rintro e w' ⟨rfl, rfl⟩))
      go_round
      case rel => exact ⟨k + 1, by omega, by go_num, by simp [wrap64]⟩
      case measure => simp [intOf]; omega
    · have e7 : k = 7 := by omega
      subst e7
      go_wp2
      go_ret
      exact ⟨rfl, rfl⟩
set_option maxRecDepth 100000 in
set_option maxHeartbeats 1600000 in
theorem all_nil (w : World) : Calls Try.prog 20 #[.pointer none] w fun e w' => ∃ A c, e = .returned (.slice A 0 c) ∧ Below w.heap.size w w' := by
  go_enter Try.func20, Try.ntmps20
  go_wp2
  go_loopw [3, 8] (fun v i wr => ∃ k : Nat, k ≤ 7 ∧ i = .int .i64 k ∧ v = .slice none 0 0 ∧ Below w.heap.size w wr) (fun _ i _ => 7 - (intOf i).toNat)
  case atStart => exact ⟨0, by omega, rfl, rfl, Below.refl _ _⟩
  case round =>
    obtain ⟨k, hk, rfl, rfl, hb⟩ := hrel
    have HB := Lib.hid hb
    clear hb
    by_cases h7 : k < 7
    · have hm : (Instr.makeSlice 39 (.int .i64 0) (.int .i64 0)).run Try.prog wr = .ok (.slice (some ⟨wr.heap.size, 0, none⟩) 0 0) (wr.alloc (.cells (madeCells #[.int .i64 0] 0) 3)) := make_ints wr 0 (by decide)
      have HBA := Lib.hid (HB.out.alloc HB.out.size (.cells (madeCells #[.int .i64 0] 0) 3))
      go_upto_region 6 with (go_at_call 19; refine (len_nil _ _).mono ?_; rintro e w' ⟨rfl, rfl⟩)
      go_wp2
      generalize wr.alloc (.cells (madeCells #[.int .i64 0] 0) 3) = W2 at *
      clear hm
      generalize wr.heap.size = g at *
      go_loopw [3, 29] (fun v i wq => i = .int .i64 0 ∧ v = .slice none 0 0 ∧ Below w.heap.size w wq) (fun _ i _ => 0)
      case atStart => exact ⟨rfl, rfl, HBA.out⟩
      case round =>
        obtain ⟨rfl, rfl, hb⟩ := hrel
        have HB3 := Lib.hid hb
        clear hb
        go_wp2
        go_roundw
        case rel => exact ⟨k + 1, by omega, by go_num, rfl, HB3.out⟩
        case measure => simp [intOf]; omega
    · have e7 : k = 7 := by omega
      subst e7
      go_wp2
      go_ret
      exact ⟨_, _, rfl, HB.out⟩

/-- The stacks of a row. -/
def stk (L : Lg) (k : Nat) : List Int := (L.filter fun x => decide (x.1 = k)).map (·.2)
theorem stk_nil : stk [] = none7 := rfl
theorem stk_app (L M : Lg) (k : Nat) : stk (L ++ M) k = stk L k ++ stk M k := by simp [stk]
theorem stk_cons (x : Nat × Int) (L : Lg) (k : Nat) : stk (x :: L) k = if x.1 = k then x.2 :: stk L k else stk L k := by
  unfold stk
  by_cases h : x.1 = k <;> simp [h]
theorem stk_len (L : Lg) (k : Nat) : (stk L k).length = cntL L (k : Int) := by
  induction L with
  | nil => rfl
  | cons x L ih =>
    rw [stk_cons]
    unfold cntL at ih ⊢
    rw [List.countP_cons]
    by_cases h : x.1 = k
    · rw [if_pos h]; simp [h, ih]
    · rw [if_neg h, ih]
      have : ¬ ((x.1 : Int) = (k : Int)) := by omega
      simp [this]
theorem cntL_out (L : Lg) (k : Int) (h7 : ∀ x ∈ L, x.1 < 7) (hk : ¬ (0 ≤ k ∧ k < 7)) : cntL L k = 0 := by
  unfold cntL
  rw [List.countP_eq_zero]
  intro x hx
  have := h7 x hx
  simp
  omega
theorem lenF_stk (L : Lg) (k : Int) (h7 : ∀ x ∈ L, x.1 < 7) : lenF (stk L) k = (cntL L k : Int) := by
  unfold lenF
  by_cases hk : 0 ≤ k ∧ k < 7
  · rw [if_pos hk, stk_len, Int.toNat_of_nonneg hk.1]
  · rw [if_neg hk, cntL_out L k h7 hk]; rfl
theorem sum_stk (L : Lg) (h7 : ∀ x ∈ L, x.1 < 7) : pagesF (stk L) = (sumL L : Int) := by
  induction L with
  | nil => rfl
  | cons x L ih =>
    have ih := ih (fun y hy => h7 y (List.mem_cons_of_mem _ hy))
    have hx := h7 x (List.mem_cons_self)
    have e : sumL (x :: L) = 2 ^ x.1 + sumL L := by simp [sumL]
    rw [e]
    unfold pagesF at ih ⊢
    simp only [sumP, stk_cons] at ih ⊢
    have hc : x.1 = 0 ∨ x.1 = 1 ∨ x.1 = 2 ∨ x.1 = 3 ∨ x.1 = 4 ∨ x.1 = 5 ∨ x.1 = 6 := by omega
    rcases hc with h | h | h | h | h | h | h <;> rw [h] <;> simp at ih ⊢ <;> omega
theorem push_stk (L : Lg) (k : Nat) (p : Int) : stk (L ++ [(k, p)]) = put (stk L) k (stk L k ++ [p]) := by
  funext j
  rw [stk_app]
  unfold put
  by_cases h : j = k
  · subst h; simp [stk]
  · rw [if_neg h]
    have : ¬ k = j := fun e => h e.symm
    simp [stk, this]
theorem pushF_stk (L : Lg) (k p : Int) (h4 : ∀ j, j < 7 → (stk L j).length ≤ 4) (h : mayP L k p) : pushF (stk L) k p = (true, stk (L ++ [(k.toNat, p)])) := by
  obtain ⟨hk, hp, hc⟩ := h
  have h1 := h4 k.toNat (by omega)
  have h2 := stk_len L k.toNat
  rw [Int.toNat_of_nonneg hk.1] at h2
  unfold pushF
  rw [if_pos ⟨hk, hp, by omega⟩, push_stk]
theorem pushF_no (L : Lg) (k p : Int) (h : ¬ mayP L k p) : pushF (stk L) k p = (false, stk L) := by
  unfold pushF
  rw [if_neg]
  rintro ⟨hk, hp, hl⟩
  refine h ⟨hk, hp, ?_⟩
  have h2 := stk_len L k.toNat
  rw [Int.toNat_of_nonneg hk.1] at h2
  omega
theorem stk_none_of (N : Lg) (k : Nat) (h : ∀ y ∈ N, (y.1 : Int) ≠ (k : Int)) : stk N k = [] := by
  apply List.eq_nil_of_length_eq_zero
  rw [stk_len]
  unfold cntL
  rw [List.countP_eq_zero]
  intro y hy
  have := h y hy
  simpa using this
theorem popF_stk (L L' : Lg) (k p : Int) (b : Bool) (h7 : ∀ x ∈ L, x.1 < 7) (h : Popped L L' k p b) : popF (stk L) k = (p, b, stk L') := by
  unfold popF
  rcases h with ⟨rfl, rfl, rfl, hn⟩ | ⟨rfl, M, N, x, rfl, rfl, hx, rfl, hn⟩
  · rw [if_neg]
    rintro ⟨hk, hl⟩
    have : stk L' k.toNat = [] := stk_none_of L' k.toNat (fun y hy => by rw [Int.toNat_of_nonneg hk.1]; exact hn y hy)
    rw [this] at hl
    simp at hl
  · have hx7 := h7 x (by simp)
    have hk : k.toNat = x.1 := by omega
    have e1 : stk (M ++ x :: N) x.1 = stk M x.1 ++ [x.2] := by
      rw [stk_app, stk_cons, if_pos rfl, stk_none_of N x.1 (fun y hy => by rw [hx]; exact hn y hy)]
    rw [hk, e1, if_pos ⟨by omega, by simp⟩]
    simp only [List.getLastD_concat, List.dropLast_concat]
    congr 2
    funext j
    unfold put
    by_cases hj : j = x.1
    · subst hj
      rw [if_pos rfl, stk_app, stk_none_of N x.1 (fun y hy => by rw [hx]; exact hn y hy), List.append_nil]
    · rw [if_neg hj, stk_app, stk_app, stk_cons, if_neg (fun e => hj e.symm)]
theorem info36b : (Try.prog.info? 36).map (fun i => (i.zero, i.size, i.bytes)) = some (some (.agg #[(.int .i64 0), (.int .i64 0)]), 2, 16) := by kernel_rfl
theorem stk_take (L : Lg) (k j : Nat) (h : j < L.length) : stk (L.take (j + 1)) k = if (L[j]).1 = k then stk (L.take j) k ++ [(L[j]).2] else stk (L.take j) k := by
  rw [List.take_add_one, List.getElem?_eq_getElem h]
  show stk (L.take j ++ [L[j]]) k = _
  rw [stk_app]
  by_cases he : (L[j]).1 = k
  · rw [if_pos he]; simp [stk, he]
  · rw [if_neg he]; simp [stk, he]
theorem cnt_stk (L : Lg) : ∀ k, cnt (stk L) k ≤ k * L.length
  | 0 => by simp [cnt]
  | k + 1 => by
    have h1 := cnt_stk L k
    have h2 : (stk L k).length ≤ L.length := by rw [stk_len]; exact List.countP_le_length
    unfold cnt
    rw [Nat.add_mul]
    omega
set_option maxRecDepth 100000 in
set_option maxHeartbeats 2000000 in
theorem refAll_any (base : Nat) (v : Value) (L : Lg) (w : World) (h : RefL base w v L) : Calls Try.prog 29 #[v] w fun e w' => ∃ v', e = .returned v' ∧ w'.ownsRow w.heap.size 36 2 v' (cnt (stk L) 7) (allC (stk L) 7) ∧ Below w.heap.size w w' := by
  have HR := Lib.hid h
  have H28 := Lib.hid h.2.2
  obtain ⟨A, c, rfl, hc, hA⟩ := refL_form h
  have H := Lib.hid hA
  clear hA h
  go_enter Try.func29, Try.ntmps29
  go_wp2
  go_loopw [3, 4] (fun v i wr => ∃ k : Nat, k ≤ 7 ∧ i = .int .i64 k ∧ wr.ownsRow w.heap.size 36 2 v (cnt (stk L) k) (allC (stk L) k) ∧ Below w.heap.size w wr) (fun _ i _ => 7 - (intOf i).toNat)
  case atStart => exact ⟨0, by omega, rfl, World.ownsRow_nil _ _ _ _, Below.refl _ _⟩
  case round =>
    obtain ⟨k, hk, rfl, hO, hB⟩ := hrel
    have HO := Lib.hid (And.intro hO hB)
    clear hO hB
    by_cases h7 : k < 7
    · have h7i : (k : Int) < 7 := by omega
      go_wp2_with fail
      go_loopw [3, 5] (fun v i wq => ∃ j : Nat, j ≤ L.length ∧ i = .int .i64 j ∧ wq.ownsRow w.heap.size 36 2 v (cnt (stk L) k + (stk (L.take j) k).length) (allC (stk L) k ++ rowsOf k (stk (L.take j) k)) ∧ Below w.heap.size w wq) (fun _ i _ => L.length - (intOf i).toNat)
      case atStart => exact ⟨0, by omega, rfl, by simpa [stk, rowsOf] using HO.out.1, HO.out.2⟩
      case round =>
        obtain ⟨j, hj, rfl, hO, hB⟩ := hrel
        have HO2 := Lib.hid (And.intro hO hB)
        clear hO hB HO
        have hL28 := H28.out
        by_cases hlt : j < L.length
        · have hlti : (j : Int) < (L.length : Int) := by omega
          obtain ⟨g, rfl, hbg, hcl⟩ := H.out (by omega)
          have hgl := (HR.out.1.lt g rfl).2
          obtain ⟨c0, c1⟩ := hcl j hlt
          have d0 := (HO2.out.2.cell (p := ⟨g, j * 2, none⟩) hgl).trans c0
          have d1 := (HO2.out.2.cell (p := ⟨g, j * 2 + 1, none⟩) hgl).trans c1
          have HT := Lib.hid (stk_take L k j hlt)
          have HC1w := Lib.hid c1
          clear c0 c1 hcl
          generalize L[j] = x at *
          obtain ⟨xk, xp⟩ := x
          simp only at d0 d1 HT HC1w
          by_cases he : xk = k
          · have hbb : ((xk : Int) == (k : Int)) = true := by rw [beq_iff_eq]; omega
            have HE := Lib.hid he
            clear he
            have EP := Lib.hid (pg_in h7)
            have hcn := cnt_stk L k
            have hcs : (stk (L.take j) k).length ≤ 100 := by rw [stk_len]; exact Nat.le_trans List.countP_le_length (by rw [List.length_take]; omega)
            have HCN := Lib.hid (show cnt (stk L) k + (stk (L.take j) k).length + 1 ≤ 100000 by have : k * L.length ≤ 7 * 100 := Nat.mul_le_mul (by omega) hL28; omega)
            clear hcn hcs
            have HD1 := Lib.hid d1
            go_wp2_with fail
            refine Rg.wp_region_by 12 12 rfl (by kernel_rfl) (fun ix W vv => match ix with
              | 0 => vv = u3
              | 1 => vv = .slice (some ⟨g, 0, none⟩) L.length c
              | 2 => vv = .int .i64 (j : Int)
              | 3 => vv = .pointer (some ⟨g, j * 2, none⟩)
              | 4 => vv = .pointer (some ⟨g, j * 2 + 1, none⟩)
              | 5 => vv = .int .i64 xp
              | 6 => vv = .int .i64 (k : Int)
              | 7 => vv = .int .i64 (2 ^ k)
              | 8 => vv = .agg #[.int .i64 xp, .int .i64 (2 ^ k)]
              | 9 => ∃ p : Nat, vv = .slice (some ⟨p, 0, none⟩) 1 1 ∧ W.heap[p]? = some (.cells (runC k xp).toArray 36 (0, 0)) ∧ some p ≠ u3.ownBlock
              | 10 => W.ownsRow w.heap.size 36 2 vv (cnt (stk L) k + (stk (L.take j) k).length + 1) (allC (stk L) k ++ rowsOf k (stk (L.take j) k) ++ runC k xp)
              | 11 => W.ownsRow w.heap.size 36 2 vv (cnt (stk L) k + (stk (L.take j) k).length + 1) (allC (stk L) k ++ rowsOf k (stk (L.take j) k) ++ runC k xp)
              | _ => True) (fun ix W W' => if ix = 10 then W.grownBy W' u3.ownBlock else Below W.heap.size W W') (fun W => Below w.heap.size w W ∧ wr.heap.size ≤ W.heap.size) (⟨HO2.out.2.drew, Nat.le_refl _⟩) (fun ix W => match ix with
              | 10 => W.ownsRow w.heap.size 36 2 u3 (cnt (stk L) k + (stk (L.take j) k).length) (allC (stk L) k ++ rowsOf k (stk (L.take j) k))
              | _ => True) ?_ ?_ ?_ ?_ ?_
            · intro ix hq
              have hj2 : ix = 0 ∨ ix = 1 ∨ ix = 2 ∨ ix = 3 ∨ ix = 4 ∨ ix = 5 ∨ ix = 6 ∨ ix = 7 ∨ ix = 8 ∨ ix = 9 ∨ ix = 10 ∨ ix = 11 := by omega
              rcases hj2 with rfl | rfl | rfl | rfl | rfl | rfl | rfl | rfl | rfl | rfl | rfl | rfl
              · trivial
              · trivial
              · trivial
              · trivial
              · trivial
              · trivial
              · trivial
              · trivial
              · trivial
              · trivial
              · exact HO2.out.1
              · trivial
            · intro ix jx W W' hq hj hne h hr
              have hj2 : ix = 0 ∨ ix = 1 ∨ ix = 2 ∨ ix = 3 ∨ ix = 4 ∨ ix = 5 ∨ ix = 6 ∨ ix = 7 ∨ ix = 8 ∨ ix = 9 ∨ ix = 10 ∨ ix = 11 := by omega
              rcases hj2 with rfl | rfl | rfl | rfl | rfl | rfl | rfl | rfl | rfl | rfl | rfl | rfl
              · trivial
              · trivial
              · trivial
              · trivial
              · trivial
              · trivial
              · trivial
              · trivial
              · trivial
              · trivial
              · rw [if_neg (show ¬ jx = 10 by omega)] at hr; exact own_below h hr
              · trivial
            · intro ix jx W W' vv hq hj hne hcn h hr
              have hj2 : ix = 0 ∨ ix = 1 ∨ ix = 2 ∨ ix = 3 ∨ ix = 4 ∨ ix = 5 ∨ ix = 6 ∨ ix = 7 ∨ ix = 8 ∨ ix = 9 ∨ ix = 10 ∨ ix = 11 := by omega
              rcases hj2 with rfl | rfl | rfl | rfl | rfl | rfl | rfl | rfl | rfl | rfl | rfl | rfl
              all_goals first
                | exact h
                | (by_cases h5 : jx = 10
                   · subst h5
                     rw [if_pos rfl] at hr
                     first
                     | exact absurd rfl hne
                     | (obtain ⟨p, e1, e2, e3⟩ := h; exact ⟨p, e1, (hr.block p (Array.getElem?_eq_some_iff.1 e2).1 e3).trans e2, e3⟩)
                     | exact Bool.noConfusion ((Eq.trans (by kernel_rfl) hcn : true = false))
                   · rw [if_neg h5] at hr
                     first
                     | (obtain ⟨p, e1, e2, e3⟩ := h; exact ⟨p, e1, (hr.block p (Array.getElem?_eq_some_iff.1 e2).1).trans e2, e3⟩)
                     | exact own_below h hr)
            · intro ix a W K hq hbl hpd hfr hdep hK
              have hj2 : ix = 0 ∨ ix = 1 ∨ ix = 2 ∨ ix = 3 ∨ ix = 4 ∨ ix = 5 ∨ ix = 6 ∨ ix = 7 ∨ ix = 8 ∨ ix = 9 ∨ ix = 10 ∨ ix = 11 := by omega
              rcases hj2 with rfl | rfl | rfl | rfl | rfl | rfl | rfl | rfl | rfl | rfl | rfl | rfl
              · have s3 : a.tmps[3]? = some _ := hfr 3 (by kernel_rfl)
                refine Rg.wpOp_wp rfl rfl ?_
                go_simp
                exact hK _ _ rfl (Below.refl _ _) hbl
              · have s0 : a.tmps[0]? = some _ := hfr 0 (by kernel_rfl)
                refine Rg.wpOp_wp rfl rfl ?_
                go_simp
                exact hK _ _ rfl (Below.refl _ _) hbl
              · have s5 : a.tmps[5]? = some _ := hfr 5 (by kernel_rfl)
                refine Rg.wpOp_wp rfl rfl ?_
                go_simp
                exact hK _ _ rfl (Below.refl _ _) hbl
              · obtain ⟨_, s24, rfl⟩ := hdep 1 24 (by kernel_rfl) rfl
                obtain ⟨_, s25, rfl⟩ := hdep 2 25 (by kernel_rfl) rfl
                have hqn : j < L.length := hlt
                refine Rg.wpOp_wp rfl rfl ?_
                go_simp
                exact hK _ _ rfl (Below.refl _ _) hbl
              · obtain ⟨_, s26, rfl⟩ := hdep 3 26 (by kernel_rfl) rfl
                refine Rg.wpOp_wp rfl rfl ?_
                go_simp
                exact hK _ _ rfl (Below.refl _ _) hbl
              · obtain ⟨_, s27, rfl⟩ := hdep 4 27 (by kernel_rfl) rfl
                have hcl := (hbl.1.cell (p := ⟨g, j * 2 + 1, none⟩) hgl).trans HC1w.out
                refine Rg.wpOp_wp rfl rfl ?_
                go_simp
                exact hK _ _ rfl (Below.refl _ _) hbl
              · have s4 : a.tmps[4]? = some _ := hfr 4 (by kernel_rfl)
                refine Rg.wpOp_wp rfl rfl ?_
                go_simp
                exact hK _ _ rfl (Below.refl _ _) hbl
              · obtain ⟨_, s29, rfl⟩ := hdep 6 29 (by kernel_rfl) rfl
                refine Rg.wpOp_wp rfl rfl ?_
                go_simp
                refine (refPages_any _ _).mono ?_
                rw [EP.out]
                rintro e w8 ⟨rfl, rfl⟩
                exact hK _ _ rfl (Below.refl _ _) hbl
              · obtain ⟨_, s28, rfl⟩ := hdep 5 28 (by kernel_rfl) rfl
                obtain ⟨_, s30, rfl⟩ := hdep 7 30 (by kernel_rfl) rfl
                refine Rg.wpOp_wp rfl rfl ?_
                go_simp
                exact hK _ _ rfl (Below.refl _ _) hbl
              · obtain ⟨_, s31, rfl⟩ := hdep 8 31 (by kernel_rfl) rfl
                refine Rg.wpOp_wp rfl rfl ?_
                go_simp
                exact hK _ _ ⟨W.heap.size, rfl, heap_alloc_new _ _, fun e => by have := (HO2.out.1.lt _ e.symm).2; have := hbl.2; omega⟩ ((Below.refl _ _).alloc (Nat.le_refl _) _) ⟨hbl.1.alloc hbl.1.size _, by simp; omega⟩
              · obtain ⟨_, s23, e0⟩ := hdep 0 23 (by kernel_rfl) rfl
                obtain ⟨_, s32, ⟨p9, rfl, hc9, hp9⟩⟩ := hdep 9 32 (by kernel_rfl) rfl
                refine Rg.wpOp_wp rfl rfl ?_
                refine wp_own (w0 := w) w.heap.size rfl (.tmp 23) (.tmp 32) 32 36 rfl Try.underlying32 (.agg #[.int .i64 0, .int .i64 0]) 2 16 info36b rfl (by decide) (by decide) u3 _ _ (Rg.eval_of (s23.trans (congrArg some e0))) hpd ⟨p9, 0, none⟩ 1 1 (runC k xp) (Rg.eval_of s32) rfl (fun q u hu => by rw [Addr.add_lit, Nat.zero_add]; exact cell_of hc9 (by simpa using hu)) (one_run _ _) hbl.1 hbl.1.size HCN.out ?_
                intro v2 w2 hown2 hb2 hg2
                exact hK v2 w2 hown2 hg2 ⟨hb2, Nat.le_trans hbl.2 hg2.size⟩
              · obtain ⟨_, s33, h10⟩ := hdep 10 33 (by kernel_rfl) rfl
                refine Rg.wpOp_wp rfl rfl ?_
                go_simp
                exact hK _ _ h10 (Below.refl _ _) hbl
            · intro vv W hvv hbl
              have e11 := hvv 11 (by decide)
              have HN := Lib.hid (And.intro e11 hbl.1)
              clear hvv hbl e11
              have HHL := Lib.hid hlt
              clear d0 d1 hgl hbb
              refine Rg.of_fakes_all [Rg.fake (some 23) (vv 0), Rg.fake (some 24) (vv 1), Rg.fake (some 25) (vv 2), Rg.fake (some 26) (vv 3), Rg.fake (some 27) (vv 4), Rg.fake (some 28) (vv 5), Rg.fake (some 29) (vv 6), Rg.fake (some 30) (vv 7), Rg.fake (some 31) (vv 8), Rg.fake (some 32) (vv 9), Rg.fake (some 33) (vv 10), Rg.fake (some 3) (vv 11)] rfl ?_
              simp only [Rg.fake]
              go_wp2_with fail
              go_roundw
              case rel => exact ⟨j + 1, by omega, by go_num, by rw [HT.out, if_pos HE.out, List.length_append, rowsOf_snoc, ← List.append_assoc]; exact HN.out.1, HN.out.2⟩
              case measure => simp [intOf]; omega
          · have hbb : ((xk : Int) == (k : Int)) = false := by rw [beq_eq_false_iff_ne]; omega
            have HE := Lib.hid he
            clear he
            go_wp2
            go_roundw
            case rel => exact ⟨j + 1, by omega, by go_num, by rw [HT.out, if_neg HE.out]; exact HO2.out.1, HO2.out.2⟩
            case measure => simp [intOf]; omega
        · have hlti : ¬ (j : Int) < (L.length : Int) := by omega
          obtain rfl : j = L.length := by omega
          have HO3 := HO2.out.1
          rw [List.take_length] at HO3
          have HO4 := Lib.hid HO3
          clear HO3
          go_wp2
          go_roundw
          case rel => exact ⟨k + 1, by omega, by go_num, HO4.out, HO2.out.2⟩
          case measure => simp [intOf]; omega
    · obtain rfl : k = 7 := by omega
      go_wp2
      go_ret
      exact ⟨_, rfl, HO.out⟩
end Go.Proofs.Ytbbhfbpkopocgaa.Hand
