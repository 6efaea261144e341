/- The reference of the cache: a pop. -/
import Derived.Test.YtbbhfbpkopocgaaCachePush
import Derived.Test.YtbbhfbpkopocgaaRegionFacts
namespace Go.Proofs.Ytbbhfbpkopocgaa.Hand
open Go.RowKit
set_option linter.unusedVariables false
set_option linter.unusedSimpArgs false

theorem owns_slice {w : World} {b n : Nat} {e : TypeId} {size : Nat} {v : Value} {xs : List Value} (h : w.ownsRow b e size v n xs) : ∃ A c, v = .slice A n c := by
  rcases h.2 with ⟨rfl, rfl⟩ | ⟨g, cap, cur, rfl, _⟩
  · exact ⟨_, _, rfl⟩
  · exact ⟨_, _, rfl⟩
theorem own_below {w w' : World} {b n : Nat} {e : TypeId} {size : Nat} {v : Value} {xs : List Value} (h : w.ownsRow b e size v n xs) (hb : Below w.heap.size w w') : w'.ownsRow b e size v n xs := by
  refine ⟨h.1, ?_⟩
  rcases h.2 with h2 | ⟨g, cap, cur, e1, e2, e3, e4⟩
  · exact .inl h2
  · exact .inr ⟨g, cap, cur, e1, e2, (hb.block g (Array.getElem?_eq_some_iff.1 e3).1).trans e3, e4⟩
/-- What a pop does. -/
def Popped (L L' : Lg) (k p : Int) (b : Bool) : Prop :=
  (b = false ∧ p = 0 ∧ L' = L ∧ ∀ x ∈ L, (x.1 : Int) ≠ k) ∨ (b = true ∧ ∃ (M N : Lg) (x : Nat × Int), L = M ++ x :: N ∧ L' = M ++ N ∧ (x.1 : Int) = k ∧ p = x.2 ∧ ∀ y ∈ N, (y.1 : Int) ≠ k)

def PopP (base : Nat) (w : World) (L : Lg) (k : Int) (e : Ending) (w' : World) : Prop := ∃ v' p b L', e = .returned (.tuple #[v', .int .i64 p, .bool b]) ∧ RefL base w' v' L' ∧ Below w.heap.size w w' ∧ Popped L L' k p b
set_option maxRecDepth 100000 in
set_option maxHeartbeats 2000000 in
theorem refPop_any (base : Nat) (v : Value) (L : Lg) (k : Int) (w : World) (h : RefL base w v L) (hb : base ≤ w.heap.size) : Calls Try.prog 24 #[v, .int .i64 k] w (PopP base w L k) := by
  have HR := Lib.hid h
  obtain ⟨i0, hi0, hzz⟩ := Option.map_eq_some_iff.1 info98
  simp only [Prod.mk.injEq] at hzz
  have HI0 := Lib.hid hi0
  have HZ := Lib.hid hzz
  clear hi0 hzz
  obtain ⟨A, c, rfl, hc, hA⟩ := refL_form h
  have H := Lib.hid hA
  have H28 := Lib.hid h.2.2
  have hL28 := h.2.2
  clear hA h
  go_enter Try.func24, Try.ntmps24
  go_wp2_with fail
  go_loop [7] (fun i => ∃ z : Int, i = .int .i64 z ∧ -1 ≤ z ∧ z < (L.length : Int) ∧ ∀ (j : Nat) (hj : j < L.length), z < j → ((L[j]).1 : Int) ≠ k) (fun i => (intOf i + 1).toNat)
  case atStart => exact ⟨(L.length : Int) - 1, by go_num, by omega, by omega, fun j hj h => by omega⟩
  case round =>
    obtain ⟨z, rfl, hz1, hz2, hz3⟩ := hrel
    have HZ3 := Lib.hid hz3
    clear hz3
    by_cases h0 : 0 ≤ z
    · obtain ⟨i, rfl⟩ := Int.eq_ofNat_of_zero_le h0
      have hi : i < L.length := by omega
      obtain ⟨g, rfl, hbg, hcl⟩ := H.out (by omega)
      obtain ⟨c0, c1⟩ := hcl i hi
      by_cases he : ((L[i]).1 : Int) = k
      · have hbb : (((L[i]).1 : Int) == k) = true := by simpa using he
        have hil : (i : Int) ≤ (L.length : Int) := by omega
        -- what is taken out, what stands ahead and behind
        have hsp : L = L.take i ++ L[i] :: L.drop (i + 1) := by rw [List.getElem_cons_drop, List.take_append_drop]
        obtain ⟨M, hM⟩ : ∃ M, L.take i = M := ⟨_, rfl⟩
        obtain ⟨N, hN⟩ : ∃ N, L.drop (i + 1) = N := ⟨_, rfl⟩
        obtain ⟨x, hx⟩ : ∃ x, L[i] = x := ⟨_, rfl⟩
        have hMl : M.length = i := by rw [← hM, List.length_take]; omega
        have hNl : N.length = L.length - (i + 1) := by rw [← hN, List.length_drop]
        have hNk : ∀ y ∈ N, (y.1 : Int) ≠ k := by
          intro y hy
          rw [← hN] at hy
          obtain ⟨j, hj, rfl⟩ := List.getElem_of_mem hy
          rw [List.getElem_drop]
          exact HZ3.out _ _ (by omega)
        rw [hM, hN, hx] at hsp
        rw [hx] at c0 c1 hbb he
        have HSP := Lib.hid (And.intro hsp (And.intro hMl (And.intro hNl (And.intro hNk he))))
        have HF := Lib.hid (fun (w' : World) (v' : Value) (ho : w'.ownsRow w.heap.size 98 2 v' (M ++ N).length (encE (M ++ N))) => (⟨owns_base ho hb, fun y hy => HR.out.2.1 y (by rw [hsp]; rcases List.mem_append.1 hy with h | h; exact List.mem_append_left _ h; exact List.mem_append_right _ (List.mem_cons_of_mem _ h)), by rw [List.length_append, hMl, hNl]; omega⟩ : RefL base w' v' (M ++ N)))
        have HCM := Lib.hid (fun (j : Nat) (u : Value) (hu : (encE M)[j]? = some u) => show w.cell? ((⟨g, 0, none⟩ : Addr).add j) = some u by
          have := HR.out.1.cells (g := g) rfl j u (by rw [hsp, encE_app, List.getElem?_append_left (List.getElem?_eq_some_iff.1 hu).1]; exact hu)
          exact this)
        have HCN := Lib.hid (fun (W : World) (hW : Below w.heap.size w W) (j : Nat) (u : Value) (hu : (encE N)[j]? = some u) => show W.cell? ((⟨g, (i + 1) * 2, none⟩ : Addr).add j) = some u by
          have e1 : encE L = (encE M ++ oneE x) ++ encE N := by rw [hsp, encE_app, List.append_assoc]; rfl
          have e2 : (encE M ++ oneE x).length = (i + 1) * 2 := by rw [List.length_append, encE_length, hMl]; simp [oneE]; omega
          have := HR.out.1.cells (g := g) rfl ((i + 1) * 2 + j) u (by rw [e1, List.getElem?_append_right (by omega), e2, Nat.add_sub_cancel_left]; exact hu)
          rw [Addr.add_lit, Nat.zero_add] at this
          rw [Addr.add_lit, hW.cell (HR.out.1.lt g rfl).2]
          exact this)
        clear he hx hNk hM hN hcl hbg hsp hMl hNl
        go_wp2_with (at_builtin; refine app_new (w0 := w) w.heap.size rfl _ _ 48 98 rfl Try.underlying48 (.agg #[.int .i64 0, .int .i64 0]) 2 16 info98 rfl (by decide) (by decide) (.slice none 0 0) 0 [] rfl (World.ownsRow_nil _ _ _ _) ⟨g, 0, none⟩ i c (encE M) rfl (by rw [encE_length, HSP.out.2.1]) HCM.out (encE_one M) (Below.refl _ _) (Nat.le_refl _) (by omega) ?_; intro v1 w1 hown1 hb1 hg1 hat1)
        rw [Nat.zero_add, List.nil_append] at hown1
        obtain ⟨A1, C1, rfl⟩ := owns_slice hown1
        have HGL := Lib.hid (HR.out.1.lt g rfl).2
        have HC1 := Lib.hid c1
        have HOW1 := Lib.hid hown1
        have HB1 := Lib.hid hb1
        have d1 : w1.cell? ⟨g, i * 2 + 1, none⟩ = some (.int .i64 x.2) := by rw [hb1.cell (HR.out.1.lt g rfl).2]; exact c1
        have d2 : w1.drew.cell? ⟨g, i * 2 + 1, none⟩ = some (.int .i64 x.2) := d1
        have hi1 : (i : Int) + 1 ≤ (L.length : Int) := by omega
        clear hown1 hb1 hg1 hat1 c0 c1 hbb
        have HBD := Lib.hid (show w1.drew.heap.size = w1.drew.heap.size from rfl)
        have HOW2 : RowKit.Hid (w1.drew.ownsRow w.heap.size 98 2 (.slice A1 i C1) i (encE M)) := HOW1
        have HCN1 := Lib.hid (HCN.out w1 HB1.out)
        have HCN2 := Lib.hid (HCN.out w1.drew HB1.out.drew)
        have hw1 : IntKind.i64.wrap ((i : Int) + 1) = (i : Int) + 1 := by rw [IntKind.wrap_i64]; omega
        have ht1 : ((i : Int) + 1).toNat = i + 1 := by omega
        have HNL := Lib.hid (show (encE N).length = (L.length - (i + 1)) * 2 by rw [encE_length, HSP.out.2.2.1])
        have HOM := Lib.hid (And.intro hi (And.intro hL28 hc))
        have hc0 : (0 : Int) ≤ (i : Int) + 1 := by omega
        clear hb hz1 hz2 h0 hi hil hL28 hc
        refine Rg.wp_region_by 14 14 rfl (by kernel_rfl) (fun j W u => match j with
          | 0 => u = .slice A1 i C1
          | 1 => u = .slice (some ⟨g, 0, none⟩) L.length c
          | 2 => u = .int .i64 (i : Int)
          | 3 => u = .int .i64 ((i : Int) + 1)
          | 4 => ∃ A cp, u = .slice (some A) (L.length - (i + 1)) cp ∧ (N = [] ∨ A = ⟨g, (i + 1) * 2, none⟩)
          | 5 => W.ownsRow w.heap.size 98 2 u (M ++ N).length (encE (M ++ N))
          | 6 => u = .slice (some ⟨g, 0, none⟩) L.length c
          | 7 => u = .int .i64 (i : Int)
          | 8 => u = .pointer (some ⟨g, i * 2, none⟩)
          | 9 => u = .pointer (some ⟨g, i * 2 + 1, none⟩)
          | 10 => u = .int .i64 x.2
          | 11 => W.ownsRow w.heap.size 98 2 u (M ++ N).length (encE (M ++ N))
          | 12 => u = .int .i64 x.2
          | 13 => u = .bool true
          | _ => True) (fun j W W' => if j = 5 then True else Below W.heap.size W W') (fun W => Below w.heap.size w W) HB1.out.drew (fun j W => if j = 5 then W.ownsRow w.heap.size 98 2 (.slice A1 i C1) i (encE M) else True) ?_ ?_ ?_ ?_ ?_
        · intro q hq
          by_cases h5 : q = 5
          · rw [if_pos h5]; exact HOW1.out
          · rw [if_neg h5]; trivial
        · intro q j W W' hq hj hne h hr
          by_cases h5 : q = 5
          · rw [if_pos h5] at h ⊢
            simp only [show ¬ j = 5 by omega, if_false] at hr
            exact own_below h hr
          · rw [if_neg h5]; trivial
        · intro q j W W' u hq hj hne hcn h hr
          have hj2 : q = 0 ∨ q = 1 ∨ q = 2 ∨ q = 3 ∨ q = 4 ∨ q = 5 ∨ q = 6 ∨ q = 7 ∨ q = 8 ∨ q = 9 ∨ q = 10 ∨ q = 11 ∨ q = 12 ∨ q = 13 := by omega
          rcases hj2 with rfl | rfl | rfl | rfl | rfl | rfl | rfl | rfl | rfl | rfl | rfl | rfl | rfl | rfl
          all_goals first
            | exact h
            | (by_cases h5 : j = 5
               · subst h5
                 first
                 | exact absurd rfl hne
                 | (exfalso
                    exact Bool.noConfusion ((Eq.trans (by kernel_rfl) hcn : true = false)))
               · simp only [h5, if_false] at hr
                 exact own_below h hr)
        · intro q a W K hq hbl hpd hfr hdep hK
          have hj2 : q = 0 ∨ q = 1 ∨ q = 2 ∨ q = 3 ∨ q = 4 ∨ q = 5 ∨ q = 6 ∨ q = 7 ∨ q = 8 ∨ q = 9 ∨ q = 10 ∨ q = 11 ∨ q = 12 ∨ q = 13 := by omega
          rcases hj2 with rfl | rfl | rfl | rfl | rfl | rfl | rfl | rfl | rfl | rfl | rfl | rfl | rfl | rfl
          · have s : a.tmps[8]? = some (.slice A1 i C1) := hfr 8 (by kernel_rfl)
            refine Rg.wpOp_wp rfl rfl ?_
            go_simp
            exact hK _ _ rfl (Below.refl _ _) hbl
          · have s : a.tmps[0]? = some (.slice (some ⟨g, 0, none⟩) L.length c) := hfr 0 (by kernel_rfl)
            refine Rg.wpOp_wp rfl rfl ?_
            go_simp
            exact hK _ _ rfl (Below.refl _ _) hbl
          · have s : a.tmps[7]? = some (.int .i64 (i : Int)) := hfr 7 (by kernel_rfl)
            refine Rg.wpOp_wp rfl rfl ?_
            go_simp
            exact hK _ _ rfl (Below.refl _ _) hbl
          · obtain ⟨_, s, rfl⟩ := hdep 2 30 (by kernel_rfl) rfl
            refine Rg.wpOp_wp rfl rfl ?_
            go_simp
            exact hK _ _ rfl (Below.refl _ _) hbl
          · obtain ⟨_, s, rfl⟩ := hdep 1 29 (by kernel_rfl) rfl
            obtain ⟨_, s2, rfl⟩ := hdep 3 31 (by kernel_rfl) rfl
            have hc0 : (0 : Int) ≤ (i : Int) + 1 := by omega
            refine Rg.wpOp_wp rfl rfl ?_
            by_cases hcne : c = i + 1
            · go_simp
              exact hK _ _ ⟨_, _, rfl, .inl (List.eq_nil_of_length_eq_zero (by have := HOM.out; rw [HSP.out.2.2.1]; omega))⟩ (Below.refl _ _) hbl
            · go_simp
              exact hK _ _ ⟨_, _, rfl, .inr rfl⟩ (Below.refl _ _) hbl
          · obtain ⟨_, s, rfl⟩ := hdep 0 28 (by kernel_rfl) rfl
            obtain ⟨_, s2, A, cp, rfl, hA⟩ := hdep 4 32 (by kernel_rfl) rfl
            refine Rg.wpOp_wp rfl rfl ?_
            refine wp_own (w0 := w) w.heap.size rfl (.tmp 28) (.tmp 32) 48 98 rfl Try.underlying48 (.agg #[.int .i64 0, .int .i64 0]) 2 16 info98 rfl (by decide) (by decide) (.slice A1 i C1) i (encE M) (Rg.eval_of s) hpd A (L.length - (i + 1)) cp (encE N) (Rg.eval_of s2) HNL.out ?_ (encE_one N) hbl hbl.size (by have := HOM.out; omega) ?_
            · rcases hA with rfl | rfl
              · intro j u hu; cases hu
              · exact HCN.out W hbl
            · intro v2 w2 hown2 hb2 _
              exact hK v2 w2 (by have := HOM.out; show w2.ownsRow _ _ _ _ _ _; rw [List.length_append, HSP.out.2.1, HSP.out.2.2.1, encE_app]; exact hown2) trivial hb2
          · have s : a.tmps[0]? = some (.slice (some ⟨g, 0, none⟩) L.length c) := hfr 0 (by kernel_rfl)
            refine Rg.wpOp_wp rfl rfl ?_
            go_simp
            exact hK _ _ rfl (Below.refl _ _) hbl
          · have s : a.tmps[7]? = some (.int .i64 (i : Int)) := hfr 7 (by kernel_rfl)
            refine Rg.wpOp_wp rfl rfl ?_
            go_simp
            exact hK _ _ rfl (Below.refl _ _) hbl
          · obtain ⟨_, s, rfl⟩ := hdep 6 34 (by kernel_rfl) rfl
            obtain ⟨_, s2, rfl⟩ := hdep 7 35 (by kernel_rfl) rfl
            have hi2 : i < L.length := HOM.out.1
            refine Rg.wpOp_wp rfl rfl ?_
            go_simp
            exact hK _ _ rfl (Below.refl _ _) hbl
          · obtain ⟨_, s, rfl⟩ := hdep 8 36 (by kernel_rfl) rfl
            refine Rg.wpOp_wp rfl rfl ?_
            go_simp
            exact hK _ _ rfl (Below.refl _ _) hbl
          · obtain ⟨_, s, rfl⟩ := hdep 9 37 (by kernel_rfl) rfl
            have hcl := (hbl.cell HGL.out).trans HC1.out
            refine Rg.wpOp_wp rfl rfl ?_
            go_simp
            exact hK _ _ rfl (Below.refl _ _) hbl
          · obtain ⟨_, s, hs⟩ := hdep 5 33 (by kernel_rfl) rfl
            refine Rg.wpOp_wp rfl rfl ?_
            go_simp
            exact hK _ _ hs (Below.refl _ _) hbl
          · obtain ⟨_, s, rfl⟩ := hdep 10 38 (by kernel_rfl) rfl
            refine Rg.wpOp_wp rfl rfl ?_
            go_simp
            exact hK _ _ rfl (Below.refl _ _) hbl
          · refine Rg.wpOp_wp rfl rfl ?_
            go_simp
            exact hK _ _ rfl (Below.refl _ _) hbl
        · intro u W hu hbl
          have e11 : W.ownsRow w.heap.size 98 2 (u 11) (M ++ N).length (encE (M ++ N)) := hu 11 (by decide)
          have e12 : u 12 = .int .i64 x.2 := hu 12 (by decide)
          have e13 : u 13 = .bool true := hu 13 (by decide)
          clear hu
          show Exit.then _ _ Exit.normal _ W
          simp only [Rg.putAll, Rg.dstAt]
          go_wp2_with fail
          go_ret3
          exact ⟨_, _, _, _, rfl, HF.out _ _ e11, hbl, .inr ⟨rfl, M, N, x, HSP.out.1, rfl, HSP.out.2.2.2.2, rfl, HSP.out.2.2.2.1⟩⟩
      · have hbb : (((L[i]).1 : Int) == k) = false := by simpa using he
        have HE := Lib.hid he
        clear he
        go_wp2_with fail
        go_round
        case rel =>
          refine ⟨(i : Int) - 1, by go_num, by omega, by omega, fun j hj h => ?_⟩
          by_cases hji : j = i
          · subst hji; exact HE.out
          · exact HZ3.out j hj (by omega)
        case measure => simp [intOf]
    · have hn : ¬ 0 ≤ z := h0
      go_wp2_with fail
      go_ret3
      refine ⟨_, _, _, L, rfl, HR.out, Below.refl _ _, .inl ⟨rfl, rfl, rfl, fun x hx => ?_⟩⟩
      obtain ⟨j, hj, rfl⟩ := List.getElem_of_mem hx
      exact HZ3.out j hj (by omega)
end Go.Proofs.Ytbbhfbpkopocgaa.Hand
