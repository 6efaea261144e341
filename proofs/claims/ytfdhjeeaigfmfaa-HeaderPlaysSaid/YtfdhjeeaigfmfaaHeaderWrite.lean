/- header.Write. -/
import Derived.Test.YtfdhjeeaigfmfaaHeaderLit
namespace Go.Proofs.Ytfdhjeeaigfmfaa.Sp
open Go.RowKit Go.WideMaps Go.Proofs.Ytfdhjeeaigfmfaa.In Go.Proofs.Ytfdhjeeaigfmfaa.Plain
set_option linter.unusedVariables false
set_option linter.unusedSimpArgs false

set_option maxRecDepth 100000 in
set_option maxHeartbeats 4000000 in
theorem hWrite_arg (p : Option Addr) (page : Int) (h : Hd) (W : World) (hr : ¬ hRight h) : Calls Try.prog 50 #[.pointer p, .int .i64 page, .agg #[.int .i64 h.pages, .int .i64 h.kind, .int .u64 h.owner, .int .u64 h.next]] W fun e w' => e = .returned (.int .i64 1) ∧ Below W.heap.size W w' := by
  have HR := Lib.hid (fun W => hright_any h W)
  have hd : decide (hRight h) = false := decide_eq_false hr
  obtain ⟨pg, kd, ow, nx⟩ := h
  simp only at HR
  clear hr
  go_enter Try.func50, Try.ntmps50
  go_wp2_with (go_at_call 78; (with_reducible refine (HR.out _).mono ?_); rintro e' w1 ⟨rfl, hb⟩)
  go_ret
  have h0 : Below W.heap.size W (W.alloc (.cells #[.int .i64 pg, .int .i64 kd, .int .u64 ow, .int .u64 nx] 82)) := (Below.refl _ _).alloc (Nat.le_refl _) _
  exact ⟨rfl, h0.trans (hb.mono h0.size)⟩

theorem hjoin_head (W : World) (b r1 r2 r3 : Nat) (pg kd ow nx : Int) (hb : W.heap[b]? = some (.cells #[.slice (some ⟨r1, 0, none⟩) 8 8, .slice (some ⟨r2, 0, none⟩) 8 8, .slice (some ⟨r3, 0, none⟩) 16 16] 32 (0, 0))) (h1 : Row W r1 magicL) (h2 : Row W r2 (le 4 pg ++ le 4 kd)) (h3 : Row W r3 (le 8 ow ++ le 8 nx)) :
    Calls Try.prog 80 #[.slice (some ⟨b, 0, none⟩) 3 3] W fun e w' => ∃ r : Nat, e = .returned (.slice (some ⟨r, 0, none⟩) 32 32) ∧ RowZ w' r (hdL ⟨pg, kd, ow, nx⟩) ∧ Below W.heap.size W w' := by
  obtain ⟨c0, c1, c2, _⟩ := box3 hb
  have l1 : (le 4 pg ++ le 4 kd).length = 8 := by rw [List.length_append, le_length, le_length]
  have l2 : (le 8 ow ++ le 8 nx).length = 16 := by rw [List.length_append, le_length, le_length]
  refine (hjoin_gen W b 3 (fun k => match k with | 0 => [] | 1 => magicL | 2 => magicL ++ (le 4 pg ++ le 4 kd) | _ => magicL ++ (le 4 pg ++ le 4 kd) ++ (le 8 ow ++ le 8 nx)) (by decide) rfl (fun k hk => ?_)).mono ?_
  · have hk3 : k = 0 ∨ k = 1 ∨ k = 2 := by omega
    rcases hk3 with rfl | rfl | rfl
    · exact ⟨r1, magicL, 8, 8, c0, h1, rfl, by decide, rfl, by show magicL.length ≤ 32; decide⟩
    · exact ⟨r2, _, 8, 8, c1, h2, l1, by decide, rfl, by show (magicL ++ _).length ≤ 32; rw [List.length_append, l1]; decide⟩
    · exact ⟨r3, _, 16, 16, c2, h3, l2, by decide, rfl, by show (magicL ++ _ ++ _).length ≤ 32; rw [List.length_append, List.length_append, l1, l2]; decide⟩
  · rintro e w' ⟨r, rfl, hr, hz, hb'⟩
    have hp : padL (magicL ++ (le 4 pg ++ le 4 kd) ++ (le 8 ow ++ le 8 nx)) = hdL ⟨pg, kd, ow, nx⟩ := by
      unfold padL
      rw [List.length_append, List.length_append, l1, l2]
      show _ ++ List.replicate 0 0 = _
      simp [hdL]
    exact ⟨r, rfl, hp ▸ hz, hb'⟩

set_option maxRecDepth 100000 in
set_option maxHeartbeats 4000000 in
theorem hWrite_gen (p : Option Addr) (page c ad : Int) (h : Hd) (W0 : World) (Q : World → Prop) (hr : hRight h) (ho : 0 ≤ h.owner ∧ h.owner ≤ 18446744073709551615) (hx : 0 ≤ h.next ∧ h.next ≤ 18446744073709551615)
    (hA : ∀ W1, Below W0.heap.size W0 W1 → Calls Try.prog 79 #[.pointer p, .int .i64 page] W1 fun e w' => e = .returned (.int .u64 ad) ∧ W1 = w')
    (hS : ∀ (r : Nat) (w1 : World), RowZ w1 r (hdL h) → Below W0.heap.size W0 w1 → Calls Try.prog 22 #[.pointer p, .int .u64 ad, .slice (some ⟨r, 0, none⟩) 32 32] w1 fun e w' => e = .returned (.int .i64 c) ∧ Q w') :
    Calls Try.prog 50 #[.pointer p, .int .i64 page, .agg #[.int .i64 h.pages, .int .i64 h.kind, .int .u64 h.owner, .int .u64 h.next]] W0 fun e w' => e = .returned (.int .i64 c) ∧ Q w' := by
  have HR := Lib.hid (fun W => hright_any h W)
  have hd : decide (hRight h) = true := decide_eq_true hr
  have HA := Lib.hid hA
  have HS := Lib.hid hS
  have HRT := Lib.hid hr
  obtain ⟨pg, kd, ow, nx⟩ := h
  simp only at HR ho hx
  have HOX := Lib.hid (And.intro ho hx)
  have hwp : IntKind.u64.wrap pg = pg := by have h1 := hr.1; have h2 := hr.2.1; simp only at h1 h2; rw [IntKind.wrap_u64]; omega
  have hwk : IntKind.u64.wrap kd = kd := by have h1 := hr.2.2.1; have h2 := hr.2.2.2; simp only at h1 h2; rw [IntKind.wrap_u64]; omega
  clear hr hA hS ho hx
  go_enter Try.func50, Try.ntmps50
  go_wp2_with (go_at_call 78; (with_reducible refine (HR.out _).mono ?_); rintro e' w1 ⟨rfl, hb⟩; obtain ⟨e0, hbb⟩ := boxes1 hb; obtain ⟨b0, b1, b2, b3⟩ := box4 e0; have HE0 := Lib.hid e0; have HBB := Lib.hid hbb; clear hb e0 hbb)
  have HLT := Lib.hid (Array.getElem?_eq_some_iff.1 HE0.out).1
  -- REGION
  refine Rg.wp_region_by 22 24 rfl (by kernel_rfl) (fun ix W vv => match ix with
    | 0 => vv = .pointer p
    | 1 => vv = .pointer p
    | 2 => vv = .int .i64 page
    | 3 => vv = .int .u64 ad
    | 4 => ∃ b : Nat, vv = .slice (some ⟨b, 0, none⟩) 8 8 ∧ Row W b magicL ∧ w1.heap.size ≤ b
    | 5 => ∃ b : Nat, vv = .slice (some ⟨b, 0, none⟩) 8 8 ∧ Row W b magicL ∧ w1.heap.size ≤ b
    | 6 => vv = .pointer (some ⟨W0.heap.size, 0, none⟩)
    | 7 => vv = .int .i64 pg
    | 8 => vv = .int .u64 pg
    | 9 => vv = .pointer (some ⟨W0.heap.size, 1, none⟩)
    | 10 => vv = .int .i64 kd
    | 11 => vv = .int .u64 kd
    | 12 => ∃ b : Nat, vv = .slice (some ⟨b, 0, none⟩) 2 2 ∧ W.heap[b]? = some (.cells #[.int .u64 pg, .int .u64 kd] 31 (0, 0))
    | 13 => ∃ r : Nat, vv = .slice (some ⟨r, 0, none⟩) 8 8 ∧ Row W r (le 4 pg ++ le 4 kd)
    | 14 => vv = .pointer (some ⟨W0.heap.size, 2, none⟩)
    | 15 => vv = .int .u64 ow
    | 16 => vv = .pointer (some ⟨W0.heap.size, 3, none⟩)
    | 17 => vv = .int .u64 nx
    | 18 => ∃ b : Nat, vv = .slice (some ⟨b, 0, none⟩) 2 2 ∧ W.heap[b]? = some (.cells #[.int .u64 ow, .int .u64 nx] 31 (0, 0))
    | 19 => ∃ r : Nat, vv = .slice (some ⟨r, 0, none⟩) 16 16 ∧ Row W r (le 8 ow ++ le 8 nx)
    | 20 => ∃ b r1 r2 r3 : Nat, vv = .slice (some ⟨b, 0, none⟩) 3 3 ∧ W.heap[b]? = some (.cells #[.slice (some ⟨r1, 0, none⟩) 8 8, .slice (some ⟨r2, 0, none⟩) 8 8, .slice (some ⟨r3, 0, none⟩) 16 16] 32 (0, 0)) ∧ Row W r1 magicL ∧ Row W r2 (le 4 pg ++ le 4 kd) ∧ Row W r3 (le 8 ow ++ le 8 nx)
    | 21 => ∃ r : Nat, vv = .slice (some ⟨r, 0, none⟩) 32 32 ∧ RowZ W r (hdL ⟨pg, kd, ow, nx⟩)
    | _ => True) (fun ix W W' => if ix = 5 then Marks W W' else Below W.heap.size W W') (fun W => Below w1.heap.size w1 W) ((Below.refl _ _).drew) (fun ix W => match ix with
    | _ => True) ?_ ?_ ?_ ?_ ?_
  · intro ix hix
    have hj2 : ix = 0 ∨ ix = 1 ∨ ix = 2 ∨ ix = 3 ∨ ix = 4 ∨ ix = 5 ∨ ix = 6 ∨ ix = 7 ∨ ix = 8 ∨ ix = 9 ∨ ix = 10 ∨ ix = 11 ∨ ix = 12 ∨ ix = 13 ∨ ix = 14 ∨ ix = 15 ∨ ix = 16 ∨ ix = 17 ∨ ix = 18 ∨ ix = 19 ∨ ix = 20 ∨ ix = 21 := by omega
    rcases hj2 with rfl | rfl | rfl | rfl | rfl | rfl | rfl | rfl | rfl | rfl | rfl | rfl | rfl | rfl | rfl | rfl | rfl | rfl | rfl | rfl | rfl | rfl
    · trivial
    · trivial
    · trivial
    · trivial
    · trivial
    · trivial
    · trivial
    · trivial
    · trivial
    · trivial
    · trivial
    · trivial
    · trivial
    · trivial
    · trivial
    · trivial
    · trivial
    · trivial
    · trivial
    · trivial
    · trivial
    · trivial
  · intro ix jx W W' hix hjx hne h hr
    have hj2 : ix = 0 ∨ ix = 1 ∨ ix = 2 ∨ ix = 3 ∨ ix = 4 ∨ ix = 5 ∨ ix = 6 ∨ ix = 7 ∨ ix = 8 ∨ ix = 9 ∨ ix = 10 ∨ ix = 11 ∨ ix = 12 ∨ ix = 13 ∨ ix = 14 ∨ ix = 15 ∨ ix = 16 ∨ ix = 17 ∨ ix = 18 ∨ ix = 19 ∨ ix = 20 ∨ ix = 21 := by omega
    rcases hj2 with rfl | rfl | rfl | rfl | rfl | rfl | rfl | rfl | rfl | rfl | rfl | rfl | rfl | rfl | rfl | rfl | rfl | rfl | rfl | rfl | rfl | rfl
    · trivial
    · trivial
    · trivial
    · trivial
    · trivial
    · trivial
    · trivial
    · trivial
    · trivial
    · trivial
    · trivial
    · trivial
    · trivial
    · trivial
    · trivial
    · trivial
    · trivial
    · trivial
    · trivial
    · trivial
    · trivial
    · trivial
  · intro ix jx W W' vv hix hjx hne hcn h hr
    have hj2 : ix = 0 ∨ ix = 1 ∨ ix = 2 ∨ ix = 3 ∨ ix = 4 ∨ ix = 5 ∨ ix = 6 ∨ ix = 7 ∨ ix = 8 ∨ ix = 9 ∨ ix = 10 ∨ ix = 11 ∨ ix = 12 ∨ ix = 13 ∨ ix = 14 ∨ ix = 15 ∨ ix = 16 ∨ ix = 17 ∨ ix = 18 ∨ ix = 19 ∨ ix = 20 ∨ ix = 21 := by omega
    rcases hj2 with rfl | rfl | rfl | rfl | rfl | rfl | rfl | rfl | rfl | rfl | rfl | rfl | rfl | rfl | rfl | rfl | rfl | rfl | rfl | rfl | rfl | rfl
    · exact h
    · exact h
    · exact h
    · exact h
    · have hm : Marks W W' := by
        by_cases h5 : jx = 5
        · rw [if_pos h5] at hr; exact hr
        · rw [if_neg h5] at hr; exact Marks.of_below hr
      obtain ⟨b, e1, e2, e3⟩ := h
      exact ⟨b, e1, e2.marks hm, e3⟩
    · have hm : Marks W W' := by
        by_cases h5 : jx = 5
        · rw [if_pos h5] at hr; exact hr
        · rw [if_neg h5] at hr; exact Marks.of_below hr
      obtain ⟨b, e1, e2, e3⟩ := h
      exact ⟨b, e1, e2.marks hm, e3⟩
    · exact h
    · exact h
    · exact h
    · exact h
    · exact h
    · exact h
    · have hm : Marks W W' := by
        by_cases h5 : jx = 5
        · rw [if_pos h5] at hr; exact hr
        · rw [if_neg h5] at hr; exact Marks.of_below hr
      obtain ⟨b, e1, e2⟩ := h
      obtain ⟨fr2, e3, e4⟩ := hm.2.2.2.2 _ _ _ _ e2
      obtain rfl := e4 (by decide)
      exact ⟨b, e1, e3⟩
    · have hm : Marks W W' := by
        by_cases h5 : jx = 5
        · rw [if_pos h5] at hr; exact hr
        · rw [if_neg h5] at hr; exact Marks.of_below hr
      obtain ⟨r, e1, e2⟩ := h
      exact ⟨r, e1, e2.marks hm⟩
    · exact h
    · exact h
    · exact h
    · exact h
    · have hm : Marks W W' := by
        by_cases h5 : jx = 5
        · rw [if_pos h5] at hr; exact hr
        · rw [if_neg h5] at hr; exact Marks.of_below hr
      obtain ⟨b, e1, e2⟩ := h
      obtain ⟨fr2, e3, e4⟩ := hm.2.2.2.2 _ _ _ _ e2
      obtain rfl := e4 (by decide)
      exact ⟨b, e1, e3⟩
    · have hm : Marks W W' := by
        by_cases h5 : jx = 5
        · rw [if_pos h5] at hr; exact hr
        · rw [if_neg h5] at hr; exact Marks.of_below hr
      obtain ⟨r, e1, e2⟩ := h
      exact ⟨r, e1, e2.marks hm⟩
    · have hm : Marks W W' := by
        by_cases h5 : jx = 5
        · rw [if_pos h5] at hr; exact hr
        · rw [if_neg h5] at hr; exact Marks.of_below hr
      obtain ⟨b, q1, q2, q3, e1, e2, f1, f2, f3⟩ := h
      obtain ⟨fr2, e3, e4⟩ := hm.2.2.2.2 _ _ _ _ e2
      obtain rfl := e4 (by decide)
      exact ⟨b, q1, q2, q3, e1, e3, f1.marks hm, f2.marks hm, f3.marks hm⟩
    · by_cases h5 : jx = 5
      · subst h5
        exact Bool.noConfusion ((Eq.trans (by kernel_rfl) hcn : true = false))
      · rw [if_neg h5] at hr
        obtain ⟨r, e1, e2⟩ := h
        exact ⟨r, e1, (hr.block r (Array.getElem?_eq_some_iff.1 e2).1).trans e2⟩
  · intro ix a W K hix hbl hpd hfr hdep hK
    have hj2 : ix = 0 ∨ ix = 1 ∨ ix = 2 ∨ ix = 3 ∨ ix = 4 ∨ ix = 5 ∨ ix = 6 ∨ ix = 7 ∨ ix = 8 ∨ ix = 9 ∨ ix = 10 ∨ ix = 11 ∨ ix = 12 ∨ ix = 13 ∨ ix = 14 ∨ ix = 15 ∨ ix = 16 ∨ ix = 17 ∨ ix = 18 ∨ ix = 19 ∨ ix = 20 ∨ ix = 21 := by omega
    rcases hj2 with rfl | rfl | rfl | rfl | rfl | rfl | rfl | rfl | rfl | rfl | rfl | rfl | rfl | rfl | rfl | rfl | rfl | rfl | rfl | rfl | rfl | rfl
    · have s0 : a.tmps[0]? = some _ := hfr 0 (by kernel_rfl)
      refine Rg.wpOp_wp rfl rfl ?_
      go_simp
      exact hK _ _ rfl (Below.refl _ _) hbl
    · have s0 : a.tmps[0]? = some _ := hfr 0 (by kernel_rfl)
      refine Rg.wpOp_wp rfl rfl ?_
      go_simp
      exact hK _ _ rfl (Below.refl _ _) hbl
    · have s1 : a.tmps[1]? = some _ := hfr 1 (by kernel_rfl)
      refine Rg.wpOp_wp rfl rfl ?_
      go_simp
      exact hK _ _ rfl (Below.refl _ _) hbl
    · obtain ⟨_, s11, rfl⟩ := hdep 1 11 (by kernel_rfl) rfl
      obtain ⟨_, s12, rfl⟩ := hdep 2 12 (by kernel_rfl) rfl
      refine Rg.wpOp_wp rfl rfl ?_
      go_simp
      refine (HA.out W (HBB.out.trans (hbl.mono HBB.out.size))).mono ?_
      rintro e w8 ⟨rfl, rfl⟩
      exact hK _ _ rfl (Below.refl _ _) hbl
    · refine Rg.wpOp_wp rfl rfl ?_
      go_simp
      exact hK _ _ ⟨W.heap.size, rfl, ⟨(0, 0), al_new rfl⟩, hbl.size⟩ ((Below.refl _ _).alloc (Nat.le_refl _) _) (hbl.alloc hbl.size _)
    · obtain ⟨_, s14, ⟨b4, rfl, hr4, hb4⟩⟩ := hdep 4 14 (by kernel_rfl) rfl
      obtain ⟨w8, hrun, hmk, hbw⟩ := mark_run W b4 8 8 magicL hr4
      refine Rg.wpOp_wp rfl rfl ?_
      go_simp
      exact hK _ _ ⟨b4, rfl, hr4.marks hmk, hb4⟩ hmk (hbl.trans (hbw _ hb4))
    · have s5 : a.tmps[5]? = some _ := hfr 5 (by kernel_rfl)
      refine Rg.wpOp_wp rfl rfl ?_
      go_simp
      exact hK _ _ rfl (Below.refl _ _) hbl
    · obtain ⟨_, s16, rfl⟩ := hdep 6 16 (by kernel_rfl) rfl
      have hcl := (hbl.cell (p := ⟨W0.heap.size, 0, none⟩) HLT.out).trans b0
      refine Rg.wpOp_wp rfl rfl ?_
      go_simp
      exact hK _ _ rfl (Below.refl _ _) hbl
    · obtain ⟨_, s17, rfl⟩ := hdep 7 17 (by kernel_rfl) rfl
      refine Rg.wpOp_wp rfl rfl ?_
      go_simp
      exact hK _ _ rfl (Below.refl _ _) hbl
    · have s5 : a.tmps[5]? = some _ := hfr 5 (by kernel_rfl)
      refine Rg.wpOp_wp rfl rfl ?_
      go_simp
      exact hK _ _ rfl (Below.refl _ _) hbl
    · obtain ⟨_, s19, rfl⟩ := hdep 9 19 (by kernel_rfl) rfl
      have hcl := (hbl.cell (p := ⟨W0.heap.size, 1, none⟩) HLT.out).trans b1
      refine Rg.wpOp_wp rfl rfl ?_
      go_simp
      exact hK _ _ rfl (Below.refl _ _) hbl
    · obtain ⟨_, s20, rfl⟩ := hdep 10 20 (by kernel_rfl) rfl
      refine Rg.wpOp_wp rfl rfl ?_
      go_simp
      exact hK _ _ rfl (Below.refl _ _) hbl
    · obtain ⟨_, s18, rfl⟩ := hdep 8 18 (by kernel_rfl) rfl
      obtain ⟨_, s21, rfl⟩ := hdep 11 21 (by kernel_rfl) rfl
      refine Rg.wpOp_wp rfl rfl ?_
      go_simp
      exact hK _ _ ⟨W.heap.size, rfl, al_new rfl⟩ ((Below.refl _ _).alloc (Nat.le_refl _) _) (hbl.alloc hbl.size _)
    · obtain ⟨_, s22, ⟨b12, rfl, hc12⟩⟩ := hdep 12 22 (by kernel_rfl) rfl
      refine Rg.wpOp_wp rfl rfl ?_
      go_simp
      refine (wBytes_ok 4 2 2 (some ⟨b12, 0, none⟩) [pg, kd] W rfl (by unfold wideP; omega) (by decide) (fun v hv => ?_) (fun _ => ⟨b12, 0, rfl, fun j hj => ?_⟩)).mono ?_
      · have h1 := HRT.out.1
        have h2 := HRT.out.2.1
        have h3 := HRT.out.2.2.1
        have h4 := HRT.out.2.2.2
        have h5 := HOX.out
        simp only at h1 h2 h3 h4
        simp only [List.mem_cons, List.not_mem_nil, or_false] at hv
        rcases hv with rfl | rfl <;> omega
      · have hj2 : j = 0 ∨ j = 1 := by omega
        rcases hj2 with rfl | rfl <;> simp [World.cell?, hc12]
      · rintro e w8 ⟨r, rfl, hr, hz, hb8⟩
        exact hK _ _ ⟨r, rfl, by have := hz.row; simpa [bytesL] using this⟩ hb8 (hbl.trans (hb8.mono hbl.size))
    · have s5 : a.tmps[5]? = some _ := hfr 5 (by kernel_rfl)
      refine Rg.wpOp_wp rfl rfl ?_
      go_simp
      exact hK _ _ rfl (Below.refl _ _) hbl
    · obtain ⟨_, s24, rfl⟩ := hdep 14 24 (by kernel_rfl) rfl
      have hcl := (hbl.cell (p := ⟨W0.heap.size, 2, none⟩) HLT.out).trans b2
      refine Rg.wpOp_wp rfl rfl ?_
      go_simp
      exact hK _ _ rfl (Below.refl _ _) hbl
    · have s5 : a.tmps[5]? = some _ := hfr 5 (by kernel_rfl)
      refine Rg.wpOp_wp rfl rfl ?_
      go_simp
      exact hK _ _ rfl (Below.refl _ _) hbl
    · obtain ⟨_, s26, rfl⟩ := hdep 16 26 (by kernel_rfl) rfl
      have hcl := (hbl.cell (p := ⟨W0.heap.size, 3, none⟩) HLT.out).trans b3
      refine Rg.wpOp_wp rfl rfl ?_
      go_simp
      exact hK _ _ rfl (Below.refl _ _) hbl
    · obtain ⟨_, s25, rfl⟩ := hdep 15 25 (by kernel_rfl) rfl
      obtain ⟨_, s27, rfl⟩ := hdep 17 27 (by kernel_rfl) rfl
      refine Rg.wpOp_wp rfl rfl ?_
      go_simp
      exact hK _ _ ⟨W.heap.size, rfl, al_new rfl⟩ ((Below.refl _ _).alloc (Nat.le_refl _) _) (hbl.alloc hbl.size _)
    · obtain ⟨_, s28, ⟨b18, rfl, hc18⟩⟩ := hdep 18 28 (by kernel_rfl) rfl
      refine Rg.wpOp_wp rfl rfl ?_
      go_simp
      refine (wBytes_ok 8 2 2 (some ⟨b18, 0, none⟩) [ow, nx] W rfl (by unfold wideP; omega) (by decide) (fun v hv => ?_) (fun _ => ⟨b18, 0, rfl, fun j hj => ?_⟩)).mono ?_
      · have h1 := HRT.out.1
        have h2 := HRT.out.2.1
        have h3 := HRT.out.2.2.1
        have h4 := HRT.out.2.2.2
        have h5 := HOX.out
        simp only at h1 h2 h3 h4
        simp only [List.mem_cons, List.not_mem_nil, or_false] at hv
        rcases hv with rfl | rfl <;> omega
      · have hj2 : j = 0 ∨ j = 1 := by omega
        rcases hj2 with rfl | rfl <;> simp [World.cell?, hc18]
      · rintro e w8 ⟨r, rfl, hr, hz, hb8⟩
        exact hK _ _ ⟨r, rfl, by have := hz.row; simpa [bytesL] using this⟩ hb8 (hbl.trans (hb8.mono hbl.size))
    · obtain ⟨_, s15, ⟨b5, rfl, hr5, hb5⟩⟩ := hdep 5 15 (by kernel_rfl) rfl
      obtain ⟨_, s23, ⟨r13, rfl, hr13⟩⟩ := hdep 13 23 (by kernel_rfl) rfl
      obtain ⟨_, s29, ⟨r19, rfl, hr19⟩⟩ := hdep 19 29 (by kernel_rfl) rfl
      refine Rg.wpOp_wp rfl rfl ?_
      go_simp
      exact hK _ _ ⟨W.heap.size, b5, r13, r19, rfl, al_new rfl, hr5.al _, hr13.al _, hr19.al _⟩ ((Below.refl _ _).alloc (Nat.le_refl _) _) (hbl.alloc hbl.size _)
    · obtain ⟨_, s30, ⟨b20, r1, r2, r3, rfl, hc20, g1, g2, g3⟩⟩ := hdep 20 30 (by kernel_rfl) rfl
      refine Rg.wpOp_wp rfl rfl ?_
      go_simp
      refine (hjoin_head W b20 r1 r2 r3 pg kd ow nx hc20 g1 g2 g3).mono ?_
      rintro e w8 ⟨r, rfl, hz, hb8⟩
      exact hK _ _ ⟨r, rfl, hz⟩ hb8 (hbl.trans (hb8.mono hbl.size))
  · intro vv W hvv hbl
    have e0 : vv 0 = .pointer p := hvv 0 (by decide)
    have e3 : vv 3 = .int .u64 ad := hvv 3 (by decide)
    obtain ⟨r, e21, hz⟩ := hvv 21 (by decide)
    have HZ := Lib.hid (And.intro hz (HBB.out.trans (hbl.mono HBB.out.size)))
    clear hvv hbl hz b0 b1 b2 b3
    refine Rg.of_fakes_tail (P := Try.prog) [Rg.fake (some 10) (vv 0), Rg.fake (some 11) (vv 1), Rg.fake (some 12) (vv 2), Rg.fake (some 13) (vv 3), Rg.fake (some 14) (vv 4), Rg.fake (some 15) (vv 5), Rg.fake (some 16) (vv 6), Rg.fake (some 17) (vv 7), Rg.fake (some 18) (vv 8), Rg.fake (some 19) (vv 9), Rg.fake (some 20) (vv 10), Rg.fake (some 21) (vv 11), Rg.fake (some 22) (vv 12), Rg.fake (some 23) (vv 13), Rg.fake (some 24) (vv 14), Rg.fake (some 25) (vv 15), Rg.fake (some 26) (vv 16), Rg.fake (some 27) (vv 17), Rg.fake (some 28) (vv 18), Rg.fake (some 29) (vv 19), Rg.fake (some 30) (vv 20), Rg.fake (some 31) (vv 21)] rfl (by decide) rfl (by kernel_rfl) ?_
    simp only [Rg.fake, e0, e3, e21, List.drop_succ_cons, List.drop_zero, List.cons_append, List.nil_append]
    go_wp2_with fail
    refine (HS.out r W HZ.out.1 HZ.out.2).mono ?_
    rintro e w9 ⟨rfl, hq⟩
    go_wp2_with fail
    go_ret
    exact ⟨rfl, hq⟩
end Go.Proofs.Ytfdhjeeaigfmfaa.Sp
