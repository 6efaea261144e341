/- HeaderBack: headers that were written are read, the one that was linked with its link; a cleared one is none. -/
import Derived.Test.YtfdhjeeaigfmfaaHeaderAwake
import Derived.Test.YtfdhjeeaigfmfaaSpaceBytes
import Derived.Test.YtfdhjeeaigfmfaaSpaceActs
import Derived.Test.YtfdhjeeaigfmfaaSpaceCuts
namespace Go.Proofs.Ytfdhjeeaigfmfaa.Sp
open Go.RowKit Go.WideMaps Go.Proofs.Ytfdhjeeaigfmfaa.In Go.Proofs.Ytfdhjeeaigfmfaa.Plain
set_option linter.unusedVariables false
set_option linter.unusedSimpArgs false

theorem lst_hds {w w' : World} {A : Option Addr} {l : List Hd} (h : Lst KHd 4 w A l) (hb : Below w.heap.size w w') : Lst KHd 4 w' A l := lst_below h (fun _ _ h => h) hb
theorem hd_cells {w : World} {A : Option Addr} {l : List Hd} (h : Lst KHd 4 w A l) {k : Nat} (hk : k < l.length) :
    ∃ ad, A = some ad ∧ w.cell? (ad.add (k * 4)) = some (.int .i64 l[k].pages) ∧ w.cell? ⟨(ad.add (k * 4)).block, (ad.add (k * 4)).off + 1, none⟩ = some (.int .i64 l[k].kind) ∧ w.cell? ⟨(ad.add (k * 4)).block, (ad.add (k * 4)).off + 2, none⟩ = some (.int .u64 l[k].owner) ∧
      w.cell? ⟨(ad.add (k * 4)).block, (ad.add (k * 4)).off + 3, none⟩ = some (.int .u64 l[k].next) := by
  obtain ⟨ad, c, hA, hc, rfl, hcell⟩ := h k _ (List.getElem?_eq_getElem hk)
  refine ⟨ad, hA, hcell 0 _ rfl, ?_, ?_, ?_⟩
  · rw [← add_fld _ _ 1 (by omega)]; exact hcell 1 _ rfl
  · rw [← add_fld _ _ 2 (by omega)]; exact hcell 2 _ rfl
  · rw [← add_fld _ _ 3 (by omega)]; exact hcell 3 _ rfl
/-- What is written at a page leaves the headers of other pages. -/
theorem hdAt_off {s : SpS} {m n : Nat} {h : Hd} (H : HdAt s n h) (hne : n ≠ m) (x : Hd) (y : Int) : HdAt (wrote s (m * 4096) x) n h ∧ HdAt (linked s (m * 4096) y) n h ∧ HdAt (cleared s (m * 4096)) n h := by
  obtain ⟨e1, e2, e3⟩ := seen_off s (m * 4096) (n * 4096) 32 x y (by omega)
  exact ⟨⟨e1.trans H.1, H.2⟩, ⟨e2.trans H.1, H.2⟩, ⟨e3.trans H.1, H.2⟩⟩
/-- The first k headers stand at their pages. -/
def Hds (s : SpS) (l : List Hd) (k : Nat) : Prop := ∀ j x, j < k → l[j]? = some x → HdAt s j x
theorem hds_next {s : SpS} {l : List Hd} {k : Nat} (H : Hds s l k) (h : k < l.length) (hr : hRight l[k]) (ho : 0 ≤ l[k].owner ∧ l[k].owner ≤ 18446744073709551615) (hx : 0 ≤ l[k].next ∧ l[k].next ≤ 18446744073709551615) : Hds (wrote s (k * 4096) l[k]) l (k + 1) := by
  intro j x hj hjx
  by_cases e : j = k
  · subst e
    rw [List.getElem?_eq_getElem h] at hjx
    obtain rfl := Option.some.inj hjx
    exact HdAt.wrote s j _ hr ho hx
  · exact (hdAt_off (H j x (by omega) hjx) e l[k] 0).1
/-- Each header stands at its page, that of page J with its link. -/
def HdsL (s : SpS) (l : List Hd) (J : Nat) (nx : Int) : Prop := ∀ j x, l[j]? = some x → HdAt s j ⟨x.pages, x.kind, x.owner, if j = J then nx else x.next⟩
theorem hds_link {s : SpS} {l : List Hd} {k J : Nat} (H : Hds s l k) (hl : l.length = k) (hJ : J < k) (nx : Int) (hx : 0 ≤ nx ∧ nx ≤ 18446744073709551615) : HdsL (linked s (J * 4096) nx) l J nx := by
  intro j x hjx
  have hj : j < l.length := (List.getElem?_eq_some_iff.1 hjx).1
  have h1 := H j x (by omega) hjx
  by_cases e : j = J
  · subst e
    rw [if_pos rfl]
    exact h1.linked nx hx
  · rw [if_neg e]
    exact (hdAt_off h1 e x nx).2.1
theorem wfHd_of {x : Hd} (h : wfHd x) : (-9223372036854775808 ≤ x.pages ∧ x.pages ≤ 9223372036854775807) ∧ (-9223372036854775808 ≤ x.kind ∧ x.kind ≤ 9223372036854775807) ∧ (0 ≤ x.owner ∧ x.owner ≤ 18446744073709551615) ∧ (0 ≤ x.next ∧ x.next ≤ 18446744073709551615) :=
  ⟨i64_lit h.1, i64_lit h.2.1, u64_lit h.2.2.1, u64_lit h.2.2.2⟩

set_option maxRecDepth 100000 in
set_option maxHeartbeats 4000000 in
theorem HeaderBack_any (w : World) (A : Option Addr) (n c : Nat) (l : List Hd) (a1 nx : Int) (h1 : 0 ≤ a1 ∧ a1 ≤ 255) (hx : 0 ≤ nx ∧ nx ≤ 18446744073709551615) (hl : l.length = n) (hn : n ≤ 9223372036854775807) (hA : Lst KHd 4 w A l) (hv : ∀ p ∈ l, wfHd p) :
    Calls Try.prog 11 #[.slice A n c, .int .u8 a1, .int .u64 nx] w fun e w' => e = .returned (.bool true) ∧ Below w.heap.size w w' := by
  have HA := Lib.hid (awake8_any w)
  have HL := Lib.hid hl
  have HLA := Lib.hid hA
  have HV := Lib.hid (fun x hx => wfHd_of (hv x hx))
  have HX := Lib.hid (And.intro h1 hx)
  clear hl hA hv h1 hx
  go_enter Try.func11, Try.ntmps11
  go_wp2_with fail
  refine HA.out.mono ?_
  rintro e w1 ⟨rfl, hb1⟩
  by_cases r0 : (20 : Int) < (n : Int)
  · go_wp2_with fail
    go_ret
    exact ⟨rfl, hb1⟩
  by_cases r1 : n = 0
  · go_wp2_with fail
    go_ret
    exact ⟨rfl, hb1⟩
  have r1' : ¬ (0 : Int) = (n : Int) := by omega
  have r2 : ¬ (n : Int) = 0 := by omega
  have hn20 : n ≤ 20 ∧ n ≠ 0 := by omega
  have r3 : ((n : Int) == 0) = false := by rw [beq_eq_false_iff_ne]; omega
  go_wp2_with fail
  refine (St.new 20 (hb1 : Below w.heap.size w w1)).mono ?_
  rintro e w2 ⟨g, rfl, hg, hs2, hb2⟩
  have HS2 := Lib.hid hs2
  clear hs2 hb2 hg hb1 r0 r1 r1' r2 r3
  go_wp2_with fail
  go_loopw [9, 10] (fun q i wr => ∃ k : Nat, k ≤ n ∧ q = .int .i64 (k : Int) ∧ i = .int .i64 (k : Int) ∧ ∃ s : SpS, St w wr g s ∧ s.pages = 20 ∧ Hds s l k) (fun _ i _ => n - (intOf i).toNat)
  case atStart => exact ⟨0, Nat.zero_le _, rfl, rfl, newS 20, HS2.out, by decide, fun j x hj => absurd hj (Nat.not_lt_zero j)⟩
  case round =>
    obtain ⟨k, hk, rfl, rfl, s, hs, hpg, hds⟩ := hrel
    have HS := Lib.hid (And.intro hs (And.intro hpg hds))
    clear hs hpg hds HS2
    by_cases hlt : k < n
    · have hlti : (k : Int) < (n : Int) := by omega
      have hkl : k < l.length := by rw [HL.out]; exact hlt
      have HV1 := Lib.hid (HV.out _ (List.getElem_mem hkl))
      obtain ⟨ad, rfl, c0, c1, c2, c3⟩ := hd_cells (lst_hds HLA.out HS.out.1.below) hkl
      have HNX := Lib.hid (fun hr => hds_next HS.out.2.2 hkl hr HV1.out.2.2.1 HV1.out.2.2.2)
      generalize l[k] = x at *
      obtain ⟨xp, xk, xo, xn⟩ := x
      simp only at c0 c1 c2 c3
      by_cases hr : hRight ⟨xp, xk, xo, xn⟩
      · go_wp2_with fail
        refine (HS.out.1.hWrite k ⟨xp, xk, xo, xn⟩ hr HV1.out.2.2.1 HV1.out.2.2.2 (by rw [HS.out.2.1]; omega)).mono ?_
        rintro e w3 ⟨rfl, hs3, hk3⟩
        have HN := Lib.hid (HNX.out hr)
        have HS3 := Lib.hid hs3
        clear hs3 hk3 c0 c1 c2 c3
        go_wp2_with fail
        go_roundw
        case rel => exact ⟨k + 1, by omega, by go_num, by go_num, _, HS3.out, HS.out.2.1, HN.out⟩
        case measure => simp [intOf]; omega
      · go_wp2_with fail
        refine (hWrite_arg (some ⟨g, 0, none⟩) (k : Int) ⟨xp, xk, xo, xn⟩ _ hr).mono ?_
        rintro e w3 ⟨rfl, hb3⟩
        have HB3 := Lib.hid (HS.out.1.step hb3).below
        have d0 := (Chg.of_below (S := fun _ => False) hb3).cell c0 (fun h => h)
        have d1 := (Chg.of_below (S := fun _ => False) hb3).cell c1 (fun h => h)
        clear c0 c1 c2 c3 hb3 HNX
        by_cases r1 : xp < 1
        · go_wp2_with fail
          go_ret
          exact ⟨rfl, HB3.out⟩
        by_cases r2 : 1048576 < xp
        · go_wp2_with fail
          go_ret
          exact ⟨rfl, HB3.out⟩
        by_cases r3 : xk < 0
        · go_wp2_with fail
          go_ret
          exact ⟨rfl, HB3.out⟩
        have r4 : 255 < xk := by
          by_cases h : 255 < xk
          · exact h
          · exact absurd ⟨by simp only; omega, by simp only; omega, by simp only; omega, by simp only; omega⟩ hr
        go_wp2_with fail
        go_ret
        exact ⟨rfl, HB3.out⟩
    · have hlti : ¬ (k : Int) < (n : Int) := by omega
      obtain rfl : k = n := by omega
      have hw1 : wrap64 a1 = a1 := wrap_in (by have := HX.out; omega) (by have := HX.out; omega)
      obtain ⟨J, hJ⟩ : ∃ J : Nat, a1.tmod (k : Int) = (J : Int) := ⟨(a1.tmod (k : Int)).toNat, by rw [Int.tmod_eq_emod_of_nonneg HX.out.1.1]; have := Int.emod_nonneg a1 (show (k : Int) ≠ 0 by omega); omega⟩
      have hJk : J < k := by
        have h1 := Int.emod_lt_of_pos a1 (show (0 : Int) < (k : Int) by omega)
        rw [← Int.tmod_eq_emod_of_nonneg HX.out.1.1, hJ] at h1
        omega
      have HJ := Lib.hid (show J < l.length ∧ J < k ∧ k ≤ 20 from ⟨by rw [HL.out]; exact hJk, hJk, hn20.1⟩)
      have HJd := Lib.hid (HS.out.2.2 J _ hJk (List.getElem?_eq_getElem HJ.out.1))
      clear hJk
      go_wp2_with fail
      refine (HS.out.1.hLink J nx HX.out.2 (by rw [HS.out.2.1]; have := HJ.out; omega) HJd.out.is).mono ?_
      rintro e w3 ⟨rfl, hs3, hk3⟩
      have HD3 := Lib.hid (hds_link HS.out.2.2 HL.out HJ.out.2.1 nx HX.out.2)
      have HP3 : RowKit.Hid ((linked s (J * 4096) nx).pages = 20) := Lib.hid HS.out.2.1
      generalize linked s (J * 4096) nx = s3 at *
      have HS3 := Lib.hid hs3
      clear hs3 hk3 hw1 hJ
      go_wp2_with fail
      go_loopw [13] (fun i wq => ∃ q : Nat, q ≤ k ∧ i = .int .i64 (q : Int) ∧ ∃ s : SpS, St w wq g s ∧ s.pages = 20 ∧ HdsL s l J nx) (fun i _ => k - (intOf i).toNat)
      case atStart => exact ⟨0, Nat.zero_le _, rfl, s3, HS3.out, HP3.out, HD3.out⟩
      case round =>
        obtain ⟨q, hq, rfl, s4, hs4, hpg4, hds4⟩ := hrel
        have HS4 := Lib.hid (And.intro hs4 (And.intro hpg4 hds4))
        clear hs4 hpg4 hds4 HS3 HP3 HD3 HJd HS
        by_cases hqt : q < k
        · have hqti : (q : Int) < (k : Int) := by omega
          have hql : q < l.length := by rw [HL.out]; exact hqt
          obtain ⟨ad, rfl, c0, c1, c2, c3⟩ := hd_cells HLA.out hql
          have HH := Lib.hid (HS4.out.2.2 q _ (List.getElem?_eq_getElem hql))
          generalize l[q] = x at *
          obtain ⟨xp, xk, xo, xn⟩ := x
          simp only at c0 c1 c2 c3
          by_cases hqJ : q = J
          · have HH2 : RowKit.Hid (HdAt s4 q ⟨xp, xk, xo, nx⟩) := Lib.hid (by have := HH.out; rw [if_pos hqJ] at this; exact this)
            clear HH
            subst hqJ
            go_wp2_with fail
            refine (HS4.out.1.hRead_hd q (by rw [HS4.out.2.1]; have := HJ.out; omega) _ HH2.out).mono ?_
            rintro e w5 ⟨rfl, hs5, hk5⟩
            have HS5 := Lib.hid hs5
            clear hs5 hk5
            have f0 := fun o => (Chg.of_below (S := fun _ => False) ((HS5.out.al o).below)).cell c0 (fun h => h)
            have f1 := fun o => (Chg.of_below (S := fun _ => False) ((HS5.out.al o).below)).cell c1 (fun h => h)
            have f2 := fun o => (Chg.of_below (S := fun _ => False) ((HS5.out.al o).below)).cell c2 (fun h => h)
            have f3 := fun o => (Chg.of_below (S := fun _ => False) ((HS5.out.al o).below)).cell c3 (fun h => h)
            clear c0 c1 c2 c3
            go_wp2_with fail
            go_roundw
            case rel => exact ⟨q + 1, by omega, by go_num, _, (HS5.out.al _).al _, HS4.out.2.1, HS4.out.2.2⟩
            case measure => simp [intOf]; omega
          · have hqJi : ¬ (q : Int) = (J : Int) := by omega
            have HH2 : RowKit.Hid (HdAt s4 q ⟨xp, xk, xo, xn⟩) := Lib.hid (by have := HH.out; rw [if_neg hqJ] at this; exact this)
            clear HH
            go_wp2_with fail
            refine (HS4.out.1.hRead_hd q (by rw [HS4.out.2.1]; have := HJ.out; omega) _ HH2.out).mono ?_
            rintro e w5 ⟨rfl, hs5, hk5⟩
            have HS5 := Lib.hid hs5
            clear hs5 hk5
            have f0 := fun o => (Chg.of_below (S := fun _ => False) ((HS5.out.al o).below)).cell c0 (fun h => h)
            have f1 := fun o => (Chg.of_below (S := fun _ => False) ((HS5.out.al o).below)).cell c1 (fun h => h)
            have f2 := fun o => (Chg.of_below (S := fun _ => False) ((HS5.out.al o).below)).cell c2 (fun h => h)
            have f3 := fun o => (Chg.of_below (S := fun _ => False) ((HS5.out.al o).below)).cell c3 (fun h => h)
            clear c0 c1 c2 c3
            go_wp2_with fail
            go_roundw
            case rel => exact ⟨q + 1, by omega, by go_num, _, (HS5.out.al _).al _, HS4.out.2.1, HS4.out.2.2⟩
            case measure => simp [intOf]; omega
        · have hqti : ¬ (q : Int) < (k : Int) := by omega
          obtain ⟨x, hx⟩ : ∃ x, l[J]? = some x := ⟨_, List.getElem?_eq_getElem HJ.out.1⟩
          have HH := Lib.hid (HS4.out.2.2 J x hx)
          clear hx
          go_wp2_with fail
          refine (HS4.out.1.hClear J (by rw [HS4.out.2.1]; have := HJ.out; omega) HH.out.is).mono ?_
          rintro e w5 ⟨rfl, hs5, hk5⟩
          have HN := Lib.hid (show ¬ isHd (seen (cleared s4 (J * 4096)).mem (J * 4096) 32) by rw [seen_cleared]; exact not_blank)
          have HP5 : RowKit.Hid ((cleared s4 (J * 4096)).pages = 20) := Lib.hid HS4.out.2.1
          generalize cleared s4 (J * 4096) = s5 at *
          have HS5 := Lib.hid hs5
          clear hs5 hk5
          go_wp2_with fail
          refine (HS5.out.hRead_no J (by rw [HP5.out]; have := HJ.out; omega) HN.out).mono ?_
          rintro e w6 ⟨rfl, hs6, hk6⟩
          have HS6 := Lib.hid hs6
          clear hs6 hk6
          go_wp2_with fail
          refine ((HS6.out.al _).hLink_bad J 1 (by show J < s5.pages; rw [HP5.out]; have := HJ.out; omega) HN.out).mono ?_
          rintro e w7 ⟨rfl, hs7, hk7⟩
          have HS7 := Lib.hid hs7
          clear hs7 hk7
          go_wp2_with fail
          refine (HS7.out.hClear_bad J (by show J < s5.pages; rw [HP5.out]; have := HJ.out; omega) HN.out).mono ?_
          rintro e w8 ⟨rfl, hs8, hk8⟩
          have HB8 := Lib.hid hs8.below
          clear hs8 hk8
          go_wp2_with fail
          go_ret
          exact ⟨rfl, HB8.out⟩

theorem HeaderBack_walk (A : Option Addr) (n c : Nat) (l : List Hd) (a1 nx : Int) (w : World) (h0 : l.length = n ∧ n ≤ c ∧ n ≤ maxLen ∧ Lst KHd 4 w A l ∧ ∀ p ∈ l, wfHd p) (hy : n * 32 ≤ 140737488351232) (h1 : (Lit.int .u8 a1).wf = true) (h2 : (Lit.int .u64 nx).wf = true) :
    Calls Try.prog 11 #[.slice A n c, .int .u8 a1, .int .u64 nx] w fun e w' => e = .returned (.bool true) ∧ Below w.heap.size w w' :=
  HeaderBack_any w A n c l a1 nx (u8_lit h1) (u64_lit h2) h0.1 (by omega) h0.2.2.2.1 h0.2.2.2.2
end Go.Proofs.Ytfdhjeeaigfmfaa.Sp
