/- SpacePlays: whatever is loaded, stored, zeroed and copied, in a space of any pages, each answer, and how many pages were touched, are the document's, step by step. -/
import Derived.Test.YtfdhjeeaigfmfaaSpaceBoth
import Derived.Test.YtfdhjeeaigfmfaaRegionFacts
namespace Go.Proofs.Ytfdhjeeaigfmfaa.Sp
open Go.RowKit Go.WideMaps Go.Proofs.Ytfdhjeeaigfmfaa.In Go.Proofs.Ytfdhjeeaigfmfaa.Plain
set_option linter.unusedVariables false
set_option linter.unusedSimpArgs false

theorem box3_other {W : World} {b i : Nat} {x y z : Value} {o : Obj} (h : W.heap[i]? = some o) (hn : b ≠ i) : (((W.setCell ⟨b, 0, none⟩ x).setCell ⟨b, 1, none⟩ y).setCell ⟨b, 2, none⟩ z).heap[i]? = some o := by
  rw [Below.heap_setCell _ ⟨b, 2, none⟩ _ i (fun e => hn e.symm), Below.heap_setCell _ ⟨b, 1, none⟩ _ i (fun e => hn e.symm), Below.heap_setCell _ ⟨b, 0, none⟩ _ i (fun e => hn e.symm)]
  exact h
/-- The bytes of an act that came in. -/
theorem act3_row {w : World} {A : Option Addr} {l : List Act3} (h : Lst KAct3 5 w A l) {k : Nat} (hk : k < l.length) : Lst (KInt .u8) 1 w l[k].A l[k].b := by
  obtain ⟨ad, _, _, _, _, _, _, _, _, h7⟩ := act3_cells h hk
  exact h7

set_option maxRecDepth 100000 in
set_option maxHeartbeats 4000000 in
theorem SpacePlays_any (w : World) (a0 : Int) (A : Option Addr) (n c : Nat) (l : List Act3) (hl : l.length = n) (hn : n ≤ 9223372036854775807) (hA : Lst KAct3 5 w A l) (hv : ∀ p ∈ l, wfAct3 p) :
    Calls Try.prog 3 #[.int .i64 a0, .slice A n c] w fun e w' => e = .returned (.bool true) ∧ Below w.heap.size w w' := by
  have HA := Lib.hid (awake3_any w)
  have HF := Lib.hid (fun W (hb : Below w.heap.size w W) => few3_30 A n c l W hl hn (lst_acts hA hb))
  have HL := Lib.hid hl
  have HLA := Lib.hid hA
  have HV := Lib.hid hv
  clear hl hA hv
  go_enter Try.func3, Try.ntmps3
  go_wp2_with fail
  refine HA.out.mono ?_
  rintro e w1 ⟨rfl, hb1⟩
  go_wp2_with fail
  refine (HF.out w1 hb1).mono ?_
  rintro e w2 ⟨⟨b, rfl, hb30⟩, rfl⟩
  cases b with
  | false =>
    go_wp2
    go_ret
    exact ⟨rfl, hb1⟩
  | true =>
    have hn30 : n ≤ 30 := hb30 rfl
    clear hb30
    go_wp2_with fail
    refine (St.new a0 (hb1 : Below w.heap.size w w1)).mono ?_
    rintro e w3 ⟨g, rfl, hg, hs3, hb3⟩
    go_wp2_with fail
    refine (ref03New_any a0 w3).mono ?_
    rintro e w4 ⟨v, rfl, hr4, hb4⟩
    have hs4 := hs3.step hb4
    obtain ⟨LA, Lm, Lc, rfl⟩ := refS_form hr4
    have HS4 := Lib.hid hs4
    have HR4 := Lib.hid (refS_base hr4 (show w.heap.size ≤ w3.heap.size from hs3.below.size))
    clear hs3 hs4 hr4 hb4 hg hb3 hb1
    have HI0 : RowKit.Hid (BothS w (w4.alloc (.cells #[.int .i64 ((newS a0).pages : Int), .slice LA Lm Lc, .int .i64 (newS a0).ticks] 29)) 0 g w4.heap.size (newS a0)) := ⟨HS4.out.al _, LA, Lm, Lc, al_new rfl, HR4.out.below ((Below.refl _ _).alloc (Nat.le_refl _) _)⟩
    have HBW := Lib.hid (show w.heap.size ≤ w4.heap.size from HS4.out.below.size)
    go_wp2
    generalize w4.heap.size = bw at *
    go_loopw [10] (fun i wr => ∃ k : Nat, k ≤ n ∧ i = .int .i64 (k : Int) ∧ ∃ s : SpS, BothS w wr k g bw s) (fun i _ => n - (intOf i).toNat)
    case atStart => exact ⟨0, Nat.zero_le _, rfl, newS a0, HI0.out⟩
    case round =>
      obtain ⟨k, hk, rfl, s, hst, RA, Rm, Rc, hbox, hrs⟩ := hrel
      have q0 := fun o => (box3 (al_old (o := o) hbox)).1
      have q1 := fun o => (box3 (al_old (o := o) hbox)).2.1
      have q2 := fun o => (box3 (al_old (o := o) hbox)).2.2.1
      have HST := Lib.hid hst
      have HRS := Lib.hid hrs
      have HBX := Lib.hid hbox
      have hne1 : ¬ bw = wr.heap.size := by have := (Array.getElem?_eq_some_iff.1 hbox).1; omega
      have hne2 : ¬ wr.heap.size = bw := fun e => hne1 e.symm
      clear hst hrs hbox HI0 HS4 HR4
      by_cases hlt : k < n
      · have hlti : (k : Int) < (n : Int) := by omega
        have hkl : k < l.length := by rw [HL.out]; exact hlt
        have HV1 := Lib.hid (HV.out _ (List.getElem_mem hkl))
        obtain ⟨ad, rfl, c0, c1, c2, c3, c4, c5, c6, c7⟩ := act3_cells (lst_acts HLA.out HST.out.below) hkl
        have HB0 := Lib.hid (act3_row HLA.out hkl)
        generalize l[k] = x at *
        obtain ⟨xd, xt, xf, xn, xA, xc, xb⟩ := x
        simp only at c0 c1 c2 c3 c4 c5 c6 HB0
        have ht := u64_of HV1.out.2.1
        have hxf := u64_of HV1.out.2.2.1
        have hxn := u64_of HV1.out.2.2.2.1
        have HBV := Lib.hid (fun v hv => u8_of (HV1.out.2.2.2.2 v hv))
        simp only at ht hxf hxn HBV
        have HC5 := Lib.hid (And.intro c5 c6)
        have HT := Lib.hid (And.intro ht (And.intro hxf hxn))
        clear c5 c6 c7 ht hxf hxn
        have HBB := Lib.hid (show w.heap.size ≤ (wr.alloc (.cells #[.int .u8 xd, .int .u64 xt, .int .u64 xf, .int .u64 xn, .slice xA xb.length xc] 34)).heap.size by have := HST.out.below.size; simp; omega)
        by_cases d0 : xd = 0
        · have e0 : (xd == 0) = true := by simpa using d0
          clear d0
          obtain ⟨x, cc, s', HG, HP⟩ := load_both s xt xn HT.out.1 HT.out.2.2
          have HGG := Lib.hid HG
          have HPP := Lib.hid HP
          clear HG HP
          obtain ⟨S, hS⟩ : ∃ S, strOfNums x = S := ⟨_, rfl⟩
          rw [hS] at HGG
          go_wp2_with fail
          refine (HGG.out _ k _ _ (HRS.out.below ((Below.refl _ _).alloc (Nat.le_refl _) _)) (by omega)).mono ?_
          rintro e w5 ⟨v', rfl, hr5, hb5⟩
          obtain ⟨LA5, Lm5, Lc5, rfl⟩ := refS_form hr5
          obtain ⟨ea5, hbb5⟩ := boxes1 hb5
          obtain ⟨o5, ho5⟩ : ∃ o5 : Obj, o5 = .cells #[.int .i64 (s'.pages : Int), .slice LA5 Lm5 Lc5, .int .i64 s'.ticks] 29 := ⟨_, rfl⟩
          have eb5 := al_old (o := o5) ((hbb5.block _ (Array.getElem?_eq_some_iff.1 HBX.out).1).trans HBX.out)
          have hr7 := hr5.below ((Below.refl _ _).alloc (Nat.le_refl _) o5)
          have hb7 := hbb5.alloc hbb5.size o5
          have ea7 := al_old (o := o5) ea5
          subst ho5
          obtain ⟨p0, p1, p2, p3, p4⟩ := box5 ea7
          obtain ⟨m0, m1, m2, n1, n2, n0⟩ := box3 eb5
          have HS5 := Lib.hid ((HST.out.step hb7).set_box3 (x' := .int .i64 (s'.pages : Int)) (y' := .slice LA5 Lm5 Lc5) (z' := .int .i64 s'.ticks) eb5 (by decide) (by decide) HBW.out)
          have HR5 := Lib.hid (refS_set3 (x := .int .i64 (s'.pages : Int)) (y := .slice LA5 Lm5 Lc5) (z := .int .i64 s'.ticks) hr7 eb5 (by decide))
          have HE5 := Lib.hid (box3_set (x' := .int .i64 (s'.pages : Int)) (y' := .slice LA5 Lm5 Lc5) (z' := .int .i64 s'.ticks) eb5)
          have HE7 := Lib.hid (box3_other (x := .int .i64 (s'.pages : Int)) (y := .slice LA5 Lm5 Lc5) (z := .int .i64 s'.ticks) ea7 hne1)
          clear hr5 hb5 ea5 hbb5 eb5 hr7 hb7 ea7
          go_wp2_with fail
          refine (HPP.out _ _ _ HS5.out).mono ?_
          rintro e w6 ⟨YA, Ym, Yk, rfl, hcv, hs6, hk6⟩
          rw [hS] at hcv
          have eb6 := hk6.2 _ _ _ _ HE5.out (by decide) (by decide)
          obtain ⟨p0', p1', p2', p3', p4'⟩ := box5 (hk6.2 _ _ _ _ HE7.out (by decide) (by decide))
          have r2 := (box3 eb6).2.2.1
          have HTK := Lib.hid (fun q => ((hs6.dn q).ticks_).mono (fun e w' h => (⟨h.1, h.2.symm⟩ : e = .returned (.int .i64 s'.ticks) ∧ w' = w6.drewN q)))
          have HN6 : RowKit.Hid (∀ q, BothS w (w6.drewN q) (k + 1) g bw s') := fun q => ⟨hs6.dn q, LA5, Lm5, Lc5, eb6, (HR5.out.kp hk6).below ⟨rfl, rfl, rfl, Nat.le_refl _, fun _ _ => rfl⟩⟩
          clear hs6 hk6 eb6 m0 m1 m2 n0 n1 n2 p0 p1 p2 p3 p4 q0 q1 q2 c0 c1 c2 c3 c4 hne1 hne2
          clear hS
          have hcv0 : (convert 32 9 (.slice YA Ym Yk)).run Try.prog w6 = .ok (.string S) w6 := hcv 0
          go_wp2_with fail
          refine (Load_nil xt xn w6).mono ?_
          rintro e w7 ⟨rfl, rfl⟩
          clear p0' p1' p2' p3' p4'
          go_wp2_with fail
          go_quiet ((go_at_call 27; exact Calls.quiet_of_same (HTK.out _)))
          go_wp2
          go_roundw
          case rel => exact ⟨k + 1, by omega, by go_num, s', HN6.out _⟩
          case measure => simp [intOf]; omega
        · have e0 : (xd == 0) = false := by simpa using d0
          by_cases d1 : xd = 1
          · have e1 : (xd == 1) = true := by simpa using d1
            clear d0 d1
            obtain ⟨cc, s', HG, HP⟩ := store_both s xt xb HT.out.1 (by have := HC5.out.2; unfold maxLen at this; omega) HBV.out
            have HGG := Lib.hid HG
            have HPP := Lib.hid HP
            clear HG HP
            obtain ⟨S, hS⟩ : ∃ S, strOfNums xb = S := ⟨_, rfl⟩
            have HCV := Lib.hid (fun (W : World) (hb : Below w.heap.size w W) => lst_string HB0.out hb xb.length xc rfl)
            rw [hS] at HGG HCV
            have hcv := HCV.out (wr.alloc (.cells #[.int .u8 xd, .int .u64 xt, .int .u64 xf, .int .u64 xn, .slice xA xb.length xc] 34)) (HST.out.below.alloc HST.out.below.size _)
            go_wp2_with fail
            refine (HGG.out _ k _ _ (HRS.out.below ((Below.refl _ _).alloc (Nat.le_refl _) _)) (by omega) HBB.out).mono ?_
            rintro e w5 ⟨v', rfl, hr5, hb5⟩
            clear hcv
            obtain ⟨LA5, Lm5, Lc5, rfl⟩ := refS_form hr5
            obtain ⟨ea5, hbb5⟩ := boxes1 hb5
            obtain ⟨o5, ho5⟩ : ∃ o5 : Obj, o5 = .cells #[.int .i64 (s'.pages : Int), .slice LA5 Lm5 Lc5, .int .i64 s'.ticks] 29 := ⟨_, rfl⟩
            have eb5 := al_old (o := o5) ((hbb5.block _ (Array.getElem?_eq_some_iff.1 HBX.out).1).trans HBX.out)
            have hr7 := hr5.below ((Below.refl _ _).alloc (Nat.le_refl _) o5)
            have hb7 := hbb5.alloc hbb5.size o5
            have ea7 := al_old (o := o5) ea5
            subst ho5
            obtain ⟨p0, p1, p2, p3, p4⟩ := box5 ea7
            obtain ⟨m0, m1, m2, n1, n2, n0⟩ := box3 eb5
            have HS5 := Lib.hid ((HST.out.step hb7).set_box3 (x' := .int .i64 (s'.pages : Int)) (y' := .slice LA5 Lm5 Lc5) (z' := .int .i64 s'.ticks) eb5 (by decide) (by decide) HBW.out)
            have HR5 := Lib.hid (refS_set3 (x := .int .i64 (s'.pages : Int)) (y := .slice LA5 Lm5 Lc5) (z := .int .i64 s'.ticks) hr7 eb5 (by decide))
            have HE5 := Lib.hid (box3_set (x' := .int .i64 (s'.pages : Int)) (y' := .slice LA5 Lm5 Lc5) (z' := .int .i64 s'.ticks) eb5)
            have HE7 := Lib.hid (box3_other (x := .int .i64 (s'.pages : Int)) (y := .slice LA5 Lm5 Lc5) (z := .int .i64 s'.ticks) ea7 hne1)
            clear hr5 hb5 ea5 hbb5 eb5 hr7 hb7 ea7
            go_wp2_with fail
            refine (HPP.out _ _ _ xA xc HC5.out.1 (lst_srcW HB0.out HS5.out.below HV1.out.2.2.2.2) HS5.out).mono ?_
            rintro e w6 ⟨rfl, hs6, hk6⟩
            have eb6 := hk6.2 _ _ _ _ HE5.out (by decide) (by decide)
            obtain ⟨p0', p1', p2', p3', p4'⟩ := box5 (hk6.2 _ _ _ _ HE7.out (by decide) (by decide))
            have r2 := (box3 eb6).2.2.1
            have HTK := Lib.hid (fun q => ((hs6.dn q).ticks_).mono (fun e w' h => (⟨h.1, h.2.symm⟩ : e = .returned (.int .i64 s'.ticks) ∧ w' = w6.drewN q)))
            have HN6 : RowKit.Hid (∀ q, BothS w (w6.drewN q) (k + 1) g bw s') := fun q => ⟨hs6.dn q, LA5, Lm5, Lc5, eb6, (HR5.out.kp hk6).below ⟨rfl, rfl, rfl, Nat.le_refl _, fun _ _ => rfl⟩⟩
            clear hs6 hk6 eb6 m0 m1 m2 n0 n1 n2 p0 p1 p2 p3 p4 q0 q1 q2 c0 c1 c2 c3 c4 hne1 hne2
            clear hS
            go_wp2_with fail
            refine (Store_nil xt xb.length xc xA w6 (by have := HC5.out.2; unfold maxLen at this; omega)).mono ?_
            rintro e w7 ⟨rfl, rfl⟩
            clear p0' p1' p2' p3' p4'
            go_wp2_with fail
            go_quiet ((go_at_call 27; exact Calls.quiet_of_same (HTK.out _)))
            go_wp2
            go_roundw
            case rel => exact ⟨k + 1, by omega, by go_num, s', HN6.out _⟩
            case measure => simp [intOf]; omega
          · have e1 : (xd == 1) = false := by simpa using d1
            by_cases d2 : xd = 2
            · have e2 : (xd == 2) = true := by simpa using d2
              clear d0 d1 d2
              obtain ⟨cc, s', HG, HP⟩ := zero_both s xt xn HT.out.1 HT.out.2.2
              have HGG := Lib.hid HG
              have HPP := Lib.hid HP
              clear HG HP
              go_wp2_with fail
              refine (HGG.out _ k _ _ (HRS.out.below ((Below.refl _ _).alloc (Nat.le_refl _) _)) (by omega) HBB.out).mono ?_
              rintro e w5 ⟨v', rfl, hr5, hb5⟩
              obtain ⟨LA5, Lm5, Lc5, rfl⟩ := refS_form hr5
              obtain ⟨ea5, hbb5⟩ := boxes1 hb5
              obtain ⟨o5, ho5⟩ : ∃ o5 : Obj, o5 = .cells #[.int .i64 (s'.pages : Int), .slice LA5 Lm5 Lc5, .int .i64 s'.ticks] 29 := ⟨_, rfl⟩
              have eb5 := al_old (o := o5) ((hbb5.block _ (Array.getElem?_eq_some_iff.1 HBX.out).1).trans HBX.out)
              have hr7 := hr5.below ((Below.refl _ _).alloc (Nat.le_refl _) o5)
              have hb7 := hbb5.alloc hbb5.size o5
              have ea7 := al_old (o := o5) ea5
              subst ho5
              obtain ⟨p0, p1, p2, p3, p4⟩ := box5 ea7
              obtain ⟨m0, m1, m2, n1, n2, n0⟩ := box3 eb5
              have HS5 := Lib.hid ((HST.out.step hb7).set_box3 (x' := .int .i64 (s'.pages : Int)) (y' := .slice LA5 Lm5 Lc5) (z' := .int .i64 s'.ticks) eb5 (by decide) (by decide) HBW.out)
              have HR5 := Lib.hid (refS_set3 (x := .int .i64 (s'.pages : Int)) (y := .slice LA5 Lm5 Lc5) (z := .int .i64 s'.ticks) hr7 eb5 (by decide))
              have HE5 := Lib.hid (box3_set (x' := .int .i64 (s'.pages : Int)) (y' := .slice LA5 Lm5 Lc5) (z' := .int .i64 s'.ticks) eb5)
              have HE7 := Lib.hid (box3_other (x := .int .i64 (s'.pages : Int)) (y := .slice LA5 Lm5 Lc5) (z := .int .i64 s'.ticks) ea7 hne1)
              clear hr5 hb5 ea5 hbb5 eb5 hr7 hb7 ea7
              go_wp2_with fail
              refine (HPP.out _ _ _ HS5.out).mono ?_
              rintro e w6 ⟨rfl, hs6, hk6⟩
              have eb6 := hk6.2 _ _ _ _ HE5.out (by decide) (by decide)
              obtain ⟨p0', p1', p2', p3', p4'⟩ := box5 (hk6.2 _ _ _ _ HE7.out (by decide) (by decide))
              have r2 := (box3 eb6).2.2.1
              have HTK := Lib.hid (fun q => ((hs6.dn q).ticks_).mono (fun e w' h => (⟨h.1, h.2.symm⟩ : e = .returned (.int .i64 s'.ticks) ∧ w' = w6.drewN q)))
              have HN6 : RowKit.Hid (∀ q, BothS w (w6.drewN q) (k + 1) g bw s') := fun q => ⟨hs6.dn q, LA5, Lm5, Lc5, eb6, (HR5.out.kp hk6).below ⟨rfl, rfl, rfl, Nat.le_refl _, fun _ _ => rfl⟩⟩
              clear hs6 hk6 eb6 m0 m1 m2 n0 n1 n2 p0 p1 p2 p3 p4 q0 q1 q2 c0 c1 c2 c3 c4 hne1 hne2
              go_wp2_with fail
              refine (Zero_nil xt xn w6).mono ?_
              rintro e w7 ⟨rfl, rfl⟩
              clear p0' p1' p2' p3' p4'
              go_wp2_with fail
              go_quiet ((go_at_call 27; exact Calls.quiet_of_same (HTK.out _)))
              go_wp2
              go_roundw
              case rel => exact ⟨k + 1, by omega, by go_num, s', HN6.out _⟩
              case measure => simp [intOf]; omega
            · have e2 : (xd == 2) = false := by simpa using d2
              clear d0 d1 d2
              obtain ⟨cc, s', HG, HP⟩ := copy_both s xt xf xn HT.out.1 HT.out.2.1 HT.out.2.2 HST.out.range
              have HGG := Lib.hid HG
              have HPP := Lib.hid HP
              clear HG HP
              go_wp2_with fail
              refine (HGG.out _ k _ _ (HRS.out.below ((Below.refl _ _).alloc (Nat.le_refl _) _)) (by omega) HBB.out).mono ?_
              rintro e w5 ⟨v', rfl, hr5, hb5⟩
              obtain ⟨LA5, Lm5, Lc5, rfl⟩ := refS_form hr5
              obtain ⟨ea5, hbb5⟩ := boxes1 hb5
              obtain ⟨o5, ho5⟩ : ∃ o5 : Obj, o5 = .cells #[.int .i64 (s'.pages : Int), .slice LA5 Lm5 Lc5, .int .i64 s'.ticks] 29 := ⟨_, rfl⟩
              have eb5 := al_old (o := o5) ((hbb5.block _ (Array.getElem?_eq_some_iff.1 HBX.out).1).trans HBX.out)
              have hr7 := hr5.below ((Below.refl _ _).alloc (Nat.le_refl _) o5)
              have hb7 := hbb5.alloc hbb5.size o5
              have ea7 := al_old (o := o5) ea5
              subst ho5
              obtain ⟨p0, p1, p2, p3, p4⟩ := box5 ea7
              obtain ⟨m0, m1, m2, n1, n2, n0⟩ := box3 eb5
              have HS5 := Lib.hid ((HST.out.step hb7).set_box3 (x' := .int .i64 (s'.pages : Int)) (y' := .slice LA5 Lm5 Lc5) (z' := .int .i64 s'.ticks) eb5 (by decide) (by decide) HBW.out)
              have HR5 := Lib.hid (refS_set3 (x := .int .i64 (s'.pages : Int)) (y := .slice LA5 Lm5 Lc5) (z := .int .i64 s'.ticks) hr7 eb5 (by decide))
              have HE5 := Lib.hid (box3_set (x' := .int .i64 (s'.pages : Int)) (y' := .slice LA5 Lm5 Lc5) (z' := .int .i64 s'.ticks) eb5)
              have HE7 := Lib.hid (box3_other (x := .int .i64 (s'.pages : Int)) (y := .slice LA5 Lm5 Lc5) (z := .int .i64 s'.ticks) ea7 hne1)
              clear hr5 hb5 ea5 hbb5 eb5 hr7 hb7 ea7
              go_wp2_with fail
              refine (HPP.out _ _ _ HS5.out).mono ?_
              rintro e w6 ⟨rfl, hs6, hk6⟩
              have eb6 := hk6.2 _ _ _ _ HE5.out (by decide) (by decide)
              obtain ⟨p0', p1', p2', p3', p4'⟩ := box5 (hk6.2 _ _ _ _ HE7.out (by decide) (by decide))
              have r2 := (box3 eb6).2.2.1
              have HTK := Lib.hid (fun q => ((hs6.dn q).ticks_).mono (fun e w' h => (⟨h.1, h.2.symm⟩ : e = .returned (.int .i64 s'.ticks) ∧ w' = w6.drewN q)))
              have HN6 : RowKit.Hid (∀ q, BothS w (w6.drewN q) (k + 1) g bw s') := fun q => ⟨hs6.dn q, LA5, Lm5, Lc5, eb6, (HR5.out.kp hk6).below ⟨rfl, rfl, rfl, Nat.le_refl _, fun _ _ => rfl⟩⟩
              clear hs6 hk6 eb6 m0 m1 m2 n0 n1 n2 p0 p1 p2 p3 p4 q0 q1 q2 c0 c1 c2 c3 c4 hne1 hne2
              go_wp2_with fail
              refine (Copy_nil xt xf xn w6).mono ?_
              rintro e w7 ⟨rfl, rfl⟩
              clear p0' p1' p2' p3' p4'
              go_wp2_with fail
              go_quiet ((go_at_call 27; exact Calls.quiet_of_same (HTK.out _)))
              go_wp2
              go_roundw
              case rel => exact ⟨k + 1, by omega, by go_num, s', HN6.out _⟩
              case measure => simp [intOf]; omega
      · have hlti : ¬ (k : Int) < (n : Int) := by omega
        obtain rfl : k = n := by omega
        clear q0 q1 q2 hne1 hne2 hlt
        have hpg := HST.out.pages
        obtain ⟨P, hP⟩ : ∃ P : Nat, s.pages * 4096 = P := ⟨_, rfl⟩
        have hPi : (s.pages : Int) * 4096 = (P : Int) := by omega
        have HP := Lib.hid (show 4096 ≤ P ∧ P ≤ 4294967296 by omega)
        have HPP := Lib.hid hP
        have hP8 : IntKind.u64.wrap ((P : Int) - 8) = ((P - 8 : Nat) : Int) := by rw [IntKind.wrap_u64]; omega
        obtain ⟨P8, hP8e⟩ : ∃ P8 : Nat, P - 8 = P8 := ⟨_, rfl⟩
        rw [hP8e] at hP8
        have HP8 := Lib.hid hP8e
        clear hP hP8e hpg
        have HSZ := Lib.hid (fun (W : World) (lv : Value) (tk : Int) => hPi ▸ ref03Size_any (s.pages : Int) tk lv W (by have := HST.out.pages; omega))
        have HI1 : RowKit.Hid (∃ s2 : SpS, St w wr g s2 ∧ s2.pages = s.pages ∧ s2.mem = s.mem) := ⟨s, HST.out, rfl, rfl⟩
        clear HF
        go_wp2_with fail
        go_loopw [26] (fun i wt => ∃ j : Nat, j ≤ k ∧ i = .int .i64 (j : Int) ∧ wt.heap[bw]? = some (.cells (boxV s RA Rm Rc) 29 (0, 0)) ∧ RefS w.heap.size k wt (.agg (boxV s RA Rm Rc)) s ∧ ∃ s2 : SpS, St w wt g s2 ∧ s2.pages = s.pages ∧ s2.mem = s.mem) (fun i _ => k - (intOf i).toNat)
        case atStart => exact ⟨0, Nat.zero_le _, rfl, HBX.out, HRS.out, HI1.out⟩
        case round =>
          obtain ⟨j, hj, rfl, hbox, hrs, s2, hst2, hp2, hm2⟩ := hrel
          have q0 := (box3 hbox).1
          have q1 := (box3 hbox).2.1
          have q2 := (box3 hbox).2.2.1
          have HST2 := Lib.hid hst2
          have HRS2 := Lib.hid hrs
          have HBX2 := Lib.hid hbox
          have HM2 := Lib.hid (And.intro hp2 hm2)
          clear hst2 hrs hbox HI1 HST HRS HBX hp2 hm2
          by_cases hlt : j < k
          · have hlti : (j : Int) < (k : Int) := by omega
            have hkl : j < l.length := by rw [HL.out]; exact hlt
            have HV1 := Lib.hid (HV.out _ (List.getElem_mem hkl))
            obtain ⟨ad, rfl, c0, c1, c2, c3, c4, c5, c6, c7⟩ := act3_cells (lst_acts HLA.out HST2.out.below) hkl
            generalize l[j] = x at *
            obtain ⟨xd, xt, xf, xn, xA, xc, xb⟩ := x
            simp only at c1
            have HT := Lib.hid (u64_of HV1.out.2.1)
            clear c0 c2 c3 c4 c5 c6 c7
            obtain ⟨a, rfl⟩ := Int.eq_ofNat_of_zero_le HT.out.1
            have hLD : ∀ (W : World) (T : Nat), T + 8 ≤ P → St w W g s2 → Calls Try.prog 20 #[.pointer (some ⟨g, 0, none⟩), .int .u64 (T : Int), .int .u64 8] W fun e w' => ∃ r : Nat, e = .returned (.tuple #[.slice (some ⟨r, 0, none⟩) 8 8, .int .i64 0]) ∧ Row w' r (seen s.mem T 8) ∧ (∃ s3 : SpS, St w w' g s3 ∧ s3.pages = s.pages ∧ s3.mem = s.mem) ∧ KpT W w' := by
              intro W T hT hs
              refine (hs.load (T : Int) 8 (by omega) (by omega) (by have := HM2.out.1; have := HPP.out; omega) (by omega)).mono ?_
              rintro e w' ⟨r, rfl, hr, hrow, hs', hk⟩
              rw [Int.toNat_natCast, HM2.out.2] at hrow
              exact ⟨r, rfl, hrow, ⟨_, hs', HM2.out.1, HM2.out.2⟩, hk⟩
            have hRB : ∀ (W : World) (T : Nat), T + 8 ≤ P → RefS w.heap.size k W (.agg (boxV s RA Rm Rc)) s → Calls Try.prog 29 #[.agg (boxV s RA Rm Rc), .int .u64 (T : Int), .int .u64 8] W fun e w' => e = .returned (.string (strOfNums (seen s.mem T 8))) ∧ Below W.heap.size W w' := by
              intro W T hT hs
              exact ref03Bytes_any T 8 W hs (by omega) (by have := HP.out; omega)
            have HLD := Lib.hid hLD
            have HRB := Lib.hid hRB
            clear hLD hRB
            go_wp2_with fail
            refine (HSZ.out _ _ _).mono ?_
            rintro e w5 ⟨rfl, hb5⟩
            have HST5 := Lib.hid (HST2.out.step hb5)
            have HRS5 := Lib.hid (HRS2.out.below hb5)
            have HBX5 := Lib.hid ((hb5.block _ (Array.getElem?_eq_some_iff.1 HBX2.out).1).trans HBX2.out)
            have q0 := (box3 HBX5.out).1
            have q1 := (box3 HBX5.out).2.1
            have q2 := (box3 HBX5.out).2.2.1
            by_cases hgt : (P8 : Int) < (a : Int)
            case' pos =>
              clear hb5
              go_wp2_with fail
              refine (HSZ.out _ _ _).mono ?_
              rintro e w6 ⟨rfl, hb6⟩
              have HST6 := Lib.hid (HST5.out.step hb6)
              have HRS6 := Lib.hid (HRS5.out.below hb6)
              have HBX6 := Lib.hid ((hb6.block _ (Array.getElem?_eq_some_iff.1 HBX5.out).1).trans HBX5.out)
              have hT : P8 + 8 ≤ P := by have := HP8.out; have := HP.out; omega
              clear hb6 hgt
              generalize P8 = T at *
            case' neg =>
              have HST6 := HST5
              have HRS6 := HRS5
              have HBX6 := HBX5
              have hT : a + 8 ≤ P := by have := HP8.out; have := HP.out; omega
              clear hb5
              generalize a = T at *
            all_goals
              have HTT := Lib.hid hT
              have HLT := Lib.hid (And.intro hlt hn30)
              clear hT q0 q1 q2
              go_wp2_with fail
              refine (HLD.out _ _ HTT.out HST6.out).mono ?_
              rintro e w7 ⟨r, rfl, hrow, hs7, hk7⟩
              try clear hgt
              clear hP8 hPi hlt hlti hkl hj hk hn hn30 c1
              have hbx7 := hk7.2 _ _ _ _ HBX6.out (by decide) (by decide)
              have hrs7 := HRS6.out.kp hk7
              have HRB7 := Lib.hid (fun (W'' : World) (hb : Below w7.heap.size w7 W'') => HRB.out W'' T HTT.out (hrs7.below hb))
              have hcv : (convert 32 9 (.slice (some ⟨r, 0, none⟩) 8 8)).run Try.prog w7 = .ok (.string (strOfNums (seen s.mem T 8))) w7 := hrow.string0 8 8 (seen_length _ _ _)
              have hcvL : ∀ W'' : World, Below w7.heap.size w7 W'' → (convert 32 9 (.slice (some ⟨r, 0, none⟩) 8 8)).run Try.prog W'' = .ok (.string (strOfNums (seen s.mem T 8))) W'' := fun W'' hb => (hrow.kp (KpT.of_below hb)).string0 8 8 (seen_length _ _ _)
              have q0 := (box3 hbx7).1
              have q1 := (box3 hbx7).2.1
              have q2 := (box3 hbx7).2.2.1
              have HS7 := Lib.hid (And.intro hs7 (And.intro hbx7 hrs7))
              obtain ⟨S, hS⟩ : ∃ S, strOfNums (seen s.mem T 8) = S := ⟨_, rfl⟩
              rw [hS] at hcv HRB7
              simp only [hS] at hcvL
              clear hrow hs7 hk7 hbx7 hrs7 hS
              have HCV7 := Lib.hid (fun (W'' : World) (hb : Below w7.heap.size w7 W'') => hcvL W'' hb)
              clear hcvL
              go_wp2_with fail
              refine Rg.wp_region_grow 10 10 rfl (by kernel_rfl) (fun ix W vv => match ix with
                | 0 => vv = .int .i64 0
                | 1 => vv = .bool false
                | 2 => vv = .bool false
                | 3 => vv = .slice (some ⟨r, 0, none⟩) 8 8
                | 4 => vv = .string S
                | 5 => vv = .agg (boxV s RA Rm Rc)
                | 6 => vv = .int .u64 (T : Int)
                | 7 => vv = .string S
                | 8 => vv = .bool false
                | 9 => vv = .bool false
                | _ => True) ?_ ?_ ?_
              · intro ix W W' vv hq h hb
                have hj2 : ix = 0 ∨ ix = 1 ∨ ix = 2 ∨ ix = 3 ∨ ix = 4 ∨ ix = 5 ∨ ix = 6 ∨ ix = 7 ∨ ix = 8 ∨ ix = 9 := by omega
                rcases hj2 with rfl | rfl | rfl | rfl | rfl | rfl | rfl | rfl | rfl | rfl
                all_goals first | exact h
              · intro ix a W K hq hbl hfr hdep hK
                have hj2 : ix = 0 ∨ ix = 1 ∨ ix = 2 ∨ ix = 3 ∨ ix = 4 ∨ ix = 5 ∨ ix = 6 ∨ ix = 7 ∨ ix = 8 ∨ ix = 9 := by omega
                rcases hj2 with rfl | rfl | rfl | rfl | rfl | rfl | rfl | rfl | rfl | rfl
                · have s29 : a.tmps[29]? = some _ := hfr 29 (by kernel_rfl)
                  refine Rg.wpOp_wp rfl rfl ?_
                  go_simp
                  exact hK _ _ rfl (Below.refl _ _)
                · obtain ⟨_, s209, rfl⟩ := hdep 0 209 (by kernel_rfl) rfl
                  refine Rg.wpOp_wp rfl rfl ?_
                  go_simp
                  exact hK _ _ rfl (Below.refl _ _)
                · obtain ⟨_, s210, rfl⟩ := hdep 1 210 (by kernel_rfl) rfl
                  refine Rg.wpOp_wp rfl rfl ?_
                  go_simp
                  exact hK _ _ rfl (Below.refl _ _)
                · obtain ⟨_, sg, hg⟩ := hdep 2 211 (by kernel_rfl) rfl
                  subst hg
                  have s28 : a.tmps[28]? = some _ := hfr 28 (by kernel_rfl)
                  refine Rg.wpOp_go rfl rfl rfl sg ?_
                  go_simp
                  exact hK _ _ rfl (Below.refl _ _)
                · obtain ⟨_, sg, hg⟩ := hdep 2 211 (by kernel_rfl) rfl
                  subst hg
                  obtain ⟨_, s212, rfl⟩ := hdep 3 212 (by kernel_rfl) rfl
                  have hcv := HCV7.out W hbl
                  refine Rg.wpOp_go rfl rfl rfl sg ?_
                  go_simp
                  exact hK _ _ rfl (Below.refl _ _)
                · obtain ⟨_, sg, hg⟩ := hdep 2 211 (by kernel_rfl) rfl
                  subst hg
                  have s8 : a.tmps[8]? = some _ := hfr 8 (by kernel_rfl)
                  have hbx := (hbl.block _ (Array.getElem?_eq_some_iff.1 HS7.out.2.1).1).trans HS7.out.2.1
                  have q0 := (box3 hbx).1
                  have q1 := (box3 hbx).2.1
                  have q2 := (box3 hbx).2.2.1
                  refine Rg.wpOp_go rfl rfl rfl sg ?_
                  go_simp
                  exact hK _ _ rfl (Below.refl _ _)
                · obtain ⟨_, sg, hg⟩ := hdep 2 211 (by kernel_rfl) rfl
                  subst hg
                  have s27 : a.tmps[27]? = some _ := hfr 27 (by kernel_rfl)
                  refine Rg.wpOp_go rfl rfl rfl sg ?_
                  go_simp
                  exact hK _ _ rfl (Below.refl _ _)
                · obtain ⟨_, sg, hg⟩ := hdep 2 211 (by kernel_rfl) rfl
                  subst hg
                  obtain ⟨_, s214, rfl⟩ := hdep 5 214 (by kernel_rfl) rfl
                  obtain ⟨_, s215, rfl⟩ := hdep 6 215 (by kernel_rfl) rfl
                  refine Rg.wpOp_go rfl rfl rfl sg ?_
                  go_simp
                  refine (HRB7.out W hbl).mono ?_
                  rintro e w8 ⟨rfl, hb8⟩
                  exact hK _ _ rfl hb8
                · obtain ⟨_, sg, hg⟩ := hdep 2 211 (by kernel_rfl) rfl
                  subst hg
                  obtain ⟨_, s213, rfl⟩ := hdep 4 213 (by kernel_rfl) rfl
                  obtain ⟨_, s216, rfl⟩ := hdep 7 216 (by kernel_rfl) rfl
                  refine Rg.wpOp_go rfl rfl rfl sg ?_
                  go_simp
                  exact hK _ _ rfl (Below.refl _ _)
                · obtain ⟨_, s211, rfl⟩ := hdep 2 211 (by kernel_rfl) rfl
                  obtain ⟨_, s217, rfl⟩ := hdep 8 217 (by kernel_rfl) rfl
                  refine Rg.wpOp_wp rfl rfl ?_
                  go_simp
                  exact hK _ _ rfl (Below.refl _ _)
              · intro vv W hvv hbl
                have e9 : vv 9 = .bool false := hvv 9 (by decide)
                have HFN : RowKit.Hid (W.heap[bw]? = some (.cells (boxV s RA Rm Rc) 29 (0, 0)) ∧ RefS w.heap.size k W (.agg (boxV s RA Rm Rc)) s ∧ ∃ s2 : SpS, St w W g s2 ∧ s2.pages = s.pages ∧ s2.mem = s.mem) := ⟨(hbl.block _ (Array.getElem?_eq_some_iff.1 HS7.out.2.1).1).trans HS7.out.2.1, HS7.out.2.2.below hbl, by
                  obtain ⟨s3, h1, h2⟩ := HS7.out.1
                  exact ⟨s3, h1.step hbl, h2⟩⟩
                clear hvv hcv q0 q1 q2 hbl
                show Exit.then _ _ Exit.normal _ W
                refine Rg.of_fakes (P := Try.prog) [Rg.fake (some 209) (vv 0), Rg.fake (some 210) (vv 1), Rg.fake (some 211) (vv 2), Rg.fake (some 212) (vv 3), Rg.fake (some 213) (vv 4), Rg.fake (some 214) (vv 5), Rg.fake (some 215) (vv 6), Rg.fake (some 216) (vv 7), Rg.fake (some 217) (vv 8), Rg.fake (some 218) (vv 9)] rfl ?_
                simp only [Rg.fake, e9]
                go_wp2_with fail
                go_roundw
                case rel => obtain ⟨h31, h32⟩ := HLT.out; exact ⟨j + 1, by omega, by first | go_num | (rw [wrap_in (by omega) (by omega)]; simp), HFN.out⟩
                case measure => obtain ⟨h31, h32⟩ := HLT.out; first | (simp [intOf]; omega) | (rw [wrap_in (by omega) (by omega)]; simp [intOf]; omega)
          · have hlti : ¬ (j : Int) < (k : Int) := by omega
            go_wp2_with fail
            clear q0 q1 q2
            refine Rg.wp_region_grow 33 33 rfl (by kernel_rfl) (fun ix W vv => match ix with
              | 0 => vv = .pointer (some ⟨g, 0, none⟩)
              | 1 => vv = .int .i64 (s.pages : Int)
              | 2 => vv = .pointer (some ⟨bw, 0, none⟩)
              | 3 => vv = .int .i64 (s.pages : Int)
              | 4 => vv = .bool true
              | 5 => vv = .bool true
              | 6 => vv = .pointer (some ⟨g, 0, none⟩)
              | 7 => vv = .int .u64 (P : Int)
              | 8 => vv = .agg (boxV s RA Rm Rc)
              | 9 => vv = .int .u64 (P : Int)
              | 10 => vv = .bool true
              | 11 => vv = .bool true
              | 12 => vv = .bool true
              | 13 => vv = .pointer none
              | 14 => vv = .int .i64 0
              | 15 => vv = .bool true
              | 16 => vv = .bool true
              | 17 => vv = .bool true
              | 18 => vv = .pointer none
              | 19 => vv = .int .u64 0
              | 20 => vv = .bool true
              | 21 => vv = .bool true
              | 22 => vv = .bool true
              | 23 => vv = .pointer none
              | 24 => vv = .int .i64 0
              | 25 => vv = .bool true
              | 26 => vv = .bool true
              | 27 => vv = .bool true
              | 28 => vv = .pointer none
              | 29 => vv = .pointer none
              | 30 => vv = .bool true
              | 31 => vv = .bool true
              | 32 => vv = .bool true
              | _ => True) ?_ ?_ ?_
            · intro ix W W' vv hq h hb
              have hj2 : ix = 0 ∨ ix = 1 ∨ ix = 2 ∨ ix = 3 ∨ ix = 4 ∨ ix = 5 ∨ ix = 6 ∨ ix = 7 ∨ ix = 8 ∨ ix = 9 ∨ ix = 10 ∨ ix = 11 ∨ ix = 12 ∨ ix = 13 ∨ ix = 14 ∨ ix = 15 ∨ ix = 16 ∨ ix = 17 ∨ ix = 18 ∨ ix = 19 ∨ ix = 20 ∨ ix = 21 ∨ ix = 22 ∨ ix = 23 ∨ ix = 24 ∨ ix = 25 ∨ ix = 26 ∨ ix = 27 ∨ ix = 28 ∨ ix = 29 ∨ ix = 30 ∨ ix = 31 ∨ ix = 32 := by omega
              rcases hj2 with rfl | rfl | rfl | rfl | rfl | rfl | rfl | rfl | rfl | rfl | rfl | rfl | rfl | rfl | rfl | rfl | rfl | rfl | rfl | rfl | rfl | rfl | rfl | rfl | rfl | rfl | rfl | rfl | rfl | rfl | rfl | rfl | rfl
              all_goals first | exact h
            · intro ix a W K hq hbl hfr hdep hK
              have hj2 : ix = 0 ∨ ix = 1 ∨ ix = 2 ∨ ix = 3 ∨ ix = 4 ∨ ix = 5 ∨ ix = 6 ∨ ix = 7 ∨ ix = 8 ∨ ix = 9 ∨ ix = 10 ∨ ix = 11 ∨ ix = 12 ∨ ix = 13 ∨ ix = 14 ∨ ix = 15 ∨ ix = 16 ∨ ix = 17 ∨ ix = 18 ∨ ix = 19 ∨ ix = 20 ∨ ix = 21 ∨ ix = 22 ∨ ix = 23 ∨ ix = 24 ∨ ix = 25 ∨ ix = 26 ∨ ix = 27 ∨ ix = 28 ∨ ix = 29 ∨ ix = 30 ∨ ix = 31 ∨ ix = 32 := by omega
              rcases hj2 with rfl | rfl | rfl | rfl | rfl | rfl | rfl | rfl | rfl | rfl | rfl | rfl | rfl | rfl | rfl | rfl | rfl | rfl | rfl | rfl | rfl | rfl | rfl | rfl | rfl | rfl | rfl | rfl | rfl | rfl | rfl | rfl | rfl
              · have s7 : a.tmps[7]? = some _ := hfr 7 (by kernel_rfl)
                refine Rg.wpOp_wp rfl rfl ?_
                go_simp
                exact hK _ _ rfl (Below.refl _ _)
              · obtain ⟨_, s219, rfl⟩ := hdep 0 219 (by kernel_rfl) rfl
                refine Rg.wpOp_wp rfl rfl ?_
                go_simp
                refine ((HST2.out.step hbl).pages_).mono ?_
                rintro e w8 ⟨rfl, rfl⟩
                exact hK _ _ (by rw [HM2.out.1]; rfl) (Below.refl _ _)
              · have s8 : a.tmps[8]? = some _ := hfr 8 (by kernel_rfl)
                refine Rg.wpOp_wp rfl rfl ?_
                go_simp
                exact hK _ _ rfl (Below.refl _ _)
              · obtain ⟨_, s221, rfl⟩ := hdep 2 221 (by kernel_rfl) rfl
                have hbx := (hbl.block _ (Array.getElem?_eq_some_iff.1 HBX2.out).1).trans HBX2.out
                have q0 := (box3 hbx).1
                have q1 := (box3 hbx).2.1
                have q2 := (box3 hbx).2.2.1
                refine Rg.wpOp_wp rfl rfl ?_
                go_simp
                exact hK _ _ rfl (Below.refl _ _)
              · obtain ⟨_, s220, rfl⟩ := hdep 1 220 (by kernel_rfl) rfl
                obtain ⟨_, s222, rfl⟩ := hdep 3 222 (by kernel_rfl) rfl
                refine Rg.wpOp_wp rfl rfl ?_
                go_simp
                exact hK _ _ rfl (Below.refl _ _)
              · obtain ⟨_, s223, rfl⟩ := hdep 4 223 (by kernel_rfl) rfl
                refine Rg.wpOp_wp rfl rfl ?_
                go_simp
                exact hK _ _ rfl (Below.refl _ _)
              · obtain ⟨_, sg, hg⟩ := hdep 5 224 (by kernel_rfl) rfl
                subst hg
                have s7 : a.tmps[7]? = some _ := hfr 7 (by kernel_rfl)
                refine Rg.wpOp_go rfl rfl rfl sg ?_
                go_simp
                exact hK _ _ rfl (Below.refl _ _)
              · obtain ⟨_, sg, hg⟩ := hdep 5 224 (by kernel_rfl) rfl
                subst hg
                obtain ⟨_, s225, rfl⟩ := hdep 6 225 (by kernel_rfl) rfl
                refine Rg.wpOp_go rfl rfl rfl sg ?_
                go_simp
                refine ((HST2.out.step hbl).size_v (P : Int) (by rw [HM2.out.1]; exact hPi)).mono ?_
                rintro e w8 ⟨rfl, rfl⟩
                exact hK _ _ rfl (Below.refl _ _)
              · obtain ⟨_, sg, hg⟩ := hdep 5 224 (by kernel_rfl) rfl
                subst hg
                have s8 : a.tmps[8]? = some _ := hfr 8 (by kernel_rfl)
                have hbx := (hbl.block _ (Array.getElem?_eq_some_iff.1 HBX2.out).1).trans HBX2.out
                have q0 := (box3 hbx).1
                have q1 := (box3 hbx).2.1
                have q2 := (box3 hbx).2.2.1
                refine Rg.wpOp_go rfl rfl rfl sg ?_
                go_simp
                exact hK _ _ rfl (Below.refl _ _)
              · obtain ⟨_, sg, hg⟩ := hdep 5 224 (by kernel_rfl) rfl
                subst hg
                obtain ⟨_, s227, rfl⟩ := hdep 8 227 (by kernel_rfl) rfl
                refine Rg.wpOp_go rfl rfl rfl sg ?_
                go_simp
                refine (HSZ.out W _ _).mono ?_
                rintro e w8 ⟨rfl, hb8⟩
                exact hK _ _ rfl hb8
              · obtain ⟨_, sg, hg⟩ := hdep 5 224 (by kernel_rfl) rfl
                subst hg
                obtain ⟨_, s226, rfl⟩ := hdep 7 226 (by kernel_rfl) rfl
                obtain ⟨_, s228, rfl⟩ := hdep 9 228 (by kernel_rfl) rfl
                refine Rg.wpOp_go rfl rfl rfl sg ?_
                go_simp
                exact hK _ _ rfl (Below.refl _ _)
              · obtain ⟨_, s224, rfl⟩ := hdep 5 224 (by kernel_rfl) rfl
                obtain ⟨_, s229, rfl⟩ := hdep 10 229 (by kernel_rfl) rfl
                refine Rg.wpOp_wp rfl rfl ?_
                go_simp
                exact hK _ _ rfl (Below.refl _ _)
              · obtain ⟨_, s230, rfl⟩ := hdep 11 230 (by kernel_rfl) rfl
                refine Rg.wpOp_wp rfl rfl ?_
                go_simp
                exact hK _ _ rfl (Below.refl _ _)
              · obtain ⟨_, sg, hg⟩ := hdep 12 231 (by kernel_rfl) rfl
                subst hg
                have s9 : a.tmps[9]? = some _ := hfr 9 (by kernel_rfl)
                refine Rg.wpOp_go rfl rfl rfl sg ?_
                go_simp
                exact hK _ _ rfl (Below.refl _ _)
              · obtain ⟨_, sg, hg⟩ := hdep 12 231 (by kernel_rfl) rfl
                subst hg
                obtain ⟨_, s232, rfl⟩ := hdep 13 232 (by kernel_rfl) rfl
                refine Rg.wpOp_go rfl rfl rfl sg ?_
                go_simp
                refine (pages_nil W).mono ?_
                rintro e w8 ⟨rfl, rfl⟩
                exact hK _ _ rfl (Below.refl _ _)
              · obtain ⟨_, sg, hg⟩ := hdep 12 231 (by kernel_rfl) rfl
                subst hg
                obtain ⟨_, s233, rfl⟩ := hdep 14 233 (by kernel_rfl) rfl
                refine Rg.wpOp_go rfl rfl rfl sg ?_
                go_simp
                exact hK _ _ rfl (Below.refl _ _)
              · obtain ⟨_, s231, rfl⟩ := hdep 12 231 (by kernel_rfl) rfl
                obtain ⟨_, s234, rfl⟩ := hdep 15 234 (by kernel_rfl) rfl
                refine Rg.wpOp_wp rfl rfl ?_
                go_simp
                exact hK _ _ rfl (Below.refl _ _)
              · obtain ⟨_, s235, rfl⟩ := hdep 16 235 (by kernel_rfl) rfl
                refine Rg.wpOp_wp rfl rfl ?_
                go_simp
                exact hK _ _ rfl (Below.refl _ _)
              · obtain ⟨_, sg, hg⟩ := hdep 17 236 (by kernel_rfl) rfl
                subst hg
                have s9 : a.tmps[9]? = some _ := hfr 9 (by kernel_rfl)
                refine Rg.wpOp_go rfl rfl rfl sg ?_
                go_simp
                exact hK _ _ rfl (Below.refl _ _)
              · obtain ⟨_, sg, hg⟩ := hdep 17 236 (by kernel_rfl) rfl
                subst hg
                obtain ⟨_, s237, rfl⟩ := hdep 18 237 (by kernel_rfl) rfl
                refine Rg.wpOp_go rfl rfl rfl sg ?_
                go_simp
                refine (size_nil W).mono ?_
                rintro e w8 ⟨rfl, rfl⟩
                exact hK _ _ rfl (Below.refl _ _)
              · obtain ⟨_, sg, hg⟩ := hdep 17 236 (by kernel_rfl) rfl
                subst hg
                obtain ⟨_, s238, rfl⟩ := hdep 19 238 (by kernel_rfl) rfl
                refine Rg.wpOp_go rfl rfl rfl sg ?_
                go_simp
                exact hK _ _ rfl (Below.refl _ _)
              · obtain ⟨_, s236, rfl⟩ := hdep 17 236 (by kernel_rfl) rfl
                obtain ⟨_, s239, rfl⟩ := hdep 20 239 (by kernel_rfl) rfl
                refine Rg.wpOp_wp rfl rfl ?_
                go_simp
                exact hK _ _ rfl (Below.refl _ _)
              · obtain ⟨_, s240, rfl⟩ := hdep 21 240 (by kernel_rfl) rfl
                refine Rg.wpOp_wp rfl rfl ?_
                go_simp
                exact hK _ _ rfl (Below.refl _ _)
              · obtain ⟨_, sg, hg⟩ := hdep 22 241 (by kernel_rfl) rfl
                subst hg
                have s9 : a.tmps[9]? = some _ := hfr 9 (by kernel_rfl)
                refine Rg.wpOp_go rfl rfl rfl sg ?_
                go_simp
                exact hK _ _ rfl (Below.refl _ _)
              · obtain ⟨_, sg, hg⟩ := hdep 22 241 (by kernel_rfl) rfl
                subst hg
                obtain ⟨_, s242, rfl⟩ := hdep 23 242 (by kernel_rfl) rfl
                refine Rg.wpOp_go rfl rfl rfl sg ?_
                go_simp
                refine (Ticks_nil W).mono ?_
                rintro e w8 ⟨rfl, rfl⟩
                exact hK _ _ rfl (Below.refl _ _)
              · obtain ⟨_, sg, hg⟩ := hdep 22 241 (by kernel_rfl) rfl
                subst hg
                obtain ⟨_, s243, rfl⟩ := hdep 24 243 (by kernel_rfl) rfl
                refine Rg.wpOp_go rfl rfl rfl sg ?_
                go_simp
                exact hK _ _ rfl (Below.refl _ _)
              · obtain ⟨_, s241, rfl⟩ := hdep 22 241 (by kernel_rfl) rfl
                obtain ⟨_, s244, rfl⟩ := hdep 25 244 (by kernel_rfl) rfl
                refine Rg.wpOp_wp rfl rfl ?_
                go_simp
                exact hK _ _ rfl (Below.refl _ _)
              · obtain ⟨_, s245, rfl⟩ := hdep 26 245 (by kernel_rfl) rfl
                refine Rg.wpOp_wp rfl rfl ?_
                go_simp
                exact hK _ _ rfl (Below.refl _ _)
              · obtain ⟨_, sg, hg⟩ := hdep 27 246 (by kernel_rfl) rfl
                subst hg
                have s9 : a.tmps[9]? = some _ := hfr 9 (by kernel_rfl)
                refine Rg.wpOp_go rfl rfl rfl sg ?_
                go_simp
                exact hK _ _ rfl (Below.refl _ _)
              · obtain ⟨_, sg, hg⟩ := hdep 27 246 (by kernel_rfl) rfl
                subst hg
                obtain ⟨_, s247, rfl⟩ := hdep 28 247 (by kernel_rfl) rfl
                refine Rg.wpOp_go rfl rfl rfl sg ?_
                go_simp
                refine (Clone_nil W).mono ?_
                rintro e w8 ⟨rfl, rfl⟩
                exact hK _ _ rfl (Below.refl _ _)
              · obtain ⟨_, sg, hg⟩ := hdep 27 246 (by kernel_rfl) rfl
                subst hg
                obtain ⟨_, s248, rfl⟩ := hdep 29 248 (by kernel_rfl) rfl
                refine Rg.wpOp_go rfl rfl rfl sg ?_
                go_simp
                exact hK _ _ rfl (Below.refl _ _)
              · obtain ⟨_, s246, rfl⟩ := hdep 27 246 (by kernel_rfl) rfl
                obtain ⟨_, s249, rfl⟩ := hdep 30 249 (by kernel_rfl) rfl
                refine Rg.wpOp_wp rfl rfl ?_
                go_simp
                exact hK _ _ rfl (Below.refl _ _)
              · obtain ⟨_, s250, rfl⟩ := hdep 31 250 (by kernel_rfl) rfl
                refine Rg.wpOp_wp rfl rfl ?_
                go_simp
                exact hK _ _ rfl (Below.refl _ _)
            · intro vv W hvv hbl
              have e32 : vv 32 = .bool true := hvv 32 (by decide)
              have HBE := Lib.hid (HST2.out.below.trans (hbl.mono HST2.out.below.size))
              clear hvv hbl
              show Exit.then _ _ Exit.normal _ W
              refine Rg.of_fakes (P := Try.prog) [Rg.fake (some 219) (vv 0), Rg.fake (some 220) (vv 1), Rg.fake (some 221) (vv 2), Rg.fake (some 222) (vv 3), Rg.fake (some 223) (vv 4), Rg.fake (some 224) (vv 5), Rg.fake (some 225) (vv 6), Rg.fake (some 226) (vv 7), Rg.fake (some 227) (vv 8), Rg.fake (some 228) (vv 9), Rg.fake (some 229) (vv 10), Rg.fake (some 230) (vv 11), Rg.fake (some 231) (vv 12), Rg.fake (some 232) (vv 13), Rg.fake (some 233) (vv 14), Rg.fake (some 234) (vv 15), Rg.fake (some 235) (vv 16), Rg.fake (some 236) (vv 17), Rg.fake (some 237) (vv 18), Rg.fake (some 238) (vv 19), Rg.fake (some 239) (vv 20), Rg.fake (some 240) (vv 21), Rg.fake (some 241) (vv 22), Rg.fake (some 242) (vv 23), Rg.fake (some 243) (vv 24), Rg.fake (some 244) (vv 25), Rg.fake (some 245) (vv 26), Rg.fake (some 246) (vv 27), Rg.fake (some 247) (vv 28), Rg.fake (some 248) (vv 29), Rg.fake (some 249) (vv 30), Rg.fake (some 250) (vv 31), Rg.fake (some 4) (vv 32)] rfl ?_
              simp only [Rg.fake, e32]
              go_wp2_with fail
              go_ret
              exact ⟨rfl, HBE.out⟩

theorem SpacePlays_walk (a0 : Int) (A1 : Option Addr) (n1 c1 : Nat) (l1 : List Act3) (w : World) (h0 : (Lit.int .i64 a0).wf = true)
    (h1 : l1.length = n1 ∧ n1 ≤ c1 ∧ n1 ≤ maxLen ∧ Lst KAct3 5 w A1 l1 ∧ ∀ p ∈ l1, wfAct3 p) (y1 : n1 * 56 ≤ 140737488351232) :
    Calls Try.prog 3 #[.int .i64 a0, .slice A1 n1 c1] w fun e w' => e = .returned (.bool true) ∧ Below w.heap.size w w' :=
  SpacePlays_any w a0 A1 n1 c1 l1 h1.1 (by omega) h1.2.2.2.1 h1.2.2.2.2
end Go.Proofs.Ytfdhjeeaigfmfaa.Sp
