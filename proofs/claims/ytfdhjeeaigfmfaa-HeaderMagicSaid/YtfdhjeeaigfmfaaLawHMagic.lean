/- HeaderMagic: a header of which any of its first eight bytes is another one is none. -/
import Derived.Test.YtfdhjeeaigfmfaaHeaderAwake
import Derived.Test.YtfdhjeeaigfmfaaSpaceBytes
import Derived.Test.YtfdhjeeaigfmfaaSpaceCuts
namespace Go.Proofs.Ytfdhjeeaigfmfaa.Sp
open Go.RowKit Go.WideMaps Go.Proofs.Ytfdhjeeaigfmfaa.In Go.Proofs.Ytfdhjeeaigfmfaa.Plain
set_option linter.unusedVariables false
set_option linter.unusedSimpArgs false

theorem Row.set0 {W : World} {r : Nat} {v b : Int} (hr : Row W r [v]) : Row (W.setCell ⟨r, 0, none⟩ (.int .u8 b)) r [b] := by
  obtain ⟨fr, h⟩ := hr
  refine ⟨fr, ?_⟩
  simp only [World.setCell, Array.getElem?_modify, if_true, h, Option.map_some]
  simp
theorem magic_off (mem : Nat → Int) (m A : Nat) (b : Int) (h : Hd) (hm : m < 8) (hA : 1 * 4096 + m = A) (hs : seen mem (1 * 4096) 32 = hdL h) (hb : b ≠ mem A) : ¬ isHd (seen (lay mem A [b]) (1 * 4096) 32) := by
  intro hi
  have h1 := hi.1
  rw [← hdL_take h, ← hs] at h1
  have h2 := congrArg (fun l => l.getD m 0) h1
  have e (M : Nat → Int) : ((seen M (1 * 4096) 32).take 8).getD m 0 = M A := by
    rw [seen_take _ _ _ _ (by decide), seen_getD _ _ _ _ hm, hA]
  rw [e, e] at h2
  apply hb
  rw [← h2]
  unfold lay
  rw [if_pos ⟨Nat.le_refl _, by simp⟩, Nat.sub_self]
  rfl
theorem lay_back (mem : Nat → Int) (A : Nat) (b v : Int) (hv : mem A = v) : lay (lay mem A [b]) A [v] = mem := by
  funext i
  unfold lay
  by_cases h : i = A
  · subst h
    rw [if_pos ⟨Nat.le_refl _, by simp⟩, Nat.sub_self, ← hv]
    rfl
  · rw [if_neg (by simp only [List.length_singleton]; omega), if_neg (by simp only [List.length_singleton]; omega)]
theorem le_one (v : Int) (h : 0 ≤ v ∧ v ≤ 255) : le 1 v = [v] := by
  show [v % 256] = [v]
  rw [Int.emod_eq_of_lt h.1 (by omega)]

set_option maxRecDepth 100000 in
set_option maxHeartbeats 4000000 in
theorem HeaderMagic_any (w : World) (pg kd ow nx a1 a2 : Int) (ho : 0 ≤ ow ∧ ow ≤ 18446744073709551615) (hx : 0 ≤ nx ∧ nx ≤ 18446744073709551615) (hp : -9223372036854775808 ≤ pg ∧ pg ≤ 9223372036854775807) (h1 : 0 ≤ a1 ∧ a1 ≤ 255) (h2 : 0 ≤ a2 ∧ a2 ≤ 255) :
    Calls Try.prog 13 #[.agg #[.int .i64 pg, .int .i64 kd, .int .u64 ow, .int .u64 nx], .int .u8 a1, .int .u8 a2] w fun e w' => e = .returned (.bool true) ∧ Below w.heap.size w w' := by
  go_enter Try.func13, Try.ntmps13
  go_wp2_with fail
  refine (awake8_any _).mono ?_
  rintro e w1 ⟨rfl, hb1⟩
  have hb2 := boxes1 hb1
  obtain ⟨c0, c1, c2, c3⟩ := box4 hb2.1
  have HB1 := Lib.hid hb2
  clear hb1 hb2
  by_cases r1 : pg < 1
  · go_wp2_with fail
    go_ret
    exact ⟨rfl, HB1.out.2⟩
  by_cases r2 : 1048576 < pg
  · go_wp2_with fail
    go_ret
    exact ⟨rfl, HB1.out.2⟩
  by_cases r3 : kd < 0
  · go_wp2_with fail
    go_ret
    exact ⟨rfl, HB1.out.2⟩
  by_cases r4 : 255 < kd
  · go_wp2_with fail
    go_ret
    exact ⟨rfl, HB1.out.2⟩
  have hr : hRight ⟨pg, kd, ow, nx⟩ := ⟨by simp only; omega, by simp only; omega, by simp only; omega, by simp only; omega⟩
  have hwu : IntKind.u64.wrap pg = IntKind.u64.wrap pg := rfl
  have K1 : Kn (newS 2) 2 0 := ⟨by decide, rfl, by decide, by decide⟩
  obtain ⟨m, hm⟩ : ∃ m : Nat, a1.tmod 8 = m := ⟨(a1.tmod 8).toNat, by rw [Int.tmod_eq_emod_of_nonneg h1.1]; omega⟩
  have hm8 : m < 8 := by rw [Int.tmod_eq_emod_of_nonneg h1.1] at hm; omega
  obtain ⟨A, hA⟩ : ∃ A : Nat, 1 * 4096 + m = A := ⟨_, rfl⟩
  have hA2 : IntKind.u64.wrap (4096 + (m : Int)) = (A : Int) := by rw [IntKind.wrap_u64]; omega
  have hmu : IntKind.u64.wrap (m : Int) = (m : Int) := by rw [IntKind.wrap_u64]; omega
  have HM := Lib.hid (And.intro hm8 hA)
  have HH := Lib.hid (And.intro ho (And.intro hx (And.intro h1 (And.intro h2 hr))))
  clear ho hx hp h1 h2 hr hm8 hA hwu
  go_wp2_with fail
  refine (St.new 2 (HB1.out.2)).mono ?_
  rintro e w2 ⟨g, rfl, hg, hs2, hb2⟩
  have hx2 := (hb2.block _ (Array.getElem?_eq_some_iff.1 HB1.out.1).1).trans HB1.out.1
  have HS2 := Lib.hid (And.intro hs2 (And.intro K1 hx2))
  obtain ⟨d0, d1, d2, d3⟩ := box4 hx2
  clear hs2 hb2 hg hx2 K1 c0 c1 c2 c3 r1 r2 r3 r4
  go_wp2_with fail
  refine (HS2.out.1.hWrite 1 ⟨pg, kd, ow, nx⟩ HH.out.2.2.2.2 HH.out.1 HH.out.2.1 (by decide)).mono ?_
  rintro e w3 ⟨rfl, hs3, hk3⟩
  have H3 := Lib.hid (HdAt.wrote (newS 2) 1 ⟨pg, kd, ow, nx⟩ HH.out.2.2.2.2 HH.out.1 HH.out.2.1)
  have K3 := HS2.out.2.1.wrote 1 ⟨pg, kd, ow, nx⟩ (by decide)
  generalize wrote (newS 2) (1 * 4096) ⟨pg, kd, ow, nx⟩ = s3 at *
  have hx3 := hk3.2 _ _ _ _ HS2.out.2.2 (by decide) (by decide)
  have HS3 := Lib.hid (And.intro hs3 (And.intro K3 hx3))
  clear hs3 hk3 hx3 K3 d0 d1 d2 d3
  go_wp2_with fail
  refine (HS3.out.1.loadF (A : Int) 1 (by omega) (by decide) (by have := HS3.out.2.1.1; have := HM.out; omega) (by decide)).mono ?_
  rintro e w4 ⟨r, rfl, hr4, hrow4, hs4, hk4, hf4⟩
  have hx4 := hk4.2 _ _ _ _ HS3.out.2.2 (by decide) (by decide)
  obtain ⟨v, hv⟩ : ∃ v, s3.mem A = v := ⟨_, rfl⟩
  rw [show ((A : Int)).toNat = A from Int.toNat_natCast A, show (1 : Int).toNat = 1 from rfl, show seen s3.mem A 1 = [v] by rw [← hv]; rfl] at hrow4
  have hvb : 0 ≤ v ∧ v ≤ 255 := by
    have h1 := seen_getD s3.mem (1 * 4096) 32 m (by have := HM.out; omega)
    rw [HM.out.2, hv, H3.out.1] at h1
    exact hdL_bs _ v (by rw [← h1, List.getD_eq_getElem?_getD, List.getElem?_eq_getElem (by rw [hdL_length]; have := HM.out; omega)]; exact List.getElem_mem _)
  have HV := Lib.hid (And.intro hv hvb)
  have HR4 := Lib.hid (show w.heap.size < w3.heap.size ∧ w3.heap.size ≤ r from ⟨(Array.getElem?_eq_some_iff.1 HS3.out.2.2).1, hr4⟩)
  have HF4 := Lib.hid (hf4 0)
  have HB4 := Lib.hid hs4.below
  have HS4 := Lib.hid (And.intro hs4 (And.intro hrow4 hx4))
  clear hs4 hk4 hrow4 hx4 hf4 hv hvb hr4
  by_cases q0 : a2 = 0
  · subst q0
    go_wp2_with fail
    go_ret
    exact ⟨rfl, HB4.out⟩
  have q1 : ¬ (0 : Int) = a2 := fun h => q0 h.symm
  have hc4 : w4.cell? ⟨r, 0, none⟩ = some (.int .u8 v) := HS4.out.2.1.cell (j := 0) (by simp)
  have hvu : IntKind.u64.wrap v = v := by have := HV.out.2; rw [IntKind.wrap_u64]; omega
  go_wp2_with fail
  refine (bytes_one 1 v w4 (by unfold wideP; decide) ⟨HV.out.2.1, by have := HV.out.2.2; omega⟩).mono ?_
  rintro e w5 ⟨r5, rfl, hr5, hz5, hb5⟩
  have hrl := HS4.out.2.1.lt
  have hbe : Below w4.heap.size w4 w5 := hb5
  have hc5 : w5.cell? ⟨r, 0, none⟩ = some (.int .u8 v) := (HS4.out.2.1.kp (KpT.of_below hbe)).cell (j := 0) (by simp)
  have hf5 : w5.frozen? ⟨r, 0, none⟩ = false := by
    have := HF4.out
    unfold World.frozen? at this ⊢
    rw [hbe.block r hrl]
    exact this
  obtain ⟨b, hb⟩ : ∃ b, IntKind.u8.wrap (v + a2) = b := ⟨_, rfl⟩
  have HBB : RowKit.Hid ((0 ≤ b ∧ b ≤ 255) ∧ b ≠ v) := Lib.hid (by have := HV.out.2; have := HH.out.2.2.2.1; rw [IntKind.wrap_u8] at hb; omega)
  have HS5 := Lib.hid (And.intro (HS4.out.1.step hbe) (And.intro (HS4.out.2.1.kp (KpT.of_below hbe)) (And.intro ((hbe.block _ (Array.getElem?_eq_some_iff.1 HS4.out.2.2).1).trans HS4.out.2.2) (And.intro hz5.row (show r5 ≠ r by omega)))))
  clear hz5 hb5 hr5 hrl hbe hc4 hvu
  go_wp2_with fail
  have HS6 := Lib.hid (And.intro (HS5.out.1.row_set (j := 0) (v := .int .u8 b) HS5.out.2.1 (by have := HR4.out; omega)) (And.intro (HS5.out.2.1.set0 (b := b)) (And.intro (((Chg.refl w5 (fun k => k = r)).set (p := ⟨r, 0, none⟩) (.inl rfl) (.int .u8 b)).at HS5.out.2.2.1 (by have := HR4.out; omega)) (HS5.out.2.2.2.1.other_set (j := 0) (v := .int .u8 b) HS5.out.2.2.2.2))))
  refine (HS6.out.1.store (A : Int) (some ⟨r, 0, none⟩) 1 1 [b] rfl (by decide) (HS6.out.2.1.srcW (fun x hx => by rw [List.mem_singleton.1 hx]; exact HBB.out.1)) (by omega) (by show (A : Int) + ((1 : Nat) : Int) ≤ (s3.pages : Int) * 4096; have := HS3.out.2.1.1; have := HM.out; omega) (by decide)).mono ?_
  rintro e w6 ⟨rfl, hs6, hk6⟩
  have HS7 := Lib.hid (And.intro hs6 (And.intro (hk6.2 _ _ _ _ HS6.out.2.2.1 (by decide) (by decide)) (HS6.out.2.2.2.kp hk6)))
  clear hs6 hk6 hf5 hc5
  go_wp2_with fail
  refine (HS7.out.1.hRead_no 1 (by show 1 < s3.pages; rw [HS3.out.2.1.1]; decide) (by rw [Int.toNat_natCast]; exact magic_off s3.mem m A b _ HM.out.1 HM.out.2 H3.out.1 (by rw [HV.out.1]; exact HBB.out.2))).mono ?_
  rintro e w7 ⟨rfl, hs7, hk7⟩
  have HS8 := Lib.hid (And.intro hs7 (And.intro (hk7.2 _ _ _ _ HS7.out.2.1 (by decide) (by decide)) (HS7.out.2.2.kp hk7)))
  clear hs7 hk7
  go_wp2_with fail
  refine ((HS8.out.1.al _).store (A : Int) (some ⟨r5, 0, none⟩) 1 1 (le 1 v) (le_length 1 v) (by decide) ((HS8.out.2.2.al _).srcW (fun x hx => by rw [le_one v HV.out.2, List.mem_singleton] at hx; rw [hx]; exact HV.out.2)) (by omega) (by show (A : Int) + ((1 : Nat) : Int) ≤ (s3.pages : Int) * 4096; have := HS3.out.2.1.1; have := HM.out; omega) (by decide)).mono ?_
  rintro e w8 ⟨rfl, hs8, hk8⟩
  have HS9 := Lib.hid (And.intro hs8 (hk8.2 _ _ _ _ (al_old HS8.out.2.1) (by decide) (by decide)))
  clear hs8 hk8
  go_wp2_with fail
  refine (HS9.out.1.hRead_hd 1 (by show 1 < s3.pages; rw [HS3.out.2.1.1]; decide) ⟨pg, kd, ow, nx⟩ ⟨by
    show seen (lay (lay s3.mem (A : Int).toNat [b]) (A : Int).toNat (le 1 v)) (1 * 4096) 32 = _
    rw [Int.toNat_natCast, le_one v HV.out.2, lay_back _ _ _ _ HV.out.1]
    exact H3.out.1, H3.out.2⟩).mono ?_
  rintro e w9 ⟨rfl, hs9, hk9⟩
  have HS10 := Lib.hid (And.intro hs9.below (hk9.2 _ _ _ _ HS9.out.2 (by decide) (by decide)))
  clear hs9 hk9
  have x0 := fun o => (box4 (al_old (o := o) HS10.out.2)).1
  have x1 := fun o => (box4 (al_old (o := o) HS10.out.2)).2.1
  have x2 := fun o => (box4 (al_old (o := o) HS10.out.2)).2.2.1
  have x3 := fun o => (box4 (al_old (o := o) HS10.out.2)).2.2.2
  go_wp2_with fail
  go_ret
  exact ⟨rfl, HS10.out.1.alloc HS10.out.1.size _⟩

theorem HeaderMagic_walk (pg kd ow nx a1 a2 : Int) (w : World) (h0 : (Lit.int .i64 pg).wf = true) (_h1 : (Lit.int .i64 kd).wf = true) (h2 : (Lit.int .u64 ow).wf = true) (h3 : (Lit.int .u64 nx).wf = true) (h4 : (Lit.int .u8 a1).wf = true) (h5 : (Lit.int .u8 a2).wf = true) :
    Calls Try.prog 13 #[.agg #[.int .i64 pg, .int .i64 kd, .int .u64 ow, .int .u64 nx], .int .u8 a1, .int .u8 a2] w fun e w' => e = .returned (.bool true) ∧ Below w.heap.size w w' :=
  HeaderMagic_any w pg kd ow nx a1 a2 (u64_lit h2) (u64_lit h3) (i64_lit h0) (u8_lit h4) (u8_lit h5)
end Go.Proofs.Ytfdhjeeaigfmfaa.Sp
