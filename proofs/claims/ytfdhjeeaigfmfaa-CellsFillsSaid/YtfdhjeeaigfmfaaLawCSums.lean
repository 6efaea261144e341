/- CellsSums: what is added one by one is the sum, which goes round by the width; each answer is the sum so far. -/
import Derived.Test.YtfdhjeeaigfmfaaLawCBack
namespace Go.Proofs.Ytfdhjeeaigfmfaa.Sp
open Go.RowKit Go.WideMaps Go.Proofs.Ytfdhjeeaigfmfaa.In Go.Proofs.Ytfdhjeeaigfmfaa.Plain
set_option linter.unusedVariables false

theorem lst_cell_k {kd : IntKind} {w : World} {A : Option Addr} {l : List Int} (h : Lst (KInt kd) 1 w A l) (h0 : 0 < l.length) : ∃ b o, A = some ⟨b, o, none⟩ ∧ ∀ j, j < l.length → w.cell? ⟨b, o + j, none⟩ = some (.int kd (l.getD j 0)) := by
  obtain ⟨⟨b, o, sp⟩, c, rfl, _, hk, hc⟩ := h 0 _ (List.getElem?_eq_getElem h0)
  have hk1 : c = [.int kd l[0]] := hk
  subst hk1
  have h1 := hc 0 _ rfl
  have hsp : sp = none := by
    cases sp with
    | none => rfl
    | some x =>
      simp [World.cell?, Addr.add] at h1
      split at h1 <;> cases h1
  subst hsp
  refine ⟨b, o, rfl, fun j hj => ?_⟩
  obtain ⟨ad2, c2, e2, _, hk2, hc2⟩ := h j _ (List.getElem?_eq_getElem hj)
  obtain rfl := Option.some.inj e2
  have hk3 : c2 = [.int kd l[j]] := hk2
  subst hk3
  have := hc2 0 _ rfl
  rw [Nat.mul_one, Nat.add_zero, Addr.add_lit] at this
  rw [this, List.getD_eq_getElem?_getD, List.getElem?_eq_getElem hj]
  rfl
/-- The same, in every world behind. -/
theorem lst_at {kd : IntKind} {w W : World} {A : Option Addr} {l : List Int} (h : Lst (KInt kd) 1 w A l) (hb : Below w.heap.size w W) {j : Nat} (hj : j < l.length) : ∃ b o, A = some ⟨b, o, none⟩ ∧ W.cell? ⟨b, o + j, none⟩ = some (.int kd (l.getD j 0)) := by
  obtain ⟨b, o, hA, hc⟩ := lst_cell_k h (by omega)
  exact ⟨b, o, hA, (Chg.of_below (S := fun _ => False) hb).cell (hc j hj) (fun h => h)⟩
theorem dvd_pow256 {k : Nat} (hk : k ≤ 8) : (256 : Int) ^ k ∣ 18446744073709551616 := by
  refine ⟨256 ^ (8 - k), ?_⟩
  rw [← Int.pow_add, show k + (8 - k) = 8 by omega]
  rfl
theorem wrap_add_mod (k : Nat) (hk : k ≤ 8) (S v : Int) : IntKind.u64.wrap (S % 256 ^ k + v) % 256 ^ k = IntKind.u64.wrap (S + v) % 256 ^ k := by
  show (S % 256 ^ k + v) % 18446744073709551616 % 256 ^ k = (S + v) % 18446744073709551616 % 256 ^ k
  rw [Int.emod_emod_of_dvd _ (dvd_pow256 hk), Int.emod_emod_of_dvd _ (dvd_pow256 hk), Int.add_emod, Int.emod_emod_of_dvd _ (Int.dvd_refl _), ← Int.add_emod]
theorem num_zeros (n : Nat) : num (List.replicate n 0) = 0 := by
  induction n with
  | zero => rfl
  | succ n ih => rw [List.replicate_succ, num, ih]; rfl
theorem seen_zero {mem : Nat → Int} {t n : Nat} (h : ∀ i, i < n → mem (t + i) = 0) : seen mem t n = List.replicate n 0 := by
  unfold seen
  apply List.ext_getElem?
  intro i
  rcases Nat.lt_or_ge i n with hi | hi
  · simp [hi, h i hi]
  · simp [hi]

theorem St.add_v {w0 W : World} {g : Nat} {s : SpS} (hs : St w0 W g s) (t k : Nat) (n x : Int) (h : rightC (t : Int) (k : Int)) (hb : t + k ≤ s.pages * 4096) (hx : num (seen s.mem t k) = x) :
    Calls Try.prog 37 #[.pointer (some ⟨g, 0, none⟩), .int .u64 (t : Int), .int .i64 (k : Int), .int .u64 n] W fun e w' => e = .returned (.tuple #[.int .u64 x, .int .i64 0]) ∧
      (∃ s' : SpS, St w0 w' g s' ∧ s'.pages = s.pages ∧ s'.mem = lay s.mem t (le k (IntKind.u64.wrap (x + n)))) ∧ KpT W w' := by
  subst hx
  refine (hs.add t k n h hb).mono ?_
  rintro e w' ⟨he, h2, h3⟩
  exact ⟨he, ⟨_, h2, rfl, rfl⟩, h3⟩

set_option maxRecDepth 100000 in
set_option maxHeartbeats 4000000 in
theorem CellsSums_any (w : World) (a0 a1 : Int) (A : Option Addr) (n c : Nat) (l : List Int) (l0 : 0 ≤ a0 ∧ a0 ≤ 65535) (l1 : 0 ≤ a1 ∧ a1 ≤ 255) (hl : l.length = n) (hn : n ≤ 9223372036854775807) (hA : Lst (KInt .u64) 1 w A l) (hv : ∀ v ∈ l, wfInt .u64 v) :
    Calls Try.prog 5 #[.int .u16 a0, .int .u8 a1, .slice A n c] w fun e w' => e = .returned (.bool true) ∧ Below w.heap.size w w' := by
  have HA := Lib.hid (awake4_any w)
  have HP := Lib.hid (show (newS 32).pages * 4096 = 131072 by kernel_rfl)
  obtain ⟨a, ha⟩ : ∃ a : Nat, a0 / 8 * 8 = (a : Int) := ⟨(a0 / 8 * 8).toNat, by omega⟩
  obtain ⟨m, k, hm, hm3, hw, hk⟩ := width_of a1 l1.1
  have hkb := hk.bd
  have HR := Lib.hid (rightC_of hk (wide_dvd hk (show a % 8 = 0 by omega)))
  have HB := Lib.hid (show a + 8 ≤ 65543 by omega)
  obtain ⟨P, hP⟩ : ∃ P : Int, (256 : Int) ^ k = P := ⟨_, rfl⟩
  have hP0 : 0 < P := by rw [← hP]; exact pow256_pos k
  have hP1 : P ≤ 18446744073709551616 := by rw [← hP]; exact pow256_k hk
  obtain ⟨q8, hq8⟩ : ∃ q8 : Nat, 8 * (k : Int) = (q8 : Int) := ⟨8 * k, by omega⟩
  obtain ⟨b8, hb8⟩ : ∃ b8 : Nat, (a : Int) + 8 = (b8 : Int) := ⟨a + 8, by omega⟩
  have HB8 := Lib.hid (show b8 = a + 8 by omega)
  have HR8 := Lib.hid (rightC_of (t := b8) (k := 8) (by decide) (show b8 % 8 = 0 by omega))
  have hb8b : (b8 : Int) ≤ 65543 := by have := HB.out; omega
  have HPP := Lib.hid hP
  have HK := Lib.hid hk
  have HL := Lib.hid hl
  have HLA := Lib.hid hA
  have HV := Lib.hid hv
  have hsh : (k : Int) < 8 → IntKind.u64.wrap (2 ^ q8) = P := by
    intro h
    have e : q8 = 8 * k := by omega
    rw [e, pow2_256, hP]
    show P % 18446744073709551616 = P
    refine Int.emod_eq_of_lt (by omega) ?_
    have := pow256_lt (i := k) (by omega)
    omega
  have HSH := Lib.hid hsh
  have HZ0 := Lib.hid (show num (seen (newS 32).mem a k) = 0 % P by rw [show (newS 32).mem = fun _ => 0 from rfl, seen_zero (fun _ _ => rfl), num_zeros]; simp)
  clear hP hk hl hA hv hsh
  by_cases hbig : n ≤ 100
  · have hbi : (n : Int) ≤ 100 := by omega
    go_enter Try.func5, Try.ntmps5
    go_wp2_with fail
    refine HA.out.mono ?_
    rintro e w1 ⟨rfl, hb1⟩
    go_wp2_with fail
    refine (St.new 32 (hb1 : Below w.heap.size w w1)).mono ?_
    rintro e w2 ⟨g, rfl, hg, hs2, hb2⟩
    have HS2 := Lib.hid hs2
    clear hs2 hb2 hg hb1
    go_wp2
    rw [hw, hm]
    go_loopw [11, 12] (fun s i wr => ∃ (q : Nat) (S : Int), q ≤ n ∧ s = .int .u64 S ∧ i = .int .i64 (q : Int) ∧ (0 ≤ S ∧ S ≤ 18446744073709551615) ∧ ∃ st : SpS, St w wr g st ∧ st.pages * 4096 = 131072 ∧ num (seen st.mem a k) = S % P ∧ ∀ j, j < 8 → st.mem (b8 + j) = 0) (fun _ i _ => n - (intOf i).toNat)
    case atStart => exact ⟨0, 0, Nat.zero_le _, rfl, rfl, by omega, newS 32, HS2.out, HP.out, HZ0.out, fun _ _ => rfl⟩
    case round =>
      obtain ⟨q, S, hq, rfl, rfl, hS, st, hst, hpg, hnum, hz⟩ := hrel
      have HST := Lib.hid hst
      have HPG := Lib.hid hpg
      have HNUM := Lib.hid hnum
      have HZ := Lib.hid hz
      clear hst hpg hnum hz
      by_cases hlt : q < n
      · have hlti : (q : Int) < (n : Int) := by omega
        obtain ⟨ba, oa, rfl, hcell⟩ := lst_at HLA.out HST.out.below (j := q) (by rw [HL.out]; exact hlt)
        obtain ⟨v, hv⟩ : ∃ v : Int, l.getD q 0 = v := ⟨_, rfl⟩
        rw [hv] at hcell
        have hvr : 0 ≤ v ∧ v ≤ 18446744073709551615 := by
          have hm : v ∈ l := by
            rw [← hv, List.getD_eq_getElem?_getD, List.getElem?_eq_getElem (by rw [HL.out]; exact hlt)]
            exact List.getElem_mem _
          exact u64_of (HV.out v hm)
        obtain ⟨x, hx⟩ : ∃ x : Int, S % P = x := ⟨_, rfl⟩
        have HVV := Lib.hid hv
        clear hv
        go_wp2_with fail
        refine (HST.out.add_v a k v x HR.out (by rw [HPG.out]; have := HB.out; omega) (by rw [HNUM.out]; exact hx)).mono ?_
        rintro e w3 ⟨rfl, ⟨s3, hs3, hp3, hm3'⟩, hk3⟩
        obtain ⟨y, hy⟩ : ∃ y : Int, IntKind.u64.wrap (S + v) = y := ⟨_, rfl⟩
        have hyr := wrap_u64_range (S + v)
        rw [hy] at hyr
        have HN : RowKit.Hid (num (seen s3.mem a k) = y % P ∧ ∀ j, j < 8 → s3.mem (b8 + j) = 0) := by
          rw [hm3']
          refine ⟨?_, fun j hj => ?_⟩
          · rw [got_put, ← hx, ← HPP.out, wrap_add_mod k (by omega), hy]
          · unfold lay
            rw [if_neg (by rw [le_length]; have := HB8.out; omega)]
            exact HZ.out j hj
        have hcell3 : w3.cell? ⟨ba, oa + q, none⟩ = some (.int .u64 v) := by
          obtain ⟨b', o', e', hc'⟩ := lst_at HLA.out hs3.below (j := q) (by rw [HL.out]; exact hlt)
          cases e'
          rw [HVV.out] at hc'
          exact hc'
        have HS3 := Lib.hid hs3
        have HP3 := Lib.hid (show s3.pages * 4096 = 131072 by rw [hp3]; exact HPG.out)
        have HX := Lib.hid hx
        clear hs3 hp3 hm3' hk3
        by_cases hk8 : (k : Int) < 8
        · have hsh := HSH.out hk8
          go_wp2
          go_roundw
          case rel => exact ⟨q + 1, y, by omega, rfl, by go_num, hyr, s3, HS3.out, HP3.out, HN.out⟩
          case measure => simp [intOf]; omega
        · have hSx : S = x := by
            rw [← HX.out, Int.emod_eq_of_lt hS.1]
            rw [← HPP.out, show k = 8 by omega]
            show S < 18446744073709551616
            omega
          clear hx HX
          subst hSx
          go_wp2
          go_roundw
          case rel => exact ⟨q + 1, y, by omega, rfl, by go_num, hyr, s3, HS3.out, HP3.out, HN.out⟩
          case measure => simp [intOf]; omega
      · have hlti : ¬ (q : Int) < (n : Int) := by omega
        go_wp2_with fail
        refine (HST.out.get_v b8 8 0 HR8.out (by rw [HPG.out]; have := HB.out; have := HB8.out; omega) (by rw [seen_zero HZ.out, num_zeros])).mono ?_
        rintro e w3 ⟨rfl, hs3, hk3⟩
        have HBB := Lib.hid hs3.below
        clear hs3 hk3
        go_wp2
        go_ret
        exact ⟨rfl, HBB.out⟩
  · have hbi : ¬ (n : Int) ≤ 100 := by omega
    go_enter Try.func5, Try.ntmps5
    go_wp2_with fail
    refine HA.out.mono ?_
    rintro e w1 ⟨rfl, hb1⟩
    go_wp2
    go_ret
    exact ⟨rfl, hb1⟩
theorem CellsSums_walk (a0 a1 : Int) (A2 : Option Addr) (n2 c2 : Nat) (l2 : List Int) (w : World) (h0 : (Lit.int .u16 a0).wf = true) (h1 : (Lit.int .u8 a1).wf = true)
    (h2 : l2.length = n2 ∧ n2 ≤ c2 ∧ n2 ≤ maxLen ∧ Lst (KInt .u64) 1 w A2 l2 ∧ ∀ p ∈ l2, wfInt .u64 p) (y2 : n2 * 8 ≤ 140737488351232) :
    Calls Try.prog 5 #[.int .u16 a0, .int .u8 a1, .slice A2 n2 c2] w fun e w' => e = .returned (.bool true) ∧ Below w.heap.size w w' :=
  CellsSums_any w a0 a1 A2 n2 c2 l2 (u16_lit h0) (u8_lit h1) h2.1 (by omega) h2.2.2.2.1 h2.2.2.2.2
end Go.Proofs.Ytfdhjeeaigfmfaa.Sp
