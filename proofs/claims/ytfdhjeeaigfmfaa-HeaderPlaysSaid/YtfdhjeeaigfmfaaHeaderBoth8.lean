/- The reference's headers: whether one may be, whether a page is there, its bytes. The reference's headers are written. What bytes tell, as the reference has it. The reference's headers are read. The reference's headers are linked and cleared. header: where a page is none of the space's. A header in a space: the program and the reference do alike. -/
import Derived.Test.YtfdhjeeaigfmfaaRefNum
import Derived.Test.YtfdhjeeaigfmfaaRefStore
import Derived.Test.YtfdhjeeaigfmfaaHeaderAwake
import Derived.Test.YtfdhjeeaigfmfaaRegionFacts
import Derived.IntWalk
import Derived.RegionTactic
import Derived.ChangeAlike
namespace Go.Proofs.Ytfdhjeeaigfmfaa.Sp
open Go.RowKit Go.WideMaps Go.Proofs.Ytfdhjeeaigfmfaa.In Go.Proofs.Ytfdhjeeaigfmfaa.Plain
set_option linter.unusedVariables false
set_option linter.unusedSimpArgs false

set_option maxRecDepth 100000 in
set_option maxHeartbeats 4000000 in
theorem ref08Right_any (h : Hd) (W : World) : Calls Try.prog 75 #[.agg #[.int .i64 h.pages, .int .i64 h.kind, .int .u64 h.owner, .int .u64 h.next]] W fun e w' => e = .returned (.bool (decide (hRight h))) ∧ Below W.heap.size W w' := by
  obtain ⟨p, k, o, n⟩ := h
  have HD : ∀ b : Bool, (hRight ⟨p, k, o, n⟩ ↔ b = true) → decide (hRight ⟨p, k, o, n⟩) = b := fun b hb => by
    cases b with
    | true => exact decide_eq_true (hb.2 rfl)
    | false => exact decide_eq_false (fun h => by have := hb.1 h; cases this)
  have HDD := Lib.hid HD
  clear HD
  simp only
  by_cases h1 : 0 < p
  · by_cases h2 : p ≤ 1048576
    · by_cases h3 : 0 ≤ k
      · by_cases h4 : k ≤ 255
        · have e : decide (hRight ⟨p, k, o, n⟩) = true := HDD.out true ⟨fun _ => rfl, fun _ => ⟨h1, h2, h3, h4⟩⟩
          rw [e]
          clear e
          go_enter Try.func75, Try.ntmps75
          go_wp2
          go_ret
          exact ⟨rfl, (Below.refl _ _).alloc (Nat.le_refl _) _⟩
        · have e : decide (hRight ⟨p, k, o, n⟩) = false := HDD.out false ⟨fun h => absurd h.2.2.2 h4, fun h => by cases h⟩
          rw [e]
          clear e
          go_enter Try.func75, Try.ntmps75
          go_wp2
          go_ret
          exact ⟨rfl, (Below.refl _ _).alloc (Nat.le_refl _) _⟩
      · have e : decide (hRight ⟨p, k, o, n⟩) = false := HDD.out false ⟨fun h => absurd h.2.2.1 h3, fun h => by cases h⟩
        rw [e]
        clear e
        go_enter Try.func75, Try.ntmps75
        go_wp2
        go_ret
        exact ⟨rfl, (Below.refl _ _).alloc (Nat.le_refl _) _⟩
    · have e : decide (hRight ⟨p, k, o, n⟩) = false := HDD.out false ⟨fun h => absurd h.2.1 h2, fun h => by cases h⟩
      rw [e]
      clear e
      go_enter Try.func75, Try.ntmps75
      go_wp2
      go_ret
      exact ⟨rfl, (Below.refl _ _).alloc (Nat.le_refl _) _⟩
  · have e : decide (hRight ⟨p, k, o, n⟩) = false := HDD.out false ⟨fun h => absurd h.1 (by show ¬ (1 ≤ p); omega), fun h => by cases h⟩
    rw [e]
    clear e
    go_enter Try.func75, Try.ntmps75
    go_wp2
    go_ret
    exact ⟨rfl, (Below.refl _ _).alloc (Nat.le_refl _) _⟩

set_option maxRecDepth 100000 in
set_option maxHeartbeats 4000000 in
theorem ref08In_any (pg p tk : Int) (lv : Value) (W : World) : Calls Try.prog 76 #[.agg #[.int .i64 pg, lv, .int .i64 tk], .int .i64 p] W fun e w' => e = .returned (.bool (decide (0 ≤ p ∧ p < pg))) ∧ Below W.heap.size W w' := by
  by_cases h1 : 0 ≤ p
  · by_cases h2 : p < pg
    · have e : decide (0 ≤ p ∧ p < pg) = true := decide_eq_true ⟨h1, h2⟩
      rw [e]
      clear e
      go_enter Try.func76, Try.ntmps76
      go_wp2
      go_ret
      exact ⟨rfl, (Below.refl _ _).alloc (Nat.le_refl _) _⟩
    · have e : decide (0 ≤ p ∧ p < pg) = false := decide_eq_false (fun h => h2 h.2)
      rw [e]
      clear e
      go_enter Try.func76, Try.ntmps76
      go_wp2
      go_ret
      exact ⟨rfl, (Below.refl _ _).alloc (Nat.le_refl _) _⟩
  · have e : decide (0 ≤ p ∧ p < pg) = false := decide_eq_false (fun h => h1 h.1)
    rw [e]
    clear e
    go_enter Try.func76, Try.ntmps76
    go_wp2
    go_ret
    exact ⟨rfl, (Below.refl _ _).alloc (Nat.le_refl _) _⟩

set_option maxRecDepth 100000 in
set_option maxHeartbeats 4000000 in
theorem ref08Bytes_any (h : Hd) (W : World) (hr : hRight h) (ho : 0 ≤ h.owner ∧ h.owner ≤ 18446744073709551615) (hx : 0 ≤ h.next ∧ h.next ≤ 18446744073709551615) :
    Calls Try.prog 77 #[.agg #[.int .i64 h.pages, .int .i64 h.kind, .int .u64 h.owner, .int .u64 h.next]] W fun e w' => e = .returned (.string (strOfNums (hdL h))) ∧ Below W.heap.size W w' := by
  obtain ⟨p, k, o, n⟩ := h
  have hp : 0 ≤ p ∧ p ≤ 1048576 := ⟨by have := hr.1; simp only at this; omega, hr.2.1⟩
  have hk : 0 ≤ k ∧ k ≤ 255 := hr.2.2
  simp only at ho hx ⊢
  clear hr
  have H4 := Lib.hid (fun W1 (n : Int) (hn : 0 ≤ n ∧ n ≤ 18446744073709551615) => ref02One_any 4 n W1 (by omega) hn)
  have H8 := Lib.hid (fun W1 (n : Int) (hn : 0 ≤ n ∧ n ≤ 18446744073709551615) => ref02One_any 8 n W1 (by omega) hn)
  obtain ⟨sta, hs1⟩ : ∃ sta, strOfNums (le 4 p) = sta := ⟨_, rfl⟩
  obtain ⟨stb, hs2⟩ : ∃ stb, strOfNums (le 4 k) = stb := ⟨_, rfl⟩
  obtain ⟨stc, hs3⟩ : ∃ stc, strOfNums (le 8 o) = stc := ⟨_, rfl⟩
  obtain ⟨std, hs4⟩ : ∃ std, strOfNums (le 8 n) = std := ⟨_, rfl⟩
  obtain ⟨m1, hm1⟩ : ∃ m1, (⟨#[115, 116, 101, 97, 100, 105, 110, 103]⟩ : ByteArray) ++ sta = m1 := ⟨_, rfl⟩
  obtain ⟨m2, hm2⟩ : ∃ m2, m1 ++ stb = m2 := ⟨_, rfl⟩
  obtain ⟨m3, hm3⟩ : ∃ m3, m2 ++ stc = m3 := ⟨_, rfl⟩
  obtain ⟨m4, hm4⟩ : ∃ m4, m3 ++ std = m4 := ⟨_, rfl⟩
  have z1 : sta.size = 4 := by rw [← hs1, strOfNums_size, le_length]
  have z2 : stb.size = 4 := by rw [← hs2, strOfNums_size, le_length]
  have z3 : stc.size = 8 := by rw [← hs3, strOfNums_size, le_length]
  have z4 : std.size = 8 := by rw [← hs4, strOfNums_size, le_length]
  have y1 : m1.size = 12 := by rw [← hm1, ByteArray.size_append, z1]; rfl
  have y2 : m2.size = 16 := by rw [← hm2, ByteArray.size_append, y1, z2]
  have y3 : m3.size = 24 := by rw [← hm3, ByteArray.size_append, y2, z3]
  have he : m4 = strOfNums (hdL ⟨p, k, o, n⟩) := by
    rw [← hm4, ← hm3, ← hm2, ← hm1, ← hs1, ← hs2, ← hs3, ← hs4]
    unfold hdL
    rw [strOfNums_app, strOfNums_app, strOfNums_app, strOfNums_app, ← ByteArray.append_assoc, ← ByteArray.append_assoc]
    rfl
  rw [← he]
  have WP := Lib.hid (show IntKind.u64.wrap p = p by rw [IntKind.wrap_u64]; omega)
  have WK := Lib.hid (show IntKind.u64.wrap k = k by rw [IntKind.wrap_u64]; omega)
  have E1 := Lib.hid hs1
  have E2 := Lib.hid hs2
  have E3 := Lib.hid hs3
  have E4 := Lib.hid hs4
  have A1 := Lib.hid hm1
  have A2 := Lib.hid hm2
  have A3 := Lib.hid hm3
  have A4 := Lib.hid hm4
  have Z1 := Lib.hid (And.intro z1 y1)
  have Z2 := Lib.hid (And.intro z2 y2)
  have Z3 := Lib.hid (And.intro z3 y3)
  have Z4 := Lib.hid (And.intro z4 trivial)
  clear hs1 hs2 hs3 hs4 hm1 hm2 hm3 hm4 z1 z2 z3 z4 y1 y2 y3 he
  go_enter Try.func77, Try.ntmps77
  go_wp2_with fail
  have hbx : (W.alloc (.cells #[.int .i64 p, .int .i64 k, .int .u64 o, .int .u64 n] 85)).heap[W.heap.size]? = some (.cells #[.int .i64 p, .int .i64 k, .int .u64 o, .int .u64 n] 85 (0, 0)) := al_new rfl
  have HBW := Lib.hid (show Below W.heap.size W (W.alloc (.cells #[.int .i64 p, .int .i64 k, .int .u64 o, .int .u64 n] 85)) from (Below.refl _ _).alloc (Nat.le_refl _) _)
  generalize W.alloc (.cells #[.int .i64 p, .int .i64 k, .int .u64 o, .int .u64 n] 85) = W1 at *
  obtain ⟨B, hB⟩ : ∃ B, W.heap.size = B := ⟨_, rfl⟩
  have HBS := Lib.hid hB
  rw [hB] at hbx ⊢
  have HQ := Lib.hid (fun (w : World) (hb : Below W1.heap.size W1 w) => box4 ((hb.block _ (Array.getElem?_eq_some_iff.1 hbx).1).trans hbx))
  clear hbx hB
  refine Rg.wp_region_grow 19 19 rfl (by kernel_rfl) (fun ix W vv => match ix with
    | 0 => vv = .pointer (some ⟨B, 0, none⟩)
    | 1 => vv = .int .i64 p
    | 2 => vv = .int .u64 p
    | 3 => vv = .string sta
    | 4 => vv = .string m1
    | 5 => vv = .pointer (some ⟨B, 1, none⟩)
    | 6 => vv = .int .i64 k
    | 7 => vv = .int .u64 k
    | 8 => vv = .string stb
    | 9 => vv = .string m2
    | 10 => vv = .pointer (some ⟨B, 2, none⟩)
    | 11 => vv = .int .u64 o
    | 12 => vv = .string stc
    | 13 => vv = .string m3
    | 14 => vv = .pointer (some ⟨B, 3, none⟩)
    | 15 => vv = .int .u64 n
    | 16 => vv = .string std
    | 17 => vv = .string m4
    | 18 => vv = .string m4
    | _ => True) ?_ ?_ ?_
  · intro ix W W' vv hix h hb
    have hj2 : ix = 0 ∨ ix = 1 ∨ ix = 2 ∨ ix = 3 ∨ ix = 4 ∨ ix = 5 ∨ ix = 6 ∨ ix = 7 ∨ ix = 8 ∨ ix = 9 ∨ ix = 10 ∨ ix = 11 ∨ ix = 12 ∨ ix = 13 ∨ ix = 14 ∨ ix = 15 ∨ ix = 16 ∨ ix = 17 ∨ ix = 18 := by omega
    rcases hj2 with rfl | rfl | rfl | rfl | rfl | rfl | rfl | rfl | rfl | rfl | rfl | rfl | rfl | rfl | rfl | rfl | rfl | rfl | rfl
    all_goals first
      | exact h
  · intro ix a W K hix hbl hfr hdep hK
    have hj2 : ix = 0 ∨ ix = 1 ∨ ix = 2 ∨ ix = 3 ∨ ix = 4 ∨ ix = 5 ∨ ix = 6 ∨ ix = 7 ∨ ix = 8 ∨ ix = 9 ∨ ix = 10 ∨ ix = 11 ∨ ix = 12 ∨ ix = 13 ∨ ix = 14 ∨ ix = 15 ∨ ix = 16 ∨ ix = 17 ∨ ix = 18 := by omega
    rcases hj2 with rfl | rfl | rfl | rfl | rfl | rfl | rfl | rfl | rfl | rfl | rfl | rfl | rfl | rfl | rfl | rfl | rfl | rfl | rfl
    · have s1 : a.tmps[1]? = some _ := hfr 1 (by kernel_rfl)
      refine Rg.wpOp_wp rfl rfl ?_
      go_simp
      exact hK _ _ rfl (Below.refl _ _)
    · obtain ⟨_, s3, rfl⟩ := hdep 0 3 (by kernel_rfl) rfl
      have hc := (HQ.out W hbl)
      obtain ⟨q0, q1, q2, q3⟩ := hc
      refine Rg.wpOp_wp rfl rfl ?_
      go_simp
      exact hK _ _ rfl (Below.refl _ _)
    · obtain ⟨_, s4, rfl⟩ := hdep 1 4 (by kernel_rfl) rfl
      refine Rg.wpOp_wp rfl rfl ?_
      go_simp
      exact hK _ _ (by show (_ : Value) = _; rw [WP.out]) (Below.refl _ _)
    · obtain ⟨_, s5, rfl⟩ := hdep 2 5 (by kernel_rfl) rfl
      refine Rg.wpOp_wp rfl rfl ?_
      go_simp
      refine (H4.out W p (by omega)).mono ?_
      rintro e w8 ⟨rfl, hb8⟩
      exact hK _ _ (by show (_ : Value) = _; rw [E1.out]) hb8
    · obtain ⟨_, s6, rfl⟩ := hdep 3 6 (by kernel_rfl) rfl
      have za := Z1.out.1
      have zb := Z1.out.2
      refine Rg.wpOp_wp rfl rfl ?_
      go_simp
      exact hK _ _ (by show (_ : Value) = _; rw [A1.out]) (Below.refl _ _)
    · have s1 : a.tmps[1]? = some _ := hfr 1 (by kernel_rfl)
      refine Rg.wpOp_wp rfl rfl ?_
      go_simp
      exact hK _ _ rfl (Below.refl _ _)
    · obtain ⟨_, s8, rfl⟩ := hdep 5 8 (by kernel_rfl) rfl
      have hc := (HQ.out W hbl)
      obtain ⟨q0, q1, q2, q3⟩ := hc
      refine Rg.wpOp_wp rfl rfl ?_
      go_simp
      exact hK _ _ rfl (Below.refl _ _)
    · obtain ⟨_, s9, rfl⟩ := hdep 6 9 (by kernel_rfl) rfl
      refine Rg.wpOp_wp rfl rfl ?_
      go_simp
      exact hK _ _ (by show (_ : Value) = _; rw [WK.out]) (Below.refl _ _)
    · obtain ⟨_, s10, rfl⟩ := hdep 7 10 (by kernel_rfl) rfl
      refine Rg.wpOp_wp rfl rfl ?_
      go_simp
      refine (H4.out W k (by omega)).mono ?_
      rintro e w8 ⟨rfl, hb8⟩
      exact hK _ _ (by show (_ : Value) = _; rw [E2.out]) hb8
    · obtain ⟨_, s7, rfl⟩ := hdep 4 7 (by kernel_rfl) rfl
      obtain ⟨_, s11, rfl⟩ := hdep 8 11 (by kernel_rfl) rfl
      have za := Z1.out.2
      have zb := Z2.out.1
      refine Rg.wpOp_wp rfl rfl ?_
      go_simp
      exact hK _ _ (by show (_ : Value) = _; rw [A2.out]) (Below.refl _ _)
    · have s1 : a.tmps[1]? = some _ := hfr 1 (by kernel_rfl)
      refine Rg.wpOp_wp rfl rfl ?_
      go_simp
      exact hK _ _ rfl (Below.refl _ _)
    · obtain ⟨_, s13, rfl⟩ := hdep 10 13 (by kernel_rfl) rfl
      have hc := (HQ.out W hbl)
      obtain ⟨q0, q1, q2, q3⟩ := hc
      refine Rg.wpOp_wp rfl rfl ?_
      go_simp
      exact hK _ _ rfl (Below.refl _ _)
    · obtain ⟨_, s14, rfl⟩ := hdep 11 14 (by kernel_rfl) rfl
      refine Rg.wpOp_wp rfl rfl ?_
      go_simp
      refine (H8.out W o (by omega)).mono ?_
      rintro e w8 ⟨rfl, hb8⟩
      exact hK _ _ (by show (_ : Value) = _; rw [E3.out]) hb8
    · obtain ⟨_, s12, rfl⟩ := hdep 9 12 (by kernel_rfl) rfl
      obtain ⟨_, s15, rfl⟩ := hdep 12 15 (by kernel_rfl) rfl
      have za := Z2.out.2
      have zb := Z3.out.1
      refine Rg.wpOp_wp rfl rfl ?_
      go_simp
      exact hK _ _ (by show (_ : Value) = _; rw [A3.out]) (Below.refl _ _)
    · have s1 : a.tmps[1]? = some _ := hfr 1 (by kernel_rfl)
      refine Rg.wpOp_wp rfl rfl ?_
      go_simp
      exact hK _ _ rfl (Below.refl _ _)
    · obtain ⟨_, s17, rfl⟩ := hdep 14 17 (by kernel_rfl) rfl
      have hc := (HQ.out W hbl)
      obtain ⟨q0, q1, q2, q3⟩ := hc
      refine Rg.wpOp_wp rfl rfl ?_
      go_simp
      exact hK _ _ rfl (Below.refl _ _)
    · obtain ⟨_, s18, rfl⟩ := hdep 15 18 (by kernel_rfl) rfl
      refine Rg.wpOp_wp rfl rfl ?_
      go_simp
      refine (H8.out W n (by omega)).mono ?_
      rintro e w8 ⟨rfl, hb8⟩
      exact hK _ _ (by show (_ : Value) = _; rw [E4.out]) hb8
    · obtain ⟨_, s16, rfl⟩ := hdep 13 16 (by kernel_rfl) rfl
      obtain ⟨_, s19, rfl⟩ := hdep 16 19 (by kernel_rfl) rfl
      have za := Z3.out.2
      have zb := Z4.out.1
      refine Rg.wpOp_wp rfl rfl ?_
      go_simp
      exact hK _ _ (by show (_ : Value) = _; rw [A4.out]) (Below.refl _ _)
    · obtain ⟨_, s20, rfl⟩ := hdep 17 20 (by kernel_rfl) rfl
      refine Rg.wpOp_wp rfl rfl ?_
      go_simp
      exact hK _ _ rfl (Below.refl _ _)
  · intro vv W hvv hbl
    have e18 : vv 18 = .string m4 := hvv 18 (by decide)
    have HBE := Lib.hid (HBW.out.trans (hbl.mono HBW.out.size))
    clear hvv hbl
    refine Rg.of_fakes_all [Rg.fake (some 3) (vv 0), Rg.fake (some 4) (vv 1), Rg.fake (some 5) (vv 2), Rg.fake (some 6) (vv 3), Rg.fake (some 7) (vv 4), Rg.fake (some 8) (vv 5), Rg.fake (some 9) (vv 6), Rg.fake (some 10) (vv 7), Rg.fake (some 11) (vv 8), Rg.fake (some 12) (vv 9), Rg.fake (some 13) (vv 10), Rg.fake (some 14) (vv 11), Rg.fake (some 15) (vv 12), Rg.fake (some 16) (vv 13), Rg.fake (some 17) (vv 14), Rg.fake (some 18) (vv 15), Rg.fake (some 19) (vv 16), Rg.fake (some 20) (vv 17), Rg.fake (some 2) (vv 18)] rfl ?_
    simp only [Rg.fake, e18]
    go_wp2_with fail
    go_ret
    exact ⟨rfl, HBE.out⟩
end Go.Proofs.Ytfdhjeeaigfmfaa.Sp

namespace Go.Proofs.Ytfdhjeeaigfmfaa.Sp
open Go.RowKit Go.WideMaps Go.Proofs.Ytfdhjeeaigfmfaa.In Go.Proofs.Ytfdhjeeaigfmfaa.Plain
set_option linter.unusedVariables false
set_option linter.unusedSimpArgs false

theorem boxes3 {W w1 : World} {o1 o2 o3 : Obj} (h : Below (((W.alloc o1).alloc o2).alloc o3).heap.size (((W.alloc o1).alloc o2).alloc o3) w1) : w1.heap[W.heap.size]? = some o1 ∧ w1.heap[W.heap.size + 1]? = some o2 ∧ w1.heap[W.heap.size + 2]? = some o3 ∧ Below W.heap.size W w1 := by
  have h1 := boxes1 h
  have h2 := boxes2 h1.2
  refine ⟨(h1.2.block _ (by simp; omega)).trans (al_old (al_new rfl)), ?_, ?_, h2.2.2⟩
  · exact (h1.2.block _ (by simp)).trans (al_new (by simp))
  · have := h1.1
    simpa using this
def sV (pg tk : Int) (A : Option Addr) (m c : Nat) : Array Value := #[.int .i64 pg, .slice A m c, .int .i64 tk]
def hV (h : Hd) : Array Value := #[.int .i64 h.pages, .int .i64 h.kind, .int .u64 h.owner, .int .u64 h.next]
theorem Below.set3 {W w : World} {B b : Nat} (h : Below B W w) (hb : B ≤ b) (x y z : Value) : Below B W (((w.setCell ⟨b, 0, none⟩ x).setCell ⟨b, 1, none⟩ y).setCell ⟨b, 2, none⟩ z) := ((h.setCell hb _).setCell hb _).setCell hb _

set_option maxRecDepth 100000 in
set_option maxHeartbeats 4000000 in
theorem ref08Write_bad {base q : Nat} {v : Value} {s : SpS} (h : Hd) (p c : Int) (W : World) (hs : RefS base q W v s) (hc : (¬ hRight h ∧ c = 1) ∨ (hRight h ∧ ¬ (0 ≤ p ∧ p < (s.pages : Int)) ∧ c = 3)) :
    Calls Try.prog 48 #[v, .int .i64 p, .agg #[.int .i64 h.pages, .int .i64 h.kind, .int .u64 h.owner, .int .u64 h.next]] W fun e w' => e = .returned (.tuple #[v, .int .i64 c]) ∧ Below W.heap.size W w' := by
  have HR := Lib.hid (fun W1 => ref08Right_any h W1)
  have HI := Lib.hid (fun W1 lv => ref08In_any (s.pages : Int) p s.ticks lv W1)
  obtain ⟨LA, Lm, Lc, rfl⟩ := refS_form hs
  clear hs
  generalize (s.pages : Int) = pg at *
  generalize s.ticks = tk at *
  rcases hc with ⟨h1, rfl⟩ | ⟨h1, h2, rfl⟩
  · have hd : decide (hRight h) = false := decide_eq_false h1
    rw [hd] at HR
    clear h1 hd
    go_enter Try.func48, Try.ntmps48
    go_wp2_with fail
    refine (HR.out _).mono ?_
    rintro e' w1 ⟨rfl, hb⟩
    obtain ⟨e0, e1, e2, hbb⟩ := boxes3 hb
    have HB := Lib.hid hbb
    obtain ⟨a0, a1, a2, f1, f2, f0⟩ := box3 e0
    obtain ⟨b0, b1, b2, g1, g2, g0⟩ := box3 e2
    clear hb e0 e1 e2 hbb
    go_wp2_with fail
    refine bodyPost_ret (v := .tuple #[.agg #[.int .i64 pg, .slice LA Lm Lc, .int .i64 tk], .int .i64 1]) ?_ rfl ?_
    · simp [results, Try.results48, go_sem, b0, b1, b2]
    · exact ⟨rfl, Below.set3 HB.out (by omega) _ _ _⟩
  · have hd : decide (hRight h) = true := decide_eq_true h1
    have hd2 : decide (0 ≤ p ∧ p < pg) = false := decide_eq_false h2
    rw [hd] at HR
    rw [hd2] at HI
    clear h1 hd h2 hd2
    go_enter Try.func48, Try.ntmps48
    go_wp2_with fail
    refine (HR.out _).mono ?_
    rintro e' w1 ⟨rfl, hb⟩
    obtain ⟨e0, e1, e2, hbb⟩ := boxes3 hb
    obtain ⟨a0, a1, a2, f1, f2, f0⟩ := box3 e0
    have HE := Lib.hid (And.intro e0 (And.intro e2 hbb))
    clear hb e0 e1 e2 hbb
    go_wp2_with fail
    refine (HI.out _ _).mono ?_
    rintro e' w2 ⟨rfl, hb⟩
    have HB := Lib.hid (HE.out.2.2.trans (hb.mono HE.out.2.2.size))
    obtain ⟨c0, c1, c2, k1, k2, k0⟩ := box3 ((hb.block _ (Array.getElem?_eq_some_iff.1 HE.out.1).1).trans HE.out.1)
    obtain ⟨b0, b1, b2, g1, g2, g0⟩ := box3 ((hb.block _ (Array.getElem?_eq_some_iff.1 HE.out.2.1).1).trans HE.out.2.1)
    clear hb a0 a1 a2 f0 f1 f2
    go_wp2_with fail
    refine bodyPost_ret (v := .tuple #[.agg #[.int .i64 pg, .slice LA Lm Lc, .int .i64 tk], .int .i64 3]) ?_ rfl ?_
    · simp [results, Try.results48, go_sem, b0, b1, b2]
    · exact ⟨rfl, Below.set3 HB.out (by omega) _ _ _⟩

set_option maxRecDepth 100000 in
set_option maxHeartbeats 4000000 in
theorem ref08Write_gen {base q q' : Nat} {v : Value} {s s1 : SpS} (h : Hd) (n : Nat) (c : Int) (W : World) (hs : RefS base q W v s) (hr : hRight h) (ho : 0 ≤ h.owner ∧ h.owner ≤ 18446744073709551615) (hx : 0 ≤ h.next ∧ h.next ≤ 18446744073709551615) (hn : n < s.pages)
    (hL : ∀ W1, Below W.heap.size W W1 → Calls Try.prog 21 #[v, .int .u64 ((n * 4096 : Nat) : Int), .string (strOfNums (hdL h))] W1 fun e w' => ∃ v', e = .returned (.tuple #[v', .int .i64 c]) ∧ RefS base q' w' v' s1 ∧ Below W1.heap.size W1 w') :
    Calls Try.prog 48 #[v, .int .i64 (n : Int), .agg #[.int .i64 h.pages, .int .i64 h.kind, .int .u64 h.owner, .int .u64 h.next]] W fun e w' => ∃ v', e = .returned (.tuple #[v', .int .i64 c]) ∧ RefS base q' w' v' s1 ∧ Below W.heap.size W w' := by
  have HR := Lib.hid (fun W1 => ref08Right_any h W1)
  have HI := Lib.hid (fun W1 lv => ref08In_any (s.pages : Int) (n : Int) s.ticks lv W1)
  have HY := Lib.hid (fun W1 => ref08Bytes_any h W1 hr ho hx)
  have HL := Lib.hid hL
  have hp2 : s.pages ≤ 1048576 := by obtain ⟨_, _, _, _, _, _, _, _, h⟩ := hs; exact h
  have hd : decide (hRight h) = true := decide_eq_true hr
  have hd2 : decide (0 ≤ (n : Int) ∧ (n : Int) < (s.pages : Int)) = true := decide_eq_true (by omega)
  have WN := Lib.hid (show IntKind.u64.wrap (n : Int) = (n : Int) by rw [IntKind.wrap_u64]; omega)
  have WM := Lib.hid (show IntKind.u64.wrap ((n : Int) * 4096) = ((n * 4096 : Nat) : Int) by rw [IntKind.wrap_u64]; omega)
  obtain ⟨LA, Lm, Lc, rfl⟩ := refS_form hs
  rw [hd] at HR
  rw [hd2] at HI
  obtain ⟨T, hT⟩ : ∃ T : Int, ((n * 4096 : Nat) : Int) = T := ⟨_, rfl⟩
  rw [hT] at HL WM
  generalize strOfNums (hdL h) = X at *
  clear hs hr ho hx hn hL hp2 hd hd2 hT
  generalize (s.pages : Int) = pg at *
  generalize s.ticks = tk at *
  obtain ⟨h1, h2, h3, h4⟩ := h
  simp only at *
  go_enter Try.func48, Try.ntmps48
  go_wp2_with fail
  refine (HR.out _).mono ?_
  rintro e' w1 ⟨rfl, hb⟩
  obtain ⟨e0, e1, e2, hbb⟩ := boxes3 hb
  obtain ⟨a0, a1, a2, f1, f2, f0⟩ := box3 e0
  have HE := Lib.hid (And.intro e0 (And.intro e1 (And.intro e2 hbb)))
  clear hb e0 e1 e2 hbb
  go_wp2_with fail
  refine (HI.out _ _).mono ?_
  rintro e' w2 ⟨rfl, hb⟩
  have HB := Lib.hid (HE.out.2.2.2.trans (hb.mono HE.out.2.2.2.size))
  have HE0 := Lib.hid ((hb.block _ (Array.getElem?_eq_some_iff.1 HE.out.1).1).trans HE.out.1)
  have HE1 := Lib.hid ((hb.block _ (Array.getElem?_eq_some_iff.1 HE.out.2.1).1).trans HE.out.2.1)
  have HE2 := Lib.hid ((hb.block _ (Array.getElem?_eq_some_iff.1 HE.out.2.2.1).1).trans HE.out.2.2.1)
  clear hb a0 a1 a2 f0 f1 f2 HE
  obtain ⟨B, hB⟩ : ∃ B, W.heap.size = B := ⟨_, rfl⟩
  have HBS := Lib.hid hB
  rw [hB] at HE0 HE1 HE2 ⊢
  clear hB
  go_wp2_with fail
  refine Rg.wp_region_grow 9 11 rfl (by kernel_rfl) (fun ix W vv => match ix with
    | 0 => vv = .agg #[.int .i64 pg, .slice LA Lm Lc, .int .i64 tk]
    | 1 => vv = .int .i64 (n : Int)
    | 2 => vv = .int .u64 (n : Int)
    | 3 => vv = .int .u64 T
    | 4 => vv = .agg #[.int .i64 h1, .int .i64 h2, .int .u64 h3, .int .u64 h4]
    | 5 => vv = .string X
    | 6 => ∃ v' : Value, vv = .tuple #[v', .int .i64 c] ∧ RefS base q' W v' s1
    | 7 => ∃ v' : Value, vv = v' ∧ RefS base q' W v' s1
    | 8 => vv = .int .i64 c
    | _ => True) ?_ ?_ ?_
  · intro ix W W' vv hix h hb
    have hj2 : ix = 0 ∨ ix = 1 ∨ ix = 2 ∨ ix = 3 ∨ ix = 4 ∨ ix = 5 ∨ ix = 6 ∨ ix = 7 ∨ ix = 8 := by omega
    rcases hj2 with rfl | rfl | rfl | rfl | rfl | rfl | rfl | rfl | rfl
    all_goals first
      | exact h
      | obtain ⟨v', e1, e2⟩ := h
        exact ⟨v', e1, e2.below hb⟩
  · intro ix a W K hix hbl hfr hdep hK
    have hj2 : ix = 0 ∨ ix = 1 ∨ ix = 2 ∨ ix = 3 ∨ ix = 4 ∨ ix = 5 ∨ ix = 6 ∨ ix = 7 ∨ ix = 8 := by omega
    rcases hj2 with rfl | rfl | rfl | rfl | rfl | rfl | rfl | rfl | rfl
    · have s3 : a.tmps[3]? = some _ := hfr 3 (by kernel_rfl)
      obtain ⟨q0, q1, q2, _⟩ := box3 ((hbl.block _ (Array.getElem?_eq_some_iff.1 HE0.out).1).trans HE0.out)
      refine Rg.wpOp_wp rfl rfl ?_
      go_simp
      exact hK _ _ rfl (Below.refl _ _)
    · have s1 : a.tmps[1]? = some _ := hfr 1 (by kernel_rfl)
      refine Rg.wpOp_wp rfl rfl ?_
      go_simp
      exact hK _ _ rfl (Below.refl _ _)
    · obtain ⟨_, s22, rfl⟩ := hdep 1 22 (by kernel_rfl) rfl
      refine Rg.wpOp_wp rfl rfl ?_
      go_simp
      exact hK _ _ (by show (_ : Value) = _; rw [WN.out]) (Below.refl _ _)
    · obtain ⟨_, s23, rfl⟩ := hdep 2 23 (by kernel_rfl) rfl
      refine Rg.wpOp_wp rfl rfl ?_
      go_simp
      exact hK _ _ (by show (_ : Value) = _; rw [WM.out]) (Below.refl _ _)
    · have s5 : a.tmps[5]? = some _ := hfr 5 (by kernel_rfl)
      obtain ⟨q0, q1, q2, q3⟩ := box4 ((hbl.block _ (Array.getElem?_eq_some_iff.1 HE1.out).1).trans HE1.out)
      refine Rg.wpOp_wp rfl rfl ?_
      go_simp
      exact hK _ _ rfl (Below.refl _ _)
    · obtain ⟨_, s25, rfl⟩ := hdep 4 25 (by kernel_rfl) rfl
      refine Rg.wpOp_wp rfl rfl ?_
      go_simp
      refine (HY.out W).mono ?_
      rintro e w8 ⟨rfl, hb8⟩
      exact hK _ _ rfl hb8
    · obtain ⟨_, s21, rfl⟩ := hdep 0 21 (by kernel_rfl) rfl
      obtain ⟨_, s24, rfl⟩ := hdep 3 24 (by kernel_rfl) rfl
      obtain ⟨_, s26, rfl⟩ := hdep 5 26 (by kernel_rfl) rfl
      refine Rg.wpOp_wp rfl rfl ?_
      go_simp
      refine (HL.out W (HB.out.trans (hbl.mono HB.out.size))).mono ?_
      rintro e w8 ⟨v8, rfl, hs8, hb8⟩
      exact hK _ _ ⟨v8, rfl, hs8⟩ hb8
    · obtain ⟨_, s27, ⟨v6, rfl, hs6⟩⟩ := hdep 6 27 (by kernel_rfl) rfl
      refine Rg.wpOp_wp rfl rfl ?_
      go_simp
      exact hK _ _ ⟨v6, rfl, hs6⟩ (Below.refl _ _)
    · obtain ⟨_, s27, ⟨v6, rfl, hs6⟩⟩ := hdep 6 27 (by kernel_rfl) rfl
      refine Rg.wpOp_wp rfl rfl ?_
      go_simp
      exact hK _ _ rfl (Below.refl _ _)
  · intro vv W hvv hbl
    obtain ⟨v7, e7, hs7⟩ := hvv 7 (by decide)
    have e8 : vv 8 = .int .i64 c := hvv 8 (by decide)
    obtain ⟨A7, m7, c7, rfl⟩ := refS_form hs7
    have HS7 := Lib.hid hs7
    have HE2w := Lib.hid ((hbl.block _ (Array.getElem?_eq_some_iff.1 HE2.out).1).trans HE2.out)
    obtain ⟨b0, b1, b2, g1, g2, g0⟩ := box3 HE2w.out
    have HBE := Lib.hid (HB.out.trans (hbl.mono HB.out.size))
    clear hvv hbl hs7
    refine Rg.of_fakes_tail [Rg.fake (some 21) (vv 0), Rg.fake (some 22) (vv 1), Rg.fake (some 23) (vv 2), Rg.fake (some 24) (vv 3), Rg.fake (some 25) (vv 4), Rg.fake (some 26) (vv 5), Rg.fake (some 27) (vv 6), Rg.fake (some 28) (vv 7), Rg.fake (some 29) (vv 8)] rfl (by decide) rfl (by kernel_rfl) ?_
    simp only [Rg.fake, e7, e8]
    go_wp2_with fail
    refine bodyPost_ret (v := .tuple #[.agg #[.int .i64 (s1.pages : Int), .slice A7 m7 c7, .int .i64 s1.ticks], .int .i64 c]) ?_ rfl ?_
    · simp [results, Try.results48, go_sem, b0, b1, b2]
    · exact ⟨_, rfl, refS_set3 HS7.out HE2w.out (by decide), Below.set3 HBE.out (by have := HBS.out; omega) _ _ _⟩

theorem ref08Write_ok {base q : Nat} {v : Value} {s : SpS} (h : Hd) (n : Nat) (W : World) (hs : RefS base q W v s) (hq : q ≤ 100000) (hB : base ≤ W.heap.size) (hr : hRight h) (ho : 0 ≤ h.owner ∧ h.owner ≤ 18446744073709551615) (hx : 0 ≤ h.next ∧ h.next ≤ 18446744073709551615) (hn : n < s.pages) :
    Calls Try.prog 48 #[v, .int .i64 (n : Int), .agg #[.int .i64 h.pages, .int .i64 h.kind, .int .u64 h.owner, .int .u64 h.next]] W fun e w' => ∃ v', e = .returned (.tuple #[v', .int .i64 0]) ∧ RefS base (q + 1) w' v' (wrote s (n * 4096) h) ∧ Below W.heap.size W w' :=
  ref08Write_gen h n 0 W hs hr ho hx hn (fun W1 hb1 => ref03Store_ok (n * 4096) 32 (hdL h) W1 (hs.below hb1) hq (Nat.le_trans hB hb1.size) (by omega) (hdL_length h) (hdL_bs h) (by decide))
end Go.Proofs.Ytfdhjeeaigfmfaa.Sp

namespace Go.Proofs.Ytfdhjeeaigfmfaa.Sp
open Go.RowKit Go.WideMaps Go.Proofs.Ytfdhjeeaigfmfaa.In Go.Proofs.Ytfdhjeeaigfmfaa.Plain
set_option linter.unusedVariables false
set_option linter.unusedSimpArgs false

theorem Below.set4 {W w : World} {B b : Nat} (h : Below B W w) (hb : B ≤ b) (x y z u : Value) : Below B W ((((w.setCell ⟨b, 0, none⟩ x).setCell ⟨b, 1, none⟩ y).setCell ⟨b, 2, none⟩ z).setCell ⟨b, 3, none⟩ u) := (((h.setCell hb _).setCell hb _).setCell hb _).setCell hb _
theorem nums_extract (l : List Int) (i j : Nat) : (strOfNums l).extract i j = strOfNums ((l.drop i).take (j - i)) := by
  apply ByteArray.ext
  apply Array.ext'
  simp [strOfNums, ByteArray.data_extract, List.extract_eq_take_drop, List.map_take, List.map_drop]
set_option maxRecDepth 100000 in
set_option maxHeartbeats 4000000 in
theorem ref08Of_any (l : List Int) (Wz : World) (hl : l.length = 32) (hb : Bs l) (v : Value) (b : Bool) (hd : (isHd l ∧ v = hdV (ofL l) ∧ b = true) ∨ (¬ isHd l ∧ v = hdV ⟨0, 0, 0, 0⟩ ∧ b = false)) :
    Calls Try.prog 81 #[.string (strOfNums l)] Wz fun e w' => e = .returned (.tuple #[v, .bool b]) ∧ Below Wz.heap.size Wz w' := by
  have N1 := Lib.hid (fun W1 => ref02Number_any ((l.drop 8).take 4) W1 (by simp; omega) (bs_take (bs_drop hb _) _))
  have N2 := Lib.hid (fun W1 => ref02Number_any ((l.drop 12).take 4) W1 (by simp; omega) (bs_take (bs_drop hb _) _))
  have N3 := Lib.hid (fun W1 => ref02Number_any ((l.drop 16).take 8) W1 (by simp; omega) (bs_take (bs_drop hb _) _))
  have N4 := Lib.hid (fun W1 => ref02Number_any ((l.drop 24).take 8) W1 (by simp; omega) (bs_take (bs_drop hb _) _))
  have hsz : (strOfNums l).size = 32 := by rw [strOfNums_size, hl]
  have hrg : ∀ t k : Nat, t + k ≤ 32 → k ≤ 8 → 0 ≤ num ((l.drop t).take k) ∧ num ((l.drop t).take k) < 256 ^ k := fun t k h1 h2 => by
    have h3 := num_range (bs_take (bs_drop hb t) k)
    have h4 : ((l.drop t).take k).length = k := by rw [List.length_take, List.length_drop, hl]; omega
    rwa [h4] at h3
  obtain ⟨m1, m2⟩ := hrg 8 4 (by decide) (by decide)
  obtain ⟨m3, m4⟩ := hrg 12 4 (by decide) (by decide)
  clear hrg
  have HF : ofL l = ⟨num ((l.drop 8).take 4), num ((l.drop 12).take 4), num ((l.drop 16).take 8), num ((l.drop 24).take 8)⟩ := rfl
  have x1 := nums_extract l 8 12
  have x2 := nums_extract l 12 16
  have x3 := nums_extract l 16 24
  have x4 := nums_extract l 24 32
  have x0 := nums_extract l 0 8
  rw [List.drop_zero] at x0
  simp only [Nat.reduceSub] at x0 x1 x2 x3 x4
  rw [← x1] at N1
  rw [← x2] at N2
  rw [← x3] at N3
  rw [← x4] at N4
  obtain ⟨n1, g1⟩ : ∃ n, num ((l.drop 8).take 4) = n := ⟨_, rfl⟩
  obtain ⟨n2, g2⟩ : ∃ n, num ((l.drop 12).take 4) = n := ⟨_, rfl⟩
  obtain ⟨n3, g3⟩ : ∃ n, num ((l.drop 16).take 8) = n := ⟨_, rfl⟩
  obtain ⟨n4, g4⟩ : ∃ n, num ((l.drop 24).take 8) = n := ⟨_, rfl⟩
  rw [g1] at N1 m1 m2 HF
  rw [g2] at N2 m3 m4 HF
  rw [g3] at N3 HF
  rw [g4] at N4 HF
  have HW1 := Lib.hid (show IntKind.i64.wrap n1 = n1 from IntWalk.i64_in _ (by omega))
  have HW2 := Lib.hid (show IntKind.i64.wrap n2 = n2 from IntWalk.i64_in _ (by omega))
  clear x1 x2 x3 x4 m1 m2 m3 m4 g1 g2 g3 g4
  have hM : (l.take 8 = magicL ∧ (strOfNums l).extract 0 8 = (⟨#[115, 116, 101, 97, 100, 105, 110, 103]⟩ : ByteArray)) ∨ (¬ l.take 8 = magicL ∧ ((strOfNums l).extract 0 8).toList ≠ [115, 116, 101, 97, 100, 105, 110, 103]) := by
    by_cases hm : l.take 8 = magicL
    · exact .inl ⟨hm, by rw [x0, hm, magic_str]⟩
    · refine .inr ⟨hm, ?_⟩
      rw [x0]
      have := str_ne_list (fun e => hm (strOfNums_inj _ _ (bs_take hb 8) (by unfold Bs; decide) (e.trans magic_str.symm)))
      exact this
  have HM := Lib.hid hM
  have HFH := Lib.hid HF
  have HZ := Lib.hid hsz
  have HD := Lib.hid hd
  clear HF x0 hsz hd hl hb hM
  generalize strOfNums l = S at *
  obtain ⟨ta, h⟩ : ∃ s, S.extract 8 12 = s := ⟨_, rfl⟩
  have X1 := Lib.hid h
  rw [h] at N1
  clear h
  obtain ⟨tb, h⟩ : ∃ s, S.extract 12 16 = s := ⟨_, rfl⟩
  have X2 := Lib.hid h
  rw [h] at N2
  clear h
  obtain ⟨tc, h⟩ : ∃ s, S.extract 16 24 = s := ⟨_, rfl⟩
  have X3 := Lib.hid h
  rw [h] at N3
  clear h
  obtain ⟨td, h⟩ : ∃ s, S.extract 24 32 = s := ⟨_, rfl⟩
  have X4 := Lib.hid h
  rw [h] at N4
  clear h
  go_enter Try.func81, Try.ntmps81
  go_wp2_with fail
  have hbx : (Wz.alloc (.cells #[.int .i64 0, .int .i64 0, .int .u64 0, .int .u64 0] 85)).heap[Wz.heap.size]? = some (.cells #[.int .i64 0, .int .i64 0, .int .u64 0, .int .u64 0] 85 (0, 0)) := al_new rfl
  have HB := Lib.hid (show Below Wz.heap.size Wz (Wz.alloc (.cells #[.int .i64 0, .int .i64 0, .int .u64 0, .int .u64 0] 85)) from (Below.refl _ _).alloc (Nat.le_refl _) _)
  have hsz : (Wz.alloc (.cells #[.int .i64 0, .int .i64 0, .int .u64 0, .int .u64 0] 85)).heap.size = Wz.heap.size + 1 := by simp
  generalize Wz.alloc (.cells #[.int .i64 0, .int .i64 0, .int .u64 0, .int .u64 0] 85) = W1 at *
  obtain ⟨B, hB⟩ : ∃ B, Wz.heap.size = B := ⟨_, rfl⟩
  have HBW := Lib.hid hB
  rw [hB] at hbx hsz ⊢
  have HBS := Lib.hid hsz
  have HE0 := Lib.hid hbx
  clear hbx hsz hB
  refine Rg.wp_region_grow 16 17 rfl (by kernel_rfl) (fun ix W vv => match ix with
    | 0 => vv = .string S
    | 1 => vv = .string ta
    | 2 => vv = .int .u64 n1
    | 3 => vv = .int .i64 n1
    | 4 => vv = .string S
    | 5 => vv = .string tb
    | 6 => vv = .int .u64 n2
    | 7 => vv = .int .i64 n2
    | 8 => vv = .string S
    | 9 => vv = .string tc
    | 10 => vv = .int .u64 n3
    | 11 => vv = .string S
    | 12 => vv = .string td
    | 13 => vv = .int .u64 n4
    | 14 => vv = .agg #[.int .i64 n1, .int .i64 n2, .int .u64 n3, .int .u64 n4]
    | 15 => ∃ b : Nat, vv = .pointer (some ⟨b, 0, none⟩) ∧ W.heap[b]? = some (.cells #[.int .i64 0, .int .i64 0, .int .u64 0, .int .u64 0] 85 (0, 0)) ∧ W1.heap.size ≤ b
    | _ => True) ?_ ?_ ?_
  · intro ix W W' vv hix h hb
    have hj2 : ix = 0 ∨ ix = 1 ∨ ix = 2 ∨ ix = 3 ∨ ix = 4 ∨ ix = 5 ∨ ix = 6 ∨ ix = 7 ∨ ix = 8 ∨ ix = 9 ∨ ix = 10 ∨ ix = 11 ∨ ix = 12 ∨ ix = 13 ∨ ix = 14 ∨ ix = 15 := by omega
    rcases hj2 with rfl | rfl | rfl | rfl | rfl | rfl | rfl | rfl | rfl | rfl | rfl | rfl | rfl | rfl | rfl | rfl
    all_goals first
      | exact h
      | obtain ⟨b, e1, e2, e3⟩ := h
        exact ⟨b, e1, (hb.block _ (Array.getElem?_eq_some_iff.1 e2).1).trans e2, e3⟩
  · intro ix a W K hix hbl hfr hdep hK
    have hj2 : ix = 0 ∨ ix = 1 ∨ ix = 2 ∨ ix = 3 ∨ ix = 4 ∨ ix = 5 ∨ ix = 6 ∨ ix = 7 ∨ ix = 8 ∨ ix = 9 ∨ ix = 10 ∨ ix = 11 ∨ ix = 12 ∨ ix = 13 ∨ ix = 14 ∨ ix = 15 := by omega
    rcases hj2 with rfl | rfl | rfl | rfl | rfl | rfl | rfl | rfl | rfl | rfl | rfl | rfl | rfl | rfl | rfl | rfl
    · have s0 : a.tmps[0]? = some _ := hfr 0 (by kernel_rfl)
      refine Rg.wpOp_wp rfl rfl ?_
      go_simp
      exact hK _ _ rfl (Below.refl _ _)
    · obtain ⟨_, s6, rfl⟩ := hdep 0 6 (by kernel_rfl) rfl
      have hz := HZ.out
      refine Rg.wpOp_wp rfl rfl ?_
      go_simp
      exact hK _ _ (by show (_ : Value) = _; rw [X1.out]) (Below.refl _ _)
    · obtain ⟨_, s7, rfl⟩ := hdep 1 7 (by kernel_rfl) rfl
      refine Rg.wpOp_wp rfl rfl ?_
      go_simp
      refine (N1.out W).mono ?_
      rintro e w8 ⟨rfl, rfl⟩
      exact hK _ _ rfl (Below.refl _ _)
    · obtain ⟨_, s8, rfl⟩ := hdep 2 8 (by kernel_rfl) rfl
      refine Rg.wpOp_wp rfl rfl ?_
      go_simp
      exact hK _ _ (by show (_ : Value) = _; rw [HW1.out]) (Below.refl _ _)
    · have s0 : a.tmps[0]? = some _ := hfr 0 (by kernel_rfl)
      refine Rg.wpOp_wp rfl rfl ?_
      go_simp
      exact hK _ _ rfl (Below.refl _ _)
    · obtain ⟨_, s10, rfl⟩ := hdep 4 10 (by kernel_rfl) rfl
      have hz := HZ.out
      refine Rg.wpOp_wp rfl rfl ?_
      go_simp
      exact hK _ _ (by show (_ : Value) = _; rw [X2.out]) (Below.refl _ _)
    · obtain ⟨_, s11, rfl⟩ := hdep 5 11 (by kernel_rfl) rfl
      refine Rg.wpOp_wp rfl rfl ?_
      go_simp
      refine (N2.out W).mono ?_
      rintro e w8 ⟨rfl, rfl⟩
      exact hK _ _ rfl (Below.refl _ _)
    · obtain ⟨_, s12, rfl⟩ := hdep 6 12 (by kernel_rfl) rfl
      refine Rg.wpOp_wp rfl rfl ?_
      go_simp
      exact hK _ _ (by show (_ : Value) = _; rw [HW2.out]) (Below.refl _ _)
    · have s0 : a.tmps[0]? = some _ := hfr 0 (by kernel_rfl)
      refine Rg.wpOp_wp rfl rfl ?_
      go_simp
      exact hK _ _ rfl (Below.refl _ _)
    · obtain ⟨_, s14, rfl⟩ := hdep 8 14 (by kernel_rfl) rfl
      have hz := HZ.out
      refine Rg.wpOp_wp rfl rfl ?_
      go_simp
      exact hK _ _ (by show (_ : Value) = _; rw [X3.out]) (Below.refl _ _)
    · obtain ⟨_, s15, rfl⟩ := hdep 9 15 (by kernel_rfl) rfl
      refine Rg.wpOp_wp rfl rfl ?_
      go_simp
      refine (N3.out W).mono ?_
      rintro e w8 ⟨rfl, rfl⟩
      exact hK _ _ rfl (Below.refl _ _)
    · have s0 : a.tmps[0]? = some _ := hfr 0 (by kernel_rfl)
      refine Rg.wpOp_wp rfl rfl ?_
      go_simp
      exact hK _ _ rfl (Below.refl _ _)
    · obtain ⟨_, s17, rfl⟩ := hdep 11 17 (by kernel_rfl) rfl
      have hz := HZ.out
      refine Rg.wpOp_wp rfl rfl ?_
      go_simp
      exact hK _ _ (by show (_ : Value) = _; rw [X4.out]) (Below.refl _ _)
    · obtain ⟨_, s18, rfl⟩ := hdep 12 18 (by kernel_rfl) rfl
      refine Rg.wpOp_wp rfl rfl ?_
      go_simp
      refine (N4.out W).mono ?_
      rintro e w8 ⟨rfl, rfl⟩
      exact hK _ _ rfl (Below.refl _ _)
    · obtain ⟨_, s9, rfl⟩ := hdep 3 9 (by kernel_rfl) rfl
      obtain ⟨_, s13, rfl⟩ := hdep 7 13 (by kernel_rfl) rfl
      obtain ⟨_, s16, rfl⟩ := hdep 10 16 (by kernel_rfl) rfl
      obtain ⟨_, s19, rfl⟩ := hdep 13 19 (by kernel_rfl) rfl
      refine Rg.wpOp_wp rfl rfl ?_
      go_simp
      exact hK _ _ rfl (Below.refl _ _)
    · refine Rg.wpOp_wp rfl rfl ?_
      go_simp
      exact hK _ _ ⟨W.heap.size, rfl, al_new rfl, hbl.size⟩ ((Below.refl _ _).alloc (Nat.le_refl _) _)
  · intro vv W hvv hbl
    obtain ⟨b, e15, hb15, hg15⟩ := hvv 15 (by decide)
    have e14 : vv 14 = .agg #[.int .i64 n1, .int .i64 n2, .int .u64 n3, .int .u64 n4] := hvv 14 (by decide)
    have HR0 := Lib.hid (fun (w : World) (hb : Below W.heap.size W w) => (hb.block _ (Array.getElem?_eq_some_iff.1 ((hbl.block _ (Array.getElem?_eq_some_iff.1 HE0.out).1).trans HE0.out)).1).trans ((hbl.block _ (Array.getElem?_eq_some_iff.1 HE0.out).1).trans HE0.out))
    have HBE := Lib.hid (HB.out.trans (hbl.mono HB.out.size))
    have HG := Lib.hid (show B < b by have := HBS.out; omega)
    have k4 := box4_set (x' := .int .i64 n1) (y' := .int .i64 n2) (z' := .int .u64 n3) (u' := .int .u64 n4) hb15
    obtain ⟨⟨a0, a1, a2, a3⟩, af⟩ := box4f hb15
    have af0 := af 0
    have af1 := af 1
    have af2 := af 2
    have af3 := af 3
    have HS := Lib.hid (show Below W.heap.size W W from Below.refl _ _)
    clear hvv hbl hg15
    refine Rg.of_fakes_tail [Rg.fake (some 6) (vv 0), Rg.fake (some 7) (vv 1), Rg.fake (some 8) (vv 2), Rg.fake (some 9) (vv 3), Rg.fake (some 10) (vv 4), Rg.fake (some 11) (vv 5), Rg.fake (some 12) (vv 6), Rg.fake (some 13) (vv 7), Rg.fake (some 14) (vv 8), Rg.fake (some 15) (vv 9), Rg.fake (some 16) (vv 10), Rg.fake (some 17) (vv 11), Rg.fake (some 18) (vv 12), Rg.fake (some 19) (vv 13), Rg.fake (some 20) (vv 14), Rg.fake (some 4) (vv 15)] rfl (by decide) rfl (by kernel_rfl) ?_
    simp only [Rg.fake, e15, e14]
    go_wp2_with fail
    have HK := Lib.hid (fun (w3 : World) (hb3 : Below ((((W.setCell ⟨b, 0, none⟩ (.int .i64 n1)).setCell ⟨b, 1, none⟩ (.int .i64 n2)).setCell ⟨b, 2, none⟩ (.int .u64 n3)).setCell ⟨b, 3, none⟩ (.int .u64 n4)).heap.size ((((W.setCell ⟨b, 0, none⟩ (.int .i64 n1)).setCell ⟨b, 1, none⟩ (.int .i64 n2)).setCell ⟨b, 2, none⟩ (.int .u64 n3)).setCell ⟨b, 3, none⟩ (.int .u64 n4)) w3) => (show Below B Wz w3 ∧ w3.heap[B]? = some (.cells #[.int .i64 0, .int .i64 0, .int .u64 0, .int .u64 0] 85 (0, 0)) ∧ w3.heap[b]? = some (.cells #[.int .i64 n1, .int .i64 n2, .int .u64 n3, .int .u64 n4] 85 (0, 0)) from by
      have hg := HG.out
      have h1 := (((HBE.out.setCell (p := ⟨b, 0, none⟩) (by have := HBW.out; show _ ≤ b; omega) (.int .i64 n1)).setCell (p := ⟨b, 1, none⟩) (by have := HBW.out; show _ ≤ b; omega) (.int .i64 n2)).setCell (p := ⟨b, 2, none⟩) (by have := HBW.out; show _ ≤ b; omega) (.int .u64 n3)).setCell (p := ⟨b, 3, none⟩) (by have := HBW.out; show _ ≤ b; omega) (.int .u64 n4)
      have h2 := h1.trans (hb3.mono h1.size)
      have k0 := HR0.out W HS.out
      have k1 := Below.heap_setCell (((W.setCell ⟨b, 0, none⟩ (.int .i64 n1)).setCell ⟨b, 1, none⟩ (.int .i64 n2)).setCell ⟨b, 2, none⟩ (.int .u64 n3)) ⟨b, 3, none⟩ (.int .u64 n4) B (by show B ≠ b; omega)
      rw [Below.heap_setCell _ ⟨b, 2, none⟩ _ B (by show B ≠ b; omega), Below.heap_setCell _ ⟨b, 1, none⟩ _ B (by show B ≠ b; omega), Below.heap_setCell _ ⟨b, 0, none⟩ _ B (by show B ≠ b; omega), k0] at k1
      rw [HBW.out] at h2
      exact ⟨h2, (hb3.block _ (Array.getElem?_eq_some_iff.1 k1).1).trans k1, (hb3.block _ (Array.getElem?_eq_some_iff.1 k4).1).trans k4⟩))
    clear k4 hb15
    refine (ref08Right_any ⟨n1, n2, n3, n4⟩ _).mono ?_
    rcases HM.out with ⟨hm, hx⟩ | ⟨hm, hx⟩
    · have hmm := Lib.hid hm
      clear hm
      by_cases hr : hRight ⟨n1, n2, n3, n4⟩
      · have hi := Lib.hid (show isHd l from ⟨hmm.out, by rw [HFH.out]; exact hr⟩)
        rcases HD.out with ⟨_, rfl, rfl⟩ | ⟨hn, _⟩
        case inr => exact absurd hi.out hn
        rw [decide_eq_true hr]
        clear hr
        rintro e w3 ⟨rfl, hb3⟩
        obtain ⟨h2, k0, k1⟩ := HK.out w3 hb3
        obtain ⟨d0, d1, d2, d3⟩ := box4 k1
        obtain ⟨⟨c0, c1, c2, c3⟩, cf⟩ := box4f k0
        have cf0 := cf 0
        have cf1 := cf 1
        have cf2 := cf 2
        have cf3 := cf 3
        have k5 := box4_set (x' := .int .i64 n1) (y' := .int .i64 n2) (z' := .int .u64 n3) (u' := .int .u64 n4) k0
        obtain ⟨m0, m1, m2, m3⟩ := box4 k5
        have HB2 := Lib.hid h2
        have hz := HZ.out
        clear hb3 h2 k0 k1 k5 cf a0 a1 a2 a3 af af0 af1 af2 af3
        go_wp2_with fail
        refine bodyPost_ret (v := .tuple #[.agg #[.int .i64 n1, .int .i64 n2, .int .u64 n3, .int .u64 n4], .bool true]) ?_ rfl ?_
        · simp [results, Try.results81, go_sem, m0, m1, m2, m3]
        · exact ⟨by rw [HFH.out]; rfl, by rw [HBW.out]; exact Below.set4 HB2.out (Nat.le_refl _) _ _ _ _⟩
      · have hi := Lib.hid (show ¬ isHd l from fun h => hr (by have := h.2; rwa [HFH.out] at this))
        rcases HD.out with ⟨hn, _⟩ | ⟨_, rfl, rfl⟩
        case inl => exact absurd hn hi.out
        rw [decide_eq_false hr]
        clear hr
        rintro e w3 ⟨rfl, hb3⟩
        obtain ⟨h2, k0, k1⟩ := HK.out w3 hb3
        obtain ⟨⟨c0, c1, c2, c3⟩, cf⟩ := box4f k0
        have cf0 := cf 0
        have cf1 := cf 1
        have cf2 := cf 2
        have cf3 := cf 3
        have k5 := box4_set (x' := .int .i64 0) (y' := .int .i64 0) (z' := .int .u64 0) (u' := .int .u64 0) k0
        obtain ⟨m0, m1, m2, m3⟩ := box4 k5
        have HB2 := Lib.hid h2
        have hz := HZ.out
        clear hb3 h2 k0 k1 k5 cf a0 a1 a2 a3 af af0 af1 af2 af3
        go_wp2_with fail
        refine bodyPost_ret (v := .tuple #[.agg #[.int .i64 0, .int .i64 0, .int .u64 0, .int .u64 0], .bool false]) ?_ rfl ?_
        · simp [results, Try.results81, go_sem, m0, m1, m2, m3]
        · exact ⟨rfl, by rw [HBW.out]; exact Below.set4 HB2.out (Nat.le_refl _) _ _ _ _⟩
    · have hi := Lib.hid (show ¬ isHd l from fun h => hm h.1)
      rcases HD.out with ⟨hn, _⟩ | ⟨_, rfl, rfl⟩
      case inl => exact absurd hn hi.out
      clear hm
      generalize decide (hRight ⟨n1, n2, n3, n4⟩) = bb
      rintro e w3 ⟨rfl, hb3⟩
      obtain ⟨h2, k0, k1⟩ := HK.out w3 hb3
      obtain ⟨⟨c0, c1, c2, c3⟩, cf⟩ := box4f k0
      have cf0 := cf 0
      have cf1 := cf 1
      have cf2 := cf 2
      have cf3 := cf 3
      have k5 := box4_set (x' := .int .i64 0) (y' := .int .i64 0) (z' := .int .u64 0) (u' := .int .u64 0) k0
      obtain ⟨m0, m1, m2, m3⟩ := box4 k5
      have HB2 := Lib.hid h2
      have hz := HZ.out
      clear hb3 h2 k0 k1 k5 cf a0 a1 a2 a3 af af0 af1 af2 af3
      go_wp2_with fail
      refine bodyPost_ret (v := .tuple #[.agg #[.int .i64 0, .int .i64 0, .int .u64 0, .int .u64 0], .bool false]) ?_ rfl ?_
      · simp [results, Try.results81, go_sem, m0, m1, m2, m3]
      · exact ⟨rfl, by rw [HBW.out]; exact Below.set4 HB2.out (Nat.le_refl _) _ _ _ _⟩
end Go.Proofs.Ytfdhjeeaigfmfaa.Sp

namespace Go.Proofs.Ytfdhjeeaigfmfaa.Sp
open Go.RowKit Go.WideMaps Go.Proofs.Ytfdhjeeaigfmfaa.In Go.Proofs.Ytfdhjeeaigfmfaa.Plain
set_option linter.unusedVariables false
set_option linter.unusedSimpArgs false

theorem refS_set4 {base q b t : Nat} {w : World} {v x y z u : Value} {s : SpS} {cs : Array Value} {fr : Nat × Nat} (h : RefS base q w v s) (hb : w.heap[b]? = some (.cells cs t fr)) (ht : t ≠ 113) :
    RefS base q ((((w.setCell ⟨b, 0, none⟩ x).setCell ⟨b, 1, none⟩ y).setCell ⟨b, 2, none⟩ z).setCell ⟨b, 3, none⟩ u) v s := by
  obtain ⟨h1, _, e1⟩ := refS_set (o := 0) (u := x) h hb ht
  obtain ⟨h2, _, e2⟩ := refS_set (o := 1) (u := y) h1 e1 ht
  obtain ⟨h3, _, e3⟩ := refS_set (o := 2) (u := z) h2 e2 ht
  exact (refS_set (o := 3) (u := u) h3 e3 ht).1
theorem two_set {w : World} {b d t1 t2 : Nat} {x y z x' y' z' p q r s p' q' r' s' : Value} (h1 : w.heap[b]? = some (.cells #[x, y, z] t1 (0, 0))) (h2 : w.heap[d]? = some (.cells #[p, q, r, s] t2 (0, 0))) (hne : b ≠ d) :
    (((((((w.setCell ⟨b, 0, none⟩ x').setCell ⟨b, 1, none⟩ y').setCell ⟨b, 2, none⟩ z').setCell ⟨d, 0, none⟩ p').setCell ⟨d, 1, none⟩ q').setCell ⟨d, 2, none⟩ r').setCell ⟨d, 3, none⟩ s').heap[b]? = some (.cells #[x', y', z'] t1 (0, 0)) ∧
    (((((((w.setCell ⟨b, 0, none⟩ x').setCell ⟨b, 1, none⟩ y').setCell ⟨b, 2, none⟩ z').setCell ⟨d, 0, none⟩ p').setCell ⟨d, 1, none⟩ q').setCell ⟨d, 2, none⟩ r').setCell ⟨d, 3, none⟩ s').heap[d]? = some (.cells #[p', q', r', s'] t2 (0, 0)) := by
  constructor <;> simp [World.setCell, Array.getElem?_modify, h1, h2, hne, Ne.symm hne]
theorem two_t {w : World} {b d t1 t2 : Nat} {x y z x' y' z' p q r s : Value} (h1 : w.heap[b]? = some (.cells #[x, y, z] t1 (0, 0))) (h2 : w.heap[d]? = some (.cells #[p, q, r, s] t2 (0, 0))) (hne : b ≠ d) :
    (((w.setCell ⟨b, 0, none⟩ x').setCell ⟨b, 1, none⟩ y').setCell ⟨b, 2, none⟩ z').heap[d]? = some (.cells #[p, q, r, s] t2 (0, 0)) := by
  simp [World.setCell, Array.getElem?_modify, h1, h2, hne, Ne.symm hne]
set_option maxRecDepth 100000 in
set_option maxHeartbeats 4000000 in
theorem ref08Read_out {base q : Nat} {v : Value} {s : SpS} (p : Int) (W : World) (hs : RefS base q W v s) (hp : ¬ (0 ≤ p ∧ p < (s.pages : Int))) :
    Calls Try.prog 51 #[v, .int .i64 p] W fun e w' => e = .returned (.tuple #[v, .agg #[.int .i64 0, .int .i64 0, .int .u64 0, .int .u64 0], .int .i64 3]) ∧ Below W.heap.size W w' := by
  have HI := Lib.hid (fun W1 lv => ref08In_any (s.pages : Int) p s.ticks lv W1)
  obtain ⟨LA, Lm, Lc, rfl⟩ := refS_form hs
  have hd2 : decide (0 ≤ p ∧ p < (s.pages : Int)) = false := decide_eq_false hp
  rw [hd2] at HI
  clear hs hp hd2
  generalize (s.pages : Int) = pg at *
  generalize s.ticks = tk at *
  go_enter Try.func51, Try.ntmps51
  go_wp2_with fail
  refine (HI.out _ _).mono ?_
  rintro e' w1 ⟨rfl, hb⟩
  obtain ⟨e0, e1, e2, hbb⟩ := boxes3 hb
  have HB := Lib.hid hbb
  have HE1 := Lib.hid e1
  have HE2 := Lib.hid e2
  obtain ⟨a0, a1, a2, f1, f2, f0⟩ := box3 e0
  obtain ⟨b0, b1, b2, g1, g2, g0⟩ := box3 e1
  obtain ⟨⟨c0, c1, c2, c3⟩, cf⟩ := box4f e2
  have cf0 := cf 0
  have cf1 := cf 1
  have cf2 := cf 2
  have cf3 := cf 3
  obtain ⟨k4, k5⟩ := two_set (x' := .int .i64 pg) (y' := .slice LA Lm Lc) (z' := .int .i64 tk) (p' := .int .i64 0) (q' := .int .i64 0) (r' := .int .u64 0) (s' := .int .u64 0) e1 e2 (by omega)
  obtain ⟨m0, m1, m2, m3⟩ := box4 k5
  obtain ⟨n0, n1, n2, _⟩ := box3 k4
  clear hb e0 e1 e2 hbb cf k4 k5
  go_wp2_with fail
  refine bodyPost_ret (v := .tuple #[.agg #[.int .i64 pg, .slice LA Lm Lc, .int .i64 tk], .agg #[.int .i64 0, .int .i64 0, .int .u64 0, .int .u64 0], .int .i64 3]) ?_ rfl ?_
  · simp [results, Try.results51, go_sem, m0, m1, m2, m3, n0, n1, n2]
  · exact ⟨rfl, Below.set4 (Below.set3 HB.out (by omega) _ _ _) (by omega) _ _ _ _⟩

set_option maxRecDepth 100000 in
set_option maxHeartbeats 4000000 in
theorem ref08Read_in {base q : Nat} {v : Value} {s : SpS} (n : Nat) (W : World) (hs : RefS base q W v s) (hq : q ≤ 100000) (hn : n < s.pages) (hr : ∀ i, 0 ≤ s.mem i ∧ s.mem i ≤ 255) (x : Hd) (c : Int) (b : Bool)
    (hd : (isHd (seen s.mem (n * 4096) 32) ∧ x = ofL (seen s.mem (n * 4096) 32) ∧ b = true ∧ c = 0) ∨ (¬ isHd (seen s.mem (n * 4096) 32) ∧ x = ⟨0, 0, 0, 0⟩ ∧ b = false ∧ c = 5)) :
    Calls Try.prog 51 #[v, .int .i64 (n : Int)] W fun e w' => ∃ v', e = .returned (.tuple #[v', .agg #[.int .i64 x.pages, .int .i64 x.kind, .int .u64 x.owner, .int .u64 x.next], .int .i64 c]) ∧ RefS base q w' v' (tick s (touchedI ((n * 4096 : Nat) : Int) 32)) ∧ Below W.heap.size W w' := by
  have HI := Lib.hid (fun W1 lv => ref08In_any (s.pages : Int) (n : Int) s.ticks lv W1)
  have hp2 : s.pages ≤ 1048576 := by obtain ⟨_, _, _, _, _, _, _, _, h⟩ := hs; exact h
  have HL := Lib.hid (fun (W1 : World) (hb : Below W.heap.size W W1) => ref03Load_ok (n * 4096) 32 W1 (hs.below hb) hq (by omega) (by decide))
  have hl32 := seen_length s.mem (n * 4096) 32
  have hbs := seenH_bs hr (n * 4096) 32
  have HO := Lib.hid (fun (W1 : World) => ref08Of_any (seen s.mem (n * 4096) 32) W1 hl32 hbs (hdV x) b (by
    rcases hd with ⟨h1, h2, h3, h4⟩ | ⟨h1, h2, h3, h4⟩
    · exact .inl ⟨h1, by rw [h2], h3⟩
    · exact .inr ⟨h1, by rw [h2], h3⟩))
  have HCB := Lib.hid (show (b = true ∧ c = 0) ∨ (b = false ∧ x = ⟨0, 0, 0, 0⟩ ∧ c = 5) by
    rcases hd with ⟨h1, h2, h3, h4⟩ | ⟨h1, h2, h3, h4⟩
    · exact .inl ⟨h3, h4⟩
    · exact .inr ⟨h3, h2, h4⟩)
  have hd2 : decide (0 ≤ (n : Int) ∧ (n : Int) < (s.pages : Int)) = true := decide_eq_true (by omega)
  rw [hd2] at HI
  have WN : IntKind.u64.wrap (n : Int) = (n : Int) := by rw [IntKind.wrap_u64]; omega
  have hn2 : (n : Int) ≤ 1048576 := by omega
  obtain ⟨LA, Lm, Lc, rfl⟩ := refS_form hs
  obtain ⟨T, hT⟩ : ∃ T : Int, ((n * 4096 : Nat) : Int) = T := ⟨_, rfl⟩
  have WM : (n : Int) * 4096 = T := by omega
  rw [hT] at HL ⊢
  generalize strOfNums (seen s.mem (n * 4096) 32) = X at *
  generalize tick s (touchedI T ((32 : Nat) : Int)) = s1 at *
  have hxv : hdV x = .agg #[.int .i64 x.pages, .int .i64 x.kind, .int .u64 x.owner, .int .u64 x.next] := rfl
  rw [hxv] at HO
  obtain ⟨x1, x2, x3, x4⟩ := x
  simp only at HO HCB ⊢
  clear hs hn hr hd hp2 hd2 hbs hl32 hT hxv
  generalize (s.pages : Int) = pg at *
  generalize s.ticks = tk at *
  go_enter Try.func51, Try.ntmps51
  go_wp2_with fail
  refine (HI.out _ _).mono ?_
  rintro e' w1 ⟨rfl, hb⟩
  obtain ⟨e0, e1, e2, hbb⟩ := boxes3 hb
  have HB := Lib.hid (And.intro hbb (And.intro e1 e2))
  obtain ⟨a0, a1, a2, f1, f2, f0⟩ := box3 e0
  clear hb e0 e1 e2 hbb
  go_wp2_with fail
  refine (HL.out _ HB.out.1).mono ?_
  rintro e' w2 ⟨v', rfl, hs2, hb2⟩
  obtain ⟨A2, m2, c2, rfl⟩ := refS_form hs2
  have e1 := (hb2.block _ (Array.getElem?_eq_some_iff.1 HB.out.2.1).1).trans HB.out.2.1
  have e2 := (hb2.block _ (Array.getElem?_eq_some_iff.1 HB.out.2.2).1).trans HB.out.2.2
  have HB2 := Lib.hid (And.intro (HB.out.1.trans (hb2.mono HB.out.1.size)) (And.intro e1 (And.intro e2 hs2)))
  clear hs2 hb2 e1 e2 a0 a1 a2 f0 f1 f2 HB WN WM hn2
  go_wp2_with fail
  refine (HO.out _).mono ?_
  rintro e' w3 ⟨rfl, hb3⟩
  have hb4 := ((Below.refl w2.heap.size w2).alloc (Nat.le_refl _) (.cells #[.int .i64 (s1.pages : Int), .slice A2 m2 c2, .int .i64 s1.ticks] 29)).trans (hb3.mono (by simp))
  have e1 := (hb4.block _ (Array.getElem?_eq_some_iff.1 HB2.out.2.1).1).trans HB2.out.2.1
  have e2 := (hb4.block _ (Array.getElem?_eq_some_iff.1 HB2.out.2.2.1).1).trans HB2.out.2.2.1
  have e3 := (hb3.block _ (Array.getElem?_eq_some_iff.1 (al_new (w := w2) (o := .cells #[.int .i64 (s1.pages : Int), .slice A2 m2 c2, .int .i64 s1.ticks] 29) rfl)).1).trans (al_new rfl)
  have HB4 := Lib.hid (And.intro (HB2.out.1.trans (hb4.mono HB2.out.1.size)) (HB2.out.2.2.2.below hb4))
  have o1 := fun o => al_old (o := o) e1
  have o2 := fun o => al_old (o := o) e2
  have o3 := fun o => al_old (o := o) e3
  have HO1 := Lib.hid o1
  have HO2 := Lib.hid o2
  have a0 := fun o => (box3 (o3 o)).1
  have a1 := fun o => (box3 (o3 o)).2.1
  have a2 := fun o => (box3 (o3 o)).2.2.1
  have b0 := fun o => (box3 (o1 o)).1
  have b1 := fun o => (box3 (o1 o)).2.1
  have b2 := fun o => (box3 (o1 o)).2.2.1
  have g1 := fun o => (box3 (o1 o)).2.2.2.1
  have g2 := fun o => (box3 (o1 o)).2.2.2.2.1
  have g0 := fun o => (box3 (o1 o)).2.2.2.2.2
  have c0 := fun o => (box4f (o2 o)).1.1
  have c1 := fun o => (box4f (o2 o)).1.2.1
  have c2' := fun o => (box4f (o2 o)).1.2.2.1
  have c3 := fun o => (box4f (o2 o)).1.2.2.2
  have cf0 := fun o => (box4f (o2 o)).2 0
  have cf1 := fun o => (box4f (o2 o)).2 1
  have cf2 := fun o => (box4f (o2 o)).2 2
  have cf3 := fun o => (box4f (o2 o)).2 3
  have HZ3 := Lib.hid (show W.heap.size + 2 < w3.heap.size from (Array.getElem?_eq_some_iff.1 e2).1)
  clear hb3 hb4 e1 e2 e3 o1 o2 o3 HB2
  rcases HCB.out with ⟨rfl, rfl⟩ | ⟨rfl, hx0, rfl⟩
  · have HE4 := Lib.hid (fun w (hw : w3.alloc (.cells #[.int .i64 x1, .int .i64 x2, .int .u64 x3, .int .u64 x4] 85) = w) => (two_set (x' := .int .i64 (s1.pages : Int)) (y' := .slice A2 m2 c2) (z' := .int .i64 s1.ticks) (p' := .int .i64 x1) (q' := .int .i64 x2) (r' := .int .u64 x3) (s' := .int .u64 x4) (hw ▸ HO1.out _) (hw ▸ HO2.out _) (by omega)))
    have hz3 : W.heap.size + 2 < w3.heap.size := by
      exact HZ3.out
    have hn1 : ¬ W.heap.size + 1 = w3.heap.size := by omega
    have hn2 : ¬ w3.heap.size = W.heap.size + 1 := by omega
    have hn3 : ¬ W.heap.size + 1 + 1 = w3.heap.size := by omega
    have hn4 : ¬ w3.heap.size = W.heap.size + 1 + 1 := by omega
    go_wp2_with fail
    clear hz3
    go_region_with fail
    all_goals
      obtain ⟨k4, k5⟩ := HE4.out _ rfl
      obtain ⟨m0, m1, m2', m3⟩ := box4 k5
      obtain ⟨n0, n1, n2, _⟩ := box3 k4
      clear k4 k5
      go_wp2
      refine bodyPost_ret (v := .tuple #[.agg #[.int .i64 (s1.pages : Int), .slice A2 m2 c2, .int .i64 s1.ticks], .agg #[.int .i64 x1, .int .i64 x2, .int .u64 x3, .int .u64 x4], .int .i64 0]) ?_ rfl ?_
      · simp [results, Try.results51, go_sem, Act.put, m0, m1, m2', m3, n0, n1, n2]
      · exact ⟨_, rfl, (refS_set4 (refS_set3 (HB4.out.2.below ((Below.refl _ _).alloc (Nat.le_refl _) _)) (HO1.out _) (by decide)) (two_t (HO1.out _) (HO2.out _) (by omega)) (by decide)).below (Below.refl _ _).drew, (Below.set4 (Below.set3 (HB4.out.1.alloc HB4.out.1.size _) (by omega) _ _ _) (by omega) _ _ _ _).drew⟩
  · obtain ⟨k4, k5⟩ := two_set (x' := .int .i64 (s1.pages : Int)) (y' := .slice A2 m2 c2) (z' := .int .i64 s1.ticks) (p' := .int .i64 0) (q' := .int .i64 0) (r' := .int .u64 0) (s' := .int .u64 0) (HO1.out (.cells #[.int .i64 x1, .int .i64 x2, .int .u64 x3, .int .u64 x4] 85)) (HO2.out _) (by omega)
    obtain ⟨m0, m1, m2', m3⟩ := box4 k5
    obtain ⟨n0, n1, n2, _⟩ := box3 k4
    clear k4 k5
    injection hx0 with hx1 hx2 hx3 hx4
    have HX := Lib.hid (And.intro hx1 (And.intro hx2 (And.intro hx3 hx4)))
    clear hx1 hx2 hx3 hx4
    go_wp2_with fail
    refine bodyPost_ret (v := .tuple #[.agg #[.int .i64 (s1.pages : Int), .slice A2 m2 c2, .int .i64 s1.ticks], .agg #[.int .i64 0, .int .i64 0, .int .u64 0, .int .u64 0], .int .i64 5]) ?_ rfl ?_
    · simp [results, Try.results51, go_sem, m0, m1, m2', m3, n0, n1, n2]
    · obtain ⟨q1, q2, q3, q4⟩ := HX.out
      exact ⟨_, by rw [q1, q2, q3, q4], refS_set4 (refS_set3 (HB4.out.2.below ((Below.refl _ _).alloc (Nat.le_refl _) _)) (HO1.out _) (by decide)) (two_t (HO1.out _) (HO2.out _) (by omega)) (by decide), Below.set4 (Below.set3 (HB4.out.1.alloc HB4.out.1.size _) (by omega) _ _ _) (by omega) _ _ _ _⟩
end Go.Proofs.Ytfdhjeeaigfmfaa.Sp

namespace Go.Proofs.Ytfdhjeeaigfmfaa.Sp
open Go.RowKit Go.WideMaps Go.Proofs.Ytfdhjeeaigfmfaa.In Go.Proofs.Ytfdhjeeaigfmfaa.Plain
set_option linter.unusedVariables false
set_option linter.unusedSimpArgs false

def zH : Value := .agg #[.int .i64 0, .int .i64 0, .int .u64 0, .int .u64 0]
set_option maxRecDepth 100000 in
set_option maxHeartbeats 4000000 in
theorem ref08Link_bad {base q : Nat} {v : Value} {s s1 : SpS} (p nx c : Int) (W : World) (hs : RefS base q W v s) (hc : (c == 0) = false)
    (hL : ∀ W1, Below W.heap.size W W1 → Calls Try.prog 51 #[v, .int .i64 p] W1 fun e w' => ∃ v', e = .returned (.tuple #[v', .agg #[.int .i64 0, .int .i64 0, .int .u64 0, .int .u64 0], .int .i64 c]) ∧ RefS base q w' v' s1 ∧ Below W1.heap.size W1 w') :
    Calls Try.prog 53 #[v, .int .i64 p, .int .u64 nx] W fun e w' => ∃ v', e = .returned (.tuple #[v', .int .i64 c]) ∧ RefS base q w' v' s1 ∧ Below W.heap.size W w' := by
  have HL := Lib.hid hL
  obtain ⟨LA, Lm, Lc, rfl⟩ := refS_form hs
  generalize (s.pages : Int) = pg at *
  generalize s.ticks = tk at *
  have hc2 : (c != 0) = true := by simpa using hc
  clear hs hL
  go_enter Try.func53, Try.ntmps53
  go_wp2_with fail
  refine (HL.out _ (((Below.refl _ _).alloc (Nat.le_refl _) _).alloc (by simp) _)).mono ?_
  rintro e' w1 ⟨v', rfl, hs1, hb⟩
  obtain ⟨A2, m2, c2, rfl⟩ := refS_form hs1
  obtain ⟨e0, e1, hbb⟩ := boxes2 hb
  have HB := Lib.hid (And.intro hbb (And.intro e1 hs1))
  have b0 := fun o o' => (box3 (al_old (o := o) (al_old (o := o') e1))).1
  have b1 := fun o o' => (box3 (al_old (o := o) (al_old (o := o') e1))).2.1
  have b2 := fun o o' => (box3 (al_old (o := o) (al_old (o := o') e1))).2.2.1
  have g1 := fun o o' => (box3 (al_old (o := o) (al_old (o := o') e1))).2.2.2.1
  have g2 := fun o o' => (box3 (al_old (o := o) (al_old (o := o') e1))).2.2.2.2.1
  have g0 := fun o o' => (box3 (al_old (o := o) (al_old (o := o') e1))).2.2.2.2.2
  clear hb e0 e1 hbb hs1
  go_wp2_with fail
  refine bodyPost_ret (v := .tuple #[.agg #[.int .i64 (s1.pages : Int), .slice A2 m2 c2, .int .i64 s1.ticks], .int .i64 c]) ?_ rfl ?_
  · simp [results, Try.results53, go_sem, b0, b1, b2]
  · exact ⟨_, rfl, refS_set3 (HB.out.2.2.below (((Below.refl _ _).alloc (Nat.le_refl _) _).alloc (by simp) _)) (al_old (al_old HB.out.2.1)) (by decide), Below.set3 ((HB.out.1.alloc HB.out.1.size _).alloc (by have := HB.out.1.size; simp; omega) _) (by omega) _ _ _⟩

set_option maxRecDepth 100000 in
set_option maxHeartbeats 4000000 in
theorem ref08Link_gen {base q q' : Nat} {v : Value} {s s0 s1 : SpS} (n : Nat) (x : Hd) (nx c : Int) (W : World) (hs : RefS base q W v s) (hn : n < 1048576) (hr : hRight x) (ho : 0 ≤ x.owner ∧ x.owner ≤ 18446744073709551615) (hx : 0 ≤ nx ∧ nx ≤ 18446744073709551615)
    (hL : ∀ W1, Below W.heap.size W W1 → Calls Try.prog 51 #[v, .int .i64 (n : Int)] W1 fun e w' => ∃ v', e = .returned (.tuple #[v', .agg #[.int .i64 x.pages, .int .i64 x.kind, .int .u64 x.owner, .int .u64 x.next], .int .i64 0]) ∧ RefS base q w' v' s0 ∧ Below W1.heap.size W1 w')
    (hS : ∀ W1 v1, Below W.heap.size W W1 → RefS base q W1 v1 s0 → Calls Try.prog 21 #[v1, .int .u64 ((n * 4096 : Nat) : Int), .string (strOfNums (hdL ⟨x.pages, x.kind, x.owner, nx⟩))] W1 fun e w' => ∃ v', e = .returned (.tuple #[v', .int .i64 c]) ∧ RefS base q' w' v' s1 ∧ Below W1.heap.size W1 w') :
    Calls Try.prog 53 #[v, .int .i64 (n : Int), .int .u64 nx] W fun e w' => ∃ v', e = .returned (.tuple #[v', .int .i64 c]) ∧ RefS base q' w' v' s1 ∧ Below W.heap.size W w' := by
  have HRD := Lib.hid hL
  have HST := Lib.hid hS
  have HY := Lib.hid (fun W1 => ref08Bytes_any ⟨x.pages, x.kind, x.owner, nx⟩ W1 hr ho hx)
  have WN := Lib.hid (show IntKind.u64.wrap (n : Int) = (n : Int) by rw [IntKind.wrap_u64]; omega)
  have WM := Lib.hid (show IntKind.u64.wrap ((n : Int) * 4096) = ((n * 4096 : Nat) : Int) by rw [IntKind.wrap_u64]; omega)
  obtain ⟨LA, Lm, Lc, rfl⟩ := refS_form hs
  generalize (s.pages : Int) = pg0 at *
  generalize s.ticks = tk0 at *
  obtain ⟨T, hT⟩ : ∃ T : Int, ((n * 4096 : Nat) : Int) = T := ⟨_, rfl⟩
  rw [hT] at HST WM
  obtain ⟨h1, h2, h3, h5⟩ := x
  simp only at HY HST HRD
  generalize strOfNums (hdL ⟨h1, h2, h3, nx⟩) = X at *
  clear hs hL hS hr ho hx hT hn
  go_enter Try.func53, Try.ntmps53
  go_wp2_with fail
  refine (HRD.out _ (((Below.refl _ _).alloc (Nat.le_refl _) _).alloc (by simp) _)).mono ?_
  rintro e' w1 ⟨v', rfl, hs1, hb⟩
  obtain ⟨LA, Lm, Lc, rfl⟩ := refS_form hs1
  obtain ⟨e0, e1, hbb⟩ := boxes2 hb
  have HB1 := Lib.hid (And.intro hbb (And.intro e1 hs1))
  clear hb e0 e1 hbb hs1
  go_wp2_with fail
  generalize (s0.pages : Int) = pg at *
  generalize s0.ticks = tk at *
  have HW2 : RowKit.Hid (Below W.heap.size W ((w1.alloc (.cells #[.int .i64 pg, .slice LA Lm Lc, .int .i64 tk] 29)).alloc (.cells #[.int .i64 h1, .int .i64 h2, .int .u64 h3, .int .u64 nx] 85)) ∧ RefS base q ((w1.alloc (.cells #[.int .i64 pg, .slice LA Lm Lc, .int .i64 tk] 29)).alloc (.cells #[.int .i64 h1, .int .i64 h2, .int .u64 h3, .int .u64 nx] 85)) (.agg #[.int .i64 pg, .slice LA Lm Lc, .int .i64 tk]) s0) := ⟨(HB1.out.1.alloc HB1.out.1.size _).alloc (by have := HB1.out.1.size; simp; omega) _, HB1.out.2.2.below (((Below.refl _ _).alloc (Nat.le_refl _) _).alloc (by simp) _)⟩
  have HE2 := Lib.hid (show ((w1.alloc (.cells #[.int .i64 pg, .slice LA Lm Lc, .int .i64 tk] 29)).alloc (.cells #[.int .i64 h1, .int .i64 h2, .int .u64 h3, .int .u64 nx] 85)).heap[W.heap.size + 1]? = some (.cells #[.int .i64 0, .slice none 0 0, .int .i64 0] 29 (0, 0)) from al_old (al_old HB1.out.2.1))
  have HE0 := Lib.hid (show ((w1.alloc (.cells #[.int .i64 pg, .slice LA Lm Lc, .int .i64 tk] 29)).alloc (.cells #[.int .i64 h1, .int .i64 h2, .int .u64 h3, .int .u64 nx] 85)).heap[w1.heap.size]? = some (.cells #[.int .i64 pg, .slice LA Lm Lc, .int .i64 tk] 29 (0, 0)) from al_old (al_new rfl))
  have HE1 := Lib.hid (show ((w1.alloc (.cells #[.int .i64 pg, .slice LA Lm Lc, .int .i64 tk] 29)).alloc (.cells #[.int .i64 h1, .int .i64 h2, .int .u64 h3, .int .u64 nx] 85)).heap[w1.heap.size + 1]? = some (.cells #[.int .i64 h1, .int .i64 h2, .int .u64 h3, .int .u64 nx] 85 (0, 0)) from al_new (by simp))
  generalize (w1.alloc (.cells #[.int .i64 pg, .slice LA Lm Lc, .int .i64 tk] 29)).alloc (.cells #[.int .i64 h1, .int .i64 h2, .int .u64 h3, .int .u64 nx] 85) = w2 at *
  have HB := Lib.hid HW2.out.1
  have HL : RowKit.Hid (∀ W1, Below W.heap.size W W1 → Below w2.heap.size w2 W1 → _) := fun W1 hb1 hb2 => HST.out W1 _ hb1 (HW2.out.2.below hb2)
  obtain ⟨B, hB⟩ : ∃ B, W.heap.size = B := ⟨_, rfl⟩
  have HBS := Lib.hid hB
  rw [hB] at HE2 ⊢
  clear hB
  refine Rg.wp_region_grow 9 11 rfl (by kernel_rfl) (fun ix W vv => match ix with
    | 0 => vv = .agg #[.int .i64 pg, .slice LA Lm Lc, .int .i64 tk]
    | 1 => vv = .int .i64 (n : Int)
    | 2 => vv = .int .u64 (n : Int)
    | 3 => vv = .int .u64 T
    | 4 => vv = .agg #[.int .i64 h1, .int .i64 h2, .int .u64 h3, .int .u64 nx]
    | 5 => vv = .string X
    | 6 => ∃ v' : Value, vv = .tuple #[v', .int .i64 c] ∧ RefS base q' W v' s1
    | 7 => ∃ v' : Value, vv = v' ∧ RefS base q' W v' s1
    | 8 => vv = .int .i64 c
    | _ => True) ?_ ?_ ?_
  · intro ix W W' vv hix h hb
    have hj2 : ix = 0 ∨ ix = 1 ∨ ix = 2 ∨ ix = 3 ∨ ix = 4 ∨ ix = 5 ∨ ix = 6 ∨ ix = 7 ∨ ix = 8 := by omega
    rcases hj2 with rfl | rfl | rfl | rfl | rfl | rfl | rfl | rfl | rfl
    all_goals first
      | exact h
      | obtain ⟨v', e1, e2⟩ := h
        exact ⟨v', e1, e2.below hb⟩
  · intro ix a W K hix hbl hfr hdep hK
    have hj2 : ix = 0 ∨ ix = 1 ∨ ix = 2 ∨ ix = 3 ∨ ix = 4 ∨ ix = 5 ∨ ix = 6 ∨ ix = 7 ∨ ix = 8 := by omega
    rcases hj2 with rfl | rfl | rfl | rfl | rfl | rfl | rfl | rfl | rfl
    · have s8 : a.tmps[8]? = some _ := hfr 8 (by kernel_rfl)
      obtain ⟨q0, q1, q2, _⟩ := box3 ((hbl.block _ (Array.getElem?_eq_some_iff.1 HE0.out).1).trans HE0.out)
      refine Rg.wpOp_wp rfl rfl ?_
      go_simp
      exact hK _ _ rfl (Below.refl _ _)
    · have s1 : a.tmps[1]? = some _ := hfr 1 (by kernel_rfl)
      refine Rg.wpOp_wp rfl rfl ?_
      go_simp
      exact hK _ _ rfl (Below.refl _ _)
    · obtain ⟨_, s25, rfl⟩ := hdep 1 25 (by kernel_rfl) rfl
      refine Rg.wpOp_wp rfl rfl ?_
      go_simp
      exact hK _ _ (by show (_ : Value) = _; rw [WN.out]) (Below.refl _ _)
    · obtain ⟨_, s26, rfl⟩ := hdep 2 26 (by kernel_rfl) rfl
      refine Rg.wpOp_wp rfl rfl ?_
      go_simp
      exact hK _ _ (by show (_ : Value) = _; rw [WM.out]) (Below.refl _ _)
    · have s9 : a.tmps[9]? = some _ := hfr 9 (by kernel_rfl)
      obtain ⟨q0, q1, q2, q3⟩ := box4 ((hbl.block _ (Array.getElem?_eq_some_iff.1 HE1.out).1).trans HE1.out)
      refine Rg.wpOp_wp rfl rfl ?_
      go_simp
      exact hK _ _ rfl (Below.refl _ _)
    · obtain ⟨_, s28, rfl⟩ := hdep 4 28 (by kernel_rfl) rfl
      refine Rg.wpOp_wp rfl rfl ?_
      go_simp
      refine (HY.out W).mono ?_
      rintro e w8 ⟨rfl, hb8⟩
      exact hK _ _ rfl hb8
    · obtain ⟨_, s24, rfl⟩ := hdep 0 24 (by kernel_rfl) rfl
      obtain ⟨_, s27, rfl⟩ := hdep 3 27 (by kernel_rfl) rfl
      obtain ⟨_, s29, rfl⟩ := hdep 5 29 (by kernel_rfl) rfl
      refine Rg.wpOp_wp rfl rfl ?_
      go_simp
      refine (HL.out W (HB.out.trans (hbl.mono HB.out.size)) hbl).mono ?_
      rintro e w8 ⟨v8, rfl, hs8, hb8⟩
      exact hK _ _ ⟨v8, rfl, hs8⟩ hb8
    · obtain ⟨_, s30, ⟨v6, rfl, hs6⟩⟩ := hdep 6 30 (by kernel_rfl) rfl
      refine Rg.wpOp_wp rfl rfl ?_
      go_simp
      exact hK _ _ ⟨v6, rfl, hs6⟩ (Below.refl _ _)
    · obtain ⟨_, s30, ⟨v6, rfl, hs6⟩⟩ := hdep 6 30 (by kernel_rfl) rfl
      refine Rg.wpOp_wp rfl rfl ?_
      go_simp
      exact hK _ _ rfl (Below.refl _ _)
  · intro vv W hvv hbl
    obtain ⟨v7, e7, hs7⟩ := hvv 7 (by decide)
    have e8 : vv 8 = .int .i64 c := hvv 8 (by decide)
    obtain ⟨A7, m7, c7, rfl⟩ := refS_form hs7
    have HS7 := Lib.hid hs7
    have HE2w := Lib.hid ((hbl.block _ (Array.getElem?_eq_some_iff.1 HE2.out).1).trans HE2.out)
    obtain ⟨b0, b1, b2, g1, g2, g0⟩ := box3 HE2w.out
    have HBE := Lib.hid (HB.out.trans (hbl.mono HB.out.size))
    clear hvv hbl hs7
    refine Rg.of_fakes_tail [Rg.fake (some 24) (vv 0), Rg.fake (some 25) (vv 1), Rg.fake (some 26) (vv 2), Rg.fake (some 27) (vv 3), Rg.fake (some 28) (vv 4), Rg.fake (some 29) (vv 5), Rg.fake (some 30) (vv 6), Rg.fake (some 31) (vv 7), Rg.fake (some 32) (vv 8)] rfl (by decide) rfl (by kernel_rfl) ?_
    simp only [Rg.fake, e7, e8]
    go_wp2_with fail
    refine bodyPost_ret (v := .tuple #[.agg #[.int .i64 (s1.pages : Int), .slice A7 m7 c7, .int .i64 s1.ticks], .int .i64 c]) ?_ rfl ?_
    · simp [results, Try.results53, go_sem, b0, b1, b2]
    · exact ⟨_, rfl, refS_set3 HS7.out HE2w.out (by decide), Below.set3 HBE.out (by have := HBS.out; omega) _ _ _⟩
theorem lay_link (mem : Nat → Int) (t : Nat) (x : Int) (hr : ∀ i, 0 ≤ mem i ∧ mem i ≤ 255) (hd : isHd (seen mem t 32)) :
    lay mem t (hdL ⟨(ofL (seen mem t 32)).pages, (ofL (seen mem t 32)).kind, (ofL (seen mem t 32)).owner, x⟩) = lay mem (t + 24) (le 8 x) := by
  have hbs := seenH_bs hr t 32
  have hln := seen_length mem t 32
  have key : hdL ⟨(ofL (seen mem t 32)).pages, (ofL (seen mem t 32)).kind, (ofL (seen mem t 32)).owner, x⟩ = (seen mem t 32).take 24 ++ le 8 x := by
    have e : ∀ i k, i + k ≤ 32 → le k (num (((seen mem t 32).drop i).take k)) = ((seen mem t 32).drop i).take k := fun i k h => by
      have h1 : (((seen mem t 32).drop i).take k).length = k := by rw [List.length_take, List.length_drop, hln]; omega
      have h2 := le_num (bs_take (bs_drop hbs i) k)
      rwa [h1] at h2
    unfold hdL ofL
    simp only
    rw [e 8 4 (by omega), e 12 4 (by omega), e 16 8 (by omega), ← hd.1]
    have j : ∀ (l : List Int) a b, l.take a ++ (l.drop a).take b = l.take (a + b) := fun l a b => by rw [List.take_add]
    rw [← List.append_assoc, ← List.append_assoc, j, j, List.append_assoc, ← List.append_assoc, j]
  rw [key]
  have s24 : (seen mem t 32).take 24 = seen mem t 24 := by
    simp only [seen, ← List.map_take, List.take_range]
    rfl
  have hl : lay mem t (seen mem t 24) = mem := by
    funext i
    unfold lay
    split
    · rename_i h
      rw [seen_length] at h
      rw [seen_getD _ _ _ _ (by omega)]
      congr 1
      omega
    · rfl
  rw [s24, ← lay_lay, seen_length, hl]
theorem ref08Link_no {base q : Nat} {v : Value} {s : SpS} (n : Nat) (nx : Int) (W : World) (hs : RefS base q W v s) (hq : q ≤ 100000) (hn : n < s.pages) (hr : ∀ i, 0 ≤ s.mem i ∧ s.mem i ≤ 255) (hd : ¬ isHd (seen s.mem (n * 4096) 32)) :
    Calls Try.prog 53 #[v, .int .i64 (n : Int), .int .u64 nx] W fun e w' => ∃ v', e = .returned (.tuple #[v', .int .i64 5]) ∧ RefS base q w' v' (tick s (touchedI ((n * 4096 : Nat) : Int) 32)) ∧ Below W.heap.size W w' :=
  ref08Link_bad (n : Int) nx 5 W hs rfl (fun W1 hb => ref08Read_in n W1 (hs.below hb) hq hn hr ⟨0, 0, 0, 0⟩ 5 false (.inr ⟨hd, rfl, rfl, rfl⟩))
theorem ref08Link_out {base q : Nat} {v : Value} {s : SpS} (p nx : Int) (W : World) (hs : RefS base q W v s) (hp : ¬ (0 ≤ p ∧ p < (s.pages : Int))) :
    Calls Try.prog 53 #[v, .int .i64 p, .int .u64 nx] W fun e w' => ∃ v', e = .returned (.tuple #[v', .int .i64 3]) ∧ RefS base q w' v' s ∧ Below W.heap.size W w' :=
  ref08Link_bad p nx 3 W hs rfl (fun W1 hb => (ref08Read_out p W1 (hs.below hb) hp).mono fun e w' h => ⟨v, h.1, (hs.below hb).below h.2, h.2⟩)
theorem touched_w (s : SpS) (m m' : Nat → Int) (n : Nat) : tick { tick s (touchedI ((n * 4096 : Nat) : Int) 32) with mem := m } (touchedI ((n * 4096 : Nat) : Int) 32) = tick { tick s (touchedI ((n * 4096 : Nat) : Int) 32) with mem := m } (touchedI ((n * 4096 + 24 : Nat) : Int) 8) := by
  rw [touched_page, touched_next]
theorem ref08Link_ok {base q : Nat} {v : Value} {s : SpS} (n : Nat) (nx : Int) (W : World) (hs : RefS base q W v s) (hq : q ≤ 100000) (hB : base ≤ W.heap.size) (hn : n < s.pages) (hr : ∀ i, 0 ≤ s.mem i ∧ s.mem i ≤ 255) (hd : isHd (seen s.mem (n * 4096) 32)) (hx : 0 ≤ nx ∧ nx ≤ 18446744073709551615) :
    Calls Try.prog 53 #[v, .int .i64 (n : Int), .int .u64 nx] W fun e w' => ∃ v', e = .returned (.tuple #[v', .int .i64 0]) ∧ RefS base (q + 1) w' v' (linked s (n * 4096) nx) ∧ Below W.heap.size W w' := by
  have hp2 : s.pages ≤ 1048576 := by obtain ⟨_, _, _, _, _, _, _, _, h⟩ := hs; exact h
  have ho : 0 ≤ (ofL (seen s.mem (n * 4096) 32)).owner ∧ (ofL (seen s.mem (n * 4096) 32)).owner ≤ 18446744073709551615 := by
    have h3 := num_range (bs_take (bs_drop (seenH_bs hr (n * 4096) 32) 16) 8)
    have h4 : (((seen s.mem (n * 4096) 32).drop 16).take 8).length = 8 := by rw [List.length_take, List.length_drop, seen_length]; rfl
    rw [h4] at h3
    unfold ofL
    simp only
    omega
  refine ref08Link_gen n (ofL (seen s.mem (n * 4096) 32)) nx 0 W hs (by omega) hd.2 ho hx (fun W1 hb => ref08Read_in n W1 (hs.below hb) hq hn hr _ 0 true (.inl ⟨hd, rfl, rfl, rfl⟩)) (fun W1 v1 hb hs1 => ?_)
  have h := ref03Store_ok (n * 4096) 32 (hdL ⟨(ofL (seen s.mem (n * 4096) 32)).pages, (ofL (seen s.mem (n * 4096) 32)).kind, (ofL (seen s.mem (n * 4096) 32)).owner, nx⟩) W1 hs1 hq (Nat.le_trans hB hb.size) (by show n * 4096 + 32 ≤ s.pages * 4096; omega) (hdL_length _) (hdL_bs _) (by decide)
  have e : tick { tick s (touchedI ((n * 4096 : Nat) : Int) 32) with mem := lay (tick s (touchedI ((n * 4096 : Nat) : Int) 32)).mem (n * 4096) (hdL ⟨(ofL (seen s.mem (n * 4096) 32)).pages, (ofL (seen s.mem (n * 4096) 32)).kind, (ofL (seen s.mem (n * 4096) 32)).owner, nx⟩) } (touchedI ((n * 4096 : Nat) : Int) ((32 : Nat) : Int)) = linked s (n * 4096) nx := by
    rw [show (tick s (touchedI ((n * 4096 : Nat) : Int) 32)).mem = s.mem from rfl, lay_link s.mem (n * 4096) nx hr hd]
    exact touched_w s _ s.mem n
  rw [e] at h
  exact h
set_option maxRecDepth 100000 in
set_option maxHeartbeats 4000000 in
theorem ref08Clear_bad {base q : Nat} {v : Value} {s s1 : SpS} (p c : Int) (W : World) (hs : RefS base q W v s) (hc : (c == 0) = false)
    (hL : ∀ W1, Below W.heap.size W W1 → Calls Try.prog 51 #[v, .int .i64 p] W1 fun e w' => ∃ v', e = .returned (.tuple #[v', .agg #[.int .i64 0, .int .i64 0, .int .u64 0, .int .u64 0], .int .i64 c]) ∧ RefS base q w' v' s1 ∧ Below W1.heap.size W1 w') :
    Calls Try.prog 55 #[v, .int .i64 p] W fun e w' => ∃ v', e = .returned (.tuple #[v', .int .i64 c]) ∧ RefS base q w' v' s1 ∧ Below W.heap.size W w' := by
  have HL := Lib.hid hL
  obtain ⟨LA, Lm, Lc, rfl⟩ := refS_form hs
  generalize (s.pages : Int) = pg at *
  generalize s.ticks = tk at *
  have hc2 : (c != 0) = true := by simpa using hc
  clear hs hL
  go_enter Try.func55, Try.ntmps55
  go_wp2_with fail
  refine (HL.out _ (((Below.refl _ _).alloc (Nat.le_refl _) _).alloc (by simp) _)).mono ?_
  rintro e' w1 ⟨v', rfl, hs1, hb⟩
  obtain ⟨A2, m2, c2, rfl⟩ := refS_form hs1
  obtain ⟨e0, e1, hbb⟩ := boxes2 hb
  have HB := Lib.hid (And.intro hbb (And.intro e1 hs1))
  have b0 := fun o o' => (box3 (al_old (o := o) (al_old (o := o') e1))).1
  have b1 := fun o o' => (box3 (al_old (o := o) (al_old (o := o') e1))).2.1
  have b2 := fun o o' => (box3 (al_old (o := o) (al_old (o := o') e1))).2.2.1
  have g1 := fun o o' => (box3 (al_old (o := o) (al_old (o := o') e1))).2.2.2.1
  have g2 := fun o o' => (box3 (al_old (o := o) (al_old (o := o') e1))).2.2.2.2.1
  have g0 := fun o o' => (box3 (al_old (o := o) (al_old (o := o') e1))).2.2.2.2.2
  clear hb e0 e1 hbb hs1
  go_wp2_with fail
  refine bodyPost_ret (v := .tuple #[.agg #[.int .i64 (s1.pages : Int), .slice A2 m2 c2, .int .i64 s1.ticks], .int .i64 c]) ?_ rfl ?_
  · simp [results, Try.results55, go_sem, b0, b1, b2]
  · exact ⟨_, rfl, refS_set3 (HB.out.2.2.below (((Below.refl _ _).alloc (Nat.le_refl _) _).alloc (by simp) _)) (al_old (al_old HB.out.2.1)) (by decide), Below.set3 ((HB.out.1.alloc HB.out.1.size _).alloc (by have := HB.out.1.size; simp; omega) _) (by omega) _ _ _⟩

set_option maxRecDepth 100000 in
set_option maxHeartbeats 4000000 in
theorem ref08Clear_gen {base q q' : Nat} {v : Value} {s s0 s1 : SpS} (n : Nat) (x : Hd) (c : Int) (W : World) (hs : RefS base q W v s) (hn : n < 1048576)
    (hL : ∀ W1, Below W.heap.size W W1 → Calls Try.prog 51 #[v, .int .i64 (n : Int)] W1 fun e w' => ∃ v', e = .returned (.tuple #[v', .agg #[.int .i64 x.pages, .int .i64 x.kind, .int .u64 x.owner, .int .u64 x.next], .int .i64 0]) ∧ RefS base q w' v' s0 ∧ Below W1.heap.size W1 w')
    (hS : ∀ W1 v1, Below W.heap.size W W1 → RefS base q W1 v1 s0 → Calls Try.prog 23 #[v1, .int .u64 ((n * 4096 : Nat) : Int), .int .u64 32] W1 fun e w' => ∃ v', e = .returned (.tuple #[v', .int .i64 c]) ∧ RefS base q' w' v' s1 ∧ Below W1.heap.size W1 w') :
    Calls Try.prog 55 #[v, .int .i64 (n : Int)] W fun e w' => ∃ v', e = .returned (.tuple #[v', .int .i64 c]) ∧ RefS base q' w' v' s1 ∧ Below W.heap.size W w' := by
  have HRD := Lib.hid hL
  have HST := Lib.hid hS
  have WN : IntKind.u64.wrap (n : Int) = (n : Int) := by rw [IntKind.wrap_u64]; omega
  have hn2 : (n : Int) ≤ 1048576 := by omega
  obtain ⟨LA, Lm, Lc, rfl⟩ := refS_form hs
  generalize (s.pages : Int) = pg0 at *
  generalize s.ticks = tk0 at *
  obtain ⟨T, hT⟩ : ∃ T : Int, ((n * 4096 : Nat) : Int) = T := ⟨_, rfl⟩
  have WM : (n : Int) * 4096 = T := by omega
  rw [hT] at HST
  obtain ⟨h1, h2, h3, h5⟩ := x
  simp only at HRD
  clear hs hL hS hT hn
  go_enter Try.func55, Try.ntmps55
  go_wp2_with fail
  refine (HRD.out _ (((Below.refl _ _).alloc (Nat.le_refl _) _).alloc (by simp) _)).mono ?_
  rintro e' w1 ⟨v', rfl, hs1, hb⟩
  obtain ⟨LA, Lm, Lc, rfl⟩ := refS_form hs1
  obtain ⟨e0, e1, hbb⟩ := boxes2 hb
  have HB1 := Lib.hid (And.intro hbb (And.intro e1 hs1))
  clear hb e0 e1 hbb hs1
  go_wp2_with fail
  refine (HST.out _ _ ((HB1.out.1.alloc HB1.out.1.size _).alloc (by have := HB1.out.1.size; simp; omega) _) (HB1.out.2.2.below (((Below.refl _ _).alloc (Nat.le_refl _) _).alloc (by simp) _))).mono ?_
  rintro e' w2 ⟨v2, rfl, hs2, hb2⟩
  obtain ⟨A2, m2, c2, rfl⟩ := refS_form hs2
  have hb3 := (((Below.refl w1.heap.size w1).alloc (Nat.le_refl _) _).alloc (by simp) _).trans (hb2.mono (by simp; omega))
  have e2 := (hb3.block _ (Array.getElem?_eq_some_iff.1 HB1.out.2.1).1).trans HB1.out.2.1
  obtain ⟨b0, b1, b2, g1, g2, g0⟩ := box3 e2
  have HB2 := Lib.hid (And.intro (HB1.out.1.trans (hb3.mono HB1.out.1.size)) (And.intro e2 hs2))
  clear hb2 hb3 e2 hs2 WN WM
  go_wp2_with fail
  refine bodyPost_ret (v := .tuple #[.agg #[.int .i64 (s1.pages : Int), .slice A2 m2 c2, .int .i64 s1.ticks], .int .i64 c]) ?_ rfl ?_
  · simp [results, Try.results55, go_sem, b0, b1, b2]
  · exact ⟨_, rfl, refS_set3 HB2.out.2.2 HB2.out.2.1 (by decide), Below.set3 HB2.out.1 (by omega) _ _ _⟩
theorem ref08Clear_no {base q : Nat} {v : Value} {s : SpS} (n : Nat) (W : World) (hs : RefS base q W v s) (hq : q ≤ 100000) (hn : n < s.pages) (hr : ∀ i, 0 ≤ s.mem i ∧ s.mem i ≤ 255) (hd : ¬ isHd (seen s.mem (n * 4096) 32)) :
    Calls Try.prog 55 #[v, .int .i64 (n : Int)] W fun e w' => ∃ v', e = .returned (.tuple #[v', .int .i64 5]) ∧ RefS base q w' v' (tick s (touchedI ((n * 4096 : Nat) : Int) 32)) ∧ Below W.heap.size W w' :=
  ref08Clear_bad (n : Int) 5 W hs rfl (fun W1 hb => ref08Read_in n W1 (hs.below hb) hq hn hr ⟨0, 0, 0, 0⟩ 5 false (.inr ⟨hd, rfl, rfl, rfl⟩))
theorem ref08Clear_out {base q : Nat} {v : Value} {s : SpS} (p : Int) (W : World) (hs : RefS base q W v s) (hp : ¬ (0 ≤ p ∧ p < (s.pages : Int))) :
    Calls Try.prog 55 #[v, .int .i64 p] W fun e w' => ∃ v', e = .returned (.tuple #[v', .int .i64 3]) ∧ RefS base q w' v' s ∧ Below W.heap.size W w' :=
  ref08Clear_bad p 3 W hs rfl (fun W1 hb => (ref08Read_out p W1 (hs.below hb) hp).mono fun e w' h => ⟨v, h.1, (hs.below hb).below h.2, h.2⟩)
theorem ref08Clear_ok {base q : Nat} {v : Value} {s : SpS} (n : Nat) (W : World) (hs : RefS base q W v s) (hq : q ≤ 100000) (hB : base ≤ W.heap.size) (hn : n < s.pages) (hr : ∀ i, 0 ≤ s.mem i ∧ s.mem i ≤ 255) (hd : isHd (seen s.mem (n * 4096) 32)) :
    Calls Try.prog 55 #[v, .int .i64 (n : Int)] W fun e w' => ∃ v', e = .returned (.tuple #[v', .int .i64 0]) ∧ RefS base (q + 1) w' v' (cleared s (n * 4096)) ∧ Below W.heap.size W w' := by
  have hp2 : s.pages ≤ 1048576 := by obtain ⟨_, _, _, _, _, _, _, _, h⟩ := hs; exact h
  exact ref08Clear_gen n _ 0 W hs (by omega) (fun W1 hb => ref08Read_in n W1 (hs.below hb) hq hn hr _ 0 true (.inl ⟨hd, rfl, rfl, rfl⟩)) (fun W1 v1 hb hs1 => ref03Zero_ok (n * 4096) 32 W1 hs1 hq (Nat.le_trans hB hb.size) (by show n * 4096 + 32 ≤ s.pages * 4096; omega))
end Go.Proofs.Ytfdhjeeaigfmfaa.Sp

namespace Go.Proofs.Ytfdhjeeaigfmfaa.Sp
open Go.RowKit Go.WideMaps Go.Proofs.Ytfdhjeeaigfmfaa.In Go.Proofs.Ytfdhjeeaigfmfaa.Plain
set_option linter.unusedVariables false
set_option linter.unusedSimpArgs false

set_option maxRecDepth 100000 in
set_option maxHeartbeats 4000000 in
theorem hRead_err (p : Option Addr) (page ad c : Int) (W : World) (hc : (c == 0) = false)
    (hA : ∀ W1, Below W.heap.size W W1 → Calls Try.prog 79 #[.pointer p, .int .i64 page] W1 fun e w' => e = .returned (.int .u64 ad) ∧ W1 = w')
    (hL : ∀ W1, Below W.heap.size W W1 → Calls Try.prog 20 #[.pointer p, .int .u64 ad, .int .u64 32] W1 fun e w' => e = .returned (.tuple #[.slice none 0 0, .int .i64 c]) ∧ W1 = w') :
    Calls Try.prog 52 #[.pointer p, .int .i64 page] W fun e w' => e = .returned (.tuple #[.agg #[.int .i64 0, .int .i64 0, .int .u64 0, .int .u64 0], .int .i64 c]) ∧ Below W.heap.size W w' := by
  have HA := Lib.hid hA
  have HL := Lib.hid hL
  have hc2 : (c != 0) = true := by simpa using hc
  clear hA hL
  go_enter Try.func52, Try.ntmps52
  go_wp2_with fail
  refine (HA.out _ ((Below.refl _ _).alloc (Nat.le_refl _) _)).mono ?_
  rintro e w1 ⟨rfl, rfl⟩
  go_wp2_with fail
  refine (HL.out _ ((Below.refl _ _).alloc (Nat.le_refl _) _)).mono ?_
  rintro e w1 ⟨rfl, rfl⟩
  go_wp2_with fail
  refine bodyPost_ret (v := .tuple #[.agg #[.int .i64 0, .int .i64 0, .int .u64 0, .int .u64 0], .int .i64 c]) ?_ rfl ?_
  · simp [results, Try.results52, go_sem]
  · refine ⟨rfl, ?_⟩
    first
      | exact ((Below.refl _ _).alloc (Nat.le_refl _) _)
      | exact (((Below.refl _ _).alloc (Nat.le_refl _) _).alloc (by simp) _)
set_option maxRecDepth 100000 in
set_option maxHeartbeats 4000000 in
theorem hLink_err (p : Option Addr) (page nx c : Int) (W : World) (hc : (c == 0) = false)
    (hR : ∀ W1, Below W.heap.size W W1 → Calls Try.prog 52 #[.pointer p, .int .i64 page] W1 fun e w' => e = .returned (.tuple #[.agg #[.int .i64 0, .int .i64 0, .int .u64 0, .int .u64 0], .int .i64 c]) ∧ Below W1.heap.size W1 w') :
    Calls Try.prog 54 #[.pointer p, .int .i64 page, .int .u64 nx] W fun e w' => e = .returned (.int .i64 c) ∧ Below W.heap.size W w' := by
  have HR := Lib.hid hR
  have hc2 : (c != 0) = true := by simpa using hc
  clear hR
  go_enter Try.func54, Try.ntmps54
  go_wp2_with fail
  refine (HR.out _ (Below.refl _ _)).mono ?_
  rintro e w1 ⟨rfl, hb⟩
  go_wp2_with fail
  go_ret
  exact ⟨rfl, hb.alloc hb.size _⟩
set_option maxRecDepth 100000 in
set_option maxHeartbeats 4000000 in
theorem hClear_err (p : Option Addr) (page c : Int) (W : World) (hc : (c == 0) = false)
    (hR : ∀ W1, Below W.heap.size W W1 → Calls Try.prog 52 #[.pointer p, .int .i64 page] W1 fun e w' => e = .returned (.tuple #[.agg #[.int .i64 0, .int .i64 0, .int .u64 0, .int .u64 0], .int .i64 c]) ∧ Below W1.heap.size W1 w') :
    Calls Try.prog 56 #[.pointer p, .int .i64 page] W fun e w' => e = .returned (.int .i64 c) ∧ Below W.heap.size W w' := by
  have HR := Lib.hid hR
  have hc2 : (c != 0) = true := by simpa using hc
  clear hR
  go_enter Try.func56, Try.ntmps56
  go_wp2_with fail
  refine (HR.out _ (Below.refl _ _)).mono ?_
  rintro e w1 ⟨rfl, hb⟩
  go_wp2_with fail
  go_ret
  exact ⟨rfl, hb.alloc hb.size _⟩
theorem hRead_nil (p : Int) (W : World) : Calls Try.prog 52 #[.pointer none, .int .i64 p] W fun e w' => e = .returned (.tuple #[.agg #[.int .i64 0, .int .i64 0, .int .u64 0, .int .u64 0], .int .i64 3]) ∧ Below W.heap.size W w' :=
  hRead_err none p 0 3 W rfl (fun W1 _ => hat_nil p W1) (fun W1 _ => Load_nil 0 32 W1)
theorem atP_out (s : SpS) (p : Int) (h : ¬ (0 ≤ p ∧ p < (s.pages : Int))) : atP s p = (s.pages : Int) * 4096 := if_neg h
theorem St.hRead_out {w0 W : World} {g : Nat} {s : SpS} (hs : St w0 W g s) (p : Int) (hp : -9223372036854775808 ≤ p ∧ p ≤ 9223372036854775807) (h : ¬ (0 ≤ p ∧ p < (s.pages : Int))) :
    Calls Try.prog 52 #[.pointer (some ⟨g, 0, none⟩), .int .i64 p] W fun e w' => e = .returned (.tuple #[.agg #[.int .i64 0, .int .i64 0, .int .u64 0, .int .u64 0], .int .i64 3]) ∧ Below W.heap.size W w' := by
  have hpp := hs.pages
  refine hRead_err (some ⟨g, 0, none⟩) p ((s.pages : Int) * 4096) 3 W rfl (fun W1 hb => ?_) (fun W1 hb => (hs.step hb).load_err _ _ 3 (by omega) (by omega) (by unfold fitsI; rw [if_neg (by omega)]) (by decide))
  rw [← atP_out s p h]
  exact (hs.step hb).hat p hp
end Go.Proofs.Ytfdhjeeaigfmfaa.Sp

namespace Go.Proofs.Ytfdhjeeaigfmfaa.Sp
open Go.RowKit Go.WideMaps Go.Proofs.Ytfdhjeeaigfmfaa.In Go.Proofs.Ytfdhjeeaigfmfaa.Plain
set_option linter.unusedVariables false
set_option linter.unusedSimpArgs false

/-- What a call does to the reference's space. -/
def RefTo (base q : Nat) (W : World) (v : Value) (s s' : SpS) (fn : Nat) (args : Array Value) (vs : List Value) : Prop :=
  Calls Try.prog fn (#[v] ++ args) W fun e w' => ∃ v', e = .returned (.tuple (#[v'] ++ vs.toArray)) ∧ RefS base (q + 1) w' v' s' ∧ Below W.heap.size W w'
/-- What a call does to the program's space. -/
def StTo (w0 W : World) (g : Nat) (s s' : SpS) (fn : Nat) (args : Array Value) (r : Value) : Prop :=
  Calls Try.prog fn (#[.pointer (some ⟨g, 0, none⟩)] ++ args) W fun e w' => e = .returned r ∧ St w0 w' g s' ∧ KpT W w'
theorem refTo_of {base q q' : Nat} {W : World} {v : Value} {s s' : SpS} {fn : Nat} {args : Array Value} {vs : List Value} (hq : q' ≤ q + 1) (h : Calls Try.prog fn (#[v] ++ args) W fun e w' => ∃ v', e = .returned (.tuple (#[v'] ++ vs.toArray)) ∧ RefS base q' w' v' s' ∧ Below W.heap.size W w') : RefTo base q W v s s' fn args vs := by
  refine h.mono ?_
  rintro e w' ⟨v', h1, h2, h3⟩
  exact ⟨v', h1, h2.mono hq, h3⟩
theorem stTo_below {w0 W : World} {g : Nat} {s : SpS} {fn : Nat} {args : Array Value} {r : Value} (hs : St w0 W g s) (h : Calls Try.prog fn (#[.pointer (some ⟨g, 0, none⟩)] ++ args) W fun e w' => e = .returned r ∧ Below W.heap.size W w') : StTo w0 W g s s fn args r := by
  refine h.mono ?_
  rintro e w' ⟨h1, h2⟩
  exact ⟨h1, hs.step h2, KpT.of_below h2⟩
def hW (h : Hd) : Value := .agg #[.int .i64 h.pages, .int .i64 h.kind, .int .u64 h.owner, .int .u64 h.next]

theorem hwrite_both (s : SpS) (p : Int) (h : Hd) (hpp : s.pages ≤ 1048576) (hp : -9223372036854775808 ≤ p ∧ p ≤ 9223372036854775807) (ho : 0 ≤ h.owner ∧ h.owner ≤ 18446744073709551615) (hx : 0 ≤ h.next ∧ h.next ≤ 18446744073709551615) :
    ∃ (c : Int) (s' : SpS), (∀ base q W v, RefS base q W v s → q ≤ 100000 → base ≤ W.heap.size → RefTo base q W v s s' 48 #[.int .i64 p, hW h] [.int .i64 c]) ∧ (∀ w0 W g, St w0 W g s → StTo w0 W g s s' 50 #[.int .i64 p, hW h] (.int .i64 c)) := by
  by_cases hr : hRight h
  · by_cases hin : 0 ≤ p ∧ p < (s.pages : Int)
    · obtain ⟨n, rfl⟩ := Int.eq_ofNat_of_zero_le hin.1
      exact ⟨0, _, fun base q W v hs hq hB => refTo_of (Nat.le_refl _) (ref08Write_ok h n W hs hq hB hr ho hx (by omega)), fun w0 W g hs => hs.hWrite n h hr ho hx (by omega)⟩
    · refine ⟨3, s, fun base q W v hs hq hB => ?_, fun w0 W g hs => ?_⟩
      · refine refTo_of (Nat.le_succ q) ((ref08Write_bad h p 3 W hs (.inr ⟨hr, hin, rfl⟩)).mono ?_)
        rintro e w' ⟨he, hb⟩
        exact ⟨v, he, hs.below hb, hb⟩
      · refine hWrite_gen (some ⟨g, 0, none⟩) p 3 ((s.pages : Int) * 4096) h W (fun w' => St w0 w' g s ∧ KpT W w') hr ho hx (fun W1 hb => ?_) (fun r w1 hz hb => ?_)
        · rw [← atP_out s p hin]
          exact (hs.step hb).hat p hp
        · refine ((hs.step hb).store_err ((s.pages : Int) * 4096) 3 _ 32 32 (by omega) (by omega) (by unfold fitsI; rw [if_neg (by omega)]) (by decide)).mono ?_
          rintro e w' ⟨he, rfl⟩
          exact ⟨he, hs.step hb, KpT.of_below hb⟩
  · refine ⟨1, s, fun base q W v hs hq hB => ?_, fun w0 W g hs => stTo_below hs (hWrite_arg _ p h W hr)⟩
    refine refTo_of (Nat.le_succ q) ((ref08Write_bad h p 1 W hs (.inl ⟨hr, rfl⟩)).mono ?_)
    rintro e w' ⟨he, hb⟩
    exact ⟨v, he, hs.below hb, hb⟩
theorem hread_both (s : SpS) (p : Int) (hpp : s.pages ≤ 1048576) (hr : ∀ i, 0 ≤ s.mem i ∧ s.mem i ≤ 255) (hp : -9223372036854775808 ≤ p ∧ p ≤ 9223372036854775807) :
    ∃ (x : Hd) (c : Int) (s' : SpS), (∀ base q W v, RefS base q W v s → q ≤ 100000 → RefTo base q W v s s' 51 #[.int .i64 p] [hW x, .int .i64 c]) ∧ (∀ w0 W g, St w0 W g s → StTo w0 W g s s' 52 #[.int .i64 p] (.tuple #[hW x, .int .i64 c])) := by
  by_cases hin : 0 ≤ p ∧ p < (s.pages : Int)
  · obtain ⟨n, rfl⟩ := Int.eq_ofNat_of_zero_le hin.1
    by_cases hd : isHd (seen s.mem (n * 4096) 32)
    · exact ⟨_, 0, _, fun base q W v hs hq => refTo_of (Nat.le_succ q) (ref08Read_in n W hs hq (by omega) hr _ 0 true (.inl ⟨hd, rfl, rfl, rfl⟩)), fun w0 W g hs => hs.hRead n (by omega) _ 0 (.inl ⟨hd, rfl, rfl⟩)⟩
    · exact ⟨⟨0, 0, 0, 0⟩, 5, _, fun base q W v hs hq => refTo_of (Nat.le_succ q) (ref08Read_in n W hs hq (by omega) hr ⟨0, 0, 0, 0⟩ 5 false (.inr ⟨hd, rfl, rfl, rfl⟩)), fun w0 W g hs => hs.hRead n (by omega) _ 5 (.inr ⟨hd, rfl, rfl⟩)⟩
  · refine ⟨⟨0, 0, 0, 0⟩, 3, s, fun base q W v hs hq => ?_, fun w0 W g hs => stTo_below hs (hs.hRead_out p hp hin)⟩
    refine refTo_of (Nat.le_succ q) ((ref08Read_out p W hs hin).mono ?_)
    rintro e w' ⟨he, hb⟩
    exact ⟨v, he, hs.below hb, hb⟩
theorem hlink_both (s : SpS) (p nx : Int) (hpp : s.pages ≤ 1048576) (hr : ∀ i, 0 ≤ s.mem i ∧ s.mem i ≤ 255) (hp : -9223372036854775808 ≤ p ∧ p ≤ 9223372036854775807) (hx : 0 ≤ nx ∧ nx ≤ 18446744073709551615) :
    ∃ (c : Int) (s' : SpS), (∀ base q W v, RefS base q W v s → q ≤ 100000 → base ≤ W.heap.size → RefTo base q W v s s' 53 #[.int .i64 p, .int .u64 nx] [.int .i64 c]) ∧ (∀ w0 W g, St w0 W g s → StTo w0 W g s s' 54 #[.int .i64 p, .int .u64 nx] (.int .i64 c)) := by
  by_cases hin : 0 ≤ p ∧ p < (s.pages : Int)
  · obtain ⟨n, rfl⟩ := Int.eq_ofNat_of_zero_le hin.1
    by_cases hd : isHd (seen s.mem (n * 4096) 32)
    · exact ⟨0, _, fun base q W v hs hq hB => refTo_of (Nat.le_refl _) (ref08Link_ok n nx W hs hq hB (by omega) hr hd hx), fun w0 W g hs => hs.hLink n nx hx (by omega) hd⟩
    · exact ⟨5, _, fun base q W v hs hq hB => refTo_of (Nat.le_succ q) (ref08Link_no n nx W hs hq (by omega) hr hd), fun w0 W g hs => hs.hLink_bad n nx (by omega) hd⟩
  · exact ⟨3, s, fun base q W v hs hq hB => refTo_of (Nat.le_succ q) (ref08Link_out p nx W hs hin), fun w0 W g hs => stTo_below hs (hLink_err _ p nx 3 W rfl (fun W1 hb => (hs.step hb).hRead_out p hp hin))⟩
theorem hclear_both (s : SpS) (p : Int) (hpp : s.pages ≤ 1048576) (hr : ∀ i, 0 ≤ s.mem i ∧ s.mem i ≤ 255) (hp : -9223372036854775808 ≤ p ∧ p ≤ 9223372036854775807) :
    ∃ (c : Int) (s' : SpS), (∀ base q W v, RefS base q W v s → q ≤ 100000 → base ≤ W.heap.size → RefTo base q W v s s' 55 #[.int .i64 p] [.int .i64 c]) ∧ (∀ w0 W g, St w0 W g s → StTo w0 W g s s' 56 #[.int .i64 p] (.int .i64 c)) := by
  by_cases hin : 0 ≤ p ∧ p < (s.pages : Int)
  · obtain ⟨n, rfl⟩ := Int.eq_ofNat_of_zero_le hin.1
    by_cases hd : isHd (seen s.mem (n * 4096) 32)
    · exact ⟨0, _, fun base q W v hs hq hB => refTo_of (Nat.le_refl _) (ref08Clear_ok n W hs hq hB (by omega) hr hd), fun w0 W g hs => hs.hClear n (by omega) hd⟩
    · exact ⟨5, _, fun base q W v hs hq hB => refTo_of (Nat.le_succ q) (ref08Clear_no n W hs hq (by omega) hr hd), fun w0 W g hs => hs.hClear_bad n (by omega) hd⟩
  · exact ⟨3, s, fun base q W v hs hq hB => refTo_of (Nat.le_succ q) (ref08Clear_out p W hs hin), fun w0 W g hs => stTo_below hs (hClear_err _ p 3 W rfl (fun W1 hb => (hs.step hb).hRead_out p hp hin))⟩
theorem store_both (s : SpS) (t : Int) (l : List Int) (ht : 0 ≤ t ∧ t ≤ 18446744073709551615) (hl : l.length ≤ 9223372036854775807) (hv : ∀ v ∈ l, 0 ≤ v ∧ v ≤ 255) :
    ∃ (c : Int) (s' : SpS), (∀ base q W v, RefS base q W v s → q ≤ 100000 → base ≤ W.heap.size → RefTo base q W v s s' 21 #[.int .u64 t, .string (strOfNums l)] [.int .i64 c]) ∧ (∀ w0 W g A k, l.length ≤ k → SrcW w0 W A l → St w0 W g s → StTo w0 W g s s' 22 #[.int .u64 t, .slice A l.length k] (.int .i64 c)) := by
  by_cases h : fitsI ((s.pages : Int) * 4096) t l.length 1048576 = 0
  · have hh : t + l.length ≤ (s.pages : Int) * 4096 ∧ (l.length : Int) ≤ 1048576 := by
      rcases fits_cases ((s.pages : Int) * 4096) t l.length 1048576 with h1 | h1
      · exact ⟨h1.2.1, h1.2.2⟩
      · exact absurd h h1
    obtain ⟨a, rfl⟩ := Int.eq_ofNat_of_zero_le ht.1
    refine ⟨0, tick { s with mem := lay s.mem a l } (touchedI a l.length), fun base q W v hs hq hB => refTo_of (Nat.le_refl _) (ref03Store_ok a l.length l W hs hq hB (by omega) rfl hv (by omega)), fun w0 W g A k hk hr hs => ?_⟩
    have := hs.store (a : Int) A l.length k l rfl hk hr (by omega) hh.1 (by omega)
    rw [Int.toNat_natCast] at this
    exact this
  · refine ⟨fitsI ((s.pages : Int) * 4096) t l.length 1048576, s, fun base q W v hs hq hB => ?_, fun w0 W g A k hk hr hs => ?_⟩
    · refine (ref03Store_err t l.length l W hs ht rfl hl _ rfl h).mono ?_
      rintro e w' ⟨he, hb⟩
      exact ⟨v, he, (hs.below hb).mono (Nat.le_succ _), hb⟩
    · refine (hs.store_err t _ A l.length k ht.1 hl rfl h).mono ?_
      rintro e w' ⟨he, rfl⟩
      exact ⟨he, hs, KpT.refl _⟩
end Go.Proofs.Ytfdhjeeaigfmfaa.Sp
