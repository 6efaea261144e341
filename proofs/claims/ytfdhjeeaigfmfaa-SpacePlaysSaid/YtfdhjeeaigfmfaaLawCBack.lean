/- CellsBack: what is put is got, where it fits; of two halves of a number each is where it belongs. -/
import Derived.Test.YtfdhjeeaigfmfaaCellsAwake
namespace Go.Proofs.Ytfdhjeeaigfmfaa.Sp
open Go.RowKit Go.WideMaps Go.Proofs.Ytfdhjeeaigfmfaa.In Go.Proofs.Ytfdhjeeaigfmfaa.Plain
set_option linter.unusedVariables false

/-- A width out of a byte. -/
theorem width_of (a : Int) (h : 0 ≤ a) : ∃ m k : Nat, a % 4 = (m : Int) ∧ (m : Int) ≤ 3 ∧ wrap64 (2 ^ m) = (k : Int) ∧ wideP (k : Int) := by
  have : a % 4 = 0 ∨ a % 4 = 1 ∨ a % 4 = 2 ∨ a % 4 = 3 := by omega
  rcases this with h | h | h | h
  · exact ⟨0, 1, h, by decide, by kernel_rfl, by decide⟩
  · exact ⟨1, 2, h, by decide, by kernel_rfl, by decide⟩
  · exact ⟨2, 4, h, by decide, by kernel_rfl, by decide⟩
  · exact ⟨3, 8, h, by decide, by kernel_rfl, by decide⟩
theorem wide_dvd {k t : Nat} (h : wideP (k : Int)) (ht : t % 8 = 0) : t % k = 0 := by
  unfold wideP at h
  have : k = 1 ∨ k = 2 ∨ k = 4 ∨ k = 8 := by omega
  rcases this with rfl | rfl | rfl | rfl <;> omega
theorem pow256_k {k : Nat} (h : wideP (k : Int)) : (256 : Int) ^ k ≤ 18446744073709551616 := pow256_u64 (by have := h.bd; omega)

theorem St.get_v {w0 W : World} {g : Nat} {s : SpS} (hs : St w0 W g s) (t k : Nat) (x : Int) (h : rightC (t : Int) (k : Int)) (hb : t + k ≤ s.pages * 4096) (hx : num (seen s.mem t k) = x) :
    Calls Try.prog 35 #[.pointer (some ⟨g, 0, none⟩), .int .u64 (t : Int), .int .i64 (k : Int)] W fun e w' => e = .returned (.tuple #[.int .u64 x, .int .i64 0]) ∧ St w0 w' g (tick s (touchedI t k)) ∧ KpT W w' := hx ▸ hs.get t k h hb

theorem seen_app (mem : Nat → Int) (t k n : Nat) : seen mem t (k + n) = seen mem t k ++ seen mem (t + k) n := by
  unfold seen
  rw [List.range_add, List.map_append, List.map_map]
  congr 1
  exact List.map_congr_left fun i _ => by show mem (t + (k + i)) = mem (t + k + i); rw [Nat.add_assoc]
theorem num_seen_halves (mem : Nat → Int) (t h : Nat) : num (seen mem t (h + h)) = num (seen mem t h) + 256 ^ h * num (seen mem (t + h) h) := by
  rw [seen_app, num_append, seen_length]
theorem lay_bs {mem : Nat → Int} (h : ∀ i, 0 ≤ mem i ∧ mem i ≤ 255) {t : Nat} {l : List Int} (hl : Bs l) : ∀ i, 0 ≤ lay mem t l i ∧ lay mem t l i ≤ 255 := by
  intro i
  unfold lay
  by_cases c : t ≤ i ∧ i < t + l.length
  · rw [if_pos c, List.getD_eq_getElem?_getD, List.getElem?_eq_getElem (by omega)]
    exact hl _ (List.getElem_mem _)
  · rw [if_neg c]; exact h i
theorem seen_bs {mem : Nat → Int} (h : ∀ i, 0 ≤ mem i ∧ mem i ≤ 255) (t n : Nat) : Bs (seen mem t n) := by
  intro x hx
  unfold seen at hx
  obtain ⟨i, _, rfl⟩ := List.mem_map.1 hx
  exact h _

set_option maxRecDepth 100000 in
set_option maxHeartbeats 4000000 in
theorem CellsBack_any (a0 a1 n : Int) (w : World) (l0 : 0 ≤ a0 ∧ a0 ≤ 65535) (l1 : 0 ≤ a1 ∧ a1 ≤ 255) (ln : 0 ≤ n ∧ n ≤ 18446744073709551615) :
    Calls Try.prog 4 #[.int .u16 a0, .int .u8 a1, .int .u64 n] w fun e w' => e = .returned (.bool true) ∧ Below w.heap.size w w' := by
  have HA := Lib.hid (awake4_any w)
  have HP := Lib.hid (show (newS 32).pages * 4096 = 131072 by kernel_rfl)
  obtain ⟨a, ha⟩ : ∃ a : Nat, a0 / 8 * 8 = (a : Int) := ⟨(a0 / 8 * 8).toNat, by omega⟩
  obtain ⟨m, k, hm, hm3, hw, hk⟩ := width_of a1 l1.1
  have hkb := hk.bd
  have HR := Lib.hid (rightC_of hk (wide_dvd hk (show a % 8 = 0 by omega)))
  have HB := Lib.hid (show a + k ≤ 65543 by omega)
  obtain ⟨x, hx⟩ : ∃ x : Int, n % 256 ^ k = x := ⟨_, rfl⟩
  have hpk := pow256_pos k
  have hpu := pow256_k hk
  have hx0 := Int.emod_nonneg n (show (256 : Int) ^ k ≠ 0 by omega)
  have hx1 := Int.emod_lt_of_pos n hpk
  rw [hx] at hx0 hx1
  have hxb : x ≤ 18446744073709551615 := by omega
  have hfx : (x = n) ↔ n < 256 ^ k := by
    constructor
    · intro h; omega
    · intro h; rw [← hx]; exact Int.emod_eq_of_lt ln.1 h
  have HF := Lib.hid (fun W => Fits_any n (k : Int) W ln)
  obtain ⟨b, hxn⟩ : ∃ b : Bool, (x == n) = b := ⟨_, rfl⟩
  have hd : decide (wideP (k : Int) ∧ n < 256 ^ (k : Int).toNat) = b := by
    rw [← hxn]
    exact decide_eq_decide.2 ⟨fun h => hfx.2 h.2, fun h => ⟨hk, hfx.1 h⟩⟩
  rw [hd] at HF
  have HX := Lib.hid (show num (seen (lay (newS 32).mem a (le k n)) a k) = x by rw [got_put]; exact hx)
  have HK := Lib.hid hk
  have HX256 : RowKit.Hid (k = 1 → x = n % 256) := Lib.hid (fun e => by rw [← hx, e]; rfl)
  clear hfx hd hx hk hpk hpu hx1
  by_cases hk1 : k = 1
  · have hk1i : ((k : Int) == 1) = true := by simp; omega
    have hxe : (x == n % 256) = true := by rw [HX256.out hk1]; simp
    clear hk1
    have HXE := Lib.hid hxe
    clear hxe
    go_enter Try.func4, Try.ntmps4
    go_wp2_with fail
    refine HA.out.mono ?_
    rintro e w1 ⟨rfl, hb1⟩
    go_wp2_with fail
    refine (St.new 32 (hb1 : Below w.heap.size w w1)).mono ?_
    rintro e w2 ⟨g, rfl, hg, hs2, hb2⟩
    go_wp2_with fail
    refine (hs2.put a k n HR.out ln (by rw [HP.out]; have := HB.out; omega)).mono ?_
    rintro e w3 ⟨rfl, hs3, hk3⟩
    go_wp2_with fail
    refine (hs3.get_v a k x HR.out (by show _ ≤ (newS 32).pages * 4096; rw [HP.out]; have := HB.out; omega) HX.out).mono ?_
    rintro e w4 ⟨rfl, hs4, hk4⟩
    have HBB := Lib.hid hs4.below
    clear hs2 hs3 hs4 hk3 hk4
    go_wp2_with (go_at_call 36; (with_reducible refine (HF.out _).mono ?_); rintro e' w' ⟨rfl, rfl⟩)
    go_ret
    exact ⟨by rw [HXE.out]; rfl, HBB.out⟩
  obtain ⟨h, hh⟩ : ∃ h : Nat, (k : Int) / 2 = (h : Int) := ⟨((k : Int) / 2).toNat, by omega⟩
  have hk1i : ((k : Int) == 1) = false := by simp; omega
  have hkh : k = h + h := by have := HK.out; unfold wideP at this; omega
  have hh2 : wideP (h : Int) := by have := HK.out; unfold wideP at this ⊢; omega
  obtain ⟨b2, hb2⟩ : ∃ b2 : Nat, a + h = b2 := ⟨_, rfl⟩
  have hb2i : (a : Int) + (h : Int) = (b2 : Int) := by omega
  have HR1 := Lib.hid (rightC_of hh2 (wide_dvd hh2 (show a % 8 = 0 by omega)))
  have HR2 := Lib.hid (rightC_of hh2 (show b2 % h = 0 by
    have h1 := wide_dvd hh2 (show a % 8 = 0 by omega)
    rw [← hb2, Nat.add_mod, h1]; simp))
  obtain ⟨lo, hlo⟩ : ∃ lo : Int, num (seen (lay (newS 32).mem a (le k n)) a h) = lo := ⟨_, rfl⟩
  obtain ⟨hi, hhi⟩ : ∃ hi : Int, num (seen (lay (newS 32).mem a (le k n)) b2 h) = hi := ⟨_, rfl⟩
  have hsum : x = lo + 256 ^ h * hi := by
    rw [← HX.out, hkh, num_seen_halves, ← hkh, hb2, hlo, hhi]
  have hmb := lay_bs (mem := (newS 32).mem) (fun i => by show (0 : Int) ≤ 0 ∧ (0 : Int) ≤ 255; omega) (t := a) (le_bs k n)
  have hl1 := num_range (seen_bs hmb a h)
  have hh1 := num_range (seen_bs hmb b2 h)
  rw [hlo, seen_length] at hl1
  rw [hhi, seen_length] at hh1
  have HLO := Lib.hid hlo
  have HHI := Lib.hid hhi
  have hb2b : (b2 : Int) ≤ 65543 := by have := HB.out; omega
  have hsh : (2 : Int) ^ (8 * h) = 256 ^ h := pow2_256 h
  obtain ⟨q, hq⟩ : ∃ q : Nat, 4 * k = q := ⟨_, rfl⟩
  have hqi : 4 * (k : Int) = (q : Int) := by omega
  have hyu : 0 ≤ 256 ^ h * hi ∧ lo + 256 ^ h * hi ≤ 18446744073709551615 := by
    refine ⟨Int.mul_nonneg (Int.le_of_lt (pow256_pos h)) hh1.1, by omega⟩
  have HALF := Lib.hid (And.intro hsum (And.intro hl1 (And.intro hh1 (And.intro hyu (And.intro hkh hsh)))))
  clear hkh hb2 hlo hhi hmb hsum hl1 hh1 hyu hsh hq
  go_enter Try.func4, Try.ntmps4
  go_wp2_with fail
  refine HA.out.mono ?_
  rintro e w1 ⟨rfl, hb1⟩
  go_wp2_with fail
  refine (St.new 32 (hb1 : Below w.heap.size w w1)).mono ?_
  rintro e w2 ⟨g, rfl, hg, hs2, hb2⟩
  go_wp2_with fail
  refine (hs2.put a k n HR.out ln (by rw [HP.out]; have := HB.out; omega)).mono ?_
  rintro e w3 ⟨rfl, hs3, hk3⟩
  go_wp2_with fail
  refine (hs3.get_v a k x HR.out (by show _ ≤ (newS 32).pages * 4096; rw [HP.out]; have := HB.out; omega) HX.out).mono ?_
  rintro e w4 ⟨rfl, hs4, hk4⟩
  go_wp2_with (go_at_call 36; (with_reducible refine (HF.out _).mono ?_); rintro e' w' ⟨rfl, rfl⟩)
  refine (hs4.get_v a h lo HR1.out (by show _ ≤ (newS 32).pages * 4096; rw [HP.out]; have := HB.out; omega) HLO.out).mono ?_
  rintro e w5 ⟨rfl, hs5, hk5⟩
  go_wp2_with fail
  refine (hs5.get_v b2 h hi HR2.out (by show _ ≤ (newS 32).pages * 4096; rw [HP.out]; have := HB.out; omega) HHI.out).mono ?_
  rintro e w6 ⟨rfl, hs6, hk6⟩
  have HBB := Lib.hid hs6.below
  clear hs2 hs3 hs4 hs5 hs6 hk3 hk4 hk5 hk6
  have hfin : (IntKind.u64.wrap (lo + IntKind.u64.wrap (hi * 2 ^ q)) == x) = true := by
    obtain ⟨e1, e2, e3, e4, e5, e6⟩ := HALF.out
    have e7 : q = 8 * h := by omega
    rw [e7, e6, Int.mul_comm hi]
    have e8 : IntKind.u64.wrap (256 ^ h * hi) = 256 ^ h * hi := by
      show (256 ^ h * hi) % 18446744073709551616 = _
      exact Int.emod_eq_of_lt e4.1 (by omega)
    have e9 : IntKind.u64.wrap (lo + 256 ^ h * hi) = lo + 256 ^ h * hi := by
      show (lo + 256 ^ h * hi) % 18446744073709551616 = _
      exact Int.emod_eq_of_lt (by omega) (by omega)
    rw [e8, e9, e1]
    simp
  have HFIN := Lib.hid hfin
  clear hfin
  go_wp2
  go_ret
  exact ⟨by rw [HFIN.out]; rfl, HBB.out⟩

theorem CellsBack_walk (a0 a1 a2 : Int) (w : World) (h0 : (Lit.int .u16 a0).wf = true) (h1 : (Lit.int .u8 a1).wf = true) (h2 : (Lit.int .u64 a2).wf = true) :
    Calls Try.prog 4 #[.int .u16 a0, .int .u8 a1, .int .u64 a2] w fun e w' => e = .returned (.bool true) ∧ Below w.heap.size w w' :=
  CellsBack_any a0 a1 a2 w (u16_lit h0) (u8_lit h1) (u64_lit h2)
end Go.Proofs.Ytfdhjeeaigfmfaa.Sp
