/- CellsBytes: a number in a space is the number that its bytes are, and the bytes are those of the number. -/
import Derived.Test.YtfdhjeeaigfmfaaLawCSums
import Derived.Test.YtfdhjeeaigfmfaaSpaceTwo
import Derived.BigQuiet
namespace Go.Proofs.Ytfdhjeeaigfmfaa.Sp
open Go.RowKit Go.WideMaps Go.Proofs.Ytfdhjeeaigfmfaa.In Go.Proofs.Ytfdhjeeaigfmfaa.Plain
set_option linter.unusedVariables false
set_option linter.unusedSimpArgs false

/-- What came in from a place on, as a text. -/
theorem part_str {w : World} {A : Option Addr} {l : List Int} (h : Lst (KInt .u8) 1 w A l) (n c k : Nat) (hn : l.length = n) (hk : k ≤ n) (hc : n ≤ c) :
    ∃ A' : Option Addr, (∀ W, (Instr.sliceAt 32 (.slice A n c) (some (.int .i64 (k : Int))) none none).run Try.prog W = .ok (.slice A' (n - k) (c - k)) W) ∧ ∀ W, Below w.heap.size w W → ∀ c', (convert 32 9 (.slice A' (n - k) c')).run Try.prog W = .ok (.string (strOfNums (l.drop k))) W := by
  refine ⟨_, fun W => arg_l A n c k hk W, fun W hb c' => ?_⟩
  by_cases h0 : n = k
  · subst h0
    rw [Nat.sub_self, List.drop_of_length_le (by omega)]
    exact conv_empty _ _ _
  · obtain ⟨b, o, rfl, hcl⟩ := lst_cells h (by omega)
    rw [if_neg (by omega)]
    show (convert 32 9 (.slice (some ((⟨b, o, none⟩ : Addr).add (k * 1))) (n - k) c')).run Try.prog W = _
    rw [Nat.mul_one, Addr.add_lit]
    refine run_convert_bytes_arg W 32 5 (by kernel_rfl) (by kernel_rfl) b (o + k) (n - k) c' (l.drop k) (by rw [List.length_drop, hn]) (fun i hi => ?_) 9 (by kernel_rfl)
    have h1 := (Chg.of_below (S := fun _ => False) hb).cell (hcl (k + i) (by omega)) (fun h => h)
    rw [List.getD_eq_getElem?_getD, List.getElem?_drop, Nat.add_assoc]
    rw [List.getD_eq_getElem?_getD] at h1
    exact h1
theorem seen_lay_take (mem : Nat → Int) (t k n : Nat) (l : List Int) (hl : l.length = k) (hk : k ≤ n) : (seen (lay mem t l) t n).take k = l := by
  rw [seen_take _ _ _ _ hk, ← hl, seen_lay_same]
theorem seen_lay_drop (mem : Nat → Int) (t k n : Nat) (l : List Int) (hl : l.length = k) : (seen (lay mem t l) t n).drop k = (seen mem t n).drop k := by
  rw [seen_drop, seen_drop, seen_lay_off _ _ _ _ _ (by omega)]

set_option maxRecDepth 100000 in
set_option maxHeartbeats 4000000 in
theorem CellsBytes_any (w : World) (a0 a1 x2 : Int) (A : Option Addr) (n c : Nat) (l : List Int) (l0 : 0 ≤ a0 ∧ a0 ≤ 65535) (l1 : 0 ≤ a1 ∧ a1 ≤ 255) (l2 : 0 ≤ x2 ∧ x2 ≤ 18446744073709551615) (hl : l.length = n) (hc : n ≤ c) (hn : n ≤ 9223372036854775807) (hA : Lst (KInt .u8) 1 w A l) (hv : ∀ v ∈ l, wfInt .u8 v) :
    Calls Try.prog 6 #[.int .u16 a0, .int .u8 a1, .int .u64 x2, .slice A n c] w fun e w' => e = .returned (.bool true) ∧ Below w.heap.size w w' := by
  have HA := Lib.hid (awake4_any w)
  have HP := Lib.hid (show (newS 20).pages * 4096 = 81920 by kernel_rfl)
  obtain ⟨a, ha⟩ : ∃ a : Nat, a0 / 8 * 8 = (a : Int) := ⟨(a0 / 8 * 8).toNat, by omega⟩
  obtain ⟨m, k, hm, hm3, hw, hk⟩ := width_of a1 l1.1
  have hkb := hk.bd
  have HR := Lib.hid (rightC_of hk (wide_dvd hk (show a % 8 = 0 by omega)))
  have HB := Lib.hid (show a + 8 ≤ 65543 by omega)
  have HK := Lib.hid hk
  clear hk
  by_cases hlo : n < 8
  · have hli : (n : Int) < 8 := by omega
    go_enter Try.func6, Try.ntmps6
    go_wp2_with fail
    refine HA.out.mono ?_
    rintro e w1 ⟨rfl, hb1⟩
    go_wp2
    go_ret
    exact ⟨rfl, hb1⟩
  have hli : ¬ (n : Int) < 8 := by omega
  by_cases hbig : 100 < n
  · have hbi : (100 : Int) < (n : Int) := by omega
    go_enter Try.func6, Try.ntmps6
    go_wp2_with fail
    refine HA.out.mono ?_
    rintro e w1 ⟨rfl, hb1⟩
    go_wp2
    go_ret
    exact ⟨rfl, hb1⟩
  have hbi : ¬ (100 : Int) < (n : Int) := by omega
  have hk8 : k ≤ n := by omega
  have hbs : Bs l := fun v hv2 => u8_of (hv v hv2)
  have HSrc := Lib.hid (fun W (hb : Below w.heap.size w W) => lst_srcW hA hb hv)
  have HLST := Lib.hid hA
  obtain ⟨bb, oo, rfl, hcl⟩ := lst_cells hA (by omega)
  obtain ⟨A', cut1, str1⟩ := part_str hA n c k hl hk8 hc
  obtain ⟨x, hx⟩ : ∃ x : Int, num (l.take k) = x := ⟨_, rfl⟩
  have HX := Lib.hid hx
  have HX1 := Lib.hid (show num (seen (lay (newS 20).mem a l) a k) = x by
    rw [← hx]
    congr 1
    have := seen_lay_same (newS 20).mem a l
    rw [← seen_take _ _ _ _ (show k ≤ l.length by omega), this])
  have HG := Lib.hid (fun (W : World) (hb : Below w.heap.size w W) => wGet_ok bb oo n c 0 k l W hl HK.out (by omega) hn hbs (fun j hj => (Chg.of_below (S := fun _ => False) hb).cell (hcl j (by omega)) (fun h => h)))
  have HGX := Lib.hid (show num ((l.drop 0).take k) = x by rw [List.drop_zero]; exact hx)
  have HL := Lib.hid hl
  have STR1 := Lib.hid str1
  clear hx hcl hA hv hbs hl str1
  go_enter Try.func6, Try.ntmps6
  go_wp2_with fail
  refine HA.out.mono ?_
  rintro e w1 ⟨rfl, hb1⟩
  go_wp2_with fail
  refine (St.new 20 (hb1 : Below w.heap.size w w1)).mono ?_
  rintro e w2 ⟨g, rfl, hg, hs2, hb2⟩
  go_wp2_with fail
  refine (hs2.store (a : Int) (some ⟨bb, oo, none⟩) n c l HL.out hc (HSrc.out _ hs2.below) (by omega) (by have := HP.out; have := HB.out; omega) (by omega)).mono ?_
  rintro e w3 ⟨rfl, hs3, hk3⟩
  go_wp2_with fail
  refine (hs3.get_v a k x HR.out (by show _ ≤ (newS 20).pages * 4096; rw [HP.out]; have := HB.out; omega) HX1.out).mono ?_
  rintro e w4 ⟨rfl, hs4, hk4⟩
  have HG4 := HG.out w4 hs4.below
  rw [HGX.out] at HG4
  go_wp2_with fail
  refine HG4.mono ?_
  rintro e w5 ⟨rfl, rfl⟩
  go_wp2_with fail
  refine (hs4.put a k x2 HR.out l2 (by show _ ≤ (newS 20).pages * 4096; rw [HP.out]; have := HB.out; omega)).mono ?_
  rintro e w6 ⟨rfl, hs6, hk6⟩
  go_wp2_with fail
  refine (hs6.load (a : Int) (n : Int) (by omega) (by omega) (by show _ ≤ ((newS 20).pages : Int) * 4096; have := HP.out; have := HB.out; omega) (by omega)).mono ?_
  rintro e w7 ⟨r, rfl, hr, hrow, hs7, hk7⟩
  rw [Int.toNat_natCast] at *
  have hrow : Row w7 r (seen (lay (lay (newS 20).mem a l) a (le k x2)) a n) := hrow
  have HROW := Lib.hid hrow
  have HBB := Lib.hid hs7.below
  clear HG4 hrow hs2 hs3 hs4 hs6 hs7 hk3 hk4 hk6 hk7 hb1 hb2 hg hr
  have HW : RowKit.Hid (∀ W : World, Below w7.heap.size w7 W → Calls Try.prog 39 #[.int .i64 (k : Int), .slice (some ⟨W.heap.size, 0, none⟩) 1 1] (W.alloc (.cells #[.int .u64 x2] 31)) fun e w' => ∃ r' : Nat, e = .returned (.slice (some ⟨r', 0, none⟩) k k) ∧ (convert 32 9 (.slice (some ⟨r', 0, none⟩) k k)).run Try.prog w' = .ok (.string (strOfNums (le k x2))) w' ∧ Below w7.heap.size w7 w') := by
    intro W hb
    refine (wBytes_ok k 1 1 (some ⟨W.heap.size, 0, none⟩) [x2] (W.alloc (.cells #[.int .u64 x2] 31)) rfl HK.out (by omega) (fun v hv => by rw [List.mem_singleton.1 hv]; exact l2) (fun _ => ⟨_, _, rfl, fun j hj => by
      obtain rfl : j = 0 := by omega
      exact cell_one (al_new rfl)⟩)).mono ?_
    rintro e w' ⟨r', rfl, hr', hz, hb'⟩
    rw [bytesL_one] at hz
    rw [Nat.mul_one]
    exact ⟨r', rfl, hz.row.string0 k k (le_length k x2), (hb.alloc hb.size _).trans (hb'.mono (hb.alloc hb.size _).size)⟩
  have cut2 := fun W => cut_h r n k hk8 W
  obtain ⟨A5, p5, cut3⟩ := cut_l r n k hk8 (k : Int) rfl
  have KEEP : RowKit.Hid (∀ W : World, Below w7.heap.size w7 W → (convert 32 9 (.slice (some ⟨r, 0, none⟩) k n)).run Try.prog W = .ok (.string (strOfNums (le k x2))) W ∧ (convert 32 9 (.slice (some A5) (n - k) (n - k))).run Try.prog W = .ok (.string (strOfNums (l.drop k))) W ∧ (convert 32 9 (.slice A' (n - k) (c - k))).run Try.prog W = .ok (.string (strOfNums (l.drop k))) W ∧ Below w7.heap.size w7 W) := by
    intro W hb
    have hrw := HROW.out.kp (KpT.of_below hb)
    have e1 : ((seen (lay (lay (newS 20).mem a l) a (le k x2)) a n).drop 0).take k = le k x2 := by rw [List.drop_zero, seen_lay_take _ _ _ _ _ (le_length k x2) hk8]
    have e2 : ((seen (lay (lay (newS 20).mem a l) a (le k x2)) a n).drop k).take (n - k) = l.drop k := by
      rw [seen_lay_drop _ _ _ _ _ (le_length k x2)]
      have := seen_lay_same (newS 20).mem a l
      rw [HL.out] at this
      rw [this, List.take_of_length_le (by rw [List.length_drop, HL.out]; omega)]
    refine ⟨?_, ?_, STR1.out W (HBB.out.trans (hb.mono HBB.out.size)) _, hb⟩
    · have := hrw.string 0 k n (by rw [seen_length]; omega)
      rw [e1] at this
      exact this
    · have := p5.string hrw (seen_length _ _ _) (n - k)
      rw [e2] at this
      exact this
  go_wp2_with fail
  clear p5
  refine wp_region_held_drew (S := (fun W => (convert 32 9 (.slice (some ⟨r, 0, none⟩) k n)).run Try.prog W = .ok (.string (strOfNums (le k x2))) W ∧ (convert 32 9 (.slice (some A5) (n - k) (n - k))).run Try.prog W = .ok (.string (strOfNums (l.drop k))) W ∧ (convert 32 9 (.slice A' (n - k) (c - k))).run Try.prog W = .ok (.string (strOfNums (l.drop k))) W ∧ Below w7.heap.size w7 W)) (by kernel_rfl) ?_ (fun hHeld => ?_)
  · (first | exact KEEP.out _ ((Below.refl _ _).drew) | exact KEEP.out _ (Below.drew ((Below.refl _ _).alloc (Nat.le_refl _) _)) | exact KEEP.out _ hb')
  refine wpAnyH_take (i := 0) (v := ?_) rfl (by kernel_rfl) (by kernel_rfl) (by kernel_rfl) (fun _ _ _ h => h) (Or.inl ⟨by rfl, ?_⟩) (by assumption) ?_
  rotate_left
  · intro w hSw; (try dsimp only at hSw); go_simp <;> with_reducible rfl
  try simp only [Act.put, List.getElem_toArray, List.getElem_cons_zero, List.getElem_cons_succ, List.setIfInBounds_toArray, List.set_cons_zero, List.set_cons_succ]
  refine wpAnyH_take (i := 1) (v := ?_) rfl (by kernel_rfl) (by kernel_rfl) (by kernel_rfl) (fun _ _ _ h => h) (Or.inl ⟨by rfl, ?_⟩) (by assumption) ?_
  rotate_left
  · intro w hSw; (try dsimp only at hSw); go_simp <;> with_reducible rfl
  try simp only [Act.put, List.getElem_toArray, List.getElem_cons_zero, List.getElem_cons_succ, List.setIfInBounds_toArray, List.set_cons_zero, List.set_cons_succ]
  refine wpAnyH_take (i := 2) (v := ?_) rfl (by kernel_rfl) (by kernel_rfl) (by kernel_rfl) (fun _ _ _ h => h) (Or.inl ⟨by rfl, ?_⟩) (by assumption) ?_
  rotate_left
  · intro w hSw; (try dsimp only at hSw); go_simp <;> with_reducible rfl
  try simp only [Act.put, List.getElem_toArray, List.getElem_cons_zero, List.getElem_cons_succ, List.setIfInBounds_toArray, List.set_cons_zero, List.set_cons_succ]
  refine wpAnyH_take (i := 3) (v := ?_) rfl (by kernel_rfl) (by kernel_rfl) (by kernel_rfl) (fun _ _ _ h => h) (Or.inl ⟨by rfl, ?_⟩) (by assumption) ?_
  rotate_left
  · intro w hSw; (try dsimp only at hSw); go_simp <;> with_reducible rfl
  try simp only [Act.put, List.getElem_toArray, List.getElem_cons_zero, List.getElem_cons_succ, List.setIfInBounds_toArray, List.set_cons_zero, List.set_cons_succ]
  refine wpAnyH_take (i := 4) (v := ?_) rfl (by kernel_rfl) (by kernel_rfl) (by kernel_rfl) (fun _ _ _ h => h) (Or.inl ⟨by rfl, ?_⟩) (by assumption) ?_
  rotate_left
  · intro w hSw; (try dsimp only at hSw); go_simp <;> with_reducible rfl
  try simp only [Act.put, List.getElem_toArray, List.getElem_cons_zero, List.getElem_cons_succ, List.setIfInBounds_toArray, List.set_cons_zero, List.set_cons_succ]
  refine wpAnyH_take (i := 5) (v := ?_) rfl (by kernel_rfl) (by kernel_rfl) (by kernel_rfl) (fun _ _ _ h => h) (Or.inl ⟨by rfl, ?_⟩) (by assumption) ?_
  rotate_left
  · intro w hSw; (try dsimp only at hSw); go_simp <;> with_reducible rfl
  try simp only [Act.put, List.getElem_toArray, List.getElem_cons_zero, List.getElem_cons_succ, List.setIfInBounds_toArray, List.set_cons_zero, List.set_cons_succ]
  refine wpAnyH_take (i := 6) (v := ?_) rfl (by kernel_rfl) (by kernel_rfl) (by kernel_rfl) (fun _ _ _ h => h) (Or.inl ⟨by rfl, ?_⟩) (by assumption) ?_
  rotate_left
  · intro w hSw; (try dsimp only at hSw); go_simp <;> with_reducible rfl
  try simp only [Act.put, List.getElem_toArray, List.getElem_cons_zero, List.getElem_cons_succ, List.setIfInBounds_toArray, List.set_cons_zero, List.set_cons_succ]
  refine wpAnyH_take (i := 7) (v := ?_) rfl (by kernel_rfl) (by kernel_rfl) (by kernel_rfl) (fun _ _ _ h => h) (Or.inl ⟨by rfl, ?_⟩) (by assumption) ?_
  rotate_left
  · intro w hSw; (try dsimp only at hSw); go_simp <;> with_reducible rfl
  try simp only [Act.put, List.getElem_toArray, List.getElem_cons_zero, List.getElem_cons_succ, List.setIfInBounds_toArray, List.set_cons_zero, List.set_cons_succ]
  refine wpAnyH_take (i := 8) (v := ?_) rfl (by kernel_rfl) (by kernel_rfl) (by kernel_rfl) (fun _ _ _ h => h) (Or.inl ⟨by rfl, ?_⟩) (by assumption) ?_
  rotate_left
  · intro w hSw; (try dsimp only at hSw); go_simp <;> with_reducible rfl
  try simp only [Act.put, List.getElem_toArray, List.getElem_cons_zero, List.getElem_cons_succ, List.setIfInBounds_toArray, List.set_cons_zero, List.set_cons_succ]
  refine wpAnyH_take (i := 9) (v := ?_) rfl (by kernel_rfl) (by kernel_rfl) (by kernel_rfl) (fun _ _ _ h => h) (Or.inl ⟨by rfl, ?_⟩) (by assumption) ?_
  rotate_left
  · intro w hSw; (try dsimp only at hSw); go_simp <;> with_reducible rfl
  try simp only [Act.put, List.getElem_toArray, List.getElem_cons_zero, List.getElem_cons_succ, List.setIfInBounds_toArray, List.set_cons_zero, List.set_cons_succ]
  refine wpAnyH_take (i := 10) (v := ?_) rfl (by kernel_rfl) (by kernel_rfl) (by kernel_rfl) (fun _ _ _ h => h) (Or.inl ⟨by rfl, ?_⟩) (by assumption) ?_
  rotate_left
  · intro w hSw; (try dsimp only at hSw); go_simp <;> with_reducible rfl
  try simp only [Act.put, List.getElem_toArray, List.getElem_cons_zero, List.getElem_cons_succ, List.setIfInBounds_toArray, List.set_cons_zero, List.set_cons_succ]
  refine wpAnyH_take (i := 11) (v := ?_) rfl (by kernel_rfl) (by kernel_rfl) (by kernel_rfl) (fun _ _ _ h => h) (Or.inl ⟨by rfl, ?_⟩) (by assumption) ?_
  rotate_left
  · intro w hSw; (try dsimp only at hSw); go_simp <;> with_reducible rfl
  try simp only [Act.put, List.getElem_toArray, List.getElem_cons_zero, List.getElem_cons_succ, List.setIfInBounds_toArray, List.set_cons_zero, List.set_cons_succ]
  refine wpAnyH_take (i := 12) (v := ?_) rfl (by kernel_rfl) (by kernel_rfl) (by kernel_rfl) (fun _ _ _ h => h) (Or.inl ⟨by rfl, ?_⟩) (by assumption) ?_
  rotate_left
  · intro w hSw; (try dsimp only at hSw); go_simp <;> with_reducible rfl
  try simp only [Act.put, List.getElem_toArray, List.getElem_cons_zero, List.getElem_cons_succ, List.setIfInBounds_toArray, List.set_cons_zero, List.set_cons_succ]
  refine wpAnyH_take (i := 13) (v := ?_) rfl (by kernel_rfl) (by kernel_rfl) (by kernel_rfl) (fun _ _ _ h => h) (Or.inl ⟨by rfl, ?_⟩) (by assumption) ?_
  rotate_left
  · intro w hSw; (try dsimp only at hSw); go_simp <;> with_reducible rfl
  try simp only [Act.put, List.getElem_toArray, List.getElem_cons_zero, List.getElem_cons_succ, List.setIfInBounds_toArray, List.set_cons_zero, List.set_cons_succ]
  refine wpAnyH_take (i := 14) (v := ?_) rfl (by kernel_rfl) (by kernel_rfl) (by kernel_rfl) (fun _ _ _ h => h) (Or.inl ⟨by rfl, ?_⟩) (by assumption) ?_
  rotate_left
  · intro w hSw; (try dsimp only at hSw); go_simp <;> with_reducible rfl
  try simp only [Act.put, List.getElem_toArray, List.getElem_cons_zero, List.getElem_cons_succ, List.setIfInBounds_toArray, List.set_cons_zero, List.set_cons_succ]
  refine wpAnyH_take (i := 15) (v := ?_) rfl (by kernel_rfl) (by kernel_rfl) (by kernel_rfl) (fun _ _ _ h => h) (Or.inl ⟨by rfl, ?_⟩) (by assumption) ?_
  rotate_left
  · intro w hSw; (try dsimp only at hSw); go_simp <;> with_reducible rfl
  try simp only [Act.put, List.getElem_toArray, List.getElem_cons_zero, List.getElem_cons_succ, List.setIfInBounds_toArray, List.set_cons_zero, List.set_cons_succ]
  refine wpAnyH_take (i := 16) (v := ?_) rfl (by kernel_rfl) (by kernel_rfl) (by kernel_rfl) (fun _ _ _ h => h) (Or.inl ⟨by rfl, ?_⟩) (by assumption) ?_
  rotate_left
  · intro w hSw; (try dsimp only at hSw); go_simp <;> with_reducible rfl
  try simp only [Act.put, List.getElem_toArray, List.getElem_cons_zero, List.getElem_cons_succ, List.setIfInBounds_toArray, List.set_cons_zero, List.set_cons_succ]
  refine wpAnyH_take (i := 17) (v := ?_) rfl (by kernel_rfl) (by kernel_rfl) (by kernel_rfl) (fun _ _ _ h => h) (Or.inl ⟨by rfl, ?_⟩) (by assumption) ?_
  rotate_left
  · intro w hSw; (try dsimp only at hSw); go_simp <;> with_reducible rfl
  try simp only [Act.put, List.getElem_toArray, List.getElem_cons_zero, List.getElem_cons_succ, List.setIfInBounds_toArray, List.set_cons_zero, List.set_cons_succ]
  refine wpAnyH_take (i := 18) (v := ?_) rfl (by kernel_rfl) (by kernel_rfl) (by kernel_rfl) (fun _ _ _ h => h) (Or.inl ⟨by rfl, ?_⟩) (by assumption) ?_
  rotate_left
  · intro w hSw; (try dsimp only at hSw); go_simp <;> with_reducible rfl
  try simp only [Act.put, List.getElem_toArray, List.getElem_cons_zero, List.getElem_cons_succ, List.setIfInBounds_toArray, List.set_cons_zero, List.set_cons_succ]
  refine wpAnyH_take (i := 19) (v := ?_) rfl (by kernel_rfl) (by kernel_rfl) (by kernel_rfl) (fun _ _ _ h => h) (Or.inl ⟨by rfl, ?_⟩) (by assumption) ?_
  rotate_left
  · intro w hSw; (try dsimp only at hSw); go_simp <;> with_reducible rfl
  try simp only [Act.put, List.getElem_toArray, List.getElem_cons_zero, List.getElem_cons_succ, List.setIfInBounds_toArray, List.set_cons_zero, List.set_cons_succ]
  refine wpAnyH_take (i := 20) (v := ?_) rfl (by kernel_rfl) (by kernel_rfl) (by kernel_rfl) (fun _ _ _ h => h) (Or.inl ⟨by rfl, ?_⟩) (by assumption) ?_
  rotate_left
  · intro w hSw; (try dsimp only at hSw); go_simp <;> with_reducible rfl
  try simp only [Act.put, List.getElem_toArray, List.getElem_cons_zero, List.getElem_cons_succ, List.setIfInBounds_toArray, List.set_cons_zero, List.set_cons_succ]
  refine wpAnyH_take (i := 21) (v := ?_) rfl (by kernel_rfl) (by kernel_rfl) (by kernel_rfl) (fun _ _ _ h => h) (Or.inl ⟨by rfl, ?_⟩) (by assumption) ?_
  rotate_left
  · intro w hSw; (try dsimp only at hSw); go_simp <;> with_reducible rfl
  try simp only [Act.put, List.getElem_toArray, List.getElem_cons_zero, List.getElem_cons_succ, List.setIfInBounds_toArray, List.set_cons_zero, List.set_cons_succ]
  refine wpAnyH_take (i := 22) (v := ?_) rfl (by kernel_rfl) (by kernel_rfl) (by kernel_rfl) (fun _ _ _ h => h) (Or.inl ⟨by rfl, ?_⟩) (by assumption) ?_
  rotate_left
  · intro w hSw; (try dsimp only at hSw); go_simp <;> with_reducible rfl
  try simp only [Act.put, List.getElem_toArray, List.getElem_cons_zero, List.getElem_cons_succ, List.setIfInBounds_toArray, List.set_cons_zero, List.set_cons_succ]
  refine wpAnyH_take (i := 23) (v := ?_) rfl (by kernel_rfl) (by kernel_rfl) (by kernel_rfl) (fun _ _ _ h => h) (Or.inl ⟨by rfl, ?_⟩) (by assumption) ?_
  rotate_left
  · intro w hSw; (try dsimp only at hSw); go_simp <;> with_reducible rfl
  try simp only [Act.put, List.getElem_toArray, List.getElem_cons_zero, List.getElem_cons_succ, List.setIfInBounds_toArray, List.set_cons_zero, List.set_cons_succ]
  refine wpAnyH_take (i := 24) (v := ?_) rfl (by kernel_rfl) (by kernel_rfl) (by kernel_rfl) (fun _ _ _ h => h) (Or.inl ⟨by rfl, ?_⟩) (by assumption) ?_
  rotate_left
  · intro w hSw; (try dsimp only at hSw); go_simp <;> with_reducible rfl
  try simp only [Act.put, List.getElem_toArray, List.getElem_cons_zero, List.getElem_cons_succ, List.setIfInBounds_toArray, List.set_cons_zero, List.set_cons_succ]
  refine wpAnyH_ready (rs := [25]) (by kernel_rfl) (by simp) ?_
  refine AllReadyH.cons rfl (fun K hK => ?_) AllReadyH.nil
  go_simp
  try ((go_at_call 39; refine (HW.out _ (by exact (Below.refl _ _).drew)).mono ?_; rintro e w' ⟨r', rfl, hc', hb'⟩))
  refine hK.out _ _ ?_ (fun hHeld => ?_)
  · (first | exact KEEP.out _ ((Below.refl _ _).drew) | exact KEEP.out _ (Below.drew ((Below.refl _ _).alloc (Nat.le_refl _) _)) | exact KEEP.out _ hb')
  clear hK K
  try simp only [Act.put, List.getElem_toArray, List.getElem_cons_zero, List.getElem_cons_succ, List.setIfInBounds_toArray, List.set_cons_zero, List.set_cons_succ]
  refine wpAnyH_ready (rs := [26]) (by kernel_rfl) (by simp) ?_
  refine AllReadyH.cons rfl (fun K hK => ?_) AllReadyH.nil
  go_simp
  try ((go_at_call 39; refine (HW.out _ (by exact (Below.refl _ _).drew)).mono ?_; rintro e w' ⟨r', rfl, hc', hb'⟩))
  refine hK.out _ _ ?_ (fun hHeld => ?_)
  · (first | exact KEEP.out _ ((Below.refl _ _).drew) | exact KEEP.out _ (Below.drew ((Below.refl _ _).alloc (Nat.le_refl _) _)) | exact KEEP.out _ hb')
  clear hK K
  try simp only [Act.put, List.getElem_toArray, List.getElem_cons_zero, List.getElem_cons_succ, List.setIfInBounds_toArray, List.set_cons_zero, List.set_cons_succ]
  refine wpAnyH_ready (rs := [27]) (by kernel_rfl) (by simp) ?_
  refine AllReadyH.cons rfl (fun K hK => ?_) AllReadyH.nil
  go_simp
  try ((go_at_call 39; refine (HW.out _ (by exact (Below.refl _ _).drew)).mono ?_; rintro e w' ⟨r', rfl, hc', hb'⟩))
  refine hK.out _ _ ?_ (fun hHeld => ?_)
  · (first | exact KEEP.out _ ((Below.refl _ _).drew) | exact KEEP.out _ (Below.drew ((Below.refl _ _).alloc (Nat.le_refl _) _)) | exact KEEP.out _ hb')
  clear hK K
  try simp only [Act.put, List.getElem_toArray, List.getElem_cons_zero, List.getElem_cons_succ, List.setIfInBounds_toArray, List.set_cons_zero, List.set_cons_succ]
  refine wpAnyH_take (i := 28) (v := ?_) rfl (by kernel_rfl) (by kernel_rfl) (by kernel_rfl) (fun _ _ _ h => h) (Or.inl ⟨by rfl, ?_⟩) (by assumption) ?_
  rotate_left
  · intro w hSw; (try dsimp only at hSw); go_simp <;> with_reducible rfl
  try simp only [Act.put, List.getElem_toArray, List.getElem_cons_zero, List.getElem_cons_succ, List.setIfInBounds_toArray, List.set_cons_zero, List.set_cons_succ]
  refine wpAnyH_take (i := 29) (v := ?_) rfl (by kernel_rfl) (by kernel_rfl) (by kernel_rfl) (fun _ _ _ h => h) (Or.inl ⟨by rfl, ?_⟩) (by assumption) ?_
  rotate_left
  · intro w hSw; (try dsimp only at hSw); go_simp <;> with_reducible rfl
  try simp only [Act.put, List.getElem_toArray, List.getElem_cons_zero, List.getElem_cons_succ, List.setIfInBounds_toArray, List.set_cons_zero, List.set_cons_succ]
  refine wpAnyH_take (i := 30) (v := ?_) rfl (by kernel_rfl) (by kernel_rfl) (by kernel_rfl) (fun _ _ _ h => h) (Or.inl ⟨by rfl, ?_⟩) (by assumption) ?_
  rotate_left
  · intro w hSw; (try dsimp only at hSw); go_simp <;> with_reducible rfl
  try simp only [Act.put, List.getElem_toArray, List.getElem_cons_zero, List.getElem_cons_succ, List.setIfInBounds_toArray, List.set_cons_zero, List.set_cons_succ]
  refine wpAnyH_take (i := 31) (v := ?_) rfl (by kernel_rfl) (by kernel_rfl) (by kernel_rfl) (fun _ _ _ h => h) (Or.inl ⟨by rfl, ?_⟩) (by assumption) ?_
  rotate_left
  · intro w hSw; (try dsimp only at hSw); go_simp <;> with_reducible rfl
  try simp only [Act.put, List.getElem_toArray, List.getElem_cons_zero, List.getElem_cons_succ, List.setIfInBounds_toArray, List.set_cons_zero, List.set_cons_succ]
  refine wpAnyH_take (i := 32) (v := ?_) rfl (by kernel_rfl) (by kernel_rfl) (by kernel_rfl) (fun _ _ _ h => h) (Or.inl ⟨by rfl, ?_⟩) (by assumption) ?_
  rotate_left
  · intro w hSw; (try dsimp only at hSw); go_simp <;> with_reducible rfl
  try simp only [Act.put, List.getElem_toArray, List.getElem_cons_zero, List.getElem_cons_succ, List.setIfInBounds_toArray, List.set_cons_zero, List.set_cons_succ]
  refine wpAnyH_take (i := 33) (v := ?_) rfl (by kernel_rfl) (by kernel_rfl) (by kernel_rfl) (fun _ _ _ h => h) (Or.inl ⟨by rfl, ?_⟩) (by assumption) ?_
  rotate_left
  · intro w hSw; (try dsimp only at hSw); go_simp <;> with_reducible rfl
  try simp only [Act.put, List.getElem_toArray, List.getElem_cons_zero, List.getElem_cons_succ, List.setIfInBounds_toArray, List.set_cons_zero, List.set_cons_succ]
  refine wpAnyH_take (i := 34) (v := ?_) rfl (by kernel_rfl) (by kernel_rfl) (by kernel_rfl) (fun _ _ _ h => h) (Or.inl ⟨by rfl, ?_⟩) (by assumption) ?_
  rotate_left
  · intro w hSw; (try dsimp only at hSw); go_simp <;> with_reducible rfl
  try simp only [Act.put, List.getElem_toArray, List.getElem_cons_zero, List.getElem_cons_succ, List.setIfInBounds_toArray, List.set_cons_zero, List.set_cons_succ]
  refine wpAnyH_take (i := 35) (v := ?_) rfl (by kernel_rfl) (by kernel_rfl) (by kernel_rfl) (fun _ _ _ h => h) (Or.inl ⟨by rfl, ?_⟩) (by assumption) ?_
  rotate_left
  · intro w hSw; (try dsimp only at hSw); go_simp <;> with_reducible rfl
  try simp only [Act.put, List.getElem_toArray, List.getElem_cons_zero, List.getElem_cons_succ, List.setIfInBounds_toArray, List.set_cons_zero, List.set_cons_succ]
  refine wpAnyH_take (i := 36) (v := ?_) rfl (by kernel_rfl) (by kernel_rfl) (by kernel_rfl) (fun _ _ _ h => h) (Or.inl ⟨by rfl, ?_⟩) (by assumption) ?_
  rotate_left
  · intro w hSw; (try dsimp only at hSw); go_simp <;> with_reducible rfl
  try simp only [Act.put, List.getElem_toArray, List.getElem_cons_zero, List.getElem_cons_succ, List.setIfInBounds_toArray, List.set_cons_zero, List.set_cons_succ]
  refine wpAnyH_take (i := 37) (v := ?_) rfl (by kernel_rfl) (by kernel_rfl) (by kernel_rfl) (fun _ _ _ h => h) (Or.inl ⟨by rfl, ?_⟩) (by assumption) ?_
  rotate_left
  · intro w hSw; (try dsimp only at hSw); go_simp <;> with_reducible rfl
  try simp only [Act.put, List.getElem_toArray, List.getElem_cons_zero, List.getElem_cons_succ, List.setIfInBounds_toArray, List.set_cons_zero, List.set_cons_succ]
  refine wpAnyH_take (i := 38) (v := ?_) rfl (by kernel_rfl) (by kernel_rfl) (by kernel_rfl) (fun _ _ _ h => h) (Or.inl ⟨by rfl, ?_⟩) (by assumption) ?_
  rotate_left
  · intro w hSw; (try dsimp only at hSw); go_simp <;> with_reducible rfl
  try simp only [Act.put, List.getElem_toArray, List.getElem_cons_zero, List.getElem_cons_succ, List.setIfInBounds_toArray, List.set_cons_zero, List.set_cons_succ]
  refine wpAnyH_take (i := 39) (v := ?_) rfl (by kernel_rfl) (by kernel_rfl) (by kernel_rfl) (fun _ _ _ h => h) (Or.inl ⟨by rfl, ?_⟩) (by assumption) ?_
  rotate_left
  · intro w hSw; (try dsimp only at hSw); go_simp <;> with_reducible rfl
  try simp only [Act.put, List.getElem_toArray, List.getElem_cons_zero, List.getElem_cons_succ, List.setIfInBounds_toArray, List.set_cons_zero, List.set_cons_succ]
  refine wpAnyH_take (i := 40) (v := ?_) rfl (by kernel_rfl) (by kernel_rfl) (by kernel_rfl) (fun _ _ _ h => h) (Or.inl ⟨by rfl, ?_⟩) (by assumption) ?_
  rotate_left
  · intro w hSw; (try dsimp only at hSw); go_simp <;> with_reducible rfl
  try simp only [Act.put, List.getElem_toArray, List.getElem_cons_zero, List.getElem_cons_succ, List.setIfInBounds_toArray, List.set_cons_zero, List.set_cons_succ]
  refine wpAnyH_take (i := 41) (v := ?_) rfl (by kernel_rfl) (by kernel_rfl) (by kernel_rfl) (fun _ _ _ h => h) (Or.inl ⟨by rfl, ?_⟩) (by assumption) ?_
  rotate_left
  · intro w hSw; (try dsimp only at hSw); go_simp <;> with_reducible rfl
  try simp only [Act.put, List.getElem_toArray, List.getElem_cons_zero, List.getElem_cons_succ, List.setIfInBounds_toArray, List.set_cons_zero, List.set_cons_succ]
  refine wpAnyH_done (by kernel_rfl) ?_ _
  go_wp2
  go_ret
  exact ⟨rfl, HBB.out.trans (hb'.mono HBB.out.size)⟩

theorem CellsBytes_walk (a0 a1 a2 : Int) (A3 : Option Addr) (n3 c3 : Nat) (l3 : List Int) (w : World) (h0 : (Lit.int .u16 a0).wf = true) (h1 : (Lit.int .u8 a1).wf = true) (h2 : (Lit.int .u64 a2).wf = true)
    (h3 : l3.length = n3 ∧ n3 ≤ c3 ∧ n3 ≤ maxLen ∧ Lst (KInt .u8) 1 w A3 l3 ∧ ∀ p ∈ l3, wfInt .u8 p) (y3 : n3 * 1 ≤ 140737488351232) :
    Calls Try.prog 6 #[.int .u16 a0, .int .u8 a1, .int .u64 a2, .slice A3 n3 c3] w fun e w' => e = .returned (.bool true) ∧ Below w.heap.size w w' :=
  CellsBytes_any w a0 a1 a2 A3 n3 c3 l3 (u16_lit h0) (u8_lit h1) (u64_lit h2) h3.1 h3.2.1 (by omega) h3.2.2.2.1 h3.2.2.2.2
end Go.Proofs.Ytfdhjeeaigfmfaa.Sp
