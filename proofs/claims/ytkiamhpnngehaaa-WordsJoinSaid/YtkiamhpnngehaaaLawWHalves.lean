/- WordsHalves: a number's halves; puts at places that do not meet. -/
import Derived.Test.YtkiamhpnngehaaaWordsAwake
import Derived.Test.YtkiamhpnngehaaaSpaceBytes
namespace Go.Proofs.Ytkiamhpnngehaaa.Sp
open Go.RowKit Go.WideMaps Go.Proofs.Ytkiamhpnngehaaa.In Go.Proofs.Ytkiamhpnngehaaa.Plain
set_option linter.unusedVariables false

/-- A row of bytes out of a text. -/
theorem text_row (W : World) (l : List Int) (hv : ∀ v ∈ l, 0 ≤ v ∧ v ≤ 255) : ∃ (c : Nat) (T : List Int) (C : Array Value) (fr : Nat × Nat), l.length ≤ c ∧ l.length ≤ fr.1 ∧
    (convert 9 22 (.string (strOfNums l))).run Try.prog W = .ok (.slice (some ⟨W.heap.size, 0, none⟩) l.length c) (W.drew.alloc (.cells C 5 fr)) ∧ RowX (W.alloc (.cells C 5 fr)).drew W.heap.size T fr l := by
  obtain ⟨c, T, C, fr, hc, hC, hfr, h⟩ := conv_text W l hv
  exact ⟨c, T, C, fr, hc, hfr, h, by subst hC; exact al_new (w := W) rfl⟩
theorem RowX.chg {w w' : World} {r : Nat} {T : List Int} {fr : Nat × Nat} {l : List Int} {S : Nat → Prop} (h : RowX w r T fr l) (hc : Chg w w' S) (hS : ¬ S r) : RowX w' r T fr l := hc.at h hS
theorem RowX.al {w : World} {r : Nat} {T : List Int} {fr : Nat × Nat} {l : List Int} (h : RowX w r T fr l) (o : Obj) : RowX (w.alloc o) r T fr l := al_old h
theorem RowX.str {w : World} {r : Nat} {T : List Int} {fr : Nat × Nat} {l : List Int} (h : RowX w r T fr l) (n c : Nat) (hn : l.length = n) : (convert 22 9 (.slice (some ⟨r, 0, none⟩) n c)).run Try.prog w = .ok (.string (strOfNums l)) w := by
  have := h.whole.string 0 n c (by rw [List.length_append]; omega)
  rw [List.drop_zero, List.take_append_of_le_length (by omega), List.take_of_length_le (by omega)] at this
  exact this
theorem RowX.cells {w : World} {r : Nat} {T : List Int} {fr : Nat × Nat} {l : List Int} (h : RowX w r T fr l) (n : Nat) (hn : l.length = n) : ∀ j, j < n → w.cell? ⟨r, 0 + j, none⟩ = some (.int .u8 (l.getD j 0)) := by
  intro j hj
  rw [Nat.zero_add]
  exact h.cell (by omega)

theorem size_al (w : World) (o : Obj) : (w.alloc o).drew.heap.size = w.heap.size + 1 := by
  show (w.heap.push o).size = _
  exact Array.size_push _
theorem put_apart0 (b l1 l2 : List Int) (k : Nat) (hk : k ≤ 8) (hb : 24 ≤ b.length) (e1 : l1.length = k) (e2 : l2.length = k) :
  (b.take 8 ++ l2 ++ b.drop (8+k)).take 0 ++ l1 ++ (b.take 8 ++ l2 ++ b.drop (8+k)).drop (0+k) = (b.take 0 ++ l1 ++ b.drop (0+k)).take 8 ++ l2 ++ (b.take 0 ++ l1 ++ b.drop (0+k)).drop (8+k) := by
  simp only [List.take_zero, List.nil_append, Nat.zero_add]
  have a1 : (b.take 8 ++ l2 ++ b.drop (8+k)).drop k = (b.drop k).take (8-k) ++ (l2 ++ b.drop (8+k)) := by rw [List.append_assoc, List.drop_append_of_le_length (by rw [List.length_take]; omega), List.drop_take]
  have a2 : (l1 ++ b.drop k).take 8 = l1 ++ (b.drop k).take (8-k) := by rw [List.take_append, e1, List.take_of_length_le (l := l1) (by omega)]
  have a3 : (l1 ++ b.drop k).drop (8+k) = b.drop (8+k) := by rw [List.drop_append, e1, List.drop_of_length_le (l := l1) (by omega), List.nil_append, List.drop_drop]; congr 1; omega
  rw [a1, a2, a3]; simp
theorem put_apart (b : List Int) (k : Nat) (n m : Int) (hk : k ≤ 8) (hb : 24 ≤ b.length) : putL (putL b 8 k m) 0 k n = putL (putL b 0 k n) 8 k m := by
  unfold putL
  exact put_apart0 b (le k n) (le k m) k hk hb (le_length _ _) (le_length _ _)
theorem num_halves (b : List Int) (k h : Nat) (hb : Bs b) (hk : k = h + h) (hl : k ≤ b.length) : num ((b.drop 0).take k) = num ((b.drop 0).take h) + 256 ^ h * num ((b.drop h).take h) := by
  subst hk
  rw [List.drop_zero, List.take_add, num_append, List.length_take, Nat.min_eq_left (by omega)]

theorem halves_fin (L H X : Int) (k hh p : Nat) (hp : 8 * hh = p) (hk : k ≤ 8) (hnum : X = L + 256 ^ hh * H) (r1 : 0 ≤ X ∧ X < 256 ^ k) (r2 : 0 ≤ L) (r3 : 0 ≤ H) : IntKind.u64.wrap (L + IntKind.u64.wrap (H * 2 ^ p)) = X := by
  have hpw : (2 : Int) ^ p = 256 ^ hh := by rw [← hp]; exact pow2_256 hh
  rw [hpw]
  have hk8 : (256 : Int) ^ k ≤ 18446744073709551616 := pow256_u64 hk
  have hH : 0 ≤ 256 ^ hh * H := Int.mul_nonneg (by have := pow256_pos hh; omega) r3
  rw [Int.mul_comm H]
  generalize (256 : Int) ^ hh * H = Y at *
  generalize (256 : Int) ^ k = Z at *
  have e1 : IntKind.u64.wrap Y = Y := by simp [IntKind.wrap, IntKind.signed, IntKind.bits]; omega
  rw [e1, ← hnum]
  simp [IntKind.wrap, IntKind.signed, IntKind.bits]; omega

set_option maxRecDepth 100000 in
set_option maxHeartbeats 4000000 in
theorem WordsHalves_any (w : World) (A0 : Option Addr) (n0 c0 : Nat) (l0 : List Int) (a1 a2 a3 : Int) (hn0 : l0.length = n0) (hnc : n0 ≤ c0) (hnm : n0 ≤ 140737488351232) (hL : Lst (KInt .u8) 1 w A0 l0) (hv : ∀ p ∈ l0, 0 ≤ p ∧ p ≤ 255)
    (h1 : 0 ≤ a1 ∧ a1 ≤ 255) (h2 : 0 ≤ a2 ∧ a2 ≤ 18446744073709551615) (h3 : 0 ≤ a3 ∧ a3 ≤ 18446744073709551615) :
    Calls Try.prog 7 #[.slice A0 n0 c0, .int .u8 a1, .int .u64 a2, .int .u64 a3] w fun e w' => e = .returned (.bool true) ∧ Below w.heap.size w w' := by
  have HL := Lib.hid hL
  have HN := Lib.hid hn0
  have HV := Lib.hid hv
  clear hL hn0 hv
  go_enter Try.func7, Try.ntmps7
  go_wp2_with fail
  refine (awake2_any w).mono ?_
  rintro e w1 ⟨rfl, hb1⟩
  by_cases hlo : n0 < 24
  · have hloi : (n0 : Int) < 24 := by omega
    go_wp2_with fail
    go_ret
    exact ⟨rfl, hb1⟩
  by_cases hhi : 200 < n0
  · have hloi : ¬ (n0 : Int) < 24 := by omega
    have hhii : (200 : Int) < (n0 : Int) := by omega
    go_wp2_with fail
    go_ret
    exact ⟨rfl, hb1⟩
  have hloi : ¬ (n0 : Int) < 24 := by omega
  have hhii : ¬ (200 : Int) < (n0 : Int) := by omega
  obtain ⟨k, m, hh, hm, hw, hkk⟩ : ∃ k m h : Nat, a1 % 3 = (m : Int) ∧ wrap64 (2 * 2 ^ m) = (k : Int) ∧ (k = 2 ∧ m = 0 ∧ h = 1 ∨ k = 4 ∧ m = 1 ∧ h = 2 ∨ k = 8 ∧ m = 2 ∧ h = 4) := by
    have : a1 % 3 = 0 ∨ a1 % 3 = 1 ∨ a1 % 3 = 2 := by omega
    rcases this with h | h | h
    · exact ⟨2, 0, 1, h, by kernel_rfl, by decide⟩
    · exact ⟨4, 1, 2, h, by kernel_rfl, by decide⟩
    · exact ⟨8, 2, 4, h, by kernel_rfl, by decide⟩
  have hml : (m : Int) ≤ 2 := by omega
  have hkw : wideP (k : Int) := by unfold wideP; omega
  have x1 := lst_string HL.out hb1 n0 c0 HN.out
  obtain ⟨c, T, C, fr, hc, hfr, x2, hX⟩ := text_row w1 l0 HV.out
  have x3 := lst_string HL.out (show Below w.heap.size w (w1.alloc (.cells C 5 fr)).drew from (hb1.alloc hb1.size _).drew) n0 c0 HN.out
  obtain ⟨c', T', C', fr', hc', hfr', x4, hY⟩ := text_row (w1.alloc (.cells C 5 fr)).drew l0 HV.out
  have hsz : (w1.alloc (.cells C 5 fr)).drew.heap.size = w1.heap.size + 1 := size_al _ _
  rw [hsz] at hY x4
  rw [HN.out] at x2 x4 hfr hfr'
  go_wp2_with fail
  clear x1 x2 x3 x4
  have hN := HN.out
  have hbl : Below w.heap.size w ((w1.alloc (.cells C 5 fr)).drew.alloc (.cells C' 5 fr')).drew := ((hb1.alloc hb1.size _).drew.alloc (hb1.alloc hb1.size (.cells C 5 fr)).drew.size _).drew
  generalize hW2 : ((w1.alloc (.cells C 5 fr)).drew.alloc (.cells C' 5 fr')).drew = W2 at hY hbl
  have hX2 : RowX W2 w1.heap.size T fr l0 := by rw [← hW2]; exact hX.al _
  have hw1 : w.heap.size ≤ w1.heap.size := hb1.size
  have hgo : ((w1.alloc (.cells C 5 fr)).alloc (.cells C' 5 fr')).drew.drew = W2 := hW2
  rw [hgo]
  clear hW2 hgo hX hsz
  generalize w1.heap.size = r at *
  rw [hw]
  refine (wPut_x r n0 c 0 k l0 a2 W2 hN hkw (by omega) (by omega) h2 T fr hX2 (by omega)).mono ?_
  rintro e w3 ⟨rfl, hX3, hc3⟩
  have hY3 := hY.chg hc3 (by omega)
  have hbl3 := hc3.below hbl hbl.size (fun i hi => by rw [hi]; exact hw1)
  clear hX2 hY hc3 hbl
  go_wp2_with fail
  have hlp : ∀ (b : List Int) (t : Nat) (x : Int), b.length = n0 → t + 8 ≤ n0 → (putL b t k x).length = n0 := fun b t x hb ht => by rw [putL_length _ (by omega), hb]
  refine (wPut_x r n0 c 8 k _ a3 w3 (hlp _ _ _ hN (by omega)) hkw (by omega) (by omega) h3 T fr hX3 (by rw [hlp _ _ _ hN (by omega)]; omega)).mono ?_
  rintro e w4 ⟨rfl, hX4, hc4⟩
  have hY4 := hY3.chg hc4 (by omega)
  have hbl4 := hc4.below hbl3 hbl3.size (fun i hi => by rw [hi]; exact hw1)
  clear hX3 hY3 hc4 hbl3
  go_wp2_with fail
  refine (wPut_x (r + 1) n0 c' 8 k _ a3 w4 hN hkw (by omega) (by omega) h3 T' fr' hY4 (by omega)).mono ?_
  rintro e w5 ⟨rfl, hY5, hc5⟩
  have hX5 := hX4.chg hc5 (by omega)
  have hbl5 := hc5.below hbl4 hbl4.size (fun i hi => by rw [hi]; omega)
  clear hX4 hY4 hc5 hbl4
  go_wp2_with fail
  refine (wPut_x (r + 1) n0 c' 0 k _ a2 w5 (hlp _ _ _ hN (by omega)) hkw (by omega) (by omega) h2 T' fr' hY5 (by rw [hlp _ _ _ hN (by omega)]; omega)).mono ?_
  rintro e w6 ⟨rfl, hY6, hc6⟩
  have hX6 := hX5.chg hc6 (by omega)
  have hbl6 := hc6.below hbl5 hbl5.size (fun i hi => by rw [hi]; omega)
  clear hX5 hY5 hc6 hbl5
  rw [put_apart l0 k a2 a3 (by omega) (by omega)] at hY6
  have hBs : Bs (putL (putL l0 0 k a2) 8 k a3) := putL_bs (putL_bs (fun x hx => HV.out x hx) _ _ _) _ _ _
  have hle : (putL (putL l0 0 k a2) 8 k a3).length = n0 := hlp _ _ _ (hlp _ _ _ hN (by omega)) (by omega)
  generalize putL (putL l0 0 k a2) 8 k a3 = b at hY6 hX6 hBs hle
  have hkh : k = hh + hh := by omega
  have hhw : wideP (hh : Int) := by unfold wideP; omega
  have hnum := num_halves b k hh hBs hkh (by omega)
  have G1 := Lib.hid (wGet_ok r 0 n0 c 0 k b w6 hle hkw (by omega) (by omega) hBs (hX6.cells n0 hle))
  have G2 := Lib.hid (wGet_ok r 0 n0 c 0 hh b w6 hle hhw (by omega) (by omega) hBs (hX6.cells n0 hle))
  have G3 := Lib.hid (wGet_ok r 0 n0 c hh hh b w6 hle hhw (by omega) (by omega) hBs (hX6.cells n0 hle))
  have r1 := num_range (bs_take (bs_drop hBs 0) k)
  have r2 := num_range (bs_take (bs_drop hBs 0) hh)
  have r3 := num_range (bs_take (bs_drop hBs hh) hh)
  rw [List.length_take, List.length_drop, Nat.min_eq_left (by omega)] at r1 r2 r3
  have s1 : (convert 22 9 (.slice (some ⟨r, 0, none⟩) n0 c)).run Try.prog w6 = .ok (.string (strOfNums b)) w6 := hX6.str n0 c hle
  have s2 : (convert 22 9 (.slice (some ⟨r + 1, 0, none⟩) n0 c')).run Try.prog w6 = .ok (.string (strOfNums b)) w6 := hY6.str n0 c' hle
  generalize num ((b.drop 0).take k) = X at hnum G1 r1
  generalize num ((b.drop 0).take hh) = L at hnum G2 r2
  generalize num ((b.drop hh).take hh) = H at hnum G3 r3
  have hq : (k : Int) / 2 = (hh : Int) := by omega
  have hq2 : (k : Int).tdiv 2 = (hh : Int) := by rw [Int.tdiv_eq_ediv_of_nonneg (by omega)]; exact hq
  obtain ⟨p, hp⟩ : ∃ p : Nat, 8 * hh = p := ⟨_, rfl⟩
  have hfin : IntKind.u64.wrap (L + IntKind.u64.wrap (H * 2 ^ p)) = X := halves_fin L H X k hh p hp (by omega) hnum r1 r2.1 r3.1
  have hpm : (p : Int) ≤ 32 := by omega
  have hp4 : wrap64 (4 * (k : Int)) = (p : Int) := by rw [wrap_in (by omega) (by omega)]; omega
  have hwh : wrap64 (hh : Int) = (hh : Int) := wrap_in (by omega) (by omega)
  clear hp
  generalize strOfNums b = S at s1 s2
  have HFI := Lib.hid hfin
  clear hfin
  have HFIN := Lib.hid (And.intro hnum (And.intro r1 (And.intro r2 r3)))
  have HBL := Lib.hid hbl6
  have HRW := Lib.hid (And.intro hX6 hY6)
  clear hnum r1 r2 r3 hbl6 hX6 hY6 hBs hle hkh hhw hlp hN hkk hc hc' hfr hfr' hkw HL HN HV
  go_wp2_with fail
  refine G1.out.mono ?_
  rintro e w7 ⟨rfl, rfl⟩
  clear G1
  go_wp2_with fail
  refine G2.out.mono ?_
  rintro e w7 ⟨rfl, rfl⟩
  clear G2
  go_wp2_with fail
  refine G3.out.mono ?_
  rintro e w7 ⟨rfl, rfl⟩
  clear G3 hwh hq hq2 hm hw hml
  go_wp2_with fail
  go_ret
  refine ⟨?_, HBL.out⟩
  show Ending.returned (Value.bool (X == IntKind.u64.wrap (L + IntKind.u64.wrap (H * 2 ^ p)))) = _
  rw [HFI.out, beq_self_eq_true]
theorem WordsHalves_walk (A0 : Option Addr) (n0 c0 : Nat) (l0 : List Int) (a1 a2 a3 : Int) (w : World)
    (h0 : l0.length = n0 ∧ n0 ≤ c0 ∧ n0 ≤ maxLen ∧ Lst (KInt .u8) 1 w A0 l0 ∧ ∀ p ∈ l0, wfInt .u8 p) (y0 : n0 * 1 ≤ 140737488351232) (h1 : (Lit.int .u8 a1).wf = true) (h2 : (Lit.int .u64 a2).wf = true) (h3 : (Lit.int .u64 a3).wf = true) :
    Calls Try.prog 7 #[.slice A0 n0 c0, .int .u8 a1, .int .u64 a2, .int .u64 a3] w fun e w' => e = .returned (.bool true) ∧ Below w.heap.size w w' :=
  WordsHalves_any w A0 n0 c0 l0 a1 a2 a3 h0.1 h0.2.1 (by omega) h0.2.2.2.1 (fun p hp => u8_lit (h0.2.2.2.2 p hp)) (u8_lit h1) (u64_lit h2) (u64_lit h3)
end Go.Proofs.Ytkiamhpnngehaaa.Sp
