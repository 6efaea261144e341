/- SpaceParts: what is stored in two parts is as what is stored at once, and what is loaded in two parts too; what is stored at places that don't meet is so in whatever order. -/
import Derived.Test.YtfggmddngbbljaaLawMoves
import Derived.Test.YtfggmddngbbljaaSpaceTwo
import Derived.BigQuiet
namespace Go.Proofs.Ytfggmddngbbljaa.Sp
open Go.RowKit Go.WideMaps Go.Proofs.Ytfggmddngbbljaa.In
set_option linter.unusedVariables false

theorem parts_eq (mem : Nat → Int) (b c : List Int) (t k a far : Nat) (hk : k ≤ b.length) (ha : a = t + k) (hf : far = t + b.length + 7) :
    lay (lay (lay mem far c) a (b.drop k)) t (b.take k) = lay (lay mem t b) far c := by
  subst ha hf
  funext i
  unfold lay
  simp only [List.length_drop, List.length_take, List.getD_eq_getElem?_getD, List.getElem?_drop, List.getElem?_take, Nat.min_eq_left hk]
  by_cases h1 : t ≤ i ∧ i < t + k
  · rw [if_pos h1, if_pos (by omega), if_neg (by omega), if_pos (by omega)]
  · rw [if_neg h1]
    by_cases h2 : t + k ≤ i ∧ i < t + k + (b.length - k)
    · rw [if_pos h2, if_neg (by omega), if_pos (by omega)]
      congr 2
      omega
    · rw [if_neg h2]
      by_cases h3 : t + b.length + 7 ≤ i ∧ i < t + b.length + 7 + c.length
      · rw [if_pos h3, if_pos h3]
      · rw [if_neg h3, if_neg h3, if_neg (by omega)]
theorem strOfNums_append (a b : List Int) : strOfNums (a ++ b) = strOfNums a ++ strOfNums b := by
  apply ByteArray.ext
  simp [strOfNums, ByteArray.data_append]
theorem seen_append (mem : Nat → Int) (t k n : Nat) : seen mem t (k + n) = seen mem t k ++ seen mem (t + k) n := by
  unfold seen
  rw [List.range_add, List.map_append, List.map_map]
  congr 1
  exact List.map_congr_left fun i _ => by show mem (t + (k + i)) = mem (t + k + i); rw [Nat.add_assoc]
theorem parts_fin (W : World) (M : Nat → Int) (t k aa ZZ N r1 r2 r3 : Nat) (ha : aa = t + k) (hz : k + ZZ = N) (hN : N ≤ 100000) (R1 : Row W r1 (seen M t N)) (R2 : Row W r2 (seen M t k)) (R3 : Row W r3 (seen M aa ZZ)) :
    ∃ Y Z : ByteArray, (∀ c, (convert 24 9 (.slice (some ⟨r1, 0, none⟩) N c)).run Try.prog W = .ok (.string (Y ++ Z)) W) ∧ (∀ c, (convert 24 9 (.slice (some ⟨r2, 0, none⟩) k c)).run Try.prog W = .ok (.string Y) W) ∧ (∀ c, (convert 24 9 (.slice (some ⟨r3, 0, none⟩) ZZ c)).run Try.prog W = .ok (.string Z) W) ∧ Y.size + Z.size ≤ 9223372036854775807 := by
  refine ⟨strOfNums (seen M t k), strOfNums (seen M aa ZZ), fun c => ?_, fun c => R2.string0 _ c (seen_length _ _ _), fun c => R3.string0 _ c (seen_length _ _ _), by rw [strOfNums_size, strOfNums_size, seen_length, seen_length]; omega⟩
  rw [R1.string0 N c (seen_length _ _ _), ← hz, seen_append, strOfNums_append, ha]
theorem row_eq {W : World} {r a n : Nat} {M M' : Nat → Int} (h : M = M') (hr : Row W r (seen M a n)) : Row W r (seen M' a n) := h ▸ hr
theorem part_h (A : Option Addr) (n c k : Nat) (hk : k ≤ c) : ∃ A' : Option Addr, (k = 0 ∨ A' = A) ∧ ∀ (e : Int), e = (k : Int) → ∀ W, (Instr.sliceAt 24 (.slice A n c) none (some (.int .i64 e)) none).run Try.prog W = .ok (.slice A' k c) W := by
  refine ⟨if c = 0 then A else A.map (·.add (0 * 1)), ?_, ?_⟩
  · by_cases hc : c = 0
    · left; omega
    · right
      rw [if_neg hc]
      cases A with
      | none => rfl
      | some A => obtain ⟨b, o, sp⟩ := A; cases sp <;> simp [Addr.add]
  · rintro e rfl W
    have ht : Try.prog.underlying 24 = some (.slice (Try.prog.elem 24)) := by kernel_rfl
    have hs : (sizeOf (Try.prog.elem 24)).run Try.prog W = .ok 1 W := by kernel_rfl
    rw [run_sliceAt_slice W 24 _ _ _ _ ht, run_slice_h W 24 _ _ _ ht .i64 _ (by omega) (by omega), hs]
    simp [Result.andThen, sliced]
theorem part_l {w : World} {A : Option Addr} {l : List Int} (h : Lst (KInt .u8) 1 w A l) (hv : ∀ v ∈ l, wfInt .u8 v) (n c k : Nat) (hn : l.length = n) (hk : k ≤ n) (hc : n ≤ c) : ∃ A' : Option Addr, (∀ (e : Int), e = (k : Int) → ∀ W, (Instr.sliceAt 24 (.slice A n c) (some (.int .i64 e)) none none).run Try.prog W = .ok (.slice A' (n - k) (c - k)) W) ∧ ∀ W, Below w.heap.size w W → SrcW w W A' (l.drop k) :=
  ⟨_, fun e he W => by subst he; exact arg_l A n c k hk W, fun W hb => lst_drop h hb hv k c (by omega) (by omega)⟩

set_option maxRecDepth 100000 in
set_option maxHeartbeats 4000000 in
theorem SpaceParts_any (w : World) (A0 : Option Addr) (n0 c0 : Nat) (l0 : List Act3) (a1 : Int) (A2 : Option Addr) (n2 c2 : Nat) (l2 : List Int) (a3 : Int) (A4 : Option Addr) (n4 c4 : Nat) (l4 : List Int)
    (h0 : l0.length = n0) (h0b : n0 ≤ 9223372036854775807) (h0c : Lst KAct3 5 w A0 l0) (h0d : ∀ p ∈ l0, wfAct3 p)
    (h2 : l2.length = n2) (h2a : n2 ≤ c2) (h2b : n2 ≤ 9223372036854775807) (h2c : Lst (KInt .u8) 1 w A2 l2) (h2d : ∀ p ∈ l2, wfInt .u8 p)
    (h4 : l4.length = n4) (h4a : n4 ≤ c4) (h4b : n4 ≤ 9223372036854775807) (h4c : Lst (KInt .u8) 1 w A4 l4) (h4d : ∀ p ∈ l4, wfInt .u8 p) (w1 : 0 ≤ a1 ∧ a1 ≤ 65535) (w3 : 0 ≤ a3 ∧ a3 ≤ 255) :
    Calls Try.prog 9 #[.slice A0 n0 c0, .int .u16 a1, .slice A2 n2 c2, .int .u8 a3, .slice A4 n4 c4] w fun e w' => e = .returned (.bool true) ∧ Below w.heap.size w w' := by
  have HA := Lib.hid (awake3_any w)
  have HF0 := Lib.hid (fun W (hb : Below w.heap.size w W) => few3_any A0 n0 c0 l0 W h0 h0b (lst_acts h0c hb))
  have HP40 := Lib.hid (show (((newS 40).pages : Nat) : Int) * 4096 = 163840 by kernel_rfl)
  have S2 := Lib.hid (fun W (hb : Below w.heap.size w W) => lst_srcW h2c hb h2d)
  have S4 := Lib.hid (fun W (hb : Below w.heap.size w W) => lst_srcW h4c hb h4d)
  go_enter Try.func9, Try.ntmps9
  go_wp2_with fail
  refine HA.out.mono ?_
  rintro e wa ⟨rfl, hb1⟩
  go_wp2_with fail
  refine (HF0.out wa hb1).mono ?_
  rintro e wb ⟨⟨b, rfl⟩, rfl⟩
  cases b with
  | false =>
    go_wp2
    go_ret
    exact ⟨rfl, hb1⟩
  | true =>
    by_cases hbig2 : n2 ≤ 5000
    · have hbi2 : (n2 : Int) ≤ 5000 := by omega
      by_cases hbig4 : n4 ≤ 5000
      · have hbi4 : (n4 : Int) ≤ 5000 := by omega
        go_wp2_with fail
        refine (St.new 40 (hb1 : Below w.heap.size w wa)).mono ?_
        rintro e wc ⟨g, rfl, hg, hs2, hb2⟩
        go_wp2_with fail
        refine (play3_any w g _ A0 n0 c0 l0 wc hs2 h0 h0b h0c h0d).mono ?_
        rintro e wd ⟨rfl, s, hp, hs, _⟩
        have HP := Lib.hid (show (s.pages : Int) * 4096 = 163840 by rw [hp]; exact HP40.out)
        clear hp hs2 hb2 hg hb1 HP40
        go_wp2_with fail
        refine hs.clone.mono ?_
        rintro e wk ⟨gc, rfl, hgc, hc0, hbk⟩
        have HT := Lib.hid (Two.of_clone hs hc0)
        obtain ⟨t, rfl⟩ := Int.eq_ofNat_of_zero_le w1.1
        obtain ⟨q, hq⟩ : ∃ q : Nat, n2 + n4 = q := ⟨_, rfl⟩
        obtain ⟨N, hN⟩ : ∃ N : Nat, q + 7 = N := ⟨_, rfl⟩
        obtain ⟨u, hu⟩ : ∃ u : Nat, t + n2 = u := ⟨_, rfl⟩
        obtain ⟨far, hfar⟩ : ∃ far : Nat, u + 7 = far := ⟨_, rfl⟩
        have e1 : (n2 : Int) + (n4 : Int) = (q : Int) := by omega
        have e2 : (q : Int) + 7 = (N : Int) := by omega
        have e3 : (t : Int) + (n2 : Int) = (u : Int) := by omega
        have e4 : (u : Int) + 7 = (far : Int) := by omega
        have b1 : (q : Int) ≤ 10000 := by omega
        have b3 : (u : Int) ≤ 70535 := by omega
        have HN := Lib.hid (And.intro hq (And.intro hN (And.intro hu hfar)))
        clear hq hN hu hfar hs hc0 hbk hgc
        by_cases hz : 0 < n2
        case' pos =>
          have hzi : (0 : Int) < (n2 : Int) := by omega
          have hzn : (n2 : Int) ≠ 0 := by omega
          obtain ⟨k, hk⟩ : ∃ k : Nat, a3 % (n2 : Int) = (k : Int) := ⟨(a3 % (n2 : Int)).toNat, by have := Int.emod_nonneg a3 hzn; omega⟩
          have hkt : a3.tmod (n2 : Int) = (k : Int) := by rw [Int.tmod_eq_emod_of_nonneg w3.1]; exact hk
          have hk1 : k < n2 := by have := Int.emod_lt_of_pos a3 hzi; omega
          obtain ⟨AL, xl0, sl⟩ := part_l h2c h2d n2 c2 k h2 (by omega) h2a
          have xl := xl0 (k : Int) rfl
          obtain ⟨AH, hAH, xh0⟩ := part_h A2 n2 c2 k (by omega)
          have xh := xh0 (k : Int) rfl
          have SL := Lib.hid sl
          have SH := Lib.hid (fun W (hb : Below w.heap.size w W) => lst_take h2c hb h2d k (by omega) hAH)
          have HK := Lib.hid (show k ≤ n2 by omega)
          clear xl0 xh0 sl hAH
          obtain ⟨a, ha⟩ : ∃ a : Nat, t + k = a := ⟨_, rfl⟩
          obtain ⟨d, hd⟩ : ∃ d : Nat, d + k = n2 := ⟨n2 - k, by omega⟩
          obtain ⟨d2, hd2⟩ : ∃ d2 : Nat, d + n4 = d2 := ⟨_, rfl⟩
          obtain ⟨Z, hZ⟩ : ∃ Z : Nat, d2 + 7 = Z := ⟨_, rfl⟩
          have e5 : (t : Int) + (k : Int) = (a : Int) := by omega
          have e6 : (n2 : Int) - (k : Int) = (d : Int) := by omega
          have e7 : (d : Int) + (n4 : Int) = (d2 : Int) := by omega
          have e8 : (d2 : Int) + 7 = (Z : Int) := by omega
          have b5 : (k : Int) ≤ 5000 := by omega
          have b6 : (d2 : Int) ≤ 10000 := by omega
          have HAA := Lib.hid (show a = t + k by omega)
          have HZZ := Lib.hid (show k + Z = N by have := HN.out; omega)
          have HAN := Lib.hid (show a + (n2 - k) ≤ 75000 ∧ a + Z ≤ 90000 by have := HN.out; omega)
          clear ha hd hd2 hZ
          go_wp2_with fail
        case' neg =>
          have hzi : ¬ (0 : Int) < (n2 : Int) := by omega
          obtain ⟨k, hk0⟩ : ∃ k : Nat, k = 0 := ⟨0, rfl⟩
          obtain ⟨AL, xl0, sl⟩ := part_l h2c h2d n2 c2 k h2 (by omega) h2a
          have xl := xl0 0 (by omega)
          obtain ⟨AH, hAH, xh0⟩ := part_h A2 n2 c2 k (by omega)
          have xh := xh0 0 (by omega)
          have SL := Lib.hid sl
          have SH := Lib.hid (fun W (hb : Below w.heap.size w W) => lst_take h2c hb h2d k (by omega) hAH)
          have HK := Lib.hid (show k ≤ n2 by omega)
          clear xl0 xh0 sl hAH
          have HK0 := Lib.hid hk0
          have HAA := Lib.hid (show t = t + k by omega)
          have HZZ := Lib.hid (show k + N = N by omega)
          have HAN := Lib.hid (show t + (n2 - k) ≤ 75000 ∧ t + N ≤ 90000 by have := HN.out; omega)
          clear hk0
          go_wp2_with fail
        all_goals
          refine (HT.out.store (t : Int) A2 n2 c2 l2 h2 h2a (S2.out _ HT.out.below) (by omega) (by rw [HP.out]; omega) (by omega)).mono ?_
          rintro e v1 ⟨rfl, ht1, _⟩
          go_wp2_with fail
          refine (ht1.store (far : Int) A4 n4 c4 l4 h4 h4a (S4.out _ ht1.below) (by omega) (by show _ + (n4 : Int) ≤ (s.pages : Int) * 4096; rw [HP.out]; have := HN.out; omega) (by omega)).mono ?_
          rintro e v2 ⟨rfl, ht2, _⟩
          go_wp2_with fail
          refine (ht2.swap.store (far : Int) A4 n4 c4 l4 h4 h4a (S4.out _ ht2.below) (by omega) (by show _ + (n4 : Int) ≤ (s.pages : Int) * 4096; rw [HP.out]; have := HN.out; omega) (by omega)).mono ?_
          rintro e v3 ⟨rfl, ht3, _⟩
          go_wp2_with fail
          refine (ht3.store _ AL (n2 - k) (c2 - k) (l2.drop k) (by rw [List.length_drop, h2]) (by omega) (SL.out _ ht3.below) (by omega) (by show _ ≤ (s.pages : Int) * 4096; rw [HP.out]; have := HAN.out; have := HK.out; omega) (by omega)).mono ?_
          rintro e v4 ⟨rfl, ht4, _⟩
          go_wp2_with fail
          refine (ht4.store (t : Int) AH k c2 (l2.take k) (by rw [List.length_take, h2]; exact Nat.min_eq_left HK.out) (by have := HK.out; omega) (SH.out _ ht4.below) (by omega) (by show _ ≤ (s.pages : Int) * 4096; rw [HP.out]; have := HK.out; omega) (by have := HK.out; omega)).mono ?_
          rintro e v5 ⟨rfl, ht5, _⟩
          go_wp2_with fail
          refine (ht5.swap.load (t : Int) (N : Int) (by omega) (by omega) (by show _ ≤ (s.pages : Int) * 4096; rw [HP.out]; have := HN.out; omega) (by have := HN.out; omega)).mono ?_
          rintro e v6 ⟨r1, rfl, _, hr1, ht6, hk6⟩
          go_wp2_with fail
          refine (ht6.swap.load (t : Int) _ (by omega) (by omega) (by show _ ≤ (s.pages : Int) * 4096; rw [HP.out]; have := HK.out; omega) (by have := HK.out; omega)).mono ?_
          rintro e v7 ⟨r2, rfl, _, hr2, ht7, hk7⟩
          go_wp2_with fail
          refine (ht7.load _ _ (by omega) (by omega) (by show _ ≤ (s.pages : Int) * 4096; rw [HP.out]; have := HAN.out; omega) (by have := HAN.out; omega)).mono ?_
          rintro e v8 ⟨r3, rfl, _, hr3, ht8, hk8⟩
          have Q := parts_eq s.mem l2 l4 t k _ far (by rw [h2]; exact HK.out) HAA.out (by rw [h2]; have := HN.out; omega)
          have hr1' : Row v6 r1 (seen (lay (lay s.mem t l2) far l4) t N) := hr1
          have hr2' : Row v7 r2 (seen (lay (lay s.mem t l2) far l4) t k) := by
            rw [← Q]
            first
              | exact hr2
              | (have h0 : Int.toNat 0 = k := HK0.out.symm
                 rw [h0] at hr2
                 exact hr2)
          have hr3' := row_eq Q hr3
          obtain ⟨Y, Zs, f1, f2, f3, f4⟩ := parts_fin v8 _ t k _ _ N r1 r2 r3 HAA.out HZZ.out (by have := HN.out; omega) ((hr1'.kp hk7).kp hk8) (hr2'.kp hk8) hr3'
          try rw [HK0.out] at f2
          have HBB := Lib.hid ht8.below
          clear Q hr1 hr2 hr3 hr1' hr2' hr3' ht5 ht6 ht7 ht8 hk6 hk7 hk8 ht1 ht2 ht3 ht4
          rw [Int.toNat_natCast] at *
          have f5 : (Y.size : Int) + (Zs.size : Int) ≤ 9223372036854775807 := by omega
          go_wp2
          go_ret
          exact ⟨rfl, HBB.out⟩
      · have hbi4 : ¬ (n4 : Int) ≤ 5000 := by omega
        go_wp2
        go_ret
        exact ⟨rfl, hb1⟩
    · have hbi2 : ¬ (n2 : Int) ≤ 5000 := by omega
      go_wp2
      go_ret
      exact ⟨rfl, hb1⟩

theorem SpaceParts_walk (A0 : Option Addr) (n0 c0 : Nat) (l0 : List Act3) (a1 : Int) (A2 : Option Addr) (n2 c2 : Nat) (l2 : List Int) (a3 : Int) (A4 : Option Addr) (n4 c4 : Nat) (l4 : List Int) (w : World) (h0 : l0.length = n0 ∧ n0 ≤ c0 ∧ n0 ≤ maxLen ∧ Lst KAct3 5 w A0 l0 ∧ ∀ p ∈ l0, wfAct3 p) (y0 : n0 * 56 ≤ 140737488351232) (h1 : (Lit.int .u16 a1).wf = true)
    (h2 : l2.length = n2 ∧ n2 ≤ c2 ∧ n2 ≤ maxLen ∧ Lst (KInt .u8) 1 w A2 l2 ∧ ∀ p ∈ l2, wfInt .u8 p) (y2 : n2 * 1 ≤ 140737488351232) (h3 : (Lit.int .u8 a3).wf = true) (h4 : l4.length = n4 ∧ n4 ≤ c4 ∧ n4 ≤ maxLen ∧ Lst (KInt .u8) 1 w A4 l4 ∧ ∀ p ∈ l4, wfInt .u8 p) (y4 : n4 * 1 ≤ 140737488351232) :
    Calls Try.prog 9 #[.slice A0 n0 c0, .int .u16 a1, .slice A2 n2 c2, .int .u8 a3, .slice A4 n4 c4] w fun e w' => e = .returned (.bool true) ∧ Below w.heap.size w w' :=
  SpaceParts_any w A0 n0 c0 l0 a1 A2 n2 c2 l2 a3 A4 n4 c4 l4 h0.1 (by omega) h0.2.2.2.1 h0.2.2.2.2 h2.1 h2.2.1 (by omega) h2.2.2.2.1 h2.2.2.2.2 h4.1 h4.2.1 (by omega) h4.2.2.2.1 h4.2.2.2.2 (u16_lit h1) (u8_lit h3)
end Go.Proofs.Ytfggmddngbbljaa.Sp
