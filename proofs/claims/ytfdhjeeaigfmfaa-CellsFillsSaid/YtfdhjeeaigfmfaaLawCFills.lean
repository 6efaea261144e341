/- CellsFills: what is filled is got at each of its places, and not beyond. -/
import Derived.Test.YtfdhjeeaigfmfaaLawCBytes
import Derived.Test.YtfdhjeeaigfmfaaWordsOne
namespace Go.Proofs.Ytfdhjeeaigfmfaa.Sp
open Go.RowKit Go.WideMaps Go.Proofs.Ytfdhjeeaigfmfaa.In Go.Proofs.Ytfdhjeeaigfmfaa.Plain
set_option linter.unusedVariables false
set_option linter.unusedSimpArgs false

theorem flatMap_part {α β : Type} (f : α → List β) (k : Nat) (hf : ∀ a, (f a).length = k) (l : List α) (i : Nat) (h : i < l.length) : ((l.flatMap f).drop (k * i)).take k = f l[i] := by
  induction l generalizing i with
  | nil => simp at h
  | cons a l ih =>
    cases i with
    | zero => rw [Nat.mul_zero, List.drop_zero, List.flatMap_cons, List.take_left' (hf a)]; rfl
    | succ i =>
      rw [List.flatMap_cons, Nat.mul_succ, Nat.add_comm, ← List.drop_drop, List.drop_left' (hf a), ih i (by simpa using h)]
      rfl
/-- Each number that was filled. -/
theorem seen_filled (mem : Nat → Int) (a k q i : Nat) (n : Int) (h : i < q) : seen (lay mem a (bytesL k (List.replicate q n))) (a + k * i) k = le k n := by
  have hl : (bytesL k (List.replicate q n)).length = k * q := by rw [bytesL_length, List.length_replicate]
  have h1 := seen_lay_same mem a (bytesL k (List.replicate q n))
  rw [hl] at h1
  have hik : k * i + k ≤ k * q := by rw [← Nat.mul_succ]; exact Nat.mul_le_mul_left k h
  have h2 := seen_drop (lay mem a (bytesL k (List.replicate q n))) a (k * q) (k * i)
  have h3 := seen_take (lay mem a (bytesL k (List.replicate q n))) (a + k * i) (k * q - k * i) k (by omega)
  rw [← h2, h1] at h3
  rw [← h3]
  have := flatMap_part (le k) k (le_length k) (List.replicate q n) i (by rw [List.length_replicate]; exact h)
  rw [List.getElem_replicate] at this
  exact this

set_option maxRecDepth 100000 in
set_option maxHeartbeats 4000000 in
theorem CellsFills_any (w : World) (a0 a1 n a3 : Int) (l0 : 0 ≤ a0 ∧ a0 ≤ 65535) (l1 : 0 ≤ a1 ∧ a1 ≤ 255) (ln : 0 ≤ n ∧ n ≤ 18446744073709551615) (l3 : 0 ≤ a3 ∧ a3 ≤ 255) :
    Calls Try.prog 8 #[.int .u16 a0, .int .u8 a1, .int .u64 n, .int .u8 a3] w fun e w' => e = .returned (.bool true) ∧ Below w.heap.size w w' := by
  have HA := Lib.hid (awake4_any w)
  have HP := Lib.hid (show (newS 32).pages * 4096 = 131072 by kernel_rfl)
  obtain ⟨a, ha⟩ : ∃ a : Nat, a0 / 8 * 8 = (a : Int) := ⟨(a0 / 8 * 8).toNat, by omega⟩
  obtain ⟨m, k, hm, hm3, hw, hk⟩ := width_of a1 l1.1
  have hkb := hk.bd
  obtain ⟨q, rfl⟩ := Int.eq_ofNat_of_zero_le l3.1
  have hq : q ≤ 255 := by omega
  have hkq : k * q ≤ 2040 := Nat.le_trans (Nat.mul_le_mul (show k ≤ 8 by omega) hq) (by decide)
  have HR := Lib.hid (rightC_of hk (wide_dvd hk (show a % 8 = 0 by omega)))
  have HB := Lib.hid (show a ≤ 65535 by omega)
  have HK := Lib.hid hk
  clear hk
  go_enter Try.func8, Try.ntmps8
  go_wp2_with fail
  refine HA.out.mono ?_
  rintro e w1 ⟨rfl, hb1⟩
  go_wp2_with fail
  refine (St.new 32 (hb1 : Below w.heap.size w w1)).mono ?_
  rintro e w2 ⟨g, rfl, hg, hs2, hb2⟩
  go_wp2_with fail
  refine (hs2.fill a k q n HR.out ln (by omega) (by rw [HP.out]; have := HB.out; omega)).mono ?_
  rintro e w3 ⟨rfl, hs3, hk3⟩
  go_wp2_with fail
  refine (bytes_one k n w3 HK.out ln).mono ?_
  rintro e w4 ⟨rw0, rfl, hrw, hz4, hb4⟩
  have HS4 := Lib.hid (hs3.step hb4)
  have HZ4 := Lib.hid hz4.row
  clear hs2 hs3 hk3 hb1 hb2 hg hz4 hb4 hrw
  go_wp2
  obtain ⟨x, hx⟩ : ∃ x : Int, n % 256 ^ k = x := ⟨_, rfl⟩
  have hx0 := Int.emod_nonneg n (show (256 : Int) ^ k ≠ 0 by have := pow256_pos k; omega)
  have hx1 := Int.emod_lt_of_pos n (pow256_pos k)
  rw [hx] at hx0 hx1
  have hxb : x ≤ 18446744073709551615 := by have := pow256_k HK.out; omega
  have hlx : le k x = le k n := by
    rw [le_inj_mod, ← hx, Int.emod_emod_of_dvd _ (Int.dvd_refl _)]
  have HX := Lib.hid hx
  have HLX := Lib.hid hlx
  clear hx hx1 hlx
  obtain ⟨M, hM⟩ : ∃ M, lay (newS 32).mem a (bytesL k (List.replicate q n)) = M := ⟨_, rfl⟩
  have HM1 := Lib.hid (fun i (hi : i < q) => show num (seen M (a + k * i) k) = x by rw [← hM, seen_filled _ _ _ _ _ _ hi, num_le]; exact HX.out)
  have HM2 := Lib.hid (show num (seen M (a + k * q) k) = 0 by
    rw [← hM, seen_lay_off _ _ _ _ _ (by rw [bytesL_length, List.length_replicate]; omega)]
    rw [show (newS 32).mem = fun _ => 0 from rfl, seen_zero (fun _ _ => rfl), num_zeros])
  have HMM := Lib.hid hM
  clear hM
  go_loopw [15] (fun i wr => ∃ j : Nat, j ≤ q ∧ i = .int .i64 (j : Int) ∧ Row wr rw0 (le k n) ∧ ∃ st : SpS, St w wr g st ∧ st.pages * 4096 = 131072 ∧ st.mem = M) (fun i _ => q - (intOf i).toNat)
  case atStart => exact ⟨0, Nat.zero_le _, rfl, HZ4.out, _, HS4.out, HP.out, HMM.out⟩
  case round =>
    obtain ⟨j, hj, rfl, hrow, st, hst, hpg, hmem⟩ := hrel
    have HROW := Lib.hid hrow
    have HST := Lib.hid hst
    have HPG := Lib.hid hpg
    have HMEM := Lib.hid hmem
    clear hrow hst hpg hmem
    by_cases hlt : j < q
    · have hlti : (j : Int) < (q : Int) := by omega
      have hjk : j * k ≤ 2040 := by
        have := Nat.mul_le_mul_left k (show j ≤ q by omega)
        rw [Nat.mul_comm]; omega
      obtain ⟨p, hp⟩ : ∃ p : Nat, j * k = p := ⟨_, rfl⟩
      have hpi : (j : Int) * (k : Int) = (p : Int) := by rw [← hp]; simp
      obtain ⟨t, ht⟩ : ∃ t : Nat, a + p = t := ⟨_, rfl⟩
      have hti : (a : Int) + (p : Int) = (t : Int) := by omega
      have hpb : (p : Int) ≤ 2040 := by omega
      have hab : (a : Int) ≤ 65535 := by have := HB.out; omega
      have HT := Lib.hid (show a + k * j = t by rw [← ht, ← hp, Nat.mul_comm])
      have HTB := Lib.hid (show t + k ≤ 68000 by have := HB.out; omega)
      have HRT := Lib.hid (rightC_of (t := t) HK.out (by
        have h1 := wide_dvd HK.out (show a % 8 = 0 by omega)
        rw [← HT.out, Nat.add_mul_mod_self_left]; exact h1))
      clear hp ht
      go_wp2_with fail
      refine (HST.out.get_v t k x HRT.out (by rw [HPG.out]; have := HTB.out; omega) (by rw [HMEM.out, ← HT.out]; exact HM1.out j hlt)).mono ?_
      rintro e w5 ⟨rfl, hs5, hk5⟩
      have hrow5 := HROW.out.kp hk5
      have HW : RowKit.Hid (∀ W : World, Below w5.heap.size w5 W → Calls Try.prog 39 #[.int .i64 (k : Int), .slice (some ⟨W.heap.size, 0, none⟩) 1 1] (W.alloc (.cells #[.int .u64 x] 31)) fun e w' => ∃ r' : Nat, e = .returned (.slice (some ⟨r', 0, none⟩) k k) ∧ (convert 32 9 (.slice (some ⟨r', 0, none⟩) k k)).run Try.prog w' = .ok (.string (strOfNums (le k n))) w' ∧ Below w5.heap.size w5 w') := by
        intro W hb
        refine (bytes_one k x W HK.out ⟨hx0, hxb⟩).mono ?_
        rintro e w' ⟨r', rfl, hr', hz, hb'⟩
        rw [HLX.out] at hz
        exact ⟨r', rfl, hz.row.string0 k k (le_length k n), hb.trans (hb'.mono hb.size)⟩
      have KEEP : RowKit.Hid (∀ W : World, Below w5.heap.size w5 W → (convert 32 9 (.slice (some ⟨rw0, 0, none⟩) k k)).run Try.prog W = .ok (.string (strOfNums (le k n))) W ∧ Below w5.heap.size w5 W) := by
        intro W hb
        exact ⟨(hrow5.kp (KpT.of_below hb)).string0 k k (le_length k n), hb⟩
      have HNEXT := Lib.hid (fun W (hb : Below w5.heap.size w5 W) => And.intro (hrow5.kp (KpT.of_below hb)) (hs5.step hb))
      clear hrow5 hs5 hk5
      go_wp2_with fail
      refine wp_region_held_drew (S := (fun W => (convert 32 9 (.slice (some ⟨rw0, 0, none⟩) k k)).run Try.prog W = .ok (.string (strOfNums (le k n))) W ∧ Below w5.heap.size w5 W)) (by kernel_rfl) ?_ (fun hHeld => ?_)
      · (first | exact KEEP.out _ ((Below.refl _ _).drew) | exact KEEP.out _ (Below.drew ((Below.refl _ _).alloc (Nat.le_refl _) _)) | exact KEEP.out _ hb')
      refine wpAnyH_take (i := 0) (v := ?_) rfl (by kernel_rfl) (by kernel_rfl) (by kernel_rfl) (fun _ _ _ h => h) (Or.inl ⟨by rfl, ?_⟩) (by assumption) ?_
      rotate_left
      · intro w hSw; (try dsimp only at hSw); go_simp <;> with_reducible rfl
      try simp only [Act.put, List.getElem_toArray, List.getElem_cons_zero, List.getElem_cons_succ, List.setIfInBounds_toArray, List.set_cons_zero, List.set_cons_succ]
      refine wpAnyH_take (i := 1) (v := ?_) rfl (by kernel_rfl) (by kernel_rfl) (by kernel_rfl) (fun _ _ _ h => h) (Or.inl ⟨by rfl, ?_⟩) (by assumption) ?_
      rotate_left
      · intro w hSw; (try dsimp only at hSw); go_simp <;> with_reducible rfl
      try simp only [Act.put, List.getElem_toArray, List.getElem_cons_zero, List.getElem_cons_succ, List.setIfInBounds_toArray, List.set_cons_zero, List.set_cons_succ]
      refine wpAnyH_take (i := 2) (v := ?_) rfl (by kernel_rfl) (by kernel_rfl) (by kernel_rfl) (fun _ _ _ h => h) (Or.inl ⟨by rfl, ?_⟩) (by assumption) ?_
      rotate_left
      · intro w hSw; (try dsimp only at hSw); go_simp <;> with_reducible rfl
      try simp only [Act.put, List.getElem_toArray, List.getElem_cons_zero, List.getElem_cons_succ, List.setIfInBounds_toArray, List.set_cons_zero, List.set_cons_succ]
      refine wpAnyH_take (i := 3) (v := ?_) rfl (by kernel_rfl) (by kernel_rfl) (by kernel_rfl) (fun _ _ _ h => h) (Or.inl ⟨by rfl, ?_⟩) (by assumption) ?_
      rotate_left
      · intro w hSw; (try dsimp only at hSw); go_simp <;> with_reducible rfl
      try simp only [Act.put, List.getElem_toArray, List.getElem_cons_zero, List.getElem_cons_succ, List.setIfInBounds_toArray, List.set_cons_zero, List.set_cons_succ]
      refine wpAnyH_take (i := 4) (v := ?_) rfl (by kernel_rfl) (by kernel_rfl) (by kernel_rfl) (fun _ _ _ h => h) (Or.inl ⟨by rfl, ?_⟩) (by assumption) ?_
      rotate_left
      · intro w hSw; (try dsimp only at hSw); go_simp <;> with_reducible rfl
      try simp only [Act.put, List.getElem_toArray, List.getElem_cons_zero, List.getElem_cons_succ, List.setIfInBounds_toArray, List.set_cons_zero, List.set_cons_succ]
      refine wpAnyH_take (i := 8) (v := ?_) rfl (by kernel_rfl) (by kernel_rfl) (by kernel_rfl) (fun _ _ _ h => h) (Or.inl ⟨by rfl, ?_⟩) (by assumption) ?_
      rotate_left
      · intro w hSw; (try dsimp only at hSw); go_simp <;> with_reducible rfl
      try simp only [Act.put, List.getElem_toArray, List.getElem_cons_zero, List.getElem_cons_succ, List.setIfInBounds_toArray, List.set_cons_zero, List.set_cons_succ]
      refine wpAnyH_take (i := 9) (v := ?_) rfl (by kernel_rfl) (by kernel_rfl) (by kernel_rfl) (fun _ _ _ h => h) (Or.inl ⟨by rfl, ?_⟩) (by assumption) ?_
      rotate_left
      · intro w hSw; (try dsimp only at hSw); go_simp <;> with_reducible rfl
      try simp only [Act.put, List.getElem_toArray, List.getElem_cons_zero, List.getElem_cons_succ, List.setIfInBounds_toArray, List.set_cons_zero, List.set_cons_succ]
      refine wpAnyH_ready (rs := [5]) (by kernel_rfl) (by simp) ?_
      refine AllReadyH.cons rfl (fun K hK => ?_) AllReadyH.nil
      go_simp
      try ((go_at_call 39; refine (HW.out _ (by exact (Below.refl _ _).drew)).mono ?_; rintro e w' ⟨r', rfl, hc', hb'⟩))
      refine hK.out _ _ ?_ (fun hHeld => ?_)
      · (first | exact KEEP.out _ ((Below.refl _ _).drew) | exact KEEP.out _ (Below.drew ((Below.refl _ _).alloc (Nat.le_refl _) _)) | exact KEEP.out _ hb')
      clear hK K
      try simp only [Act.put, List.getElem_toArray, List.getElem_cons_zero, List.getElem_cons_succ, List.setIfInBounds_toArray, List.set_cons_zero, List.set_cons_succ]
      refine wpAnyH_ready (rs := [6]) (by kernel_rfl) (by simp) ?_
      refine AllReadyH.cons rfl (fun K hK => ?_) AllReadyH.nil
      go_simp
      try ((go_at_call 39; refine (HW.out _ (by exact (Below.refl _ _).drew)).mono ?_; rintro e w' ⟨r', rfl, hc', hb'⟩))
      refine hK.out _ _ ?_ (fun hHeld => ?_)
      · (first | exact KEEP.out _ ((Below.refl _ _).drew) | exact KEEP.out _ (Below.drew ((Below.refl _ _).alloc (Nat.le_refl _) _)) | exact KEEP.out _ hb')
      clear hK K
      try simp only [Act.put, List.getElem_toArray, List.getElem_cons_zero, List.getElem_cons_succ, List.setIfInBounds_toArray, List.set_cons_zero, List.set_cons_succ]
      refine wpAnyH_ready (rs := [7]) (by kernel_rfl) (by simp) ?_
      refine AllReadyH.cons rfl (fun K hK => ?_) AllReadyH.nil
      go_simp
      try ((go_at_call 39; refine (HW.out _ (by exact (Below.refl _ _).drew)).mono ?_; rintro e w' ⟨r', rfl, hc', hb'⟩))
      refine hK.out _ _ ?_ (fun hHeld => ?_)
      · (first | exact KEEP.out _ ((Below.refl _ _).drew) | exact KEEP.out _ (Below.drew ((Below.refl _ _).alloc (Nat.le_refl _) _)) | exact KEEP.out _ hb')
      clear hK K
      try simp only [Act.put, List.getElem_toArray, List.getElem_cons_zero, List.getElem_cons_succ, List.setIfInBounds_toArray, List.set_cons_zero, List.set_cons_succ]
      refine wpAnyH_take (i := 10) (v := ?_) rfl (by kernel_rfl) (by kernel_rfl) (by kernel_rfl) (fun _ _ _ h => h) (Or.inl ⟨by rfl, ?_⟩) (by assumption) ?_
      rotate_left
      · intro w hSw; (try dsimp only at hSw); go_simp <;> with_reducible rfl
      try simp only [Act.put, List.getElem_toArray, List.getElem_cons_zero, List.getElem_cons_succ, List.setIfInBounds_toArray, List.set_cons_zero, List.set_cons_succ]
      refine wpAnyH_take (i := 11) (v := ?_) rfl (by kernel_rfl) (by kernel_rfl) (by kernel_rfl) (fun _ _ _ h => h) (Or.inl ⟨by rfl, ?_⟩) (by assumption) ?_
      rotate_left
      · intro w hSw; (try dsimp only at hSw); go_simp <;> with_reducible rfl
      try simp only [Act.put, List.getElem_toArray, List.getElem_cons_zero, List.getElem_cons_succ, List.setIfInBounds_toArray, List.set_cons_zero, List.set_cons_succ]
      refine wpAnyH_done (by kernel_rfl) ?_ _
      have HN2 := Lib.hid (HNEXT.out _ hb')
      clear hc' hb'
      go_wp2
      go_roundw
      case rel => exact ⟨j + 1, by omega, by go_num, HN2.out.1, _, HN2.out.2, HPG.out, HMEM.out⟩
      case measure => simp [intOf]; omega
    · have hlti : ¬ (j : Int) < (q : Int) := by omega
      obtain rfl : j = q := by omega
      go_wp2
      go_loop [18, 19] (fun e i => ∃ p : Nat, p ≤ j ∧ e = .int .u64 ((a + k * p : Nat) : Int) ∧ i = .int .i64 (p : Int)) (fun _ i => j - (intOf i).toNat)
      case atStart => exact ⟨0, Nat.zero_le _, rfl, rfl⟩
      case round =>
        obtain ⟨p, hp, rfl, rfl⟩ := hrel
        obtain ⟨t, ht⟩ : ∃ t : Nat, a + k * p = t := ⟨_, rfl⟩
        rw [ht]
        have htb : (t : Int) ≤ 68000 := by
          have := Nat.mul_le_mul_left k hp
          have := HB.out
          omega
        have HT := Lib.hid ht
        clear ht
        by_cases hlt : p < j
        · have hlti : (p : Int) < (j : Int) := by omega
          go_wp2
          go_round
          case rel => exact ⟨p + 1, by omega, by rw [Nat.mul_succ, ← Nat.add_assoc, HT.out]; go_num, by go_num⟩
          case measure => simp [intOf]; omega
        · have hlti : ¬ (p : Int) < (j : Int) := by omega
          obtain rfl : p = j := by omega
          have HRT := Lib.hid (rightC_of (t := t) HK.out (by
            have h1 := wide_dvd HK.out (show a % 8 = 0 by omega)
            rw [← HT.out, Nat.add_mul_mod_self_left]; exact h1))
          go_wp2_with fail
          refine (HST.out.get_v t k 0 HRT.out (by rw [HPG.out]; omega) (by rw [HMEM.out, ← HT.out]; exact HM2.out)).mono ?_
          rintro e w5 ⟨rfl, hs5, hk5⟩
          have HBB := Lib.hid hs5.below
          clear hs5 hk5
          go_wp2
          go_ret
          exact ⟨rfl, HBB.out⟩

theorem CellsFills_walk (a0 a1 a2 a3 : Int) (w : World) (h0 : (Lit.int .u16 a0).wf = true) (h1 : (Lit.int .u8 a1).wf = true) (h2 : (Lit.int .u64 a2).wf = true) (h3 : (Lit.int .u8 a3).wf = true) :
    Calls Try.prog 8 #[.int .u16 a0, .int .u8 a1, .int .u64 a2, .int .u8 a3] w fun e w' => e = .returned (.bool true) ∧ Below w.heap.size w w' :=
  CellsFills_any w a0 a1 a2 a3 (u16_lit h0) (u8_lit h1) (u64_lit h2) (u8_lit h3)
end Go.Proofs.Ytfdhjeeaigfmfaa.Sp
