/- WordsJoin: each of numbers that are bytes one behind the other is got at its place. -/
import Derived.Test.YtkiamhpnngehaaaLawWSigns
import Derived.Test.YtkiamhpnngehaaaRegionFacts
namespace Go.Proofs.Ytkiamhpnngehaaa.Sp
open Go.RowKit Go.WideMaps Go.Proofs.Ytkiamhpnngehaaa.In Go.Proofs.Ytkiamhpnngehaaa.Plain
set_option linter.unusedVariables false
set_option linter.unusedSimpArgs false

theorem lst_u64 {w : World} {A : Option Addr} {l : List Int} (h : Lst (KInt .u64) 1 w A l) (h0 : 0 < l.length) : ∃ b o, A = some ⟨b, o, none⟩ ∧ ∀ j, j < l.length → w.cell? ⟨b, o + j, none⟩ = some (.int .u64 (l.getD j 0)) := by
  obtain ⟨⟨b, o, sp⟩, c, rfl, _, hk, hc⟩ := h 0 _ (List.getElem?_eq_getElem h0)
  have hk1 : c = [.int .u64 l[0]] := hk
  subst hk1
  have h1 := hc 0 _ rfl
  have hsp : sp = none := by
    cases sp with
    | none => rfl
    | some x =>
      simp [World.cell?, Addr.add] at h1
      split at h1 <;> cases h1
  subst hsp
  refine ⟨b, o, rfl, fun j hj => ?_⟩
  obtain ⟨ad2, c2, e2, _, hk2, hc2⟩ := h j _ (List.getElem?_eq_getElem hj)
  obtain rfl := Option.some.inj e2
  have hk3 : c2 = [.int .u64 l[j]] := hk2
  subst hk3
  have := hc2 0 _ rfl
  rw [Nat.mul_one, Nat.add_zero, Addr.add_lit] at this
  rw [this, List.getD_eq_getElem?_getD, List.getElem?_eq_getElem hj]
  rfl
theorem bytesL_at (k : Nat) (l : List Int) (i : Nat) (h : i < l.length) : ((bytesL k l).drop (i * k)).take k = le k (l.getD i 0) := by
  induction l generalizing i with
  | nil => simp at h
  | cons a l ih =>
    cases i with
    | zero =>
      show List.take k (List.drop (0 * k) (le k a ++ bytesL k l)) = le k a
      rw [Nat.zero_mul, List.drop_zero, List.take_append_of_le_length (by rw [le_length]; exact Nat.le_refl _), List.take_of_length_le (by rw [le_length]; exact Nat.le_refl _)]
    | succ i =>
      show List.take k (List.drop ((i + 1) * k) (le k a ++ bytesL k l)) = le k (l.getD i 0)
      rw [show (i + 1) * k = k + i * k by rw [Nat.add_mul, Nat.one_mul, Nat.add_comm], ← List.drop_drop, List.drop_append_of_le_length (by rw [le_length]; exact Nat.le_refl _), List.drop_of_length_le (l := le k a) (by rw [le_length]; exact Nat.le_refl _), List.nil_append]
      exact ih i (by simpa using h)

theorem join_next {w wr w9 : World} {r q n : Nat} {L : List Int} {i : Value} (hq : q + 1 ≤ n) (hi : i = .int .i64 ((q + 1 : Nat) : Int)) (hz : RowZ wr r L) (hb : Below w.heap.size w wr) (hg : Below wr.heap.size wr w9) :
    ∃ q : Nat, q ≤ n ∧ i = .int .i64 (q : Int) ∧ RowZ w9 r L ∧ Below w.heap.size w w9 :=
  ⟨q + 1, hq, hi, (hg.block r (Array.getElem?_eq_some_iff.1 hz).1).trans hz, hb.trans (hg.mono hb.size)⟩

set_option maxRecDepth 100000 in
set_option maxHeartbeats 16000000 in
theorem WordsJoin_any (w : World) (a0 : Int) (A : Option Addr) (n c : Nat) (l : List Int) (h0 : 0 ≤ a0 ∧ a0 ≤ 255) (hl : l.length = n) (hc : n ≤ c) (hL : Lst (KInt .u64) 1 w A l) (hv : ∀ p ∈ l, 0 ≤ p ∧ p ≤ 18446744073709551615) (hnm : n ≤ 140737488351232) :
    Calls Try.prog 6 #[.int .u8 a0, .slice A n c] w fun e w' => e = .returned (.bool true) ∧ Below w.heap.size w w' := by
  obtain ⟨m, k, hm, hm3, hw, hk⟩ := widthW a0 h0.1
  have HK := Lib.hid hk
  have HKB := Lib.hid hk.bd
  have HL := Lib.hid hl
  have HLS := Lib.hid hL
  have HV := Lib.hid hv
  clear hk hl hL hv
  go_enter Try.func6, Try.ntmps6
  go_wp2_with fail
  refine (awake2_any w).mono ?_
  rintro e w1 ⟨rfl, hb1⟩
  by_cases hhi : 100 < n
  · have hhii : (100 : Int) < (n : Int) := by omega
    go_wp2_with fail
    go_ret
    exact ⟨rfl, hb1⟩
  have hhii : ¬ (100 : Int) < (n : Int) := by omega
  go_wp2_with fail
  rw [hw]
  have hkn : k * n ≤ 4294967296 := Nat.le_trans (Nat.mul_le_mul (show k ≤ 8 by have := HKB.out; omega) (show n ≤ 100 by omega)) (by decide)
  refine (wBytes_ok k n c A l w1 HL.out HK.out hkn HV.out (fun hn => by
    obtain ⟨b, o, rfl, hcl⟩ := lst_u64 HLS.out (by rw [HL.out]; exact hn)
    exact ⟨b, o, rfl, fun j hj => (Chg.of_below (S := fun _ => False) hb1).cell (hcl j (by rw [HL.out]; exact hj)) (fun h => h)⟩)).mono ?_
  rintro e w2 ⟨r, rfl, hr, hz, hb2⟩
  have HZ := Lib.hid hz
  have HB2 := Lib.hid (hb1.trans (hb2.mono hb1.size))
  have HN := Lib.hid (show n ≤ 100 by omega)
  obtain ⟨M, hM⟩ : ∃ M : Nat, k * n = M := ⟨_, rfl⟩
  have HM := Lib.hid hM
  rw [hM]
  clear hz hb1 hb2 hkn hM hr
  go_wp2_with fail
  go_loopw [8] (fun i wr => ∃ q : Nat, q ≤ n ∧ i = .int .i64 (q : Int) ∧ RowZ wr r (bytesL k l) ∧ Below w.heap.size w wr) (fun i _ => n - (intOf i).toNat)
  case atStart => exact ⟨0, Nat.zero_le _, rfl, HZ.out, HB2.out⟩
  case round =>
    obtain ⟨q, hq, rfl, hz, hb⟩ := hrel
    have hlen : (bytesL k l).length = M := by rw [bytesL_length, HL.out, HM.out]
    by_cases hlt : q < n
    · have hlti : (q : Int) < (n : Int) := by omega
      obtain ⟨P, hP⟩ : ∃ P : Nat, q * k = P := ⟨_, rfl⟩
      have hPi : (q : Int) * (k : Int) = (P : Int) := by rw [← hP]; simp
      have hPM : P + k ≤ M := by
        rw [← hP, ← HM.out, Nat.mul_comm k n, ← Nat.succ_mul]
        exact Nat.mul_le_mul_right k hlt
      have hMb : M ≤ 800 := by rw [← HM.out]; exact Nat.mul_le_mul (show k ≤ 8 by have := HKB.out; omega) HN.out
      have HPW := Lib.hid (show wrap64 ((q : Int) * (k : Int)) = (P : Int) by rw [hPi]; exact wrap_in (by omega) (by omega))
      have hat := bytesL_at k l q (by rw [HL.out]; exact hlt)
      rw [hP] at hat
      have HG := Lib.hid (wGet_ok r 0 M M P k (bytesL k l) wr hlen HK.out hPM (by omega) (bytesL_bs k l) (by intro j hj; rw [Nat.zero_add]; exact hz.x.cell (by omega)))
      rw [hat, num_le] at HG
      have HH := Lib.hid (And.intro hP (And.intro hPM hMb))
      obtain ⟨b, o, rfl, hcl⟩ := lst_u64 HLS.out (by rw [HL.out]; omega)
      have hclq := hcl q (by rw [HL.out]; exact hlt)
      obtain ⟨v, hve⟩ : ∃ v, l.getD q 0 = v := ⟨_, rfl⟩
      have HA0 : RowKit.Hid (0 ≤ v ∧ v ≤ 18446744073709551615) := Lib.hid (by
        rw [← hve, List.getD_eq_getElem?_getD, List.getElem?_eq_getElem (by rw [HL.out]; exact hlt)]
        exact HV.out _ (List.getElem_mem _))
      obtain ⟨u, hue⟩ : ∃ u, l.getD q 0 % 256 ^ k = u := ⟨_, rfl⟩
      rw [hve] at hclq hue
      rw [hve, hue] at HG
      have HLE : RowKit.Hid (le k u = le k v) := Lib.hid (by rw [← hue]; exact le_inj_mod.2 (Int.emod_emod_of_dvd _ (Int.dvd_refl _)))
      have HU : RowKit.Hid (0 ≤ u ∧ u ≤ 18446744073709551615) := Lib.hid (by
        have := pow256_pos k
        have h1 := HA0.out
        have h2 := Int.emod_nonneg v (show (256 : Int) ^ k ≠ 0 by omega)
        have h3 := Int.emod_add_mul_ediv v (256 ^ k)
        have h4 : 0 ≤ 256 ^ k * (v / 256 ^ k) := Int.mul_nonneg (by omega) (Int.ediv_nonneg h1.1 (by omega))
        omega)
      have HC : RowKit.Hid (∀ W, Below w.heap.size w W → W.cell? ⟨b, o + q, none⟩ = some (.int .u64 v)) := Lib.hid (fun W hb => (Chg.of_below (S := fun _ => False) hb).cell hclq (fun h => h))
      have HBw := Lib.hid hb
      have HLC : RowKit.Hid (∀ W, Below wr.heap.size wr W → W.cell? ⟨b, o + q, none⟩ = some (.int .u64 v)) := Lib.hid (fun W hb2 => HC.out W (HBw.out.trans (hb2.mono HBw.out.size)))
      have hl0 := HLC.out wr (Below.refl _ _)
      have hl1 := fun ob => HLC.out (wr.alloc ob) ((Below.refl _ _).alloc (Nat.le_refl _) ob)
      obtain ⟨S, hS⟩ : ∃ S, strOfNums (le k v) = S := ⟨_, rfl⟩
      have HB : RowKit.Hid (∀ (p : Nat) (x : Int) (W : World), le k x = le k v → 0 ≤ x ∧ x ≤ 18446744073709551615 → W.cell? ⟨p, 0, none⟩ = some (.int .u64 x) → Calls Try.prog 18 #[.int .i64 (k : Int), .slice (some ⟨p, 0, none⟩) 1 1] W fun e w' => ∃ r' : Nat, e = .returned (.slice (some ⟨r', 0, none⟩) k k) ∧ (∀ W'', Below w'.heap.size w' W'' → (convert 22 9 (.slice (some ⟨r', 0, none⟩) k k)).run Try.prog W'' = .ok (.string S) W'') ∧ Below W.heap.size W w') := by
        intro p x W hx hxr hc
        have hkb := HK.out.bd
        refine (wBytes_ok k 1 1 (some ⟨p, 0, none⟩) [x] W rfl HK.out (by omega) (fun v hv => by rw [List.mem_singleton.1 hv]; exact hxr) (fun _ => ⟨_, _, rfl, fun j hj => by
          obtain rfl : j = 0 := by omega
          exact hc⟩)).mono ?_
        rintro e w' ⟨r', rfl, hr', hz, hb'⟩
        rw [show bytesL k [x] = le k x by simp [bytesL], hx] at hz
        rw [Nat.mul_one]
        refine ⟨r', rfl, fun W'' h'' => ?_, hb'⟩
        have := (hz.row.kp (KpT.of_below h'')).string0 k k (le_length k v)
        rw [hS] at this
        exact this
      have HZr := Lib.hid hz
      have HB1 := Lib.hid (Below.refl wr.heap.size wr)
      have HLT := Lib.hid hlt
      clear hm hm3 h0 hhi hhii hc hnm hq hlt hw
      clear hP hPM hMb hat hlen hPi hcl hclq hve hue hS hz hb HB2
      have hPw := HPW.out
      go_wp2_with fail
      refine HG.out.mono ?_
      rintro e w3 ⟨rfl, rfl⟩
      clear HG
      go_wp2_with fail
      refine Rg.wp_region_grow 18 18 rfl (by kernel_rfl) (fun ix W vv => match ix with
        | 0 => vv = .bool true
        | 1 => vv = .bool false
        | 2 => vv = .bool false
        | 3 => vv = .int .i64 (k : Int)
        | 4 => vv = .int .u64 u
        | 5 => ∃ p : Nat, vv = .slice (some ⟨p, 0, none⟩) 1 1 ∧ W.cell? ⟨p, 0, none⟩ = some (.int .u64 u) ∧ p < W.heap.size
        | 6 => ∃ r' : Nat, vv = .slice (some ⟨r', 0, none⟩) k k ∧ ∀ W'', Below W.heap.size W W'' → (convert 22 9 (.slice (some ⟨r', 0, none⟩) k k)).run Try.prog W'' = .ok (.string S) W''
        | 7 => vv = .string S
        | 8 => vv = .int .i64 (k : Int)
        | 9 => vv = .slice (some ⟨b, o, none⟩) n c
        | 10 => vv = .int .i64 (q : Int)
        | 11 => vv = .pointer (some ⟨b, o + q, none⟩)
        | 12 => vv = .int .u64 v
        | 13 => ∃ p : Nat, vv = .slice (some ⟨p, 0, none⟩) 1 1 ∧ W.cell? ⟨p, 0, none⟩ = some (.int .u64 v) ∧ p < W.heap.size
        | 14 => ∃ r' : Nat, vv = .slice (some ⟨r', 0, none⟩) k k ∧ ∀ W'', Below W.heap.size W W'' → (convert 22 9 (.slice (some ⟨r', 0, none⟩) k k)).run Try.prog W'' = .ok (.string S) W''
        | 15 => vv = .string S
        | 16 => vv = .bool false
        | 17 => vv = .bool false
        | _ => True) ?_ ?_ ?_
      · intro ix W W' vv hq h hb
        have hj2 : ix = 0 ∨ ix = 1 ∨ ix = 2 ∨ ix = 3 ∨ ix = 4 ∨ ix = 5 ∨ ix = 6 ∨ ix = 7 ∨ ix = 8 ∨ ix = 9 ∨ ix = 10 ∨ ix = 11 ∨ ix = 12 ∨ ix = 13 ∨ ix = 14 ∨ ix = 15 ∨ ix = 16 ∨ ix = 17 := by omega
        rcases hj2 with rfl | rfl | rfl | rfl | rfl | rfl | rfl | rfl | rfl | rfl | rfl | rfl | rfl | rfl | rfl | rfl | rfl | rfl
        all_goals first | exact h | (obtain ⟨p, e1, e2, e3⟩ := h; exact ⟨p, e1, (hb.cell e3).trans e2, Nat.lt_of_lt_of_le e3 hb.size⟩) | (obtain ⟨r', e1, e2⟩ := h; exact ⟨r', e1, fun W'' h'' => e2 W'' (hb.trans (h''.mono hb.size))⟩)
      · intro ix a W K hq hbl hfr hdep hK
        have hj2 : ix = 0 ∨ ix = 1 ∨ ix = 2 ∨ ix = 3 ∨ ix = 4 ∨ ix = 5 ∨ ix = 6 ∨ ix = 7 ∨ ix = 8 ∨ ix = 9 ∨ ix = 10 ∨ ix = 11 ∨ ix = 12 ∨ ix = 13 ∨ ix = 14 ∨ ix = 15 ∨ ix = 16 ∨ ix = 17 := by omega
        rcases hj2 with rfl | rfl | rfl | rfl | rfl | rfl | rfl | rfl | rfl | rfl | rfl | rfl | rfl | rfl | rfl | rfl | rfl | rfl
        · have s10 : a.tmps[10]? = some _ := hfr 10 (by kernel_rfl)
          refine Rg.wpOp_wp rfl rfl ?_
          go_simp
          exact hK _ _ rfl (Below.refl _ _)
        · obtain ⟨_, s40, rfl⟩ := hdep 0 40 (by kernel_rfl) rfl
          refine Rg.wpOp_wp rfl rfl ?_
          go_simp
          exact hK _ _ rfl (Below.refl _ _)
        · obtain ⟨_, s41, rfl⟩ := hdep 1 41 (by kernel_rfl) rfl
          refine Rg.wpOp_wp rfl rfl ?_
          go_simp
          exact hK _ _ rfl (Below.refl _ _)
        · obtain ⟨_, sg, hg⟩ := hdep 2 42 (by kernel_rfl) rfl
          subst hg
          have s6 : a.tmps[6]? = some _ := hfr 6 (by kernel_rfl)
          refine Rg.wpOp_go rfl rfl rfl sg ?_
          go_simp
          exact hK _ _ rfl (Below.refl _ _)
        · obtain ⟨_, sg, hg⟩ := hdep 2 42 (by kernel_rfl) rfl
          subst hg
          have s9 : a.tmps[9]? = some _ := hfr 9 (by kernel_rfl)
          refine Rg.wpOp_go rfl rfl rfl sg ?_
          go_simp
          exact hK _ _ rfl (Below.refl _ _)
        · obtain ⟨_, sg, hg⟩ := hdep 2 42 (by kernel_rfl) rfl
          subst hg
          obtain ⟨_, s44, rfl⟩ := hdep 4 44 (by kernel_rfl) rfl
          refine Rg.wpOp_go rfl rfl rfl sg ?_
          go_simp
          exact hK _ _ ⟨W.heap.size, rfl, cell_one (al_new rfl), (Array.getElem?_eq_some_iff.1 (al_new rfl)).1⟩ ((Below.refl _ _).alloc (Nat.le_refl _) _)
        · obtain ⟨_, sg, hg⟩ := hdep 2 42 (by kernel_rfl) rfl
          subst hg
          obtain ⟨_, s43, rfl⟩ := hdep 3 43 (by kernel_rfl) rfl
          obtain ⟨_, s45, ⟨p5, rfl, hc5, hp5⟩⟩ := hdep 5 45 (by kernel_rfl) rfl
          refine Rg.wpOp_go rfl rfl rfl sg ?_
          go_simp
          refine (HB.out p5 u W HLE.out HU.out hc5).mono ?_
          rintro e w8 ⟨r8, rfl, hcv, hb8⟩
          exact hK _ _ ⟨r8, rfl, hcv⟩ hb8
        · obtain ⟨_, sg, hg⟩ := hdep 2 42 (by kernel_rfl) rfl
          subst hg
          obtain ⟨_, s46, ⟨r6, rfl, hv6⟩⟩ := hdep 6 46 (by kernel_rfl) rfl
          have hcv := hv6 W (Below.refl _ _)
          refine Rg.wpOp_go rfl rfl rfl sg ?_
          go_simp
          exact hK _ _ rfl (Below.refl _ _)
        · obtain ⟨_, sg, hg⟩ := hdep 2 42 (by kernel_rfl) rfl
          subst hg
          have s6 : a.tmps[6]? = some _ := hfr 6 (by kernel_rfl)
          refine Rg.wpOp_go rfl rfl rfl sg ?_
          go_simp
          exact hK _ _ rfl (Below.refl _ _)
        · obtain ⟨_, sg, hg⟩ := hdep 2 42 (by kernel_rfl) rfl
          subst hg
          have s1 : a.tmps[1]? = some _ := hfr 1 (by kernel_rfl)
          refine Rg.wpOp_go rfl rfl rfl sg ?_
          go_simp
          exact hK _ _ rfl (Below.refl _ _)
        · obtain ⟨_, sg, hg⟩ := hdep 2 42 (by kernel_rfl) rfl
          subst hg
          have s8 : a.tmps[8]? = some _ := hfr 8 (by kernel_rfl)
          refine Rg.wpOp_go rfl rfl rfl sg ?_
          go_simp
          exact hK _ _ rfl (Below.refl _ _)
        · obtain ⟨_, sg, hg⟩ := hdep 2 42 (by kernel_rfl) rfl
          subst hg
          obtain ⟨_, s49, rfl⟩ := hdep 9 49 (by kernel_rfl) rfl
          obtain ⟨_, s50, rfl⟩ := hdep 10 50 (by kernel_rfl) rfl
          have hqn := HLT.out
          have hqi : (q : Int) < (n : Int) := by omega
          refine Rg.wpOp_go rfl rfl rfl sg ?_
          go_simp
          exact hK _ _ rfl (Below.refl _ _)
        · obtain ⟨_, sg, hg⟩ := hdep 2 42 (by kernel_rfl) rfl
          subst hg
          obtain ⟨_, s51, rfl⟩ := hdep 11 51 (by kernel_rfl) rfl
          have hl := HLC.out W hbl
          refine Rg.wpOp_go rfl rfl rfl sg ?_
          go_simp
          exact hK _ _ rfl (Below.refl _ _)
        · obtain ⟨_, sg, hg⟩ := hdep 2 42 (by kernel_rfl) rfl
          subst hg
          obtain ⟨_, s52, rfl⟩ := hdep 12 52 (by kernel_rfl) rfl
          refine Rg.wpOp_go rfl rfl rfl sg ?_
          go_simp
          exact hK _ _ ⟨W.heap.size, rfl, cell_one (al_new rfl), (Array.getElem?_eq_some_iff.1 (al_new rfl)).1⟩ ((Below.refl _ _).alloc (Nat.le_refl _) _)
        · obtain ⟨_, sg, hg⟩ := hdep 2 42 (by kernel_rfl) rfl
          subst hg
          obtain ⟨_, s48, rfl⟩ := hdep 8 48 (by kernel_rfl) rfl
          obtain ⟨_, s53, ⟨p13, rfl, hc13, hp13⟩⟩ := hdep 13 53 (by kernel_rfl) rfl
          refine Rg.wpOp_go rfl rfl rfl sg ?_
          go_simp
          refine (HB.out p13 v W rfl HA0.out hc13).mono ?_
          rintro e w8 ⟨r8, rfl, hcv, hb8⟩
          exact hK _ _ ⟨r8, rfl, hcv⟩ hb8
        · obtain ⟨_, sg, hg⟩ := hdep 2 42 (by kernel_rfl) rfl
          subst hg
          obtain ⟨_, s54, ⟨r14, rfl, hv14⟩⟩ := hdep 14 54 (by kernel_rfl) rfl
          have hcv := hv14 W (Below.refl _ _)
          refine Rg.wpOp_go rfl rfl rfl sg ?_
          go_simp
          exact hK _ _ rfl (Below.refl _ _)
        · obtain ⟨_, sg, hg⟩ := hdep 2 42 (by kernel_rfl) rfl
          subst hg
          obtain ⟨_, s47, rfl⟩ := hdep 7 47 (by kernel_rfl) rfl
          obtain ⟨_, s55, rfl⟩ := hdep 15 55 (by kernel_rfl) rfl
          refine Rg.wpOp_go rfl rfl rfl sg ?_
          go_simp
          exact hK _ _ rfl (Below.refl _ _)
        · obtain ⟨_, s42, rfl⟩ := hdep 2 42 (by kernel_rfl) rfl
          obtain ⟨_, s56, rfl⟩ := hdep 16 56 (by kernel_rfl) rfl
          refine Rg.wpOp_wp rfl rfl ?_
          go_simp
          exact hK _ _ rfl (Below.refl _ _)
      · intro vv W hvv hbl
        have e17 : vv 17 = .bool false := hvv 17 (by decide)
        have HG := Lib.hid hbl
        clear hvv hbl hl0 hl1
        show Exit.then _ _ Exit.normal _ W
        refine Rg.of_fakes (P := Try.prog) [Rg.fake (some 40) (vv 0), Rg.fake (some 41) (vv 1), Rg.fake (some 42) (vv 2), Rg.fake (some 43) (vv 3), Rg.fake (some 44) (vv 4), Rg.fake (some 45) (vv 5), Rg.fake (some 46) (vv 6), Rg.fake (some 47) (vv 7), Rg.fake (some 48) (vv 8), Rg.fake (some 49) (vv 9), Rg.fake (some 50) (vv 10), Rg.fake (some 51) (vv 11), Rg.fake (some 52) (vv 12), Rg.fake (some 53) (vv 13), Rg.fake (some 54) (vv 14), Rg.fake (some 55) (vv 15), Rg.fake (some 56) (vv 16), Rg.fake (some 57) (vv 17)] rfl ?_
        simp only [Rg.fake, e17]
        go_wp2_with fail
        go_roundw
        case rel => have h100 := HN.out; have h99 := HLT.out; exact join_next (q := q) (n := n) (by omega) (by first | go_num | (rw [wrap_in (by omega) (by omega)]; simp)) HZr.out HBw.out HG.out
        case measure => have h100 := HN.out; have h99 := HLT.out; first | (simp [intOf]; omega) | (rw [wrap_in (by omega) (by omega)]; simp [intOf]; omega)
    · clear hw hm hm3 h0 hhii
      have hlti : ¬ (q : Int) < (n : Int) := by omega
      obtain rfl : q = n := by omega
      have hMi : (q : Int) * (k : Int) = (M : Int) := by have := HM.out; rw [← this, Int.mul_comm]; simp
      have hMk : (k : Int) * (q : Int) = (M : Int) := by rw [Int.mul_comm]; exact hMi
      have hMb : M ≤ 800 := by rw [← HM.out]; exact Nat.mul_le_mul (show k ≤ 8 by have := HKB.out; omega) HN.out
      have hw1 : wrap64 ((q : Int) * (k : Int)) = (M : Int) := by rw [hMi]; exact wrap_in (by omega) (by omega)
      have hw2 : wrap64 ((k : Int) * (q : Int)) = (M : Int) := by rw [hMk]; exact wrap_in (by omega) (by omega)
      have HG := Lib.hid (wGet_err (some ⟨r, 0, none⟩) M M (M : Int) (k : Int) wr (by omega) (by have := HKB.out; unfold rightP; omega))
      have HB := Lib.hid hb
      clear hMi hMk hMb hlen hz hb HB2 hhi hc hnm hq hlt
      go_wp2_with fail
      refine HG.out.mono ?_
      rintro e w3 ⟨rfl, rfl⟩
      go_wp2_with fail
      go_ret
      exact ⟨by simp, HB.out⟩
theorem WordsJoin_walk (a0 : Int) (A1 : Option Addr) (n1 c1 : Nat) (l1 : List Int) (w : World) (h0 : (Lit.int .u8 a0).wf = true)
    (h1 : l1.length = n1 ∧ n1 ≤ c1 ∧ n1 ≤ maxLen ∧ Lst (KInt .u64) 1 w A1 l1 ∧ ∀ p ∈ l1, wfInt .u64 p) (y1 : n1 * 8 ≤ 140737488351232) :
    Calls Try.prog 6 #[.int .u8 a0, .slice A1 n1 c1] w fun e w' => e = .returned (.bool true) ∧ Below w.heap.size w w' :=
  WordsJoin_any w a0 A1 n1 c1 l1 (u8_lit h0) h1.1 h1.2.1 h1.2.2.2.1 (fun p hp => u64_lit (h1.2.2.2.2 p hp)) (by omega)
end Go.Proofs.Ytkiamhpnngehaaa.Sp
