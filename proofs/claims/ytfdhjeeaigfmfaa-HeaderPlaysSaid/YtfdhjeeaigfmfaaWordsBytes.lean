/- words.Bytes: numbers as bytes, one behind the other. -/
import Derived.Test.YtfdhjeeaigfmfaaWordsPut
import Derived.Test.YtfdhjeeaigfmfaaSpaceMade
namespace Go.Proofs.Ytfdhjeeaigfmfaa.Sp
open Go.RowKit Go.WideMaps Go.Proofs.Ytfdhjeeaigfmfaa.In Go.Proofs.Ytfdhjeeaigfmfaa.Plain
set_option linter.unusedVariables false

/-- Numbers as bytes. -/
def bytesL (k : Nat) (l : List Int) : List Int := l.flatMap (le k)
theorem bytesL_length (k : Nat) (l : List Int) : (bytesL k l).length = k * l.length := by
  unfold bytesL
  induction l with
  | nil => rfl
  | cons x l ih => rw [List.flatMap_cons, List.length_append, ih, le_length, List.length_cons, Nat.mul_succ, Nat.add_comm]
theorem bytesL_bs (k : Nat) (l : List Int) : Bs (bytesL k l) := by
  intro x hx
  obtain ⟨y, _, hy⟩ := List.mem_flatMap.1 hx
  exact le_bs k y x hy
/-- So far. -/
def soFar (k : Nat) (l : List Int) (i : Nat) : List Int := bytesL k (l.take i) ++ List.replicate (k * (l.length - i)) 0
theorem soFar_zero (k : Nat) (l : List Int) : soFar k l 0 = List.replicate (k * l.length) 0 := by simp [soFar, bytesL]
theorem soFar_all (k : Nat) (l : List Int) : soFar k l l.length = bytesL k l := by simp [soFar]
theorem soFar_length (k : Nat) (l : List Int) (i : Nat) (h : i ≤ l.length) : (soFar k l i).length = k * l.length := by
  unfold soFar
  rw [List.length_append, bytesL_length, List.length_take, List.length_replicate, Nat.min_eq_left h, ← Nat.mul_add]
  congr 1
  omega
theorem soFar_step (k : Nat) (l : List Int) (i : Nat) (h : i < l.length) : putL (soFar k l i) (i * k) k (l.getD i 0) = soFar k l (i + 1) := by
  have hlen : (bytesL k (l.take i)).length = i * k := by rw [bytesL_length, List.length_take, Nat.min_eq_left (by omega), Nat.mul_comm]
  have hs : k * (l.length - i) = k + k * (l.length - (i + 1)) := by
    rw [show l.length - i = (l.length - (i + 1)) + 1 by omega, Nat.mul_succ, Nat.add_comm]
  unfold putL soFar
  rw [hs, ← List.replicate_append_replicate, ← List.append_assoc]
  have h1 : ((bytesL k (l.take i) ++ List.replicate k 0) ++ List.replicate (k * (l.length - (i + 1))) (0 : Int)).take (i * k) = bytesL k (l.take i) := by
    rw [List.append_assoc, List.take_left' hlen]
  have h2 : ((bytesL k (l.take i) ++ List.replicate k 0) ++ List.replicate (k * (l.length - (i + 1))) (0 : Int)).drop (i * k + k) = List.replicate (k * (l.length - (i + 1))) 0 := by
    rw [List.drop_left' (by rw [List.length_append, hlen, List.length_replicate])]
  rw [h1, h2]
  congr 1
  rw [List.take_add_one, List.getElem?_eq_getElem h, List.getD_eq_getElem?_getD, List.getElem?_eq_getElem h]
  unfold bytesL
  rw [List.flatMap_append]
  simp

set_option maxRecDepth 100000 in
set_option maxHeartbeats 4000000 in
theorem wBytes_ok (k n c : Nat) (A : Option Addr) (l : List Int) (W : World) (hl : l.length = n) (hk : wideP (k : Int)) (hn : k * n ≤ 4294967296) (hv : ∀ v ∈ l, 0 ≤ v ∧ v ≤ 18446744073709551615)
    (hA : 0 < n → ∃ ra oa, A = some ⟨ra, oa, none⟩ ∧ ∀ j, j < n → W.cell? ⟨ra, oa + j, none⟩ = some (.int .u64 (l.getD j 0))) :
    Calls Try.prog 39 #[.int .i64 (k : Int), .slice A n c] W fun e w' => ∃ r : Nat, e = .returned (.slice (some ⟨r, 0, none⟩) (k * n) (k * n)) ∧ W.heap.size ≤ r ∧ RowZ w' r (bytesL k l) ∧ Below W.heap.size W w' := by
  subst hl
  have HW := Lib.hid (wide_any (k : Int) W)
  have hd : decide (wideP (k : Int)) = true := decide_eq_true hk
  have hk8 := hk.bd
  have hn1 : l.length ≤ 4294967296 := by
    have := Nat.mul_le_mul_right l.length (show 1 ≤ k by omega)
    omega
  obtain ⟨m, hm⟩ : ∃ m : Nat, k * l.length = m := ⟨_, rfl⟩
  have hmi : (k : Int) * (l.length : Int) = (m : Int) := by rw [← hm]; simp
  have hmk := run_make_bytes64 m (by omega)
  have HM := Lib.hid hm
  have HA := Lib.hid hA
  have HK := Lib.hid hk
  have HV := Lib.hid hv
  have hm0 : RowZ (W.alloc (.cells (madeCells #[.int .u8 0] m) 5)) W.heap.size (soFar k l 0) := by
    rw [made_bytes, soFar_zero, hm]
    exact al_new rfl
  have hmb : (m : Int) ≤ 4294967296 := by omega
  rw [hm]
  have HM0 := Lib.hid hm0
  obtain ⟨n, hln⟩ : ∃ n : Nat, l.length = n := ⟨_, rfl⟩
  rw [hln] at hmi hn1 ⊢
  have HLN := Lib.hid hln
  clear hm hA hk hv hm0 hn hln
  go_enter Try.func39, Try.ntmps39
  go_wp2_with (go_at_call 67; (with_reducible refine HW.out.mono ?_); rintro e' w' ⟨rfl, rfl⟩)
  go_loopw [18] (fun i wr => ∃ q : Nat, q ≤ n ∧ i = .int .i64 (q : Int) ∧ RowZ wr W.heap.size (soFar k l q) ∧ Below W.heap.size W wr) (fun i _ => n - (intOf i).toNat)
  case atStart => exact ⟨0, Nat.zero_le _, rfl, HM0.out, (Below.refl _ _).alloc (Nat.le_refl _) _⟩
  case round =>
    obtain ⟨q, hq, rfl, hz, hb⟩ := hrel
    have HZ := Lib.hid hz
    have HB := Lib.hid hb
    clear hz hb
    by_cases hlt : q < n
    · have hlti : (q : Int) < (n : Int) := by omega
      obtain ⟨ra, oa, hAe, hcl⟩ := HA.out (by rw [HLN.out]; omega)
      have hcq := (Chg.of_below (S := fun _ => False) HB.out).cell (hcl q (by rw [HLN.out]; exact hlt)) (fun h => h)
      obtain ⟨x, hx⟩ : ∃ x : Int, l.getD q 0 = x := ⟨_, rfl⟩
      rw [hx] at hcq
      have hst := soFar_step k l q (by rw [HLN.out]; exact hlt)
      rw [hx] at hst
      have hxr : 0 ≤ x ∧ x ≤ 18446744073709551615 := by
        rw [← hx, List.getD_eq_getElem?_getD, List.getElem?_eq_getElem (by rw [HLN.out]; exact hlt)]
        exact HV.out _ (List.getElem_mem _)
      obtain ⟨p, hp⟩ : ∃ p : Nat, q * k = p := ⟨_, rfl⟩
      have hpi : (q : Int) * (k : Int) = (p : Int) := by rw [← hp]; simp
      have hpm : p + k ≤ m := by
        rw [← hp, ← HM.out, HLN.out, Nat.mul_comm k n, ← Nat.succ_mul]
        exact Nat.mul_le_mul_right k hlt
      rw [hp] at hst
      have HST := Lib.hid hst
      subst hAe
      clear hcl hst hx hp
      go_wp2_with fail
      refine (wPut_ok W.heap.size m m p k (soFar k l q) x wr (by rw [soFar_length _ _ _ (by rw [HLN.out]; omega), HM.out]) HK.out hpm (by omega) hxr HZ.out).mono ?_
      rintro e w' ⟨rfl, hz2, hc2⟩
      rw [HST.out] at hz2
      have HZ2 := Lib.hid hz2
      have HB2 := Lib.hid (hc2.below HB.out HB.out.size (fun i hi => by rw [hi]; exact Nat.le_refl _))
      clear hz2 hc2
      go_wp2
      go_roundw
      case rel => exact ⟨q + 1, by omega, by go_num, HZ2.out, HB2.out⟩
      case measure => simp [intOf]; omega
    · have hlti : ¬ (q : Int) < (n : Int) := by omega
      obtain rfl : q = n := by omega
      go_wp2
      go_ret
      exact ⟨W.heap.size, rfl, Nat.le_refl _, by rw [← soFar_all, HLN.out]; exact HZ.out, HB.out⟩
end Go.Proofs.Ytfdhjeeaigfmfaa.Sp
