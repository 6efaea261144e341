/- What bits.Log, bits.Ceil and bump.Of do (each makes a function value and calls it): by contracts. -/
import Derived.Test.YtaodlkpknipkmaaProg
import Derived.WalkKit
import Derived.WalkSpells
import Derived.WalkLawsBesides
import Derived.KernelRfl
import Derived.Below
import Derived.Deep.QuietTactic
import Derived.BigQuiet
import Derived.Deep.LoopGhost
import Derived.Lib.Hide
import Derived.Test.YtaodlkpknipkmaaBitsPlain
namespace Go.Proofs.Ytaodlkpknipkmaa.Hand
open Go.RowKit Plain

def leB (n : Int) (k : Int) : Bool := decide (blen n.toNat ≤ k.toNat)
theorem leB_true {n k : Int} (h : blen n.toNat ≤ k.toNat) : leB n k = true := decide_eq_true h
theorem leB_false {n k : Int} (h : ¬ blen n.toNat ≤ k.toNat) : leB n k = false := decide_eq_false h

theorem min64 {k : Int} (h : k < 64) : min k.toNat 64 = k.toNat := by omega

theorem shr_zero {n k : Int} (hn : 0 ≤ n) : ((n / 2 ^ k.toNat) == 0) = leB n k := by
  obtain ⟨m, rfl⟩ := Int.eq_ofNat_of_zero_le hn
  unfold leB
  rw [Bool.eq_iff_iff, beq_iff_eq, decide_eq_true_eq, Int.toNat_natCast, blen_le]
  have hp : (0 : Int) < 2 ^ k.toNat := Int.pow_pos (by decide)
  have hc : ((2 ^ k.toNat : Nat) : Int) = 2 ^ k.toNat := by simp
  constructor
  · intro h
    have h1 := Int.emod_add_mul_ediv (m : Int) (2 ^ k.toNat)
    have h2 := Int.emod_lt_of_pos (m : Int) hp
    rw [h] at h1
    omega
  · intro h
    exact Int.ediv_eq_zero_of_lt (by omega) (by omega)

set_option maxHeartbeats 400000 in
theorem log_fn (n k : Int) (b : Nat) (w : World) (n0 : 0 ≤ n) (hk0 : 0 ≤ k) (hk : k < 64) (hc : w.cell? ⟨b, 0, none⟩ = some (.int .u64 n)) :
    Calls Try.prog 39 #[.int .i64 k, .pointer (some ⟨b, 0, none⟩)] w fun e w' => e = .returned (.bool (leB n k)) ∧ w = w' := by
  have H := Lib.hid (shr_zero (k := k) n0)
  go_enter Try.func39, Try.ntmps39
  go_wp2
  go_ret
  exact ⟨by simp; exact H.out, rfl⟩


def lenI (n : Int) : Int := (blen n.toNat : Int)
theorem lenI_nonneg (n : Int) : 0 ≤ lenI n := by unfold lenI; omega

set_option maxHeartbeats 800000 in
theorem least_log (n : Int) (b : Nat) (w : World) (n0 : 0 ≤ n) (n1 : n ≤ 18446744073709551615) (hc : w.cell? ⟨b, 0, none⟩ = some (.int .u64 n)) :
    Calls Try.prog 38 #[.func (.func 39) #[] #[.pointer (some ⟨b, 0, none⟩)]] w fun e w' => e = .returned (.int .i64 (lenI n)) ∧ w = w' := by
  have hle : blen n.toNat ≤ 64 := by rw [blen_le]; omega
  go_enter Try.func38, Try.ntmps38
  go_wp2
  go_loop [4] (fun i => ∃ k : Nat, k ≤ 64 ∧ k ≤ blen n.toNat ∧ i = .int .i64 k) (fun i => 64 - (intOf i).toNat)
  case atStart => exact ⟨0, by omega, by omega, rfl⟩
  case round =>
    obtain ⟨k, hk, hk2, rfl⟩ := hrel
    by_cases hlt : k < 64
    · by_cases hb : blen n.toNat ≤ k
      · have hB := leB_true (n := n) (k := (k : Int)) (by simpa using hb)
        have hL : lenI n = k := by unfold lenI; omega
        have HL := Lib.hid hL
        clear hL
        go_wp2_with (go_at_call 39; refine (log_fn n k b _ n0 (by omega) (by omega) hc).mono ?_; rintro e w' ⟨rfl, rfl⟩)
        go_ret
        exact ⟨by rw [HL.out]; rfl, rfl⟩
      · have hB := leB_false (n := n) (k := (k : Int)) (by simpa using hb)
        go_wp2_with (go_at_call 39; refine (log_fn n k b _ n0 (by omega) (by omega) hc).mono ?_; rintro e w' ⟨rfl, rfl⟩)
        go_round
        case rel => exact ⟨k + 1, by omega, by omega, by go_num⟩
        case measure => simp [intOf]; omega
    · have hL : lenI n = 64 := by unfold lenI; omega
      have HL := Lib.hid hL
      clear hL
      go_wp2
      go_ret
      exact ⟨by rw [HL.out]; rfl, rfl⟩

theorem cell_one {w : World} {v : Value} {t : TypeId} : (w.alloc (.cells #[v] t)).cell? ⟨w.heap.size, 0, none⟩ = some v := by
  rw [World.cell?_alloc_at _ _ _ _ rfl]; rfl

set_option maxHeartbeats 400000 in
theorem log_any (n : Int) (w : World) (n0 : 0 ≤ n) (n1 : n ≤ 18446744073709551615) :
    Calls Try.prog 18 #[.int .u64 n] w fun e w' => e = .returned (.int .i64 (lenI n - 1)) ∧ Below w.heap.size w w' := by
  have hmf : ∀ (fn : Fn) (first cap : Array Value) (w : World), (Instr.makeFunc fn first cap).run Try.prog w = .ok (.func fn first cap) w := fun _ _ _ _ => rfl
  have hl := lenI_nonneg n
  have hl2 : lenI n ≤ 64 := by
    have : blen n.toNat ≤ 64 := by rw [blen_le]; omega
    unfold lenI; omega
  go_enter Try.func18, Try.ntmps18
  go_wp2_with (go_at_call 38; refine (least_log n w.heap.size _ n0 n1 cell_one).mono ?_; rintro e w' ⟨rfl, rfl⟩)
  go_ret
  exact ⟨rfl, (Below.refl _ _).alloc (Nat.le_refl _) _⟩

theorem shl_ge {n k : Int} (hn : 0 ≤ n) (hk : k < 64) : decide (n ≤ IntKind.u64.wrap (2 ^ k.toNat)) = leB (n - 1) k := by
  unfold leB
  rw [Bool.eq_iff_iff, decide_eq_true_eq, decide_eq_true_eq, blen_le]
  have hc : ((2 ^ k.toNat : Nat) : Int) = 2 ^ k.toNat := by simp
  have hp : 0 < 2 ^ k.toNat := Nat.two_pow_pos _
  have hb : 2 ^ k.toNat ≤ 2 ^ 63 := Nat.pow_le_pow_right (by omega) (by omega)
  rw [← hc, IntKind.wrap_u64]
  omega

set_option maxHeartbeats 400000 in
theorem ceil_fn (n k : Int) (b : Nat) (w : World) (n0 : 0 ≤ n) (hk0 : 0 ≤ k) (hk : k < 64) (hc : w.cell? ⟨b, 0, none⟩ = some (.int .u64 n)) :
    Calls Try.prog 40 #[.int .i64 k, .pointer (some ⟨b, 0, none⟩)] w fun e w' => e = .returned (.bool (leB (n - 1) k)) ∧ ∃ m, w' = w.drewN m := by
  go_enter Try.func40, Try.ntmps40
  go_wp2
  go_quiet (fail)
  go_wp2
  go_ret
  exact ⟨by simp; exact shl_ge n0 hk, _, rfl⟩

def clI (n : Int) : Int := lenI (n - 1)

set_option maxHeartbeats 800000 in
theorem least_ceil (n : Int) (b : Nat) (w : World) (n0 : 0 ≤ n) (n1 : n ≤ 18446744073709551615) (hc : w.cell? ⟨b, 0, none⟩ = some (.int .u64 n)) :
    Calls Try.prog 38 #[.func (.func 40) #[] #[.pointer (some ⟨b, 0, none⟩)]] w fun e w' => e = .returned (.int .i64 (clI n)) ∧ ∃ m, w' = w.drewN m := by
  have hle : blen (n - 1).toNat ≤ 64 := by rw [blen_le]; omega
  go_enter Try.func38, Try.ntmps38
  go_wp2
  go_loopw [4] (fun i wr => ∃ k m : Nat, k ≤ 64 ∧ k ≤ blen (n - 1).toNat ∧ i = .int .i64 k ∧ wr = w.drewN m) (fun i _ => 64 - (intOf i).toNat)
  case atStart => exact ⟨0, 0, by omega, by omega, rfl, rfl⟩
  case round =>
    obtain ⟨k, m, hk, hk2, rfl, rfl⟩ := hrel
    have hcm : (w.drewN m).cell? ⟨b, 0, none⟩ = some (.int .u64 n) := hc
    by_cases hlt : k < 64
    · by_cases hb : blen (n - 1).toNat ≤ k
      · have hB := leB_true (n := n - 1) (k := (k : Int)) (by simpa using hb)
        have hL : clI n = k := by unfold clI lenI; omega
        have HL := Lib.hid hL
        clear hL
        go_wp2_with (go_at_call 40; refine (ceil_fn n k b _ n0 (by omega) (by omega) hcm).mono ?_; rintro e w' ⟨rfl, m2, rfl⟩)
        go_ret
        exact ⟨by rw [HL.out]; rfl, _, by first | exact World.drewN_drewN _ _ _ | rfl⟩
      · have hB := leB_false (n := n - 1) (k := (k : Int)) (by simpa using hb)
        go_wp2_with (go_at_call 40; refine (ceil_fn n k b _ n0 (by omega) (by omega) hcm).mono ?_; rintro e w' ⟨rfl, m2, rfl⟩)
        go_roundw
        case rel => exact ⟨k + 1, _, by omega, by omega, by go_num, by first | exact World.drewN_drewN _ _ _ | rfl⟩
        case measure => simp [intOf]; omega
    · have hL : clI n = 64 := by unfold clI lenI; omega
      have HL := Lib.hid hL
      clear hL
      go_wp2
      go_ret
      exact ⟨by rw [HL.out]; rfl, _, rfl⟩

set_option maxHeartbeats 400000 in
theorem ceil_any (n : Int) (w : World) (n0 : 0 ≤ n) (n1 : n ≤ 18446744073709551615) :
    Calls Try.prog 20 #[.int .u64 n] w fun e w' => e = .returned (.int .i64 (clI n)) ∧ Below w.heap.size w w' := by
  have hmf : ∀ (fn : Fn) (first cap : Array Value) (w : World), (Instr.makeFunc fn first cap).run Try.prog w = .ok (.func fn first cap) w := fun _ _ _ _ => rfl
  go_enter Try.func20, Try.ntmps20
  go_wp2_with (go_at_call 38; refine (least_ceil n w.heap.size _ n0 n1 cell_one).mono ?_; rintro e w' ⟨rfl, m, rfl⟩)
  go_ret
  exact ⟨rfl, below_drewN ((Below.refl _ _).alloc (Nat.le_refl _) _) m⟩

def ofB (p n : Int) : Bool := decide (0 ≤ p ∧ 1 ≤ n ∧ n ≤ 1048576 ∧ p + n ≤ 1048576)

theorem of_yes {p n : Int} (c1 : 0 ≤ p) (c2 : 1 ≤ n) (c3 : n ≤ 1048576) (c4 : p + n ≤ 1048576) : ofB p n = true := decide_eq_true ⟨c1, c2, c3, c4⟩
theorem of_no {p n : Int} (h : ¬ (0 ≤ p ∧ 1 ≤ n ∧ n ≤ 1048576 ∧ p + n ≤ 1048576)) : ofB p n = false := decide_eq_false h

set_option maxHeartbeats 400000 in
theorem of_fn (p n : Int) (b c : Nat) (w : World) (hp : w.cell? ⟨b, 0, none⟩ = some (.int .i64 p)) (hn : w.cell? ⟨c, 0, none⟩ = some (.int .i64 n)) :
    Calls Try.prog 41 #[.pointer (some ⟨b, 0, none⟩), .pointer (some ⟨c, 0, none⟩)] w fun e w' => e = .returned (.bool (ofB p n)) ∧ w = w' := by
  by_cases c1 : 0 ≤ p
  · by_cases c2 : 1 ≤ n
    · by_cases c3 : n ≤ 1048576
      · by_cases c4 : p + n ≤ 1048576
        · have d4 : p ≤ 1048576 - n := by omega
          rw [of_yes c1 c2 c3 c4]
          go_enter Try.func41, Try.ntmps41
          go_wp2
          go_ret
          exact ⟨by simp, rfl⟩
        · have d4 : ¬ p ≤ 1048576 - n := by omega
          rw [of_no (by omega)]
          go_enter Try.func41, Try.ntmps41
          go_wp2
          go_ret
          exact ⟨by simp, rfl⟩
      · rw [of_no (by omega)]
        go_enter Try.func41, Try.ntmps41
        go_wp2
        go_ret
        exact ⟨by simp, rfl⟩
    · rw [of_no (by omega)]
      go_enter Try.func41, Try.ntmps41
      go_wp2
      go_ret
      exact ⟨by simp, rfl⟩
  · rw [of_no (by omega)]
    go_enter Try.func41, Try.ntmps41
    go_wp2
    go_ret
    exact ⟨by simp, rfl⟩

theorem three_0 (w : World) (x y : Value) (o : Obj) {t : TypeId} {s : TypeId} : (((w.alloc (.cells #[x] t)).alloc (.cells #[y] s)).alloc o).cell? ⟨w.heap.size, 0, none⟩ = some x := by
  rw [World.cell?_alloc_past _ _ _ (by simp; omega), World.cell?_alloc_past _ _ _ (by simp), World.cell?_alloc_at _ _ _ _ rfl]; rfl
theorem three_1 (w : World) (x y : Value) (o : Obj) {t : TypeId} {s : TypeId} : (((w.alloc (.cells #[x] t)).alloc (.cells #[y] s)).alloc o).cell? ⟨w.heap.size + 1, 0, none⟩ = some y := by
  rw [World.cell?_alloc_past _ _ _ (by simp), World.cell?_alloc_at _ _ _ _ (by simp)]; rfl

def ofA (p n : Int) : Int := if ofB p n = true then p * 4096 + 32 else 0
def ofE (p n : Int) : Int := if ofB p n = true then (p + n) * 4096 else 0

set_option maxHeartbeats 400000 in
theorem of_any (p n : Int) (w : World) (p0 : -9223372036854775808 ≤ p) (p1 : p ≤ 9223372036854775807) (n0 : -9223372036854775808 ≤ n) (n1 : n ≤ 9223372036854775807) :
    Calls Try.prog 33 #[.int .i64 p, .int .i64 n] w fun e w' => e = .returned (.agg #[.int .u64 (ofA p n), .int .u64 (ofE p n)]) ∧ Below w.heap.size w w' := by
  have hmf : ∀ (fn : Fn) (first cap : Array Value) (w : World), (Instr.makeFunc fn first cap).run Try.prog w = .ok (.func fn first cap) w := fun _ _ _ _ => rfl
  by_cases h : 0 ≤ p ∧ 1 ≤ n ∧ n ≤ 1048576 ∧ p + n ≤ 1048576
  · have hy := of_yes h.1 h.2.1 h.2.2.1 h.2.2.2
    obtain ⟨h1, h2, h3, h4⟩ := h
    have HA := Lib.hid (show ofA p n = p * 4096 + 32 from if_pos hy)
    have HE := Lib.hid (show ofE p n = (p + n) * 4096 from if_pos hy)
    go_enter Try.func33, Try.ntmps33
    go_wp2_with fail
    refine (of_fn p n w.heap.size (w.heap.size + 1) _ (three_0 _ _ _ _) (three_1 _ _ _ _)).mono ?_
    rintro e w' ⟨rfl, rfl⟩
    go_wp2
    refine bodyPost_ret (v := .agg #[.int .u64 (p * 4096 + 32), .int .u64 ((p + n) * 4096)]) ?_ rfl ?_
    · simp [results, Try.results33, go_sem]
    · exact ⟨by rw [HA.out, HE.out], (((((Below.refl _ _).alloc (Nat.le_refl _) _).alloc (by simp) _).alloc (by simp; omega) _))⟩
  · have hy := of_no h
    have HA := Lib.hid (show ofA p n = 0 from if_neg (by rw [hy]; decide))
    have HE := Lib.hid (show ofE p n = 0 from if_neg (by rw [hy]; decide))
    go_enter Try.func33, Try.ntmps33
    go_wp2_with fail
    refine (of_fn p n w.heap.size (w.heap.size + 1) _ (three_0 _ _ _ _) (three_1 _ _ _ _)).mono ?_
    rintro e w' ⟨rfl, rfl⟩
    go_wp2
    refine bodyPost_ret (v := .agg #[.int .u64 0, .int .u64 0]) ?_ rfl ?_
    · simp [results, Try.results33, go_sem]
    · exact ⟨by rw [HA.out, HE.out], (((((Below.refl _ _).alloc (Nat.le_refl _) _).alloc (by simp) _).alloc (by simp; omega) _))⟩

end Go.Proofs.Ytaodlkpknipkmaa.Hand
