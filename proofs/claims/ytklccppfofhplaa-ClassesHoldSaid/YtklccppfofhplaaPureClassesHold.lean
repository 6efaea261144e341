/- A chunk holds the header, the padding and the bytes for which it is made; one of a class has less than twice the pages that they need, a large one just these: for every number of bytes, by every alignment up to a page; no further condition. -/
import Derived.Test.YtklccppfofhplaaPClassesHoldx2
import Derived.Test.YtklccppfofhplaaBitsFacts
namespace Go.Proofs.Ytklccppfofhplaa.Pure
open Go.RowKit Go.Proofs.Ytklccppfofhplaa.PClassesHold Go.Proofs.YtklccppfofhplaaW.PrintWords Go.Proofs.YtklccppfofhplaaW.PrintLast Go.Proofs.YtklccppfofhplaaW.PrintMore Go.Proofs.Ytklccppfofhplaa.Plain
set_option linter.unusedVariables false
namespace ClassesHoldP

theorem pow_f {a : Int} (h0 : 0 ≤ a) (h1 : a ≤ 18446744073709551615) : bits_Pow.f a = some (powB a) := pow_raw h0 h1
theorem add_f {a b : Int} (a0 : 0 ≤ a) (a1 : a ≤ 18446744073709551615) (b0 : 0 ≤ b) (b1 : b ≤ 18446744073709551615) : bits_Add.f a b = some (addV a b, addB a b) := add_raw a0 a1 b0 b1
theorem up_f {n a : Int} (n0 : 0 ≤ n) (n1 : n ≤ 18446744073709551615) (a0 : 0 ≤ a) (a1 : a ≤ 18446744073709551615) : bits_Up.f n a = some (upV n a, upB n a) := by
  unfold bits_Up.f
  rw [pow_f a0 a1]
  simp only [Option.bind_some]
  by_cases hp : powB a = true
  · rw [if_pos hp, add_f n0 n1 (low_range n0 n1 a1 hp a0).1 (low_range n0 n1 a1 hp a0).2]
    simp only [Option.bind_some]
    rw [(up_raw n0 n1 a1 hp a0).1, (up_raw n0 n1 a1 hp a0).2]
  · rw [if_neg hp]
    unfold upV upB
    rw [if_neg hp, if_neg hp]

theorem pages_f {n : Int} (h0 : 0 ≤ n) (h1 : n ≤ 18446744073709551615) : bits_Pages.f n = some (pgs n) := pages_raw h0 h1

theorem shl_one {k : Int} (h0 : 0 ≤ k) (h1 : k < 64) : shl .u64 1 k = 2 ^ k.toNat := by
  unfold shl
  rw [show min k.toNat IntKind.u64.bits = k.toNat from by show min k.toNat 64 = _; omega, Int.one_mul]
  have hc : ((2 ^ k.toNat : Nat) : Int) = 2 ^ k.toNat := by simp
  have hb : 2 ^ k.toNat ≤ 2 ^ 63 := Nat.pow_le_pow_right (by omega) (by omega)
  have hp : 0 < 2 ^ k.toNat := Nat.two_pow_pos _
  rw [← hc, u64w (by omega) (by omega)]
theorem pow_facts (k : Nat) (h : k < 64) : powB (2 ^ k) = true ∧ (0 : Int) < 2 ^ k ∧ (2 : Int) ^ k ≤ 9223372036854775808 := by
  have hc : ((2 ^ k : Nat) : Int) = 2 ^ k := by simp
  have hb : 2 ^ k ≤ 2 ^ 63 := Nat.pow_le_pow_right (by omega) (by omega)
  have hp : 0 < 2 ^ k := Nat.two_pow_pos _
  refine ⟨(powB_iff (by omega)).2 ⟨k, rfl⟩, by omega, by omega⟩
theorem pow_dvd {k j : Nat} (h : k ≤ j) : (2 : Int) ^ k ∣ 2 ^ j := ⟨2 ^ (j - k), by rw [← Int.pow_add]; congr 1; omega⟩

def pgI (c : Int) : Int := if c = 0 then 1 else if c = 1 then 2 else if c = 2 then 4 else if c = 3 then 8 else if c = 4 then 16 else if c = 5 then 32 else if c = 6 then 64 else 0
def clsI (p : Int) : Int := if p < 1 then -1 else if p ≤ 1 then 0 else if p ≤ 2 then 1 else if p ≤ 4 then 2 else if p ≤ 8 then 3 else if p ≤ 16 then 4 else if p ≤ 32 then 5 else if p ≤ 64 then 6 else -1
theorem pgI_out {c : Int} (h : c < 0 ∨ 7 ≤ c) : pgI c = 0 := by unfold pgI; repeat (rw [if_neg (by omega)])
theorem cpages_f (c : Int) : classes_Pages.f c = some (pgI c) := by
  unfold classes_Pages.f
  by_cases h0 : c < 0
  · rw [if_pos h0, pgI_out (.inl h0)]
  · by_cases h7 : c ≥ 7
    · rw [if_neg h0, if_pos h7, pgI_out (.inr h7)]
    · rw [if_neg h0, if_neg h7, if_pos (by omega)]
      have h : c = 0 ∨ c = 1 ∨ c = 2 ∨ c = 3 ∨ c = 4 ∨ c = 5 ∨ c = 6 := by omega
      rcases h with rfl | rfl | rfl | rfl | rfl | rfl | rfl <;> rfl
theorem cl_round (k : Nat) (p i : Int) (h0 : 0 ≤ i) (h : i < 7) (hp : p > 0) : classes_Class.l0 (k + 1) p i = if pgI i ≥ p then some i else classes_Class.l0 k p (i + 1) := by
  simp only [classes_Class.l0]
  rw [if_pos h, if_pos hp, cpages_f]
  simp only [Option.bind_some]
  rw [show wrap64 (i + 1) = i + 1 from by unfold wrap64; omega]
theorem cl_skip (k : Nat) (p i : Int) (h0 : 0 ≤ i) (h : i < 7) (hp : ¬ p > 0) : classes_Class.l0 (k + 1) p i = classes_Class.l0 k p (i + 1) := by
  simp only [classes_Class.l0]
  rw [if_pos h, if_neg hp, show wrap64 (i + 1) = i + 1 from by unfold wrap64; omega]
theorem cl_end (k : Nat) (p : Int) : classes_Class.l0 (k + 1) p 7 = some (-1) := by
  simp only [classes_Class.l0]
  rw [if_neg (by omega)]
theorem ccls_f (k : Nat) (hk : 9 ≤ k) (p : Int) : classes_Class.f k p = some (clsI p) := by
  obtain ⟨k, rfl⟩ : ∃ m, k = m + 1 + 1 + 1 + 1 + 1 + 1 + 1 + 1 := ⟨k - 8, by omega⟩
  unfold classes_Class.f clsI
  by_cases hp : p > 0
  · rw [if_neg (by omega), cl_round _ _ _ (by omega) (by omega) hp, cl_round _ _ _ (by omega) (by omega) hp, cl_round _ _ _ (by omega) (by omega) hp, cl_round _ _ _ (by omega) (by omega) hp, cl_round _ _ _ (by omega) (by omega) hp, cl_round _ _ _ (by omega) (by omega) hp, cl_round _ _ _ (by omega) (by omega) hp]
    have e : ∀ a b : Int, (if pgI a ≥ b then some a else none) = (if pgI a ≥ b then some a else none) := fun _ _ => rfl
    simp only [show pgI 0 = 1 from rfl, show pgI (0 + 1) = 2 from rfl, show pgI (0 + 1 + 1) = 4 from rfl, show pgI (0 + 1 + 1 + 1) = 8 from rfl, show pgI (0 + 1 + 1 + 1 + 1) = 16 from rfl, show pgI (0 + 1 + 1 + 1 + 1 + 1) = 32 from rfl, show pgI (0 + 1 + 1 + 1 + 1 + 1 + 1) = 64 from rfl]
    by_cases c0 : p ≤ 1
    · rw [if_pos c0, if_pos c0]
    · rw [if_neg c0, if_neg c0]
      by_cases c1 : p ≤ 2
      · rw [if_pos c1, if_pos c1]; rfl
      · rw [if_neg c1, if_neg c1]
        by_cases c2 : p ≤ 4
        · rw [if_pos c2, if_pos c2]; rfl
        · rw [if_neg c2, if_neg c2]
          by_cases c3 : p ≤ 8
          · rw [if_pos c3, if_pos c3]; rfl
          · rw [if_neg c3, if_neg c3]
            by_cases c4 : p ≤ 16
            · rw [if_pos c4, if_pos c4]; rfl
            · rw [if_neg c4, if_neg c4]
              by_cases c5 : p ≤ 32
              · rw [if_pos c5, if_pos c5]; rfl
              · rw [if_neg c5, if_neg c5]
                by_cases c6 : p ≤ 64
                · rw [if_pos c6, if_pos c6]; rfl
                · rw [if_neg c6, if_neg c6]
                  exact cl_end _ _
  · rw [if_pos (by omega), cl_skip _ _ _ (by omega) (by omega) hp, cl_skip _ _ _ (by omega) (by omega) hp, cl_skip _ _ _ (by omega) (by omega) hp, cl_skip _ _ _ (by omega) (by omega) hp, cl_skip _ _ _ (by omega) (by omega) hp, cl_skip _ _ _ (by omega) (by omega) hp, cl_skip _ _ _ (by omega) (by omega) hp]
    exact cl_end _ _
/-- how many pages are needed, and whether they may be -/
def needB (s a : Int) : Bool := decide (s ≠ 0 ∧ a ≤ 4096 ∧ upB 32 a = true ∧ addB (upV 32 a) s = true)
def needV (s a : Int) : Int := if needB s a = true then pgs (upV 32 a + s) else 0
theorem pgs_zero : pgs 0 = 0 := rfl
theorem need_f (k : Nat) (hk : 1 ≤ k) {s a : Int} (s0 : 0 ≤ s) (s1 : s ≤ 18446744073709551615) (a0 : 0 ≤ a) (a1 : a ≤ 18446744073709551615) : classes_Need.f k s a = some (needV s a, needB s a) := by
  obtain ⟨k, rfl⟩ : ∃ m, k = m + 1 := ⟨k - 1, by omega⟩
  have no : ¬ (s ≠ 0 ∧ a ≤ 4096 ∧ upB 32 a = true ∧ addB (upV 32 a) s = true) → some ((0 : Int), false) = some (needV s a, needB s a) := by
    intro h
    have hb : needB s a = false := decide_eq_false h
    unfold needV
    rw [hb]
    rfl
  unfold classes_Need.f
  by_cases c1 : s = 0
  · rw [if_pos c1]
    simp only [classes_Need.j0]
    exact no (fun h => h.1 c1)
  · rw [if_neg c1]
    by_cases c2 : a > 4096
    · rw [decide_eq_true c2]
      simp only [classes_Need.j0]
      exact no (fun h => absurd h.2.1 (by omega))
    · rw [decide_eq_false c2]
      simp only [classes_Need.j0]
      rw [if_neg (by decide), up_f (by omega) (by omega) a0 a1]
      simp only [Option.bind_some]
      by_cases c3 : upB 32 a = true
      · obtain ⟨u0, u1⟩ := up_range (n := 32) (a := a) (by omega) (by omega) a0
        obtain ⟨r0, r1⟩ := add_range (a := upV 32 a) (b := s) u0 s0
        rw [if_pos c3, add_f u0 u1 s0 s1]
        simp only [Option.bind_some]
        rw [pages_f r0 r1]
        simp only [Option.bind_some]
        by_cases c4 : upV 32 a + s ≤ 18446744073709551615
        · have hb : needB s a = true := decide_eq_true ⟨c1, by omega, c3, decide_eq_true c4⟩
          unfold needV
          rw [if_pos hb, hb]
          unfold addV addB
          rw [if_pos c4, decide_eq_true c4]
        · have ha : addB (upV 32 a) s = false := decide_eq_false c4
          have hv : addV (upV 32 a) s = 0 := if_neg c4
          rw [ha, hv]
          exact no (fun h => absurd h.2.2.2 (by rw [ha]; decide))
      · rw [if_neg c3]
        exact no (fun h => c3 h.2.2.1)
/-- the chunk that is made -/
def chB (s a : Int) : Bool := decide (needB s a = true ∧ needV s a ≤ 1048576)
def chL (s a : Int) : Bool := decide (chB s a = true ∧ 64 < needV s a)
def chV (s a : Int) : Int := if chB s a = true then (if 64 < needV s a then needV s a else pgI (clsI (needV s a))) else 0
theorem up_le {n a : Int} (n0 : 0 ≤ n) (a0 : 0 ≤ a) (h : upB n a = true) : n ≤ upV n a ∧ upV n a < n + a := by
  by_cases hp : powB a = true
  · by_cases ha : a = 0
    · rw [ha, powB_zero] at hp; exact absurd hp (by decide)
    · exact (up_spec n0 (by omega) hp h).2
  · unfold upB at h; rw [if_neg hp] at h; exact absurd h (by decide)
theorem need_pos {s a : Int} (s0 : 0 ≤ s) (a0 : 0 ≤ a) (h : needB s a = true) : 1 ≤ needV s a ∧ needV s a ≤ 4503599627370496 := by
  obtain ⟨h1, h2, h3, h4⟩ := of_decide_eq_true h
  have hu := up_le (by omega) a0 h3
  have hs : upV 32 a + s ≤ 18446744073709551615 := of_decide_eq_true h4
  unfold needV
  rw [if_pos h]
  unfold pgs
  omega
theorem chunk_f (k : Nat) (hk : 12 ≤ k) {s a : Int} (s0 : 0 ≤ s) (s1 : s ≤ 18446744073709551615) (a0 : 0 ≤ a) (a1 : a ≤ 18446744073709551615) : classes_Chunk.f k s a = some (chV s a, chL s a, chB s a) := by
  obtain ⟨k, rfl⟩ : ∃ m, k = m + 1 := ⟨k - 1, by omega⟩
  have no : ¬ (needB s a = true ∧ needV s a ≤ 1048576) → some ((0 : Int), false, false) = some (chV s a, chL s a, chB s a) := by
    intro h
    have hb : chB s a = false := decide_eq_false h
    unfold chV chL
    rw [hb]
    simp
  unfold classes_Chunk.f
  rw [need_f _ (by omega) s0 s1 a0 a1]
  simp only [Option.bind_some]
  by_cases c1 : needB s a = true
  · obtain ⟨p1, p2⟩ := need_pos s0 a0 c1
    rw [if_pos c1]
    by_cases c2 : needV s a > 1048576
    · rw [decide_eq_true c2]
      simp only [classes_Chunk.j0]
      exact no (fun h => absurd h.2 (by omega))
    · rw [decide_eq_false c2]
      have hb : chB s a = true := decide_eq_true ⟨c1, by omega⟩
      simp only [classes_Chunk.j0]
      rw [if_neg (by decide), show wrap64 (needV s a) = needV s a from by unfold wrap64; omega]
      unfold chV chL
      rw [if_pos hb]
      by_cases c3 : needV s a > 64
      · rw [if_pos c3, if_pos (by omega), decide_eq_true ⟨hb, by omega⟩, hb]
      · rw [if_neg c3, if_neg (by omega), ccls_f _ (by omega)]
        simp only [Option.bind_some]
        rw [cpages_f]
        simp only [Option.bind_some]
        rw [decide_eq_false (by omega), hb]
  · rw [if_neg c1]
    simp only [classes_Chunk.j0]
    exact no (fun h => c1 h.1)
theorem up32 {k : Nat} (h : k ≤ 12) : upB 32 (2 ^ k) = true ∧ upV 32 (2 ^ k) = (if k ≤ 5 then 32 else 2 ^ k) := by
  have hp : powB (2 ^ k) = true := (powB_iff (Int.le_of_lt (Int.pow_pos (by decide)))).2 ⟨k, rfl⟩
  have hpos : (0 : Int) < 2 ^ k := Int.pow_pos (by decide)
  by_cases c : k ≤ 5
  · rw [if_pos c]
    have hk : k = 0 ∨ k = 1 ∨ k = 2 ∨ k = 3 ∨ k = 4 ∨ k = 5 := by omega
    refine up_unique (by omega) hpos hp ?_ (by omega) (by omega) (by omega)
    rcases hk with rfl | rfl | rfl | rfl | rfl | rfl <;> rfl
  · rw [if_neg c]
    have hk : k = 6 ∨ k = 7 ∨ k = 8 ∨ k = 9 ∨ k = 10 ∨ k = 11 ∨ k = 12 := by omega
    refine up_unique (by omega) hpos hp (Int.emod_self) ?_ ?_ ?_ <;> (rcases hk with rfl | rfl | rfl | rfl | rfl | rfl | rfl <;> decide)
theorem need_pow {s : Int} {k : Nat} (h : k ≤ 12) (s0 : 0 < s) (s1 : s ≤ 18446744073709547519) : needB s (2 ^ k) = true ∧ needV s (2 ^ k) = pgs ((if k ≤ 5 then 32 else 2 ^ k) + s) := by
  obtain ⟨u1, u2⟩ := up32 h
  have hle : (2 : Int) ^ k ≤ 4096 := by
    have hk : k = 0 ∨ k = 1 ∨ k = 2 ∨ k = 3 ∨ k = 4 ∨ k = 5 ∨ k = 6 ∨ k = 7 ∨ k = 8 ∨ k = 9 ∨ k = 10 ∨ k = 11 ∨ k = 12 := by omega
    rcases hk with rfl | rfl | rfl | rfl | rfl | rfl | rfl | rfl | rfl | rfl | rfl | rfl | rfl <;> decide
  have hb : needB s (2 ^ k) = true := by
    refine decide_eq_true ⟨by omega, hle, u1, ?_⟩
    rw [u2]
    refine decide_eq_true ?_
    split <;> omega
  refine ⟨hb, ?_⟩
  unfold needV
  rw [if_pos hb, u2]
theorem awake_f (k : Nat) (hk : 13 ≤ k) : steadinglaw07_awake.f k = some true := by
  have n1 := need_pow (s := 4064) (k := 0) (by omega) (by omega) (by omega)
  have n2 := need_pow (s := 4065) (k := 0) (by omega) (by omega) (by omega)
  have n3 := need_pow (s := 1) (k := 12) (by omega) (by omega) (by omega)
  have n4 := need_pow (s := 16384) (k := 3) (by omega) (by omega) (by omega)
  have n5 := need_pow (s := 262144) (k := 3) (by omega) (by omega) (by omega)
  unfold steadinglaw07_awake.f
  rw [need_f k (by omega) (by omega) (by omega) (by omega) (by omega), need_f k (by omega) (by omega) (by omega) (by omega) (by omega), need_f k (by omega) (by omega) (by omega) (by omega) (by omega), chunk_f k (by omega) (by omega) (by omega) (by omega) (by omega), chunk_f k (by omega) (by omega) (by omega) (by omega) (by omega)]
  simp only [Option.bind_some]
  have v1 : needV 4064 1 = 1 := n1.2
  have v2 : needV 4065 1 = 2 := n2.2
  have v3 : needV 1 4096 = 2 := n3.2
  have v4 : needV 16384 8 = 5 := n4.2
  have v5 : needV 262144 8 = 65 := n5.2
  have b1 : needB 4064 1 = true := n1.1
  have b2 : needB 4065 1 = true := n2.1
  have b3 : needB 1 4096 = true := n3.1
  have b4 : needB 16384 8 = true := n4.1
  have b5 : needB 262144 8 = true := n5.1
  have c4 : chB 16384 8 = true := decide_eq_true ⟨b4, by omega⟩
  have c5 : chB 262144 8 = true := decide_eq_true ⟨b5, by omega⟩
  have l4 : chL 16384 8 = false := decide_eq_false (by omega)
  have l5 : chL 262144 8 = true := decide_eq_true ⟨c5, by omega⟩
  have w4 : chV 16384 8 = 8 := by unfold chV; rw [if_pos c4, if_neg (by omega), v4]; rfl
  have w5 : chV 262144 8 = 65 := by unfold chV; rw [if_pos c5, if_pos (by omega), v5]
  rw [if_pos v1, if_pos b1, if_pos v2, if_pos b2, if_pos v3, if_pos b3, if_pos w4, if_neg (by rw [l4]; decide), if_pos c4, if_pos w5, if_pos l5, if_pos c5, cpages_f, ccls_f k (by omega)]
  rfl

theorem pow13 {k : Nat} (h : k ≤ 12) : (2 : Int) ^ k ≤ 4096 ∧ (if k ≤ 5 then (32 : Int) else 2 ^ k) ≤ 4096 ∧ 32 ≤ (if k ≤ 5 then (32 : Int) else 2 ^ k) := by
  have hk : k = 0 ∨ k = 1 ∨ k = 2 ∨ k = 3 ∨ k = 4 ∨ k = 5 ∨ k = 6 ∨ k = 7 ∨ k = 8 ∨ k = 9 ∨ k = 10 ∨ k = 11 ∨ k = 12 := by omega
  rcases hk with rfl | rfl | rfl | rfl | rfl | rfl | rfl | rfl | rfl | rfl | rfl | rfl | rfl <;> decide
theorem class_pages {p : Int} (h0 : 1 ≤ p) (h1 : p ≤ 64) : p ≤ pgI (clsI p) ∧ pgI (clsI p) < 2 * p ∧ pgI (clsI p) ≤ 64 ∧ powB (pgI (clsI p)) = true := by
  unfold clsI
  rw [if_neg (by omega)]
  have pw : ∀ k : Nat, powB (2 ^ k) = true := fun k => (powB_iff (Int.le_of_lt (Int.pow_pos (by decide)))).2 ⟨k, rfl⟩
  split
  · rw [show pgI 0 = 1 from rfl]; exact ⟨by omega, by omega, by omega, pw 0⟩
  split
  · rw [show pgI 1 = 2 from rfl]; exact ⟨by omega, by omega, by omega, pw 1⟩
  split
  · rw [show pgI 2 = 4 from rfl]; exact ⟨by omega, by omega, by omega, pw 2⟩
  split
  · rw [show pgI 3 = 8 from rfl]; exact ⟨by omega, by omega, by omega, pw 3⟩
  split
  · rw [show pgI 4 = 16 from rfl]; exact ⟨by omega, by omega, by omega, pw 4⟩
  split
  · rw [show pgI 5 = 32 from rfl]; exact ⟨by omega, by omega, by omega, pw 5⟩
  · rw [show pgI 6 = 64 from rfl]; exact ⟨by omega, by omega, by omega, pw 6⟩
end ClassesHoldP
open ClassesHoldP
theorem ClassesHold : steadinglaw07_ClassesHold.Pure := by
  intro s k ws wk
  obtain ⟨s0, s1⟩ := wf_u64 ws
  obtain ⟨k0, k1⟩ := wf_u8 wk
  refine ⟨90, ?_⟩
  unfold steadinglaw07_ClassesHold.f
  rw [awake_f 90 (by omega), Int.tmod_eq_emod_of_nonneg k0]
  simp only [Option.bind_some]
  rw [if_pos trivial, if_pos (by omega), shl_one (by omega) (by omega)]
  have hK : (k % 13).toNat ≤ 12 := by omega
  generalize (k % 13).toNat = K at *
  obtain ⟨pa, a0, a1⟩ := pow_facts K (by omega)
  obtain ⟨hu, hv⟩ := up32 hK
  obtain ⟨b1, b2, b3⟩ := pow13 hK
  rw [chunk_f 90 (by omega) s0 s1 (by omega) (by omega)]
  simp only [Option.bind_some]
  by_cases hb : chB s (2 ^ K) = true
  · rw [if_pos hb, up_f (by omega) (by omega) (by omega) (by omega)]
    simp only [Option.bind_some]
    obtain ⟨c1, c2⟩ := of_decide_eq_true hb
    obtain ⟨d1, d2, d3, d4⟩ := of_decide_eq_true c1
    have d5 : upV 32 (2 ^ K) + s ≤ 18446744073709551615 := of_decide_eq_true d4
    obtain ⟨p1, p2⟩ := need_pos s0 (by omega) c1
    have hn : needV s (2 ^ K) = pgs (upV 32 (2 ^ K) + s) := if_pos c1
    rw [hv] at hn d5 ⊢
    generalize (if K ≤ 5 then (32 : Int) else 2 ^ K) = f at *
    rw [u64w (n := f + s) (by omega) (by omega), pages_f (by omega) (by omega)]
    simp only [Option.bind_some]
    rw [← hn]
    have hpg : f + s ≤ needV s (2 ^ K) * 4096 := by rw [hn]; unfold pgs; omega
    unfold chV chL
    rw [if_pos hb]
    by_cases c3 : 64 < needV s (2 ^ K)
    · rw [if_pos c3, u64w (n := needV s (2 ^ K)) (by omega) (by omega), u64w (n := needV s (2 ^ K) * 4096) (by omega) (by omega), if_neg (by omega), if_pos (decide_eq_true ⟨hb, c3⟩), if_pos (by omega)]
      simp
    · obtain ⟨e1, e2, e3, e4⟩ := class_pages p1 (by omega)
      rw [if_neg c3, u64w (n := pgI (clsI (needV s (2 ^ K)))) (by omega) (by omega), u64w (n := pgI (clsI (needV s (2 ^ K))) * 4096) (by omega) (by omega), if_neg (by omega), if_neg (by rw [decide_eq_false (fun h => c3 h.2)]; decide), if_pos (by omega), pow_f (by omega) (by omega)]
      simp only [Option.bind_some]
      rw [if_pos e4, u64w (by omega) (by omega)]
      congr 1
      exact decide_eq_true e2
  · rw [if_neg hb]
    by_cases c : s = 0
    · rw [if_pos c]
    · rw [if_neg c]
      congr 1
      rw [decide_eq_true_eq]
      apply Classical.byContradiction
      intro hs
      obtain ⟨n1, n2⟩ := need_pow (s := s) hK (by omega) (by omega)
      generalize (if K ≤ 5 then (32 : Int) else 2 ^ K) = f at *
      apply hb
      refine decide_eq_true ⟨n1, ?_⟩
      rw [n2]
      unfold pgs
      omega

end Go.Proofs.Ytklccppfofhplaa.Pure
