/- For every number of bytes and every alignment, how many pages are needed, and which chunk is made, are the document's; no further condition. -/
import Derived.Test.YtklccppfofhplaaPClassesChunkx2
import Derived.Test.YtklccppfofhplaaBitsFacts
namespace Go.Proofs.Ytklccppfofhplaa.Pure
open Go.RowKit Go.Proofs.Ytklccppfofhplaa.PClassesChunk Go.Proofs.YtklccppfofhplaaW.PrintWords Go.Proofs.YtklccppfofhplaaW.PrintLast Go.Proofs.YtklccppfofhplaaW.PrintMore Go.Proofs.Ytklccppfofhplaa.Plain
set_option linter.unusedVariables false
namespace ClassesChunkP

theorem pow_f {a : Int} (h0 : 0 ≤ a) (h1 : a ≤ 18446744073709551615) : bits_Pow.f a = some (powB a) := pow_raw h0 h1
theorem add_f {a b : Int} (a0 : 0 ≤ a) (a1 : a ≤ 18446744073709551615) (b0 : 0 ≤ b) (b1 : b ≤ 18446744073709551615) : bits_Add.f a b = some (addV a b, addB a b) := add_raw a0 a1 b0 b1
theorem up_f {n a : Int} (n0 : 0 ≤ n) (n1 : n ≤ 18446744073709551615) (a0 : 0 ≤ a) (a1 : a ≤ 18446744073709551615) : bits_Up.f n a = some (upV n a, upB n a) := by
  unfold bits_Up.f
  rw [pow_f a0 a1]
  simp only [Option.bind_some]
  by_cases hp : powB a = true
  · rw [if_pos hp, add_f n0 n1 (low_range n0 n1 a1 hp a0).1 (low_range n0 n1 a1 hp a0).2]
    simp only [Option.bind_some]
    rw [(up_raw n0 n1 a1 hp a0).1, (up_raw n0 n1 a1 hp a0).2]
  · rw [if_neg hp]
    unfold upV upB
    rw [if_neg hp, if_neg hp]

theorem pages_f {n : Int} (h0 : 0 ≤ n) (h1 : n ≤ 18446744073709551615) : bits_Pages.f n = some (pgs n) := pages_raw h0 h1

theorem shl_one {k : Int} (h0 : 0 ≤ k) (h1 : k < 64) : shl .u64 1 k = 2 ^ k.toNat := by
  unfold shl
  rw [show min k.toNat IntKind.u64.bits = k.toNat from by show min k.toNat 64 = _; omega, Int.one_mul]
  have hc : ((2 ^ k.toNat : Nat) : Int) = 2 ^ k.toNat := by simp
  have hb : 2 ^ k.toNat ≤ 2 ^ 63 := Nat.pow_le_pow_right (by omega) (by omega)
  have hp : 0 < 2 ^ k.toNat := Nat.two_pow_pos _
  rw [← hc, u64w (by omega) (by omega)]
theorem pow_facts (k : Nat) (h : k < 64) : powB (2 ^ k) = true ∧ (0 : Int) < 2 ^ k ∧ (2 : Int) ^ k ≤ 9223372036854775808 := by
  have hc : ((2 ^ k : Nat) : Int) = 2 ^ k := by simp
  have hb : 2 ^ k ≤ 2 ^ 63 := Nat.pow_le_pow_right (by omega) (by omega)
  have hp : 0 < 2 ^ k := Nat.two_pow_pos _
  refine ⟨(powB_iff (by omega)).2 ⟨k, rfl⟩, by omega, by omega⟩
theorem pow_dvd {k j : Nat} (h : k ≤ j) : (2 : Int) ^ k ∣ 2 ^ j := ⟨2 ^ (j - k), by rw [← Int.pow_add]; congr 1; omega⟩

def pgI (c : Int) : Int := if c = 0 then 1 else if c = 1 then 2 else if c = 2 then 4 else if c = 3 then 8 else if c = 4 then 16 else if c = 5 then 32 else if c = 6 then 64 else 0
def clsI (p : Int) : Int := if p < 1 then -1 else if p ≤ 1 then 0 else if p ≤ 2 then 1 else if p ≤ 4 then 2 else if p ≤ 8 then 3 else if p ≤ 16 then 4 else if p ≤ 32 then 5 else if p ≤ 64 then 6 else -1
theorem pgI_out {c : Int} (h : c < 0 ∨ 7 ≤ c) : pgI c = 0 := by unfold pgI; repeat (rw [if_neg (by omega)])
theorem cpages_f (c : Int) : classes_Pages.f c = some (pgI c) := by
  unfold classes_Pages.f
  by_cases h0 : c < 0
  · rw [if_pos h0, pgI_out (.inl h0)]
  · by_cases h7 : c ≥ 7
    · rw [if_neg h0, if_pos h7, pgI_out (.inr h7)]
    · rw [if_neg h0, if_neg h7, if_pos (by omega)]
      have h : c = 0 ∨ c = 1 ∨ c = 2 ∨ c = 3 ∨ c = 4 ∨ c = 5 ∨ c = 6 := by omega
      rcases h with rfl | rfl | rfl | rfl | rfl | rfl | rfl <;> rfl
theorem cl_round (k : Nat) (p i : Int) (h0 : 0 ≤ i) (h : i < 7) (hp : p > 0) : classes_Class.l0 (k + 1) p i = if pgI i ≥ p then some i else classes_Class.l0 k p (i + 1) := by
  simp only [classes_Class.l0]
  rw [if_pos h, if_pos hp, cpages_f]
  simp only [Option.bind_some]
  rw [show wrap64 (i + 1) = i + 1 from by unfold wrap64; omega]
theorem cl_skip (k : Nat) (p i : Int) (h0 : 0 ≤ i) (h : i < 7) (hp : ¬ p > 0) : classes_Class.l0 (k + 1) p i = classes_Class.l0 k p (i + 1) := by
  simp only [classes_Class.l0]
  rw [if_pos h, if_neg hp, show wrap64 (i + 1) = i + 1 from by unfold wrap64; omega]
theorem cl_end (k : Nat) (p : Int) : classes_Class.l0 (k + 1) p 7 = some (-1) := by
  simp only [classes_Class.l0]
  rw [if_neg (by omega)]
theorem ccls_f (k : Nat) (hk : 9 ≤ k) (p : Int) : classes_Class.f k p = some (clsI p) := by
  obtain ⟨k, rfl⟩ : ∃ m, k = m + 1 + 1 + 1 + 1 + 1 + 1 + 1 + 1 := ⟨k - 8, by omega⟩
  unfold classes_Class.f clsI
  by_cases hp : p > 0
  · rw [if_neg (by omega), cl_round _ _ _ (by omega) (by omega) hp, cl_round _ _ _ (by omega) (by omega) hp, cl_round _ _ _ (by omega) (by omega) hp, cl_round _ _ _ (by omega) (by omega) hp, cl_round _ _ _ (by omega) (by omega) hp, cl_round _ _ _ (by omega) (by omega) hp, cl_round _ _ _ (by omega) (by omega) hp]
    have e : ∀ a b : Int, (if pgI a ≥ b then some a else none) = (if pgI a ≥ b then some a else none) := fun _ _ => rfl
    simp only [show pgI 0 = 1 from rfl, show pgI (0 + 1) = 2 from rfl, show pgI (0 + 1 + 1) = 4 from rfl, show pgI (0 + 1 + 1 + 1) = 8 from rfl, show pgI (0 + 1 + 1 + 1 + 1) = 16 from rfl, show pgI (0 + 1 + 1 + 1 + 1 + 1) = 32 from rfl, show pgI (0 + 1 + 1 + 1 + 1 + 1 + 1) = 64 from rfl]
    by_cases c0 : p ≤ 1
    · rw [if_pos c0, if_pos c0]
    · rw [if_neg c0, if_neg c0]
      by_cases c1 : p ≤ 2
      · rw [if_pos c1, if_pos c1]; rfl
      · rw [if_neg c1, if_neg c1]
        by_cases c2 : p ≤ 4
        · rw [if_pos c2, if_pos c2]; rfl
        · rw [if_neg c2, if_neg c2]
          by_cases c3 : p ≤ 8
          · rw [if_pos c3, if_pos c3]; rfl
          · rw [if_neg c3, if_neg c3]
            by_cases c4 : p ≤ 16
            · rw [if_pos c4, if_pos c4]; rfl
            · rw [if_neg c4, if_neg c4]
              by_cases c5 : p ≤ 32
              · rw [if_pos c5, if_pos c5]; rfl
              · rw [if_neg c5, if_neg c5]
                by_cases c6 : p ≤ 64
                · rw [if_pos c6, if_pos c6]; rfl
                · rw [if_neg c6, if_neg c6]
                  exact cl_end _ _
  · rw [if_pos (by omega), cl_skip _ _ _ (by omega) (by omega) hp, cl_skip _ _ _ (by omega) (by omega) hp, cl_skip _ _ _ (by omega) (by omega) hp, cl_skip _ _ _ (by omega) (by omega) hp, cl_skip _ _ _ (by omega) (by omega) hp, cl_skip _ _ _ (by omega) (by omega) hp, cl_skip _ _ _ (by omega) (by omega) hp]
    exact cl_end _ _
/-- how many pages are needed, and whether they may be -/
def needB (s a : Int) : Bool := decide (s ≠ 0 ∧ a ≤ 4096 ∧ upB 32 a = true ∧ addB (upV 32 a) s = true)
def needV (s a : Int) : Int := if needB s a = true then pgs (upV 32 a + s) else 0
theorem pgs_zero : pgs 0 = 0 := rfl
theorem need_f (k : Nat) (hk : 1 ≤ k) {s a : Int} (s0 : 0 ≤ s) (s1 : s ≤ 18446744073709551615) (a0 : 0 ≤ a) (a1 : a ≤ 18446744073709551615) : classes_Need.f k s a = some (needV s a, needB s a) := by
  obtain ⟨k, rfl⟩ : ∃ m, k = m + 1 := ⟨k - 1, by omega⟩
  have no : ¬ (s ≠ 0 ∧ a ≤ 4096 ∧ upB 32 a = true ∧ addB (upV 32 a) s = true) → some ((0 : Int), false) = some (needV s a, needB s a) := by
    intro h
    have hb : needB s a = false := decide_eq_false h
    unfold needV
    rw [hb]
    rfl
  unfold classes_Need.f
  by_cases c1 : s = 0
  · rw [if_pos c1]
    simp only [classes_Need.j0]
    exact no (fun h => h.1 c1)
  · rw [if_neg c1]
    by_cases c2 : a > 4096
    · rw [decide_eq_true c2]
      simp only [classes_Need.j0]
      exact no (fun h => absurd h.2.1 (by omega))
    · rw [decide_eq_false c2]
      simp only [classes_Need.j0]
      rw [if_neg (by decide), up_f (by omega) (by omega) a0 a1]
      simp only [Option.bind_some]
      by_cases c3 : upB 32 a = true
      · obtain ⟨u0, u1⟩ := up_range (n := 32) (a := a) (by omega) (by omega) a0
        obtain ⟨r0, r1⟩ := add_range (a := upV 32 a) (b := s) u0 s0
        rw [if_pos c3, add_f u0 u1 s0 s1]
        simp only [Option.bind_some]
        rw [pages_f r0 r1]
        simp only [Option.bind_some]
        by_cases c4 : upV 32 a + s ≤ 18446744073709551615
        · have hb : needB s a = true := decide_eq_true ⟨c1, by omega, c3, decide_eq_true c4⟩
          unfold needV
          rw [if_pos hb, hb]
          unfold addV addB
          rw [if_pos c4, decide_eq_true c4]
        · have ha : addB (upV 32 a) s = false := decide_eq_false c4
          have hv : addV (upV 32 a) s = 0 := if_neg c4
          rw [ha, hv]
          exact no (fun h => absurd h.2.2.2 (by rw [ha]; decide))
      · rw [if_neg c3]
        exact no (fun h => c3 h.2.2.1)
/-- the chunk that is made -/
def chB (s a : Int) : Bool := decide (needB s a = true ∧ needV s a ≤ 1048576)
def chL (s a : Int) : Bool := decide (chB s a = true ∧ 64 < needV s a)
def chV (s a : Int) : Int := if chB s a = true then (if 64 < needV s a then needV s a else pgI (clsI (needV s a))) else 0
theorem up_le {n a : Int} (n0 : 0 ≤ n) (a0 : 0 ≤ a) (h : upB n a = true) : n ≤ upV n a ∧ upV n a < n + a := by
  by_cases hp : powB a = true
  · by_cases ha : a = 0
    · rw [ha, powB_zero] at hp; exact absurd hp (by decide)
    · exact (up_spec n0 (by omega) hp h).2
  · unfold upB at h; rw [if_neg hp] at h; exact absurd h (by decide)
theorem need_pos {s a : Int} (s0 : 0 ≤ s) (a0 : 0 ≤ a) (h : needB s a = true) : 1 ≤ needV s a ∧ needV s a ≤ 4503599627370496 := by
  obtain ⟨h1, h2, h3, h4⟩ := of_decide_eq_true h
  have hu := up_le (by omega) a0 h3
  have hs : upV 32 a + s ≤ 18446744073709551615 := of_decide_eq_true h4
  unfold needV
  rw [if_pos h]
  unfold pgs
  omega
theorem chunk_f (k : Nat) (hk : 12 ≤ k) {s a : Int} (s0 : 0 ≤ s) (s1 : s ≤ 18446744073709551615) (a0 : 0 ≤ a) (a1 : a ≤ 18446744073709551615) : classes_Chunk.f k s a = some (chV s a, chL s a, chB s a) := by
  obtain ⟨k, rfl⟩ : ∃ m, k = m + 1 := ⟨k - 1, by omega⟩
  have no : ¬ (needB s a = true ∧ needV s a ≤ 1048576) → some ((0 : Int), false, false) = some (chV s a, chL s a, chB s a) := by
    intro h
    have hb : chB s a = false := decide_eq_false h
    unfold chV chL
    rw [hb]
    simp
  unfold classes_Chunk.f
  rw [need_f _ (by omega) s0 s1 a0 a1]
  simp only [Option.bind_some]
  by_cases c1 : needB s a = true
  · obtain ⟨p1, p2⟩ := need_pos s0 a0 c1
    rw [if_pos c1]
    by_cases c2 : needV s a > 1048576
    · rw [decide_eq_true c2]
      simp only [classes_Chunk.j0]
      exact no (fun h => absurd h.2 (by omega))
    · rw [decide_eq_false c2]
      have hb : chB s a = true := decide_eq_true ⟨c1, by omega⟩
      simp only [classes_Chunk.j0]
      rw [if_neg (by decide), show wrap64 (needV s a) = needV s a from by unfold wrap64; omega]
      unfold chV chL
      rw [if_pos hb]
      by_cases c3 : needV s a > 64
      · rw [if_pos c3, if_pos (by omega), decide_eq_true ⟨hb, by omega⟩, hb]
      · rw [if_neg c3, if_neg (by omega), ccls_f _ (by omega)]
        simp only [Option.bind_some]
        rw [cpages_f]
        simp only [Option.bind_some]
        rw [decide_eq_false (by omega), hb]
  · rw [if_neg c1]
    simp only [classes_Chunk.j0]
    exact no (fun h => c1 h.1)
theorem up32 {k : Nat} (h : k ≤ 12) : upB 32 (2 ^ k) = true ∧ upV 32 (2 ^ k) = (if k ≤ 5 then 32 else 2 ^ k) := by
  have hp : powB (2 ^ k) = true := (powB_iff (Int.le_of_lt (Int.pow_pos (by decide)))).2 ⟨k, rfl⟩
  have hpos : (0 : Int) < 2 ^ k := Int.pow_pos (by decide)
  by_cases c : k ≤ 5
  · rw [if_pos c]
    have hk : k = 0 ∨ k = 1 ∨ k = 2 ∨ k = 3 ∨ k = 4 ∨ k = 5 := by omega
    refine up_unique (by omega) hpos hp ?_ (by omega) (by omega) (by omega)
    rcases hk with rfl | rfl | rfl | rfl | rfl | rfl <;> rfl
  · rw [if_neg c]
    have hk : k = 6 ∨ k = 7 ∨ k = 8 ∨ k = 9 ∨ k = 10 ∨ k = 11 ∨ k = 12 := by omega
    refine up_unique (by omega) hpos hp (Int.emod_self) ?_ ?_ ?_ <;> (rcases hk with rfl | rfl | rfl | rfl | rfl | rfl | rfl <;> decide)
theorem need_pow {s : Int} {k : Nat} (h : k ≤ 12) (s0 : 0 < s) (s1 : s ≤ 18446744073709547519) : needB s (2 ^ k) = true ∧ needV s (2 ^ k) = pgs ((if k ≤ 5 then 32 else 2 ^ k) + s) := by
  obtain ⟨u1, u2⟩ := up32 h
  have hle : (2 : Int) ^ k ≤ 4096 := by
    have hk : k = 0 ∨ k = 1 ∨ k = 2 ∨ k = 3 ∨ k = 4 ∨ k = 5 ∨ k = 6 ∨ k = 7 ∨ k = 8 ∨ k = 9 ∨ k = 10 ∨ k = 11 ∨ k = 12 := by omega
    rcases hk with rfl | rfl | rfl | rfl | rfl | rfl | rfl | rfl | rfl | rfl | rfl | rfl | rfl <;> decide
  have hb : needB s (2 ^ k) = true := by
    refine decide_eq_true ⟨by omega, hle, u1, ?_⟩
    rw [u2]
    refine decide_eq_true ?_
    split <;> omega
  refine ⟨hb, ?_⟩
  unfold needV
  rw [if_pos hb, u2]
theorem awake_f (k : Nat) (hk : 13 ≤ k) : steadinglaw07_awake.f k = some true := by
  have n1 := need_pow (s := 4064) (k := 0) (by omega) (by omega) (by omega)
  have n2 := need_pow (s := 4065) (k := 0) (by omega) (by omega) (by omega)
  have n3 := need_pow (s := 1) (k := 12) (by omega) (by omega) (by omega)
  have n4 := need_pow (s := 16384) (k := 3) (by omega) (by omega) (by omega)
  have n5 := need_pow (s := 262144) (k := 3) (by omega) (by omega) (by omega)
  unfold steadinglaw07_awake.f
  rw [need_f k (by omega) (by omega) (by omega) (by omega) (by omega), need_f k (by omega) (by omega) (by omega) (by omega) (by omega), need_f k (by omega) (by omega) (by omega) (by omega) (by omega), chunk_f k (by omega) (by omega) (by omega) (by omega) (by omega), chunk_f k (by omega) (by omega) (by omega) (by omega) (by omega)]
  simp only [Option.bind_some]
  have v1 : needV 4064 1 = 1 := n1.2
  have v2 : needV 4065 1 = 2 := n2.2
  have v3 : needV 1 4096 = 2 := n3.2
  have v4 : needV 16384 8 = 5 := n4.2
  have v5 : needV 262144 8 = 65 := n5.2
  have b1 : needB 4064 1 = true := n1.1
  have b2 : needB 4065 1 = true := n2.1
  have b3 : needB 1 4096 = true := n3.1
  have b4 : needB 16384 8 = true := n4.1
  have b5 : needB 262144 8 = true := n5.1
  have c4 : chB 16384 8 = true := decide_eq_true ⟨b4, by omega⟩
  have c5 : chB 262144 8 = true := decide_eq_true ⟨b5, by omega⟩
  have l4 : chL 16384 8 = false := decide_eq_false (by omega)
  have l5 : chL 262144 8 = true := decide_eq_true ⟨c5, by omega⟩
  have w4 : chV 16384 8 = 8 := by unfold chV; rw [if_pos c4, if_neg (by omega), v4]; rfl
  have w5 : chV 262144 8 = 65 := by unfold chV; rw [if_pos c5, if_pos (by omega), v5]
  rw [if_pos v1, if_pos b1, if_pos v2, if_pos b2, if_pos v3, if_pos b3, if_pos w4, if_neg (by rw [l4]; decide), if_pos c4, if_pos w5, if_pos l5, if_pos c5, cpages_f, ccls_f k (by omega)]
  rfl

theorem rp_round (k : Nat) (c n i : Int) (h0 : 0 ≤ i) (h : i < 7) (n0 : 0 ≤ n) (n1 : n ≤ 1000) (hc : i ≠ c) : steadingref07_Pages.l0 (k + 1) c n i = steadingref07_Pages.l0 k c (n * 2) (i + 1) := by
  simp only [steadingref07_Pages.l0]
  rw [if_pos h, if_neg hc, show wrap64 (i + 1) = i + 1 from by unfold wrap64; omega, show wrap64 (n * 2) = n * 2 from by unfold wrap64; omega]
theorem rp_hit (k : Nat) (c n : Int) (h : c < 7) : steadingref07_Pages.l0 (k + 1) c n c = some n := by
  simp only [steadingref07_Pages.l0]
  rw [if_pos h]
  simp
theorem rp_end (k : Nat) (c n : Int) : steadingref07_Pages.l0 (k + 1) c n 7 = some 0 := by
  simp only [steadingref07_Pages.l0]
  rw [if_neg (by omega)]
theorem rpages_f (k : Nat) (hk : 8 ≤ k) (c : Int) : steadingref07_Pages.f k c = some (pgI c) := by
  obtain ⟨k, rfl⟩ : ∃ m, k = m + 1 + 1 + 1 + 1 + 1 + 1 + 1 + 1 := ⟨k - 8, by omega⟩
  unfold steadingref07_Pages.f
  by_cases c0 : c = 0
  · subst c0; exact rp_hit _ _ _ (by omega)
  · rw [rp_round _ _ _ _ (by omega) (by omega) (by omega) (by omega) (by omega)]
    by_cases c1 : c = 1
    · subst c1; exact rp_hit _ _ _ (by omega)
    · rw [rp_round _ _ _ _ (by omega) (by omega) (by omega) (by omega) (by omega)]
      by_cases c2 : c = 2
      · subst c2; exact rp_hit _ _ _ (by omega)
      · rw [rp_round _ _ _ _ (by omega) (by omega) (by omega) (by omega) (by omega)]
        by_cases c3 : c = 3
        · subst c3; exact rp_hit _ _ _ (by omega)
        · rw [rp_round _ _ _ _ (by omega) (by omega) (by omega) (by omega) (by omega)]
          by_cases c4 : c = 4
          · subst c4; exact rp_hit _ _ _ (by omega)
          · rw [rp_round _ _ _ _ (by omega) (by omega) (by omega) (by omega) (by omega)]
            by_cases c5 : c = 5
            · subst c5; exact rp_hit _ _ _ (by omega)
            · rw [rp_round _ _ _ _ (by omega) (by omega) (by omega) (by omega) (by omega)]
              by_cases c6 : c = 6
              · subst c6; exact rp_hit _ _ _ (by omega)
              · rw [rp_round _ _ _ _ (by omega) (by omega) (by omega) (by omega) (by omega), pgI_out (by omega)]
                exact rp_end _ _ _
theorem rc_round (k : Nat) (hk : 8 ≤ k) (p i : Int) (h0 : 0 ≤ i) (h : i < 7) : steadingref07_Class.l0 (k + 1) p i = if pgI i ≥ p then some i else steadingref07_Class.l0 k p (i + 1) := by
  simp only [steadingref07_Class.l0]
  rw [if_pos h, rpages_f k hk]
  simp only [Option.bind_some]
  rw [show wrap64 (i + 1) = i + 1 from by unfold wrap64; omega]
theorem rc_end (k : Nat) (p : Int) : steadingref07_Class.l0 (k + 1) p 7 = some (-1) := by
  simp only [steadingref07_Class.l0]
  rw [if_neg (by omega)]
theorem rcls_f (k : Nat) (hk : 20 ≤ k) (p : Int) : steadingref07_Class.f k p = some (clsI p) := by
  obtain ⟨k, rfl⟩ : ∃ m, k = m + 1 + 1 + 1 + 1 + 1 + 1 + 1 + 1 := ⟨k - 8, by omega⟩
  unfold steadingref07_Class.f clsI
  by_cases hp : p < 1
  · rw [if_pos hp, if_pos hp]
  · rw [if_neg hp, if_neg hp, rc_round _ (by omega) _ _ (by omega) (by omega), rc_round _ (by omega) _ _ (by omega) (by omega), rc_round _ (by omega) _ _ (by omega) (by omega), rc_round _ (by omega) _ _ (by omega) (by omega), rc_round _ (by omega) _ _ (by omega) (by omega), rc_round _ (by omega) _ _ (by omega) (by omega), rc_round _ (by omega) _ _ (by omega) (by omega)]
    simp only [show pgI 0 = 1 from rfl, show pgI (0 + 1) = 2 from rfl, show pgI (0 + 1 + 1) = 4 from rfl, show pgI (0 + 1 + 1 + 1) = 8 from rfl, show pgI (0 + 1 + 1 + 1 + 1) = 16 from rfl, show pgI (0 + 1 + 1 + 1 + 1 + 1) = 32 from rfl, show pgI (0 + 1 + 1 + 1 + 1 + 1 + 1) = 64 from rfl]
    by_cases c0 : p ≤ 1
    · rw [if_pos c0, if_pos c0]
    · rw [if_neg c0, if_neg c0]
      by_cases c1 : p ≤ 2
      · rw [if_pos c1, if_pos c1]; rfl
      · rw [if_neg c1, if_neg c1]
        by_cases c2 : p ≤ 4
        · rw [if_pos c2, if_pos c2]; rfl
        · rw [if_neg c2, if_neg c2]
          by_cases c3 : p ≤ 8
          · rw [if_pos c3, if_pos c3]; rfl
          · rw [if_neg c3, if_neg c3]
            by_cases c4 : p ≤ 16
            · rw [if_pos c4, if_pos c4]; rfl
            · rw [if_neg c4, if_neg c4]
              by_cases c5 : p ≤ 32
              · rw [if_pos c5, if_pos c5]; rfl
              · rw [if_neg c5, if_neg c5]
                by_cases c6 : p ≤ 64
                · rw [if_pos c6, if_pos c6]; rfl
                · rw [if_neg c6, if_neg c6]
                  exact rc_end _ _

theorem half_f {n : Nat} (h : n < 18446744073709551616) : steadingref01_half.f (n : Int) = some (((n / 2 : Nat) : Int), (n % 2 == 1)) := by
  unfold steadingref01_half.f
  rw [Int.tdiv_eq_ediv_of_nonneg (by omega), Int.tmod_eq_emod_of_nonneg (by omega), u64w (by omega) (by omega)]
  congr 2
  rw [Bool.eq_iff_iff, beq_iff_eq, beq_iff_eq]
  omega
theorem ref_pow_loop (d : Nat) : ∀ (k n : Nat) (c : Int), n < 18446744073709551616 → blen n ≤ d → d < k → 0 ≤ c → c + blen n ≤ 1000 → steadingref01_Pow.l0 k (n : Int) c = some (decide (c + ones n = 1)) := by
  induction d with
  | zero =>
    intro k n c hn hb hk hc hs
    obtain ⟨k, rfl⟩ : ∃ m, k = m + 1 := ⟨k - 1, by omega⟩
    have h0 : n = 0 := by
      have := blen_le.1 hb
      omega
    subst h0
    simp only [steadingref01_Pow.l0]
    rw [if_neg (by omega), ones_zero]
    congr 1
    rw [Bool.eq_iff_iff, beq_iff_eq, decide_eq_true_eq]
    omega
  | succ d ih =>
    intro k n c hn hb hk hc hs
    obtain ⟨k, rfl⟩ : ∃ m, k = m + 1 := ⟨k - 1, by omega⟩
    by_cases h0 : n = 0
    · subst h0
      simp only [steadingref01_Pow.l0]
      rw [if_neg (by omega), ones_zero]
      congr 1
      rw [Bool.eq_iff_iff, beq_iff_eq, decide_eq_true_eq]
      omega
    · have hh := blen_half n (by omega)
      have ho := ones_step (n := n) (by omega)
      simp only [steadingref01_Pow.l0]
      rw [if_pos (by omega), half_f hn]
      simp only [Option.bind_some]
      by_cases hodd : n % 2 = 1
      · rw [if_pos (by simpa using hodd), show wrap64 (c + 1) = c + 1 from by unfold wrap64; omega, ih k (n / 2) (c + 1) (by omega) (by omega) (by omega) (by omega) (by omega)]
        congr 1
        rw [Bool.eq_iff_iff, decide_eq_true_eq, decide_eq_true_eq]
        omega
      · rw [if_neg (by simpa using hodd), ih k (n / 2) c (by omega) (by omega) (by omega) (by omega) (by omega)]
        congr 1
        rw [Bool.eq_iff_iff, decide_eq_true_eq, decide_eq_true_eq]
        omega
theorem ref_pow_f (k : Nat) (hk : 66 ≤ k) {a : Int} (h0 : 0 ≤ a) (h1 : a ≤ 18446744073709551615) : steadingref01_Pow.f k a = some (powB a) := by
  obtain ⟨n, rfl⟩ := Int.eq_ofNat_of_zero_le h0
  have hb : blen n ≤ 64 := by rw [blen_le]; omega
  unfold steadingref01_Pow.f
  rw [ref_pow_loop 64 k n 0 (by omega) hb (by omega) (by omega) (by omega)]
  unfold powB
  congr 1
  rw [Bool.eq_iff_iff, decide_eq_true_eq, decide_eq_true_eq, Int.toNat_natCast]
  omega

theorem ref_add_f {a b : Int} (a0 : 0 ≤ a) (a1 : a ≤ 18446744073709551615) (b0 : 0 ≤ b) (b1 : b ≤ 18446744073709551615) : steadingref01_Add.f a b = some (addV a b, addB a b) := add_ref_raw a0 a1 b0 b1
theorem ref_up_f (k : Nat) (hk : 66 ≤ k) {n a : Int} (n0 : 0 ≤ n) (n1 : n ≤ 18446744073709551615) (a0 : 0 ≤ a) (a1 : a ≤ 18446744073709551615) : steadingref01_Up.f k n a = some (upV n a, upB n a) := by
  unfold steadingref01_Up.f
  rw [ref_pow_f k hk a0 a1]
  simp only [Option.bind_some]
  by_cases hp : powB a = true
  · have hpos : 0 < a := by
      obtain ⟨k, rfl⟩ := (powB_iff a0).1 hp
      exact Int.pow_pos (by decide)
    have h2 := Int.emod_nonneg n (show a ≠ 0 by omega)
    have h3 := Int.emod_lt_of_pos n hpos
    rw [if_pos hp, if_neg (by omega), Int.tmod_eq_emod_of_nonneg n0]
    unfold upV upB
    rw [if_pos hp, if_pos hp]
    by_cases c : n % a = 0
    · rw [if_pos c, if_pos c, if_pos c]
    · rw [if_neg c, if_neg c, if_neg c, u64w (by omega) (by omega), ref_add_f n0 n1 (by omega) (by omega)]
      rfl
  · rw [if_neg hp]
    unfold upV upB
    rw [if_neg hp, if_neg hp]

theorem rneed_f (k : Nat) (hk : 80 ≤ k) {s a : Int} (s0 : 0 ≤ s) (s1 : s ≤ 18446744073709551615) (a0 : 0 ≤ a) (a1 : a ≤ 18446744073709551615) : steadingref07_Need.f k s a = some (needV s a, needB s a) := by
  obtain ⟨k, rfl⟩ : ∃ m, k = m + 1 := ⟨k - 1, by omega⟩
  have no : ¬ (s ≠ 0 ∧ a ≤ 4096 ∧ upB 32 a = true ∧ addB (upV 32 a) s = true) → some ((0 : Int), false) = some (needV s a, needB s a) := by
    intro h
    have hb : needB s a = false := decide_eq_false h
    unfold needV
    rw [hb]
    rfl
  unfold steadingref07_Need.f
  by_cases c1 : s = 0
  · rw [if_pos c1]
    simp only [steadingref07_Need.j0]
    exact no (fun h => h.1 c1)
  · rw [if_neg c1]
    by_cases c2 : a > 4096
    · rw [decide_eq_true c2]
      simp only [steadingref07_Need.j0]
      exact no (fun h => absurd h.2.1 (by omega))
    · rw [decide_eq_false c2]
      obtain ⟨u0, u1⟩ := up_range (n := 32) (a := a) (by omega) (by omega) a0
      simp only [steadingref07_Need.j0]
      rw [if_neg (by decide), ref_up_f k (by omega) (by omega) (by omega) a0 a1]
      simp only [Option.bind_some]
      rw [ref_add_f u0 u1 s0 s1]
      simp only [Option.bind_some]
      by_cases c3 : upB 32 a = true
      · rw [if_pos c3]
        by_cases c4 : upV 32 a + s ≤ 18446744073709551615
        · have ha : addB (upV 32 a) s = true := decide_eq_true c4
          have hv : addV (upV 32 a) s = upV 32 a + s := if_pos c4
          have hb : needB s a = true := decide_eq_true ⟨c1, by omega, c3, ha⟩
          rw [if_pos ha, hv, show steadingref01_Pages.f (upV 32 a + s) = some (pgs (upV 32 a + s)) from pages_ref_raw (by omega) c4]
          simp only [Option.bind_some]
          unfold needV
          rw [if_pos hb, hb]
        · have ha : addB (upV 32 a) s = false := decide_eq_false c4
          rw [if_neg (by rw [ha]; decide)]
          exact no (fun h => absurd h.2.2.2 (by rw [ha]; decide))
      · rw [if_neg c3]
        exact no (fun h => c3 h.2.2.1)
theorem cls_pos {p : Int} (h0 : 1 ≤ p) (h1 : p ≤ 64) : 0 ≤ clsI p := by
  unfold clsI
  rw [if_neg (by omega)]
  split
  · omega
  split
  · omega
  split
  · omega
  split
  · omega
  split
  · omega
  split
  · omega
  · omega
theorem cls_big {p : Int} (h1 : 64 < p) : clsI p = -1 := by
  unfold clsI
  repeat (rw [if_neg (by omega)])
theorem rchunk_f (k : Nat) (hk : 82 ≤ k) {s a : Int} (s0 : 0 ≤ s) (s1 : s ≤ 18446744073709551615) (a0 : 0 ≤ a) (a1 : a ≤ 18446744073709551615) : steadingref07_Chunk.f k s a = some (chV s a, chL s a, chB s a) := by
  obtain ⟨k, rfl⟩ : ∃ m, k = m + 1 := ⟨k - 1, by omega⟩
  have no : ¬ (needB s a = true ∧ needV s a ≤ 1048576) → some ((0 : Int), false, false) = some (chV s a, chL s a, chB s a) := by
    intro h
    have hb : chB s a = false := decide_eq_false h
    unfold chV chL
    rw [hb]
    simp
  unfold steadingref07_Chunk.f
  rw [rneed_f _ (by omega) s0 s1 a0 a1]
  simp only [Option.bind_some]
  by_cases c1 : needB s a = true
  · obtain ⟨p1, p2⟩ := need_pos s0 a0 c1
    rw [if_pos c1]
    by_cases c2 : needV s a > 1048576
    · rw [decide_eq_true c2]
      simp only [steadingref07_Chunk.j0]
      exact no (fun h => absurd h.2 (by omega))
    · rw [decide_eq_false c2]
      have hb : chB s a = true := decide_eq_true ⟨c1, by omega⟩
      simp only [steadingref07_Chunk.j0]
      rw [if_neg (by decide), show wrap64 (needV s a) = needV s a from by unfold wrap64; omega, rcls_f _ (by omega)]
      simp only [Option.bind_some]
      unfold chV chL
      rw [if_pos hb]
      by_cases c3 : needV s a > 64
      · rw [cls_big c3, if_pos (by omega), if_pos (by omega), decide_eq_true ⟨hb, by omega⟩, hb]
      · have := cls_pos p1 (by omega)
        rw [if_neg (by omega), if_neg (by omega), rpages_f _ (by omega)]
        simp only [Option.bind_some]
        rw [decide_eq_false (by omega), hb]
  · rw [if_neg c1]
    simp only [steadingref07_Chunk.j0]
    exact no (fun h => c1 h.1)
end ClassesChunkP
open ClassesChunkP
theorem ClassesChunk : steadinglaw07_ClassesChunk.Pure := by
  intro s a ws wa
  obtain ⟨s0, s1⟩ := wf_u64 ws
  obtain ⟨a0, a1⟩ := wf_u64 wa
  refine ⟨90, ?_⟩
  unfold steadinglaw07_ClassesChunk.f
  rw [awake_f 90 (by omega), need_f 90 (by omega) s0 s1 a0 a1, rneed_f 90 (by omega) s0 s1 a0 a1, chunk_f 90 (by omega) s0 s1 a0 a1, rchunk_f 90 (by omega) s0 s1 a0 a1]
  simp

end Go.Proofs.Ytklccppfofhplaa.Pure
