/- Two spaces that share no block; parts of a row that came in. -/
import Derived.Test.YtfdhjeeaigfmfaaSpaceBytes
namespace Go.Proofs.Ytfdhjeeaigfmfaa.Sp
open Go.RowKit Go.WideMaps Go.Proofs.Ytfdhjeeaigfmfaa.In
set_option linter.unusedVariables false

def Two (w0 W : World) (g1 : Nat) (s1 : SpS) (g2 : Nat) (s2 : SpS) : Prop :=
  ∃ m1 p1 m2 p2, Spc W g1 m1 p1 s1 ∧ Spc W g2 m2 p2 s2 ∧ (∀ i, Own g1 m1 p1 i → ¬ Own g2 m2 p2 i) ∧ (∀ i, Own g1 m1 p1 i → w0.heap.size ≤ i) ∧ (∀ i, Own g2 m2 p2 i → w0.heap.size ≤ i) ∧ Below w0.heap.size w0 W
theorem Two.swap {w0 W : World} {g1 g2 : Nat} {s1 s2 : SpS} (h : Two w0 W g1 s1 g2 s2) : Two w0 W g2 s2 g1 s1 := by
  obtain ⟨m1, p1, m2, p2, h1, h2, h3, h4, h5, h6⟩ := h
  exact ⟨m2, p2, m1, p1, h2, h1, fun i a b => h3 i b a, h5, h4, h6⟩
theorem Two.fst {w0 W : World} {g1 g2 : Nat} {s1 s2 : SpS} (h : Two w0 W g1 s1 g2 s2) : St w0 W g1 s1 := by
  obtain ⟨m1, p1, m2, p2, h1, h2, h3, h4, h5, h6⟩ := h
  exact ⟨m1, p1, h1, h4, h6⟩
theorem Two.below {w0 W : World} {g1 g2 : Nat} {s1 s2 : SpS} (h : Two w0 W g1 s1 g2 s2) : Below w0.heap.size w0 W := h.fst.below
theorem Two.upd {w0 W w' : World} {g1 g2 m1 m2 : Nat} {p1 p2 : List (Nat × Nat)} {s1 s2 s' : SpS} (h1 : Spc W g1 m1 p1 s1) (h2 : Spc W g2 m2 p2 s2) (h3 : ∀ i, Own g1 m1 p1 i → ¬ Own g2 m2 p2 i) (h4 : ∀ i, Own g1 m1 p1 i → w0.heap.size ≤ i) (h5 : ∀ i, Own g2 m2 p2 i → w0.heap.size ≤ i) (h6 : Below w0.heap.size w0 W) (hu : Upd W w' g1 m1 p1 s') :
    Two w0 w' g1 s' g2 s2 ∧ KpT W w' := by
  have hk := hu.kp h1
  have hst := St.upd h1 h4 h6 hu
  obtain ⟨pg', k1, k2, hc⟩ := hu
  have key : ∀ i, Own g1 m1 pg' i → ¬ Own g2 m2 p2 i ∧ w0.heap.size ≤ i := by
    rintro i (rfl | rfl | hi)
    · exact ⟨h3 _ (.inl rfl), h4 _ (.inl rfl)⟩
    · exact ⟨h3 _ (.inr (.inl rfl)), h4 _ (.inr (.inl rfl))⟩
    · obtain ⟨x, hx, rfl⟩ := List.mem_map.1 hi
      rcases k2 x hx with hx2 | hx2
      · have ho : Own g1 m1 p1 x.2 := .inr (.inr (List.mem_map.2 ⟨x, hx2, rfl⟩))
        exact ⟨h3 _ ho, h4 _ ho⟩
      · exact ⟨fun ho => by have := h2.lt ho; omega, Nat.le_trans h6.size hx2⟩
  exact ⟨⟨m1, pg', m2, p2, k1, h2.chg hc h3, fun i ho => (key i ho).1, fun i ho => (key i ho).2, h5, hst.1.below⟩, hk⟩
theorem Two.of_clone {w0 W w' : World} {g gc : Nat} {s sc : SpS} (hs : St w0 W g s) (hc : St W w' gc sc) : Two w0 w' g s gc sc := by
  obtain ⟨m, p, h1, h2, h3⟩ := hs
  obtain ⟨m2, p2, k1, k2, k3⟩ := hc
  exact ⟨m, p, m2, p2, h1.below k3, k1, fun i a b => by have := h1.lt a; have := k2 i b; omega, h2, fun i hi => Nat.le_trans h3.size (k2 i hi), h3.trans (k3.mono h3.size)⟩
theorem Two.store {w0 W : World} {g1 g2 : Nat} {s1 s2 : SpS} (h : Two w0 W g1 s1 g2 s2) (t : Int) (Ao : Option Addr) (n c : Nat) (l : List Int) (hl : l.length = n) (hnc : n ≤ c) (hr : SrcW w0 W Ao l) (t0 : 0 ≤ t) (hh : t + n ≤ (s1.pages : Int) * 4096) (hm : n ≤ 1048576) :
    Calls Try.prog 22 #[.pointer (some ⟨g1, 0, none⟩), .int .u64 t, .slice Ao n c] W fun e w' => e = .returned (.int .i64 0) ∧ Two w0 w' g1 (tick { s1 with mem := lay s1.mem t.toNat l } (touchedI t n)) g2 s2 ∧ KpT W w' := by
  subst hl
  obtain ⟨m1, p1, m2, p2, h1, h2, h3, h4, h5, h6⟩ := h
  have H := Store_ok t.toNat c Ao l W h1 (hr.src h1 h4) hnc (by omega) hm
  rw [Int.toNat_of_nonneg t0] at H
  refine H.mono ?_
  rintro e w' ⟨he, hu⟩
  exact ⟨he, Two.upd h1 h2 h3 h4 h5 h6 hu⟩
theorem Two.load {w0 W : World} {g1 g2 : Nat} {s1 s2 : SpS} (h : Two w0 W g1 s1 g2 s2) (t n : Int) (t0 : 0 ≤ t) (n0 : 0 ≤ n) (hh : t + n ≤ (s1.pages : Int) * 4096) (hm : n ≤ 1048576) :
    Calls Try.prog 20 #[.pointer (some ⟨g1, 0, none⟩), .int .u64 t, .int .u64 n] W fun e w' => ∃ r : Nat, e = .returned (.tuple #[.slice (some ⟨r, 0, none⟩) n.toNat n.toNat, .int .i64 0]) ∧ W.heap.size ≤ r ∧ Row w' r (seen s1.mem t.toNat n.toNat) ∧ Two w0 w' g1 (tick s1 (touchedI t n)) g2 s2 ∧ KpT W w' := by
  obtain ⟨m1, p1, m2, p2, h1, h2, h3, h4, h5, h6⟩ := h
  have H := Load_ok t.toNat n.toNat W h1 (by omega) (by omega)
  rw [Int.toNat_of_nonneg t0, Int.toNat_of_nonneg n0] at H
  refine H.mono ?_
  rintro e w' ⟨r, he, hr, hrow, hs', hc⟩
  have hu := Two.upd h1 h2 h3 h4 h5 h6 (w' := w') (s' := tick s1 (touchedI t n)) ⟨p1, hs', fun x hx => .inl hx, hc.mono (fun i hi => .inl hi)⟩
  refine ⟨r, he, hr, ?_, hu.1, hu.2⟩
  unfold RowAt at hrow
  rw [seen_row] at hrow
  exact ⟨_, hrow⟩

/-! ### parts of what came in -/
theorem arg_l (A : Option Addr) (n c k : Nat) (hk : k ≤ n) (W : World) : (Instr.sliceAt 32 (.slice A n c) (some (.int .i64 (k : Int))) none none).run Try.prog W = .ok (.slice (if c = k then A else A.map (·.add (k * 1))) (n - k) (c - k)) W := by
  have ht : Try.prog.underlying 32 = some (.slice (Try.prog.elem 32)) := by kernel_rfl
  have hs : (sizeOf (Try.prog.elem 32)).run Try.prog W = .ok 1 W := by kernel_rfl
  rw [run_sliceAt_slice W 32 _ _ _ _ ht, run_slice_l W 32 _ _ _ ht .i64 _ (by omega) (by omega), hs]
  simp [Result.andThen, sliced]
theorem arg_h (A : Option Addr) (n c k : Nat) (hk : k ≤ c) (W : World) : ∃ A' : Option Addr, (k = 0 ∨ A' = A) ∧ (Instr.sliceAt 32 (.slice A n c) none (some (.int .i64 (k : Int))) none).run Try.prog W = .ok (.slice A' k c) W := by
  have ht : Try.prog.underlying 32 = some (.slice (Try.prog.elem 32)) := by kernel_rfl
  have hs : (sizeOf (Try.prog.elem 32)).run Try.prog W = .ok 1 W := by kernel_rfl
  refine ⟨if c = 0 then A else A.map (·.add (0 * 1)), ?_, ?_⟩
  · by_cases hc : c = 0
    · left; omega
    · right
      rw [if_neg hc]
      cases A with
      | none => rfl
      | some A => obtain ⟨b, o, sp⟩ := A; cases sp <;> simp [Addr.add]
  · rw [run_sliceAt_slice W 32 _ _ _ _ ht, run_slice_h W 32 _ _ _ ht .i64 _ (by omega) (by omega), hs]
    simp [Result.andThen, sliced]
theorem lst_take {w W : World} {A A' : Option Addr} {l : List Int} (h : Lst (KInt .u8) 1 w A l) (hb : Below w.heap.size w W) (hv : ∀ v ∈ l, wfInt .u8 v) (k : Nat) (hk : k ≤ l.length) (hA : k = 0 ∨ A' = A) : SrcW w W A' (l.take k) := by
  have hs := lst_srcW h hb hv
  refine ⟨fun h0 => ?_, fun v hx => hs.2 v (List.mem_of_mem_take hx)⟩
  rw [List.length_take] at h0
  rcases hA with hA | rfl
  · omega
  obtain ⟨B, rfl, hB, hx⟩ := hs.1 (by omega)
  refine ⟨B, rfl, fun j hj => ?_, hx⟩
  rw [List.length_take] at hj
  rw [hB j (by omega), List.getD_eq_getElem?_getD, List.getD_eq_getElem?_getD, List.getElem?_take_of_lt (by omega)]
theorem lst_drop {w W : World} {A : Option Addr} {l : List Int} (h : Lst (KInt .u8) 1 w A l) (hb : Below w.heap.size w W) (hv : ∀ v ∈ l, wfInt .u8 v) (k c : Nat) (hk : k ≤ l.length) (hc : l.length ≤ c) : SrcW w W (if c = k then A else A.map (·.add (k * 1))) (l.drop k) := by
  have hs := lst_srcW h hb hv
  refine ⟨fun h0 => ?_, fun v hx => hs.2 v (List.mem_of_mem_drop hx)⟩
  rw [List.length_drop] at h0
  obtain ⟨b, o, rfl, hcl⟩ := lst_cells h (by omega)
  obtain ⟨B, hBe, hB, hx⟩ := hs.1 (by omega)
  obtain rfl := Option.some.inj hBe
  rw [if_neg (by omega)]
  refine ⟨⟨b, o + k, none⟩, ?_, fun j hj => ?_, hx⟩
  · show some ((⟨b, o, none⟩ : Addr).add (k * 1)) = _
    rw [Nat.mul_one, Addr.add_lit]
  · rw [List.length_drop] at hj
    have h1 := hB (k + j) (by omega)
    rw [Addr.add_lit] at h1 ⊢
    rw [Nat.add_assoc, h1, List.getD_eq_getElem?_getD, List.getD_eq_getElem?_getD, List.getElem?_drop]
end Go.Proofs.Ytfdhjeeaigfmfaa.Sp
