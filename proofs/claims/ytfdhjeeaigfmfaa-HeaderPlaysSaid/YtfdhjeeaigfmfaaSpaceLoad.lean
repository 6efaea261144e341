/- A space's load: the walk over the pages, the closure that copies out of one, and what Load tells. -/
import Derived.Test.YtfdhjeeaigfmfaaSpaceWords
import Derived.Lib.SlBytesConst
import Derived.Laws.Bits64b
import Derived.Deep.OwnRows
namespace Go.Proofs.Ytfdhjeeaigfmfaa.Sp
open Go.RowKit Go.WideMaps
set_option linter.unusedVariables false

def stepN (t n f : Nat) : Nat := min (n - f) (4096 - (t + f) % 4096)
theorem stepN_pos {t n f : Nat} (h : f < n) : 1 ≤ stepN t n f := by unfold stepN; omega
theorem stepN_le {t n f : Nat} (h : f < n) : f + stepN t n f ≤ n := by unfold stepN; omega
theorem stepN_in {t n f : Nat} (h : f < n) : (t + f) % 4096 + stepN t n f ≤ 4096 := by unfold stepN; omega
theorem and_4095 {n : Int} (h0 : 0 ≤ n) (h1 : n ≤ 18446744073709551615) : Go.bits .and .u64 n 4095 = n % 4096 := by
  obtain ⟨m, rfl⟩ := Int.eq_ofNat_of_zero_le h0
  rw [show (4095 : Int) = ((4095 : Nat) : Int) from rfl, bits_and_u64_nat m 4095 (by omega) (by omega), show (4095 : Nat) = 2 ^ 12 - 1 from rfl, Nat.and_two_pow_sub_one_eq_mod]
  omega
theorem stepN_at (t f : Nat) : (t + f) / 4096 * 4096 + (t + f) % 4096 = t + f := by omega

set_option maxRecDepth 100000 in
set_option maxHeartbeats 2000000 in
theorem each_any (fn : Nat) (hrun : ∀ (args : Array Value) (w : World), (callFunc fn args).run Try.prog w = .ok (.enter fn args) w) (cap : Array Value) (t n : Nat) (Rel : Nat → World → Prop) (w : World) (hn : t + n ≤ 4294967296)
    (hstep : ∀ f w1, f < n → Rel f w1 → Calls Try.prog fn (#[.int .u64 (((t + f) / 4096 : Nat) : Int), .int .u64 (((t + f) % 4096 : Nat) : Int), .int .u64 ((stepN t n f : Nat) : Int), .int .u64 (f : Int)] ++ cap) w1 fun e w2 => e = .returned (.tuple #[]) ∧ Rel (f + stepN t n f) w2)
    (h0 : Rel 0 w) : Calls Try.prog 85 #[.int .u64 (t : Int), .int .u64 (n : Int), .func (.func fn) #[] cap] w fun e w' => e = .returned (.tuple #[]) ∧ Rel n w' := by
  have HS := Lib.hid hstep
  clear hstep
  go_enter Try.func85, Try.ntmps85
  go_wp2
  go_loopw [6] (fun v wr => ∃ f : Nat, f ≤ n ∧ v = .int .u64 (f : Int) ∧ Rel f wr) (fun v _ => n - (intOf v).toNat)
  case atStart => exact ⟨0, Nat.zero_le _, rfl, h0⟩
  case round =>
    obtain ⟨f, hf, rfl, hr⟩ := hrel
    by_cases hlt : f < n
    · have hlti : (f : Int) < (n : Int) := by omega
      have HSt := Lib.hid (HS.out f wr hlt hr)
      have hb := and_4095 (n := (t : Int) + (f : Int)) (by omega) (by omega)
      have e0 : ((t : Int) + (f : Int)) % 4096 = (((t + f) % 4096 : Nat) : Int) := by omega
      have e1 : ((t : Int) + (f : Int)) / 4096 = (((t + f) / 4096 : Nat) : Int) := by omega
      have hk : stepN t n f = n - f ∧ n - f ≤ 4096 - (t + f) % 4096 ∨ stepN t n f = 4096 - (t + f) % 4096 ∧ ¬ n - f ≤ 4096 - (t + f) % 4096 := by unfold stepN; omega
      have g1 := stepN_le (t := t) hlt
      have g2 : (t + f) % 4096 ≤ 4095 := by omega
      have gp := stepN_pos (t := t) hlt
      rw [e0] at hb
      clear e0
      generalize (t + f) % 4096 = q at *
      generalize (t + f) / 4096 = p at *
      generalize stepN t n f = k at *
      have g3 : (q : Int) ≤ 4095 := by omega
      rcases hk with ⟨hk, hm⟩ | ⟨hk, hm⟩
      · have hm' : (n : Int) - (f : Int) ≤ 4096 - (q : Int) := by omega
        have ek : ((n : Int) - (f : Int)) = (k : Int) := by omega
        rw [ek] at hm'
        have HK := Lib.hid hk
        have HM := Lib.hid hm
        clear hk hm
        go_wp2_with (with_reducible refine HSt.out.mono ?_; rintro e w2 ⟨rfl, hr2⟩)
        go_roundw
        case rel => exact ⟨f + k, by omega, by go_num, hr2⟩
        case measure => simp [intOf]; omega
      · have hm' : ¬ (n : Int) - (f : Int) ≤ 4096 - (q : Int) := by omega
        have ek : (4096 : Int) - (q : Int) = (k : Int) := by omega
        rw [ek] at hm'
        have HK := Lib.hid hk
        have HM := Lib.hid hm
        clear hk hm
        go_wp2_with (with_reducible refine HSt.out.mono ?_; rintro e w2 ⟨rfl, hr2⟩)
        go_roundw
        case rel => exact ⟨f + k, by omega, by go_num, hr2⟩
        case measure => simp [intOf]; omega
    · have hlti : ¬ (f : Int) < (n : Int) := by omega
      have HF := Lib.hid (show f = n by omega)
      go_wp2
      go_end0
      exact ⟨rfl, by rw [← HF.out]; exact hr⟩

set_option maxRecDepth 100000 in
theorem enter_loadC : ∀ (args : Array Value) (w : World), (callFunc 86 args).run Try.prog w = .ok (.enter 86 args) w := fun _ _ => rfl

/-- The first f bytes of n, read from t on; noughts behind them. -/
def rowCells (n f t : Nat) (mem : Nat → Int) : List Value := (List.range n).map fun i => Value.int .u8 (if i < f then mem (t + i) else 0)
theorem rowCells_length (n f t : Nat) (mem : Nat → Int) : (rowCells n f t mem).length = n := by unfold rowCells; simp
theorem rowCells_at {n f t i : Nat} {mem : Nat → Int} (h : i < n) : (rowCells n f t mem)[i]? = some (.int .u8 (if i < f then mem (t + i) else 0)) := by unfold rowCells; simp [h]
theorem rowCells_none {n f t i : Nat} {mem : Nat → Int} (h : n ≤ i) : (rowCells n f t mem)[i]? = none := List.getElem?_eq_none (by rw [rowCells_length]; exact h)
/-- A row of bytes. -/
def RowAt (w : World) (r : Nat) (cs : List Value) : Prop := w.heap[r]? = some (.cells cs.toArray 5 (0, 0))

/-- What the first statement of the closures needs of the world, and keeps: the variable, the head, the look-up's answer. -/
def Ready (w0 : World) (bx g m p : Nat) (V : Value) (w : World) : Prop :=
  w.cell? ⟨bx, 0, none⟩ = some (.pointer (some ⟨g, 0, none⟩)) ∧ w.cell? ⟨g, 1, none⟩ = some (.map (some m)) ∧ (Instr.lookup 105 (.map (some m)) (keyV p) false).run Try.prog w = .ok V w ∧ Below w0.heap.size w0 w
theorem below_lt {w : World} {b o : Nat} {v : Value} (hc : w.cell? ⟨b, o, none⟩ = some v) : b < w.heap.size := World.block_lt_of_cell? w _ hc
theorem Ready.step {w0 w w' : World} {bx g m p : Nat} {pg : List (Nat × Nat)} {s : SpS} (hs : Spc w0 g m pg s)
    (hx : w0.cell? ⟨bx, 0, none⟩ = some (.pointer (some ⟨g, 0, none⟩))) (hp : p < s.pages) (h : Ready w0 bx g m p (ptrOf (pg.lookup p)) w) (hb : Below w.heap.size w w') : Ready w0 bx g m p (ptrOf (pg.lookup p)) w' := by
  have hb0 : Below w0.heap.size w0 w' := h.2.2.2.trans (hb.mono h.2.2.2.size)
  have hl := hs.laid
  obtain ⟨es, clk, hm, ht, _⟩ := hl.map
  exact ⟨(hb0.cell (p := ⟨bx, 0, none⟩) (below_lt hx)).trans hx, (hb0.cell (p := ⟨g, 1, none⟩) (below_lt hs.head.c1)).trans hs.head.c1, run_look ((hb0.block m hl.mlt).trans hm) ht hl.lt hl.fst (by have := hl.lim; omega), hb0⟩

set_option maxRecDepth 100000 in
set_option maxHeartbeats 2000000 in
theorem load_none (g m bx byy : Nat) (pg : List (Nat × Nat)) (s : SpS) (p i k f : Nat) (w : World) (hs : Spc w g m pg s)
    (hx : w.cell? ⟨bx, 0, none⟩ = some (.pointer (some ⟨g, 0, none⟩))) (hp : p < s.pages) (hn : pg.lookup p = none) :
    Calls Try.prog 86 #[.int .u64 (p : Int), .int .u64 (i : Int), .int .u64 (k : Int), .int .u64 (f : Int), .pointer (some ⟨bx, 0, none⟩), .pointer (some ⟨byy, 0, none⟩)] w fun e w' =>
      e = .returned (.tuple #[]) ∧ Below w.heap.size w w' := by
  have hlim := hs.laid.lim
  have hlt : p < 4294967296 := by omega
  have hS : Ready w bx g m p (ptrOf (pg.lookup p)) w := by
    obtain ⟨es, clk, hm, ht, _⟩ := hs.laid.map
    exact ⟨hx, hs.head.c1, run_look hm ht hs.laid.lt hs.laid.fst hlt, Below.refl _ _⟩
  have HSt := Lib.hid (fun w1 w2 h hb => Ready.step (w := w1) (w' := w2) hs hx hp h hb)
  have hV : ptrOf (pg.lookup p) = .pointer none := by rw [hn]; rfl
  rw [hV] at hS HSt
  clear hV hs hn
  go_enter Try.func86, Try.ntmps86
  go_wp2
  go_region_held3 (fun w' => w'.cell? ⟨bx, 0, none⟩ = some (.pointer (some ⟨g, 0, none⟩)) ∧ w'.cell? ⟨g, 1, none⟩ = some (.map (some m)) ∧ (Instr.lookup 105 (.map (some m)) (keyV p) false).run Try.prog w' = .ok (.pointer none) w' ∧ Below w.heap.size w w') (first | exact HSt.out _ _ hS (Below.drew (Below.refl _ _)) | exact HSt.out _ _ (HSt.out _ _ hS (Below.drew (Below.refl _ _))) hb | (trace_state; fail))
    (first | (go_at_call 87; refine (keyOf_any p _ hlt).mono ?_; rintro e w' ⟨rfl, hb⟩))
  go_wp2
  go_end0
  rename_i hH
  exact ⟨rfl, hH.2.2.2⟩

theorem cut_page (b i : Nat) (hi : i < 4096) (W : World) : (Instr.sliceAt 120 (.pointer (some ⟨b, 0, none⟩)) (some (.int .u64 (i : Int))) none none).run Try.prog W = .ok (.slice (some ⟨b, i, none⟩) (4096 - i) (4096 - i)) W := by
  have ht : Try.prog.underlying 120 = some (.array (Try.prog.arrayLen 120) (Try.prog.elem 120)) := by kernel_rfl
  have h4 : Try.prog.arrayLen 120 = 4096 := by kernel_rfl
  have hs : (sizeOf (Try.prog.elem 120)).run Try.prog W = .ok 1 W := by kernel_rfl
  rw [run_sliceAt_array_l W 120 ⟨b, 0, none⟩ ht .u64 (i : Int) (by omega) (by rw [h4]; omega), hs, h4]
  have : ¬ 4096 = i := by omega
  simp only [Result.andThen, slicedAt, this, Addr.add, Int.toNat_natCast]
  by_cases h0 : i = 0
  · subst h0; rfl
  · simp [h0]
theorem cut_row_at (A : Addr) (n c f k : Nat) (hf : f < c) (hk : f + k ≤ c) (W : World) : (Instr.sliceAt 32 (.slice (some A) n c) (some (.int .u64 (f : Int))) (some (.int .u64 ((f : Int) + (k : Int)))) none).run Try.prog W = .ok (.slice (some (A.add f)) k (c - f)) W := by
  have ht : Try.prog.underlying 32 = some (.slice (Try.prog.elem 32)) := by kernel_rfl
  have hs : (sizeOf (Try.prog.elem 32)).run Try.prog W = .ok 1 W := by kernel_rfl
  have hm : ¬ c = f := by omega
  have e : ((f : Int) + (k : Int)).toNat = f + k := by omega
  rw [run_sliceAt_slice W 32 _ _ _ _ ht, run_slice_lh W 32 _ _ _ ht .u64 .u64 _ _ (by omega) (by omega) (by omega), hs]
  simp [Result.andThen, e, sliced, hm]
theorem cut_row (r n c f k : Nat) (hf : f < c) (hk : f + k ≤ c) (W : World) : (Instr.sliceAt 32 (.slice (some ⟨r, 0, none⟩) n c) (some (.int .u64 (f : Int))) (some (.int .u64 ((f : Int) + (k : Int)))) none).run Try.prog W = .ok (.slice (some ⟨r, f, none⟩) k (c - f)) W := by
  rw [cut_row_at _ n c f k hf hk W]
  unfold Addr.add
  split <;> simp_all

theorem row_copied {n f k t p i : Nat} {mem : Nat → Int} (hi : i + k ≤ 4096) (hf : f + k ≤ n) (hpt : p * 4096 + i = t + f) :
    (rowCells n f t mem).take f ++ ((pageCells p mem).drop i).take k ++ (rowCells n f t mem).drop (f + k) = rowCells n (f + k) t mem := by
  have l1 : ((rowCells n f t mem).take f).length = f := by rw [List.length_take, rowCells_length]; omega
  have l2 : (((pageCells p mem).drop i).take k).length = k := by rw [List.length_take, List.length_drop, pageCells_length]; omega
  apply List.ext_getElem?
  intro j
  by_cases h1 : j < f
  · rw [List.append_assoc, List.getElem?_append_left (by omega), List.getElem?_take, if_pos h1, rowCells_at (by omega), rowCells_at (by omega), if_pos h1, if_pos (by omega)]
  · rw [List.append_assoc, List.getElem?_append_right (by omega), l1]
    by_cases h2 : j < f + k
    · rw [List.getElem?_append_left (by omega), List.getElem?_take, if_pos (by omega), List.getElem?_drop, pageCells_at (by omega), rowCells_at (by omega), if_pos h2, show p * 4096 + (i + (j - f)) = t + j by omega]
    · rw [List.getElem?_append_right (by omega), l2, List.getElem?_drop, show f + k + (j - f - k) = j by omega]
      by_cases h3 : j < n
      · rw [rowCells_at h3, rowCells_at h3, if_neg h1, if_neg h2]
      · rw [rowCells_none (by omega), rowCells_none (by omega)]

theorem Chg.row {w b : World} {r : Nat} {cs : Array Value} (h : Chg w b (fun _ => False)) : Chg w (b.setRow r cs) (fun j => j = r) :=
  (h.mono (S2 := fun j => j = r) (fun _ h => h.elim)).trans (S2 := fun j => j = r) ⟨rfl, rfl, rfl, by simp [World.setRow], fun i hi hn => by
    simp only [World.setRow, Array.getElem?_modify]
    rw [if_neg (fun e => hn e.symm)]⟩ (fun i hi => .inl hi)

set_option maxRecDepth 100000 in
set_option maxHeartbeats 2000000 in
theorem load_some (g m bx byy r n t b : Nat) (pg : List (Nat × Nat)) (s : SpS) (p i k f : Nat) (w : World) (hs : Spc w g m pg s)
    (hx : w.cell? ⟨bx, 0, none⟩ = some (.pointer (some ⟨g, 0, none⟩))) (hy : w.cell? ⟨byy, 0, none⟩ = some (.slice (some ⟨r, 0, none⟩) n n)) (hr : RowAt w r (rowCells n f t s.mem))
    (hp : p < s.pages) (hn : pg.lookup p = some b) (hk0 : 1 ≤ k) (hk : i + k ≤ 4096) (hf : f + k ≤ n) (hN : n ≤ 4294967296) (hpt : p * 4096 + i = t + f) :
    Calls Try.prog 86 #[.int .u64 (p : Int), .int .u64 (i : Int), .int .u64 (k : Int), .int .u64 (f : Int), .pointer (some ⟨bx, 0, none⟩), .pointer (some ⟨byy, 0, none⟩)] w fun e w' =>
      e = .returned (.tuple #[]) ∧ RowAt w' r (rowCells n (f + k) t s.mem) ∧ Chg w w' (fun j => j = r) := by
  have hlim := hs.laid.lim
  have hlt : p < 4294967296 := by omega
  have hS : Ready w bx g m p (ptrOf (pg.lookup p)) w := by
    obtain ⟨es, clk, hm, ht, _⟩ := hs.laid.map
    exact ⟨hx, hs.head.c1, run_look hm ht hs.laid.lt hs.laid.fst hlt, Below.refl _ _⟩
  have HSt := Lib.hid (fun w1 w2 h hb => Ready.step (w := w1) (w' := w2) hs hx hp h hb)
  have hV : ptrOf (pg.lookup p) = .pointer (some ⟨b, 0, none⟩) := by rw [hn]; rfl
  have hP : PageAt w b p s.mem := (hs.laid.page (p, b) (mem_of_lookup hn)).2
  have hylt := below_lt hy
  have hrlt : r < w.heap.size := (Array.getElem?_eq_some_iff.1 hr).1
  have hblt : b < w.heap.size := (Array.getElem?_eq_some_iff.1 hP).1
  rw [hV] at hS HSt
  clear hV hs hn
  have HP := Lib.hid hP
  have HR := Lib.hid hr
  have HY := Lib.hid hy
  have HPT := Lib.hid hpt
  clear hP hr hy hpt
  go_enter Try.func86, Try.ntmps86
  go_wp2
  go_region_held3 (fun w' => w'.cell? ⟨bx, 0, none⟩ = some (.pointer (some ⟨g, 0, none⟩)) ∧ w'.cell? ⟨g, 1, none⟩ = some (.map (some m)) ∧ (Instr.lookup 105 (.map (some m)) (keyV p) false).run Try.prog w' = .ok (.pointer (some ⟨b, 0, none⟩)) w' ∧ Below w.heap.size w w') (first | exact HSt.out _ _ hS (Below.drew (Below.refl _ _)) | exact HSt.out _ _ (HSt.out _ _ hS (Below.drew (Below.refl _ _))) hb)
    (first | (go_at_call 87; refine (keyOf_any p _ hlt).mono ?_; rintro e w' ⟨rfl, hb⟩))
  rename_i hH
  have hB : Below w.heap.size w w' := hH.2.2.2
  clear hH hb hS HSt hx
  have hy1 : w'.cell? ⟨byy, 0, none⟩ = some (.slice (some ⟨r, 0, none⟩) n n) := (hB.cell (p := ⟨byy, 0, none⟩) hylt).trans HY.out
  have h0 : 0 ≤ (f : Int) := by omega
  have h5 := cut_row r n n f k (by omega) hf
  have h9 := cut_page b i (by omega)
  have hr1 : RowAt w'.drew r (rowCells n f t s.mem) := (hB.block r hrlt).trans HR.out
  have hp1 : PageAt w'.drew b p s.mem := (hB.block b hblt).trans HP.out
  have hcs : (((pageCells p s.mem).drop i).take k).length = k := by rw [List.length_take, List.length_drop, pageCells_length]; omega
  have h10 := run_copy_row (P := Try.prog) w'.drew 32 32 3 5 r f k (n - f) ⟨b, i, none⟩ (4096 - i) (4096 - i) (rowCells n f t s.mem).toArray 5 (((pageCells p s.mem).drop i).take k) (by kernel_rfl) (by kernel_rfl) hr1 (by rw [hcs]; show k = min (4096 - i) k; omega) (by
    intro j v hj
    have hj2 : j < k := by
      rcases Nat.lt_or_ge j k with h | h
      · exact h
      · rw [List.getElem?_eq_none (by rw [hcs]; exact h)] at hj; cases hj
    rw [List.getElem?_take, if_pos hj2, List.getElem?_drop] at hj
    rw [pageCells_at (by omega)] at hj
    rw [Addr.add_lit]
    rw [hp1.cell (by omega), hj]) (by rw [hcs]; simp [rowCells_length]; omega) (by
    intro v hv
    have hv2 : v ∈ pageCells p s.mem := List.mem_of_mem_drop (List.mem_of_mem_take hv)
    unfold pageCells at hv2
    obtain ⟨q, _, rfl⟩ := List.mem_map.1 hv2
    rfl)
  rw [hcs, row_copied hk hf HPT.out] at h10
  have HB := Lib.hid hB
  have HR1 := Lib.hid hr1
  clear hB hr1 hp1 hcs
  go_wp2
  go_region
  go_wp2
  go_end0
  exact ⟨rfl, setRow_heap _ _ _ _ _ _ HR1.out, Chg.row (Chg.of_below HB.out).drew⟩

theorem row_blank {n f k t p i : Nat} {mem : Nat → Int} (h : ∀ j, j < 4096 → mem (p * 4096 + j) = 0) (hi : i + k ≤ 4096) (hpt : p * 4096 + i = t + f) : rowCells n f t mem = rowCells n (f + k) t mem := by
  unfold rowCells
  refine List.map_congr_left fun j hj => ?_
  by_cases h1 : j < f
  · rw [if_pos h1, if_pos (by omega)]
  · rw [if_neg h1]
    by_cases h2 : j < f + k
    · rw [if_pos h2, ← h (i + (j - f)) (by omega), show p * 4096 + (i + (j - f)) = t + j by omega]
    · rw [if_neg h2]

theorem loadC_any (g m bx byy r n t : Nat) (pg : List (Nat × Nat)) (s : SpS) (p i k f : Nat) (w : World) (hs : Spc w g m pg s)
    (hx : w.cell? ⟨bx, 0, none⟩ = some (.pointer (some ⟨g, 0, none⟩))) (hy : w.cell? ⟨byy, 0, none⟩ = some (.slice (some ⟨r, 0, none⟩) n n)) (hr : RowAt w r (rowCells n f t s.mem))
    (hp : p < s.pages) (hk0 : 1 ≤ k) (hk : i + k ≤ 4096) (hf : f + k ≤ n) (hN : n ≤ 4294967296) (hpt : p * 4096 + i = t + f) :
    Calls Try.prog 86 #[.int .u64 (p : Int), .int .u64 (i : Int), .int .u64 (k : Int), .int .u64 (f : Int), .pointer (some ⟨bx, 0, none⟩), .pointer (some ⟨byy, 0, none⟩)] w fun e w' =>
      e = .returned (.tuple #[]) ∧ RowAt w' r (rowCells n (f + k) t s.mem) ∧ Chg w w' (fun j => j = r) := by
  cases hn : pg.lookup p with
  | some b => exact load_some g m bx byy r n t b pg s p i k f w hs hx hy hr hp hn hk0 hk hf hN hpt
  | none =>
    refine (load_none g m bx byy pg s p i k f w hs hx hp hn).mono ?_
    rintro e w' ⟨he, hb⟩
    exact ⟨he, by rw [← row_blank (hs.laid.rest p hp hn) hk hpt]; exact (Chg.of_below hb).at hr (S := fun _ => False) (fun h => h), Chg.of_below hb⟩

theorem run_make_bytes (n : Nat) (hn : n ≤ 4294967296) (W : World) : (Instr.makeSlice 32 (.int .u64 (n : Int)) (.int .u64 (n : Int))).run Try.prog W = .ok (.slice (some ⟨W.heap.size, 0, none⟩) n n) (W.alloc (.cells (madeCells #[.int .u8 0] n) 5)) :=
  run_make_row' 32 5 (.int .u8 0) 1 (by kernel_rfl) (by kernel_rfl) rfl .u64 .u64 n (by omega) (by omega) W
theorem made_row (n t : Nat) (mem : Nat → Int) : (madeCells #[.int .u8 0] n) = (rowCells n 0 t mem).toArray := by
  rw [← Array.toArray_toList (xs := madeCells #[.int .u8 0] n)]
  congr 1
  apply List.ext_getElem?
  intro i
  rcases Nat.lt_or_ge i n with h | h
  · rw [rowCells_at h, if_neg (by omega)]
    simp [madeCells, h, Nat.mod_one]
  · rw [rowCells_none h]
    simp [madeCells, h]

theorem each_load (g m bx byy r n t : Nat) (pg : List (Nat × Nat)) (s : SpS) (w : World) (hs : Spc w g m pg s) (h1 : bx ≠ r) (h2 : byy ≠ r)
    (hx : w.cell? ⟨bx, 0, none⟩ = some (.pointer (some ⟨g, 0, none⟩))) (hy : w.cell? ⟨byy, 0, none⟩ = some (.slice (some ⟨r, 0, none⟩) n n)) (hr : RowAt w r (rowCells n 0 t s.mem)) (hn : t + n ≤ s.pages * 4096) :
    Calls Try.prog 85 #[.int .u64 (t : Int), .int .u64 (n : Int), .func (.func 86) #[] #[.pointer (some ⟨bx, 0, none⟩), .pointer (some ⟨byy, 0, none⟩)]] w fun e w' =>
      e = .returned (.tuple #[]) ∧ w'.cell? ⟨byy, 0, none⟩ = some (.slice (some ⟨r, 0, none⟩) n n) ∧ RowAt w' r (rowCells n n t s.mem) ∧ Chg w w' (fun j => j = r) := by
  have hlim := hs.laid.lim
  refine (each_any 86 enter_loadC _ t n (fun f w' => RowAt w' r (rowCells n f t s.mem) ∧ Chg w w' (fun j => j = r)) w (by omega) ?_ ⟨hr, Chg.refl _ _⟩).mono (fun e w' h => ⟨h.1, h.2.2.cell hy h2, h.2⟩)
  rintro f w1 hf ⟨hr1, hc1⟩
  have hs1 : Spc w1 g m pg s := hs.chg hc1 (fun i hi => by subst hi; exact hs.not_row hr (by decide) (by decide))
  refine (loadC_any g m bx byy r n t pg s _ _ _ f w1 hs1 (hc1.cell hx h1) (hc1.cell hy h2) hr1 (by omega) (stepN_pos hf) (stepN_in hf) (stepN_le hf) (by omega) (stepN_at t f)).mono ?_
  rintro e w' ⟨he, hr2, hc2⟩
  exact ⟨he, hr2, hc1.trans hc2 (fun i hi => .inl hi)⟩

set_option maxRecDepth 100000 in
set_option maxHeartbeats 2000000 in
theorem sload_any {g m : Nat} {pg : List (Nat × Nat)} {s : SpS} (t n : Nat) (w : World) (hs : Spc w g m pg s) (hn : t + n ≤ s.pages * 4096) :
    Calls Try.prog 61 #[.pointer (some ⟨g, 0, none⟩), .int .u64 (t : Int), .int .u64 (n : Int)] w fun e w' => ∃ r : Nat, e = .returned (.slice (some ⟨r, 0, none⟩) n n) ∧ w.heap.size ≤ r ∧ RowAt w' r (rowCells n n t s.mem) ∧ Below w.heap.size w w' := by
  have hlim := hs.laid.lim
  have hmk := run_make_bytes n (by omega)
  have hW : ∀ o, Chg w (((w.alloc (.cells #[.pointer (some ⟨g, 0, none⟩)] 25)).alloc (.cells (madeCells #[.int .u8 0] n) 5)).alloc o) (fun _ => False) := fun o => (((Chg.refl w _).alloc _).alloc _).alloc _
  have HC := Lib.hid (each_load g m w.heap.size (w.heap.size + 1 + 1) (w.heap.size + 1) n t pg s (((w.alloc (.cells #[.pointer (some ⟨g, 0, none⟩)] 25)).alloc (.cells (madeCells #[.int .u8 0] n) 5)).alloc (.cells #[.slice (some ⟨w.heap.size + 1, 0, none⟩) n n] 32))
    (hs.chg (hW _) (fun _ h => h.elim)) (by omega) (by omega) (cell_one (al_old (al_old (al_new rfl)))) (cell_one (al_new (by simp))) (by rw [made_row n t s.mem]; exact al_old (al_new (by simp))) hn)
  have HW := Lib.hid (hW (.cells #[.slice (some ⟨w.heap.size + 1, 0, none⟩) n n] 32))
  clear hW hs
  go_enter Try.func61, Try.ntmps61
  go_wp2_with (go_at_call 85; refine HC.out.mono ?_; rintro e w' ⟨rfl, hcell, hr, hc⟩)
  go_ret
  exact ⟨_, rfl, Nat.le_succ _, hr, (HW.out.trans (S2 := fun j => j = w.heap.size + 1) hc (fun i hi => .inr (by omega))).only_new (fun _ h => h.elim)⟩

end Go.Proofs.Ytfdhjeeaigfmfaa.Sp
