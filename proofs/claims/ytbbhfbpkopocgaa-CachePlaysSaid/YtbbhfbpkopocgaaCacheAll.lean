/- What (*Cache).All does: a contract by hand. -/
import Derived.Test.YtbbhfbpkopocgaaCacheApp
import Derived.Laws.CopyRow
import Derived.Laws.OwnMore
import Derived.Deep.DeepCutAuto
namespace Go.Proofs.Ytbbhfbpkopocgaa.Hand
open Go.RowKit
set_option linter.unusedVariables false

def runC (k : Nat) (p : Int) : List Value := [.int .i64 p, .int .i64 (2 ^ k)]
def rowsOf (k : Nat) (l : List Int) : List Value := l.flatMap (runC k)
def allC (S : Nat → List Int) : Nat → List Value
  | 0 => []
  | k + 1 => allC S k ++ rowsOf k (S k)
def cnt (S : Nat → List Int) : Nat → Nat
  | 0 => 0
  | k + 1 => cnt S k + (S k).length
theorem cnt_le {S : Nat → List Int} (hl : ∀ k, k < 7 → (S k).length ≤ 4) : ∀ k, k ≤ 7 → cnt S k ≤ 4 * k
  | 0, _ => by simp [cnt]
  | k + 1, h => by have := cnt_le hl k (by omega); have := hl k (by omega); unfold cnt; omega
theorem rowsOf_snoc (k : Nat) (l : List Int) (p : Int) : rowsOf k (l ++ [p]) = rowsOf k l ++ runC k p := by unfold rowsOf; simp
def intsC (l : List Int) : List Value := l.map (Value.int .i64)

theorem make_ints (w : World) (n : Nat) (hn : n ≤ 4) : (Instr.makeSlice 39 (.int .i64 (n : Int)) (.int .i64 (n : Int))).run Try.prog w = .ok (.slice (some ⟨w.heap.size, 0, none⟩) n n) (w.alloc (.cells (madeCells #[.int .i64 0] n) 3)) := by
  have ht : Try.prog.underlying 39 = some (.slice 3) := by kernel_rfl
  obtain ⟨i, hi⟩ : ∃ i, Try.prog.info? 3 = some i := by
    cases h : Try.prog.info? 3 with
    | none => exact absurd h (by intro h; have : (Try.prog.info? 3).isSome = true := by kernel_rfl
                                 rw [h] at this; cases this)
    | some i => exact ⟨i, rfl⟩
  have hz : i.zero = some (.int .i64 0) := by
    have : (Try.prog.info? 3).bind (·.zero) = some (.int .i64 0) := by kernel_rfl
    rw [hi] at this; exact this
  have hs : i.size = 1 := by
    have : (Try.prog.info? 3).map (·.size) = some 1 := by kernel_rfl
    rw [hi] at this; simpa using this
  have hb : i.bytes = 8 := by
    have : (Try.prog.info? 3).map (·.bytes) = some 8 := by kernel_rfl
    rw [hi] at this; simpa using this
  have := run_make (P := Try.prog) w 39 3 i (.int .i64 0) ht hi hz .i64 .i64 n n (by omega) (Int.le_refl _) (by rw [hb]; omega) (by omega)
  simp only [Int.toNat_natCast, hs] at this
  simpa [Value.cells] using this

theorem cut_all (c k : Nat) (W : World) : (Instr.sliceAt 42 (.pointer (some ⟨c, k * 5, none⟩)) none none none).run Try.prog W = .ok (.slice (some ⟨c, k * 5, none⟩) 4 4) W := by
  have ht : Try.prog.underlying 42 = some (.array (Try.prog.arrayLen 42) (Try.prog.elem 42)) := by kernel_rfl
  have h4 : Try.prog.arrayLen 42 = 4 := by kernel_rfl
  have hs : (sizeOf (Try.prog.elem 42)).run Try.prog W = .ok 1 W := by kernel_rfl
  rw [run_sliceAt_array_all W 42 ⟨c, k * 5, none⟩ ht, hs, h4]
  simp [Result.andThen, slicedAt, Addr.add]

theorem copy_ints {w : World} {c k : Nat} {F : Nat → Int} {S : Nat → List Int} (hb : Blk w c F) (hs : Stk S F) (hk : k < 7) (g : Nat) (cur : Array Value) (hg : w.heap[g]? = some (.cells cur 3 (0, 0))) (hc : cur.size = (S k).length) :
    (Builtin.copy_ #[39, 39] 3 #[.slice (some ⟨g, 0, none⟩) (S k).length (S k).length, .slice (some ⟨c, k * 5, none⟩) 4 4]).run Try.prog w = .ok (goInt (S k).length) (w.setRow g (intsC (S k)).toArray) := by
  have hl := hs.le k hk
  have hlen : (intsC (S k)).length = (S k).length := by simp [intsC]
  have := run_copy_row (P := Try.prog) w 39 39 3 3 g 0 (S k).length (S k).length ⟨c, k * 5, none⟩ 4 4 cur 3 (intsC (S k)) (by kernel_rfl) (by kernel_rfl) hg (by rw [hlen]; show _ = min 4 _; omega) (by
    intro j v hj
    have hj2 : j < (S k).length := by
      rcases Nat.lt_or_ge j (S k).length with h | h
      · exact h
      · rw [List.getElem?_eq_none (by rw [hlen]; exact h)] at hj; cases hj
    rw [Addr.add_lit, show k * 5 + j = 5 * k + j from by omega, hb.cell (by omega), ← hj]
    simp [intsC, hj2, hs.at_ k hk j hj2]) (by rw [hlen]; omega) (by
    intro v hv
    obtain ⟨q, _, rfl⟩ := List.mem_map.1 hv
    rfl)
  have e : (cur.toList.take 0 ++ intsC (S k) ++ cur.toList.drop (0 + (S k).length)) = intsC (S k) := by rw [List.drop_eq_nil_of_le (by simp; omega)]; simp
  rw [this, hlen, e]

/-- what a round of the outer loop is told -/
def Out (w : World) (c : Nat) (S : Nat → List Int) (k : Nat) (v : Value) (wr : World) : Prop :=
  wr.ownsRow w.heap.size 36 2 v (cnt S k) (allC S k) ∧ Below w.heap.size w wr
/-- .. and of the inner one -/
def Inn (w : World) (c : Nat) (S : Nat → List Int) (k : Nat) (g j : Nat) (v : Value) (wr : World) : Prop :=
  wr.ownsRow w.heap.size 36 2 v (cnt S k + j) (allC S k ++ rowsOf k ((S k).take j)) ∧ Below w.heap.size w wr ∧ wr.heap[g]? = some (.cells (intsC (S k)).toArray 3 (0, 0)) ∧ w.heap.size ≤ g
theorem Cch.lt {w : World} {c : Nat} {S : Nat → List Int} (h : Cch w c S) : c < w.heap.size := by
  obtain ⟨F, hb, hs⟩ := h
  unfold Blk at hb
  exact (Array.getElem?_eq_some_iff.1 hb).1
theorem Inn.own {w : World} {c k g j : Nat} {S : Nat → List Int} {v : Value} {wr : World} (h : Inn w c S k g j v wr) : some g ≠ v.ownBlock := by
  intro e
  obtain ⟨⟨hl, ho⟩, _, hg, _⟩ := h
  rcases ho with ⟨rfl, _⟩ | ⟨g', cap, cur, rfl, hb, hgg, rest⟩
  · simp [Value.ownBlock] at e
  · simp [Value.ownBlock] at e
    subst e
    rw [hg] at hgg
    injection hgg with h1
    injection h1 with _ h2
    cases h2
theorem Inn.at_ {w : World} {c k g j : Nat} {S : Nat → List Int} {v : Value} {wr : World} (h : Inn w c S k g j v wr) {i : Nat} (hi : i < (S k).length) : wr.cell? ⟨g, i, none⟩ = some (.int .i64 ((S k)[i])) := by
  obtain ⟨_, _, hg, _⟩ := h
  simp [World.cell?, hg, intsC, hi]

theorem Blk.alloc {w : World} {c : Nat} {F : Nat → Int} (h : Blk w c F) (o : Obj) : Blk (w.alloc o) c F := by
  have hlt : c < w.heap.size := by unfold Blk at h; exact (Array.getElem?_eq_some_iff.1 h).1
  exact ((World.grownBy_alloc w o none).block c hlt (by simp)).trans h
theorem grown_alloc_row (w : World) (o : Obj) (cs : Array Value) : w.grownBy ((w.alloc o).setRow w.heap.size cs) none := by
  refine ⟨rfl, rfl, rfl, by simp [World.setRow], fun k hk _ => ?_⟩
  have hne : w.heap.size ≠ k := by omega
  have := (World.grownBy_alloc w o none).block k hk (by simp)
  simp only [World.setRow, Array.getElem?_modify, if_neg hne]
  exact this
theorem made_none (w : World) : (w.alloc (.cells (madeCells #[.int .i64 0] ([] : List Int).length) 3)).heap[w.heap.size]? = some (.cells (intsC []).toArray 3 (0, 0)) := by
  have e : madeCells #[Value.int .i64 0] ([] : List Int).length = (intsC []).toArray := by
    apply Array.ext
    · simp [madeCells, intsC]
    · intro i h1 h2; simp [intsC] at h2
  rw [e]
  exact heap_alloc_new _ _
theorem row_alloc (w : World) (old : Array Value) (t : TypeId) (cs : Array Value) : ((w.alloc (.cells old t)).setRow w.heap.size cs).heap[w.heap.size]? = some (.cells cs t (0, 0)) := by
  have := heap_alloc_new w (.cells old t)
  simp only [World.setRow, Array.getElem?_modify, if_true, this]
  rfl

theorem info36 : (Try.prog.info? 36).map (fun i => (i.zero, i.size, i.bytes)) = some (some (.agg #[(.int .i64 0), (.int .i64 0)]), 2, 16) := by kernel_rfl
theorem one_run (k : Nat) (p : Int) : ∀ u ∈ runC k p, u.oneCell' = true := by
  intro u hu
  simp [runC] at hu
  rcases hu with rfl | rfl <;> rfl
theorem Inn.next {w : World} {c k g j : Nat} {S : Nat → List Int} {v v1 : Value} {wr w1 : World} (h : Inn w c S k g j v wr) (hj : j < (S k).length)
    (hown : w1.ownsRow w.heap.size 36 2 v1 (cnt S k + j + 1) (allC S k ++ rowsOf k ((S k).take j) ++ runC k ((S k)[j]))) (hb : Below w.heap.size w w1) (hg : wr.grownBy w1 v.ownBlock) : Inn w c S k g (j + 1) v1 w1 := by
  refine ⟨?_, hb, (hg.block g (Array.getElem?_eq_some_iff.1 h.2.2.1).1 h.own).trans h.2.2.1, h.2.2.2⟩
  rw [List.take_succ_eq_append_getElem hj, rowsOf_snoc, ← List.append_assoc]
  exact hown
theorem Inn.done {w : World} {c k g : Nat} {S : Nat → List Int} {v : Value} {wr : World} (h : Inn w c S k g (S k).length v wr) : Out w c S (k + 1) v wr := by
  have := h.1
  rw [List.take_length] at this
  exact ⟨this, h.2.1⟩

set_option maxHeartbeats 4000000 in
set_option maxRecDepth 100000 in
theorem all_any (c : Nat) (S : Nat → List Int) (w : World) (h : Cch w c S) : Calls Try.prog 20 #[.pointer (some ⟨c, 0, none⟩)] w fun e w' => ∃ v, e = .returned v ∧ w'.ownsRow w.heap.size 36 2 v (cnt S 7) (allC S 7) ∧ Below w.heap.size w w' := by
  have hl : ∀ k, k < 7 → (S k).length ≤ 4 := by obtain ⟨F, hb, hs⟩ := h; exact hs.le
  have HL := Lib.hid hl
  have H := Lib.hid h
  clear h hl
  go_enter Try.func20, Try.ntmps20
  go_wp2
  go_loopw [3, 8] (fun v i wr => ∃ k : Nat, k ≤ 7 ∧ i = .int .i64 k ∧ Out w c S k v wr) (fun _ i _ => 7 - (intOf i).toNat)
  case atStart => exact ⟨0, by omega, rfl, World.ownsRow_nil _ _ _ _, Below.refl _ _⟩
  case round =>
    obtain ⟨k, hk, rfl, hO⟩ := hrel
    by_cases h7 : k < 7
    · have HO := Lib.hid hO
      have hcl : Cch wr c S := by
        obtain ⟨F, hb, hs⟩ := H.out
        have hlt : c < w.heap.size := by unfold Blk at hb; exact (Array.getElem?_eq_some_iff.1 hb).1
        exact ⟨F, (HO.out.2.block c hlt).trans hb, hs⟩
      have HC := Lib.hid hcl
      have E1 := Lib.hid (lenF_in S h7)
      have hle := HL.out k h7
      clear hO hcl
      have hm := make_ints wr (S k).length hle
      go_upto_region 6 with (go_at_call 19; refine (len_any _ _ _ _ HC.out).mono ?_; rw [E1.out]; rintro e w' ⟨rfl, rfl⟩)
      have hlt := H.out.lt
      have hI : ∀ W2 : World, wr.grownBy W2 none → W2.heap[wr.heap.size]? = some (.cells (intsC (S k)).toArray 3 (0, 0)) → Inn w c S k wr.heap.size 0 u3 W2 := fun W2 hg hc => by
        refine ⟨?_, HO.out.2.grown hg HO.out.2.size (fun _ e => by cases e), hc, HO.out.2.size⟩
        have : rowsOf k ((S k).take 0) = [] := by simp [rowsOf]
        rw [this, List.append_nil, Nat.add_zero]
        exact HO.out.1.kept hg (by cases hv : u3.ownBlock <;> simp)
      have HI := Lib.hid hI
      clear hI
      have hW : ∃ W2 : World, wr.grownBy W2 none ∧ True := ⟨wr, grown_refl _ _, trivial⟩
      have h13 : (S k).length = 0 ∨ 0 < (S k).length := by omega
      rcases h13 with hz | hz
      · have hnil : S k = [] := List.length_eq_zero_iff.1 hz
        have hd : ¬ 0 < (S k).length := by omega
        have HN := Lib.hid (HI.out (wr.alloc (.cells (madeCells #[.int .i64 0] (S k).length) 3)) (World.grownBy_alloc _ _ _) (by rw [hnil]; exact made_none wr))
        clear hz hnil HI
        go_wp2
        generalize wr.alloc (.cells (madeCells #[.int .i64 0] (S k).length) 3) = W2 at *
        have hin := HN.out
        clear HN
        clear hm HO
        generalize wr.heap.size = g at *
        go_loopw [3, 29] (fun v i wq => ∃ j : Nat, j ≤ (S k).length ∧ i = .int .i64 j ∧ Inn w c S k g j v wq) (fun _ i _ => (S k).length - (intOf i).toNat)
        case atStart => exact ⟨0, by omega, rfl, hin⟩
        case round =>
          obtain ⟨j, hj, rfl, hJ⟩ := hrel
          by_cases hlt2 : j < (S k).length
          · exact absurd hlt2 (by omega)
          · have ej : j = (S k).length := by omega
            subst ej
            clear hin
            go_wp2
            go_roundw
            case rel => exact ⟨k + 1, by omega, by go_num, hJ.done⟩
            case measure => simp [intOf]; omega
      · obtain ⟨F, hb, hs⟩ := HC.out
        have hc8 := cut_all c k (wr.alloc (.cells (madeCells #[.int .i64 0] (S k).length) 3))
        have hcp := copy_ints (w := wr.alloc (.cells (madeCells #[.int .i64 0] (S k).length) 3)) (Blk.alloc hb _) hs h7 wr.heap.size _ (heap_alloc_new _ _) (by simp [madeCells])
        have HN := Lib.hid (HI.out ((wr.alloc (.cells (madeCells #[.int .i64 0] (S k).length) 3)).setRow wr.heap.size (intsC (S k)).toArray) (grown_alloc_row _ _ _) (row_alloc _ _ _ _))
        clear hb hs HI
        go_wp2
        generalize (wr.alloc (.cells (madeCells #[.int .i64 0] (S k).length) 3)).setRow wr.heap.size (intsC (S k)).toArray = W2 at *
        have hin := HN.out
        clear HN hc8 hcp
        clear hm HO
        generalize wr.heap.size = g at *
        go_loopw [3, 29] (fun v i wq => ∃ j : Nat, j ≤ (S k).length ∧ i = .int .i64 j ∧ Inn w c S k g j v wq) (fun _ i _ => (S k).length - (intOf i).toNat)
        case atStart => exact ⟨0, by omega, rfl, hin⟩
        case round =>
          obtain ⟨j, hj, rfl, hJ⟩ := hrel
          by_cases hlt2 : j < (S k).length
          · have hat := hJ.at_ hlt2
            have hne := hJ.own
            have HJ := Lib.hid hJ
            have hc4 := cnt_le HL.out k hk
            have EP := Lib.hid (pg_in h7)
            have hsz : w.heap.size ≤ wr.heap.size := hJ.2.1.size
            clear hJ hin
            go_wp2_with (first | (go_at_call 22; refine (pages_any _ _).mono ?_; rw [EP.out]; rintro e w' ⟨rfl, rfl⟩) | (at_builtin; refine app_one (w0 := w) w.heap.size rfl (.tmp 33) (.tmp 38) 32 36 rfl Try.underlying32 (.agg #[.int .i64 0, .int .i64 0]) 2 16 info36 rfl (by decide) (by decide) _ _ _ (runC k ((S k)[j])) rfl HJ.out.1 rfl rfl (one_run _ _) HJ.out.2.1 hsz (by omega) ?_; intro v1 w1 hown1 hb1 hg1))
            go_roundw
            case rel => exact ⟨j + 1, by omega, by go_num, HJ.out.next hlt2 hown1 hb1 hg1⟩
            case measure => simp [intOf]; omega
          · have ej : j = (S k).length := by omega
            subst ej
            clear hin
            go_wp2
            go_roundw
            case rel => exact ⟨k + 1, by omega, by go_num, hJ.done⟩
            case measure => simp [intOf]; omega
    · have e7 : k = 7 := by omega
      subst e7
      go_wp2
      go_ret
      exact ⟨_, rfl, hO⟩

end Go.Proofs.Ytbbhfbpkopocgaa.Hand
