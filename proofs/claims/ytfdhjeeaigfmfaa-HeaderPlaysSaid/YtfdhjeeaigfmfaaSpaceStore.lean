/- A space's store: the closure that copies into one page, and what Store tells. -/
import Derived.Test.YtfdhjeeaigfmfaaSpaceLoads
import Derived.DataElems
namespace Go.Proofs.Ytfdhjeeaigfmfaa.Sp
open Go.RowKit Go.WideMaps
set_option linter.unusedVariables false

set_option maxRecDepth 100000 in
theorem enter_storeC : ∀ (args : Array Value) (w : World), (callFunc 88 args).run Try.prog w = .ok (.enter 88 args) w := fun _ _ => rfl

/-- Bytes that are read. -/
def BytesAt (w : World) (A : Addr) (l : List Int) : Prop := ∀ j, j < l.length → w.cell? (A.add j) = some (.int .u8 (l.getD j 0))

def zeroPage : Array Value := Array.replicate 4096 (.int .u8 0)
set_option maxRecDepth 100000 in
theorem run_build_page (W : World) : (Instr.build 120 #[]).run Try.prog W = .ok (.agg zeroPage) W := by kernel_rfl
theorem run_box_page (W : World) : (Instr.box 120 (.agg zeroPage)).run Try.prog W = .ok (.pointer (some ⟨W.heap.size, 0, none⟩)) (W.alloc (.cells zeroPage 120)) := by
  kernel_rfl
theorem zeros_page : Try.zeroCells120 = zeroPage := by kernel_rfl
theorem replicate_toArray (n : Nat) (v : Value) : (List.replicate n v).toArray = Array.replicate n v := by simp
theorem zero_page (p : Nat) (mem : Nat → Int) (h : ∀ i, i < 4096 → mem (p * 4096 + i) = 0) : (pageCells p mem).toArray = zeroPage := by
  have e : pageCells p mem = List.replicate 4096 (.int .u8 0) := List.eq_replicate_iff.2 ⟨pageCells_length p mem, fun x hx => by
    unfold pageCells at hx
    obtain ⟨i, hi, rfl⟩ := List.mem_map.1 hx
    rw [h i (List.mem_range.1 hi)]⟩
  rw [e]
  exact replicate_toArray 4096 _
theorem run_map_put {w : World} {m clk : Nat} {es : Array MapEntry} {pg : List (Nat × Nat)} (hm : w.heap[m]? = some (.map es clk)) (h : Told es.toList pg) (hlt : ∀ x ∈ pg, x.1 < 4294967296) (hn : (pg.map Prod.fst).Nodup) {p : Nat} (hp : p < 4294967296) (hl : pg.lookup p = none) (v : Value) :
    (Instr.mapUpdate 105 (.map (some m)) (keyV p) v).run Try.prog w = .ok () (ChangeMaps.setBlock w m (.map (es.push ⟨keyV p, v, clk⟩) (clk + 1))) := by
  have h1 : Try.prog.underlying 105 = some (.map 116 117) := by kernel_rfl
  obtain ⟨l, hkl⟩ := key_lit p
  rcases find_key w h hlt hn hp with ⟨g1, g2⟩ | ⟨j, b, _, g1, g2⟩
  · simp [Instr.mapUpdate, run_underlying h1, MapKept.run_getObj_map hm, law.check w false hkl, g2, MapKept.run_setObj_map _ hm, Result.andThen, ChangeMaps.setBlock]
  · rw [hl] at g1; cases g1

theorem Told.push {es : Array MapEntry} {pg : List (Nat × Nat)} (h : Told es.toList pg) (p b clk : Nat) : Told (es.push ⟨keyV p, .pointer (some ⟨b, 0, none⟩), clk⟩).toList (pg ++ [(p, b)]) := by
  unfold Told at *
  rw [Array.toList_push, List.map_append, h, List.map_append]
  rfl

theorem lookup_append {pg : List (Nat × Nat)} {p q b : Nat} : (pg ++ [(p, b)]).lookup q = (pg.lookup q).or (if q = p then some b else none) := by
  induction pg with
  | nil =>
    rw [List.nil_append, List.lookup_cons]
    by_cases e : q = p
    · subst e; simp
    · have : (q == p) = false := by simpa using e
      rw [this]; simp [e]
  | cons x pg ih =>
    obtain ⟨r, c⟩ := x
    rw [List.cons_append, List.lookup_cons, List.lookup_cons]
    by_cases e : q = r
    · subst e; simp
    · have : (q == r) = false := by simpa using e
      rw [this]; exact ih

/-- One page more, all of whose bytes are noughts. -/
theorem Laid.added {W W3 : World} {m pages p clk : Nat} {es : Array MapEntry} {pg : List (Nat × Nat)} {mem : Nat → Int} (h : Laid W m pg mem pages) (hp : p < pages) (hn : pg.lookup p = none)
    (hm : W.heap[m]? = some (.map es clk)) (h1 : W3.heap[m]? = some (.map (es.push ⟨keyV p, .pointer (some ⟨W.heap.size, 0, none⟩), clk⟩) (clk + 1))) (h2 : W3.heap[W.heap.size]? = some (.cells zeroPage 120 (0, 0)))
    (h3 : Chg W W3 (fun j => j = m)) : Laid W3 m (pg ++ [(p, W.heap.size)]) mem pages := by
  obtain ⟨es', clk', hm', ht, hb1, hb2⟩ := h.map
  rw [hm] at hm'
  injection hm' with hm'
  injection hm' with e1 e2
  subst e1 e2
  refine ⟨⟨_, _, h1, ht.push p _ clk, ?_, ?_⟩, ?_, ?_, ?_, ?_, h.lim, h.low, h.range⟩
  · rw [Array.toList_push, List.map_append]
    refine List.nodup_append.2 ⟨hb1, by simp, ?_⟩
    intro a ha b hb
    simp only [List.map_cons, List.map_nil, List.mem_singleton] at hb
    subst hb
    obtain ⟨x, hx, rfl⟩ := List.mem_map.1 ha
    exact Nat.ne_of_lt (hb2 x hx)
  · intro x hx
    rw [Array.toList_push] at hx
    rcases List.mem_append.1 hx with hx | hx
    · have := hb2 x hx; omega
    · simp only [List.mem_singleton] at hx
      subst hx
      exact Nat.lt_succ_self _
  · rw [List.map_append]
    refine List.nodup_append.2 ⟨h.fst, by simp, ?_⟩
    intro a ha b hb
    simp only [List.map_cons, List.map_nil, List.mem_singleton] at hb
    subst hb
    rintro rfl
    obtain ⟨x, hx, rfl⟩ := List.mem_map.1 ha
    rw [lookup_some h.fst (p := x.1) (b := x.2) hx] at hn
    cases hn
  · rw [List.map_append]
    refine List.nodup_append.2 ⟨h.snd, by simp, ?_⟩
    intro a ha b hb
    simp only [List.map_cons, List.map_nil, List.mem_singleton] at hb
    subst hb
    obtain ⟨x, hx, rfl⟩ := List.mem_map.1 ha
    exact Nat.ne_of_lt (h.plt hx)
  · intro x hx
    rcases List.mem_append.1 hx with hx | hx
    · refine ⟨(h.page x hx).1, h3.at (h.page x hx).2 (fun e => ?_)⟩
      have := (h.page x hx).2
      unfold PageAt at this
      rw [e, hm] at this
      cases this
    · simp only [List.mem_singleton] at hx
      subst hx
      refine ⟨hp, ?_⟩
      unfold PageAt
      rw [zero_page p mem (h.rest p hp hn)]
      exact h2
  · intro q hq hl
    rw [lookup_append] at hl
    exact h.rest q hq (Option.or_eq_none_iff.1 hl).1

theorem key_agg (p : Nat) : ∃ a b : Int, keyV p = .agg #[.int .u16 a, .int .u16 b] := ⟨_, _, rfl⟩

theorem toArray_list (l : List Value) : l.toArray.toList = l := rfl
theorem page_copied {p i k f : Nat} {mem : Nat → Int} {l : List Int} (hk : i + k ≤ 4096) (hf : f + k ≤ l.length) :
    (pageCells p mem).take i ++ ((l.drop f).take k).map (Value.int .u8) ++ (pageCells p mem).drop (i + k) = pageCells p (lay mem (p * 4096 + i) ((l.drop f).take k)) := by
  have l1 : ((pageCells p mem).take i).length = i := by rw [List.length_take, pageCells_length]; omega
  have l2 : ((l.drop f).take k).length = k := by rw [List.length_take, List.length_drop]; omega
  apply List.ext_getElem?
  intro j
  by_cases h1 : j < i
  · rw [List.append_assoc, List.getElem?_append_left (by omega), List.getElem?_take, if_pos h1, pageCells_at (by omega), pageCells_at (by omega)]
    unfold lay
    rw [if_neg (by omega)]
  · rw [List.append_assoc, List.getElem?_append_right (by omega), l1]
    by_cases h2 : j < i + k
    · rw [List.getElem?_append_left (by rw [List.length_map]; omega), List.getElem?_map, pageCells_at (by omega)]
      unfold lay
      rw [if_pos (by omega), show p * 4096 + j - (p * 4096 + i) = j - i by omega, List.getD_eq_getElem?_getD, List.getElem?_eq_getElem (by omega)]
      rfl
    · rw [List.getElem?_append_right (by rw [List.length_map]; omega), List.length_map, l2, List.getElem?_drop, show i + k + (j - i - k) = j by omega]
      by_cases h3 : j < 4096
      · rw [pageCells_at h3, pageCells_at h3]
        unfold lay
        rw [if_neg (by omega)]
      · rw [pageCells_none (by omega), pageCells_none (by omega)]

/-- The copy into a page. -/
theorem run_page_copy {w : World} {b p i k f n c : Nat} {mem : Nat → Int} {A : Addr} {l : List Int} (hp : PageAt w b p mem) (hr : BytesAt w A l) (hk : i + k ≤ 4096) (hf : f + k ≤ l.length) :
    (Builtin.copy_ #[32, 32] 3 #[.slice (some ⟨b, i, none⟩) (4096 - i) (4096 - i), .slice (some (A.add f)) k (c - f)]).run Try.prog w = .ok (goInt k) (w.setRow b (pageCells p (lay mem (p * 4096 + i) ((l.drop f).take k))).toArray) := by
  have l2 : ((l.drop f).take k).length = k := by rw [List.length_take, List.length_drop]; omega
  have h := run_copy_row (P := Try.prog) w 32 32 3 5 b i (4096 - i) (4096 - i) (A.add f) k (c - f) (pageCells p mem).toArray 120 (((l.drop f).take k).map (Value.int .u8)) (by kernel_rfl) (by kernel_rfl) hp (by rw [List.length_map, l2]; exact (Nat.min_eq_left (by omega)).symm) (by
    intro j v hj
    rw [List.getElem?_map] at hj
    rcases Nat.lt_or_ge j k with h | h
    · rw [List.getElem?_take, if_pos h, List.getElem?_drop, List.getElem?_eq_getElem (by omega)] at hj
      rw [Addr.add_add, hr (f + j) (by omega), List.getD_eq_getElem?_getD, List.getElem?_eq_getElem (by omega)]
      exact hj
    · rw [List.getElem?_eq_none (by omega)] at hj; cases hj) (by rw [List.length_map, l2, List.size_toArray, pageCells_length]; omega) (by
    intro v hv
    obtain ⟨q, _, rfl⟩ := List.mem_map.1 hv
    rfl)
  have h3 : (pageCells p mem).toArray.toList = pageCells p mem := toArray_list _
  rw [List.length_map, l2, h3, page_copied hk hf] at h
  exact h

set_option maxRecDepth 100000 in
set_option maxHeartbeats 2000000 in
theorem store_some (g m bx byy n c b : Nat) (A : Addr) (l : List Int) (pg : List (Nat × Nat)) (s : SpS) (p i k f : Nat) (w : World) (hs : Spc w g m pg s)
    (hx : w.cell? ⟨bx, 0, none⟩ = some (.pointer (some ⟨g, 0, none⟩))) (hy : w.cell? ⟨byy, 0, none⟩ = some (.slice (some A) n c)) (hr : BytesAt w A l) (hl : l.length = n) (hnc : n ≤ c)
    (hp : p < s.pages) (hn : pg.lookup p = some b) (hA : A.block ≠ b) (hk0 : 1 ≤ k) (hk : i + k ≤ 4096) (hf : f + k ≤ n) (hN : n ≤ 4294967296) :
    Calls Try.prog 88 #[.int .u64 (p : Int), .int .u64 (i : Int), .int .u64 (k : Int), .int .u64 (f : Int), .pointer (some ⟨bx, 0, none⟩), .pointer (some ⟨byy, 0, none⟩)] w fun e w' =>
      e = .returned (.tuple #[]) ∧ PageAt w' b p (lay s.mem (p * 4096 + i) ((l.drop f).take k)) ∧ Chg w w' (fun j => j = b) := by
  have hlim := hs.laid.lim
  have hlt : p < 4294967296 := by omega
  obtain ⟨ka, kb, hkey⟩ := key_agg p
  have HKC := keyOf_any p w hlt
  rw [hkey] at HKC
  have HKC1 := Lib.hid HKC
  have HS : Hid (∀ W, Below w.heap.size w W → W.cell? ⟨bx, 0, none⟩ = some (.pointer (some ⟨g, 0, none⟩)) ∧ W.cell? ⟨g, 1, none⟩ = some (.map (some m)) ∧ (Instr.lookup 105 (.map (some m)) (.agg #[.int .u16 ka, .int .u16 kb]) false).run Try.prog W = .ok (.pointer (some ⟨b, 0, none⟩)) W ∧ W.cell? ⟨byy, 0, none⟩ = some (.slice (some A) n c)) := by
    intro W hb
    have hs1 := hs.below hb
    have hl1 := hs1.laid.look hlt
    rw [hn, hkey] at hl1
    exact ⟨(Chg.of_below (S := fun _ => False) hb).cell hx (fun h => h), hs1.head.c1, hl1, (Chg.of_below (S := fun _ => False) hb).cell hy (fun h => h)⟩
  have HS0 := Lib.hid hs
  have HX := Lib.hid hx
  have HY := Lib.hid hy
  have HR := Lib.hid hr
  have HL := Lib.hid hl
  have HN := Lib.hid hn
  have HKK := Lib.hid hkey
  clear HKC hs hx hy hr hl hn hkey
  go_enter Try.func88, Try.ntmps88
  go_wp2_with (go_at_call 87; refine HKC1.out.mono ?_; rintro e w' ⟨rfl, hb⟩)
  have hF := HS.out ((w'.alloc (.cells #[.int .u16 ka, .int .u16 kb] 116))) (hb.alloc hb.size _)
  have hb1 : Below w.heap.size w (w'.alloc (.cells #[.int .u16 ka, .int .u16 kb] 116)) := hb.alloc hb.size _
  obtain ⟨e1, e2, e3, e4⟩ := hF
  have e5 := fun q => (HS.out ((w'.alloc (.cells #[.int .u16 ka, .int .u16 kb] 116)).drewN q) ⟨hb1.os, hb1.tape, hb1.output, hb1.size, hb1.block⟩).2.2.1
  go_quiet (fail)
  go_wp2
  clear e1 e2 e3 e4 e5
  have hkb : ((w'.alloc (.cells #[.int .u16 ka, .int .u16 kb] 116)).drewN nq).heap[w'.heap.size]? = some (.cells #[.int .u16 ka, .int .u16 kb] 116 (0, 0)) := al_new (w := w') rfl
  have hb2 : Below w.heap.size w ((w'.alloc (.cells #[.int .u16 ka, .int .u16 kb] 116)).drewN nq).drew := ⟨hb1.os, hb1.tape, hb1.output, hb1.size, hb1.block⟩
  generalize (w'.alloc (.cells #[.int .u16 ka, .int .u16 kb] 116)).drewN nq = W at *
  obtain ⟨e1, e2, e3, e4⟩ := HS.out W.drew hb2
  have e6 := cut_row_at A n c f k (by omega) (by omega)
  have e7 := cut_page b i (by omega)
  have e8 := run_page_copy (c := c) (k := k) (i := i) (f := f) (n := n) (((hb2.block b (HS0.out.laid.plt (mem_of_lookup HN.out))).trans (HS0.out.laid.page (p, b) (mem_of_lookup HN.out)).2 : PageAt W.drew b p s.mem)) (fun j hj => (Chg.of_below (S := fun _ => False) hb2).cell (HR.out j hj) (fun h => h)) hk (by rw [HL.out]; exact hf)
  have e9 : W.cell? ⟨w'.heap.size, 0, none⟩ = some (.int .u16 ka) := by simp [World.cell?, hkb]
  have e10 : W.cell? ⟨w'.heap.size, 1, none⟩ = some (.int .u16 kb) := by simp [World.cell?, hkb]
  clear hkb hb1 hb
  have HB2 := Lib.hid hb2
  clear hb2
  go_region
  go_wp2
  go_end0
  exact ⟨rfl, setRow_heap _ _ _ _ _ _ ((HB2.out.block b (HS0.out.laid.plt (mem_of_lookup HN.out))).trans (HS0.out.laid.page (p, b) (mem_of_lookup HN.out)).2), Chg.row (Chg.of_below HB2.out)⟩

set_option maxRecDepth 100000 in
set_option maxHeartbeats 2000000 in
theorem store_new (g m bx byy n c : Nat) (A : Addr) (l : List Int) (pg : List (Nat × Nat)) (s : SpS) (p i k f : Nat) (w : World) (hs : Spc w g m pg s)
    (hx : w.cell? ⟨bx, 0, none⟩ = some (.pointer (some ⟨g, 0, none⟩))) (hy : w.cell? ⟨byy, 0, none⟩ = some (.slice (some A) n c)) (hr : BytesAt w A l) (hl : l.length = n) (hnc : n ≤ c)
    (hp : p < s.pages) (hn : pg.lookup p = none) (hA : A.block ≠ m) (hk0 : 1 ≤ k) (hk : i + k ≤ 4096) (hf : f + k ≤ n) (hN : n ≤ 4294967296) :
    Calls Try.prog 88 #[.int .u64 (p : Int), .int .u64 (i : Int), .int .u64 (k : Int), .int .u64 (f : Int), .pointer (some ⟨bx, 0, none⟩), .pointer (some ⟨byy, 0, none⟩)] w fun e w' =>
      e = .returned (.tuple #[]) ∧ ∃ (b : Nat) (W : World), w.heap.size ≤ b ∧ Laid W m (pg ++ [(p, b)]) s.mem s.pages ∧ Chg w W (fun j => j = m) ∧ PageAt w' b p (lay s.mem (p * 4096 + i) ((l.drop f).take k)) ∧ Chg W w' (fun j => j = b) := by
  have hlim := hs.laid.lim
  have hlt : p < 4294967296 := by omega
  obtain ⟨ka, kb, hkey⟩ := key_agg p
  have HKC := keyOf_any p w hlt
  rw [hkey] at HKC
  have HKC1 := Lib.hid HKC
  have HS : Hid (∀ W, Below w.heap.size w W → W.cell? ⟨bx, 0, none⟩ = some (.pointer (some ⟨g, 0, none⟩)) ∧ W.cell? ⟨g, 1, none⟩ = some (.map (some m)) ∧ (Instr.lookup 105 (.map (some m)) (.agg #[.int .u16 ka, .int .u16 kb]) false).run Try.prog W = .ok (.pointer none) W ∧ W.cell? ⟨byy, 0, none⟩ = some (.slice (some A) n c)) := by
    intro W hb
    have hs1 := hs.below hb
    have hl1 := hs1.laid.look hlt
    rw [hn, hkey] at hl1
    exact ⟨(Chg.of_below (S := fun _ => False) hb).cell hx (fun h => h), hs1.head.c1, hl1, (Chg.of_below (S := fun _ => False) hb).cell hy (fun h => h)⟩
  have HS0 := Lib.hid hs
  have HX := Lib.hid hx
  have HY := Lib.hid hy
  have HR := Lib.hid hr
  have HL := Lib.hid hl
  have HN := Lib.hid hn
  have HKK := Lib.hid hkey
  clear HKC hs hx hy hr hl hn hkey
  go_enter Try.func88, Try.ntmps88
  go_wp2_with (go_at_call 87; refine HKC1.out.mono ?_; rintro e w' ⟨rfl, hb⟩)
  have hF := HS.out ((w'.alloc (.cells #[.int .u16 ka, .int .u16 kb] 116))) (hb.alloc hb.size _)
  have hb1 : Below w.heap.size w (w'.alloc (.cells #[.int .u16 ka, .int .u16 kb] 116)) := hb.alloc hb.size _
  obtain ⟨e1, e2, e3, e4⟩ := hF
  have e5 := fun q => (HS.out ((w'.alloc (.cells #[.int .u16 ka, .int .u16 kb] 116)).drewN q) ⟨hb1.os, hb1.tape, hb1.output, hb1.size, hb1.block⟩).2.2.1
  go_quiet (fail)
  go_wp2
  clear e1 e2 e3 e4 e5
  have hkb : ((w'.alloc (.cells #[.int .u16 ka, .int .u16 kb] 116)).drewN nq).heap[w'.heap.size]? = some (.cells #[.int .u16 ka, .int .u16 kb] 116 (0, 0)) := al_new (w := w') rfl
  have hb2 : Below w.heap.size w ((w'.alloc (.cells #[.int .u16 ka, .int .u16 kb] 116)).drewN nq) := ⟨hb1.os, hb1.tape, hb1.output, hb1.size, hb1.block⟩
  generalize (w'.alloc (.cells #[.int .u16 ka, .int .u16 kb] 116)).drewN nq = W at *
  obtain ⟨e1, e2, e3, e4⟩ := HS.out W hb2
  have e9 : W.cell? ⟨w'.heap.size, 0, none⟩ = some (.int .u16 ka) := by simp [World.cell?, hkb]
  have e10 : W.cell? ⟨w'.heap.size, 1, none⟩ = some (.int .u16 kb) := by simp [World.cell?, hkb]
  have hlt2 : w'.heap.size < W.heap.size := (Array.getElem?_eq_some_iff.1 hkb).1
  have e11 : ∀ o, (W.alloc o).cell? ⟨w'.heap.size, 0, none⟩ = some (.int .u16 ka) := fun o => by simp [World.cell?, al_old hkb]
  have e12 : ∀ o, (W.alloc o).cell? ⟨w'.heap.size, 1, none⟩ = some (.int .u16 kb) := fun o => by simp [World.cell?, al_old hkb]
  have e13 : ∀ o, (W.alloc o).cell? ⟨bx, 0, none⟩ = some (.pointer (some ⟨g, 0, none⟩)) := fun o => (HS.out _ (hb2.alloc hb2.size o)).1
  have e14 : ∀ o, (W.alloc o).cell? ⟨g, 1, none⟩ = some (.map (some m)) := fun o => (HS.out _ (hb2.alloc hb2.size o)).2.1
  obtain ⟨es, clk, hm0, hm1, hm2, hm3⟩ := HS0.out.laid.map
  have hm4 : W.heap[m]? = some (.map es clk) := (hb2.block m HS0.out.laid.mlt).trans hm0
  have hm5 : (W.alloc (.cells Try.zeroCells120 120)).drew.heap[m]? = some (.map es clk) := al_old hm4
  have e15 := run_map_put hm5 hm1 HS0.out.laid.lt HS0.out.laid.fst hlt HN.out (.pointer (some ⟨W.heap.size, 0, none⟩))
  rw [HKK.out] at e15
  have HM4 := Lib.hid hm4
  have HM5 := Lib.hid hm5
  have HKB := Lib.hid hkb
  clear hm0 hm1 hm2 hm3 hm4 hm5 hkb
  go_region
  go_wp2
  have hW3 : ∀ W3, W3 = ChangeMaps.setBlock (W.alloc (.cells Try.zeroCells120 120)).drew m (.map (es.push ⟨keyV p, .pointer (some ⟨W.heap.size, 0, none⟩), clk⟩) (clk + 1)) → Laid W3 m (pg ++ [(p, W.heap.size)]) s.mem s.pages ∧ Chg W W3 (fun j => j = m) ∧ PageAt W3 W.heap.size p s.mem := by
    rintro W3 rfl
    have hs2 := HS0.out.below hb2
    have h1 : Chg W (ChangeMaps.setBlock (W.alloc (.cells Try.zeroCells120 120)).drew m (.map (es.push ⟨keyV p, .pointer (some ⟨W.heap.size, 0, none⟩), clk⟩) (clk + 1))) (fun j => j = m) :=
      ⟨rfl, rfl, rfl, by simp [ChangeMaps.setBlock], fun j hj hn => (ChangeMaps.heap_setBlock_other HM5.out _ hn).trans (Below.heap_alloc _ _ _ hj)⟩
    have h2 := Laid.added hs2.laid hp HN.out HM4.out (ChangeMaps.heap_setBlock_same HM5.out _) ((ChangeMaps.heap_setBlock_other HM5.out _ (Nat.ne_of_gt hs2.laid.mlt)).trans (al_new (w := W) (o := .cells zeroPage 120) rfl ▸ by rw [zeros_page]; rfl)) h1
    exact ⟨h2, h1, (h2.page (p, W.heap.size) (List.mem_append_right _ (by simp))).2⟩
  rw [HKK.out] at hW3
  have hkb3 : ∀ W3, Chg W W3 (fun j => j = m) → W3.cell? ⟨w'.heap.size, 0, none⟩ = some (.int .u16 ka) ∧ W3.cell? ⟨w'.heap.size, 1, none⟩ = some (.int .u16 kb) := by
    intro W3 hc
    have hne : ¬ w'.heap.size = m := by
      intro e
      have hk := HKB.out
      rw [e, HM4.out] at hk
      cases hk
    exact ⟨hc.cell (p := ⟨w'.heap.size, 0, none⟩) e9 hne, hc.cell (p := ⟨w'.heap.size, 1, none⟩) e10 hne⟩
  have h33 := hW3 _ rfl
  clear hW3 e11 e12 e13 e14 e15 HM5
  generalize ChangeMaps.setBlock (W.alloc (.cells Try.zeroCells120 120)).drew m (.map (es.push ⟨.agg #[.int .u16 ka, .int .u16 kb], .pointer (some ⟨W.heap.size, 0, none⟩), clk⟩) (clk + 1)) = W3 at *
  obtain ⟨hL, hc, hP⟩ := h33
  have hcw : Chg w W3 (fun j => j = m) := (Chg.of_below hb2 (S := fun j => j = m)).trans hc (fun i hi => .inl hi)
  have k9 := hkb3 W3 hc
  obtain ⟨k9, k10⟩ := k9
  have k1 := hcw.cell HX.out (fun e => by
    have h5 := HX.out
    obtain ⟨es1, clk1, h6, _⟩ := HS0.out.laid.map
    simp only [show bx = m from e, World.cell?, h6] at h5
    cases h5)
  have k2 : W3.cell? ⟨g, 1, none⟩ = some (.map (some m)) := hcw.cell HS0.out.head.c1 (fun e => HS0.out.apart.1 e)
  have k4 := hcw.cell HY.out (fun e => by
    have h5 := HY.out
    obtain ⟨es1, clk1, h6, _⟩ := HS0.out.laid.map
    simp only [show byy = m from e, World.cell?, h6] at h5
    cases h5)
  have k3 : (Instr.lookup 105 (.map (some m)) (keyV p) false).run Try.prog W3.drew = .ok (ptrOf ((pg ++ [(p, W.heap.size)]).lookup p)) W3.drew := (Laid.chg (S := fun _ => False) hL (Chg.refl W3 _).drew (fun h => h) (fun _ _ h => h)).look hlt
  rw [lookup_append, HN.out, HKK.out, if_pos rfl] at k3
  have k3' : (Instr.lookup 105 (.map (some m)) (.agg #[.int .u16 ka, .int .u16 kb]) false).run Try.prog W3.drew = .ok (.pointer (some ⟨W.heap.size, 0, none⟩)) W3.drew := k3
  have hnb : w.heap.size ≤ W.heap.size := hb2.size
  generalize W.heap.size = nb at *
  have e6 := cut_row_at A n c f k (by omega) (by omega)
  have e7 := cut_page nb i (by omega)
  have e8 := run_page_copy (w := W3.drew) (c := c) (k := k) (i := i) (f := f) (n := n) hP (fun j hj => hcw.cell (HR.out j hj) (fun e => hA (by rw [← e]; unfold Addr.add; split <;> rfl))) hk (by rw [HL.out]; exact hf)
  have HP := Lib.hid hP
  have HLa := Lib.hid hL
  have HCW := Lib.hid hcw
  clear hP hL hcw hc hkb3 k3 e1 e2 e3 e4 e9 e10 hb2 hb1 hb
  go_region
  go_wp2
  go_end0
  exact ⟨rfl, nb, W3, hnb, HLa.out, HCW.out, setRow_heap _ _ _ _ _ _ HP.out, Chg.row (Chg.refl W3 _).drew⟩

/-- One page's bytes are others. -/
theorem Laid.wrote {w w' : World} {m pages p b : Nat} {pg : List (Nat × Nat)} {mem mem' : Nat → Int} (h : Laid w m pg mem pages) (hb : (p, b) ∈ pg) (hp : PageAt w' b p mem') (hc : Chg w w' (fun j => j = b))
    (hm : ∀ q i, q ≠ p → i < 4096 → mem' (q * 4096 + i) = mem (q * 4096 + i)) (hr : ∀ i, 0 ≤ mem' i ∧ mem' i ≤ 255) : Laid w' m pg mem' pages where
  map := by
    obtain ⟨es, clk, h1, h2⟩ := h.map
    refine ⟨es, clk, hc.at h1 (fun e => ?_), h2⟩
    have h3 := (h.page _ hb).2
    unfold PageAt at h3
    rw [show b = m from e.symm, h1] at h3
    cases h3
  fst := h.fst
  snd := h.snd
  page x hx := by
    refine ⟨(h.page x hx).1, ?_⟩
    by_cases e : x.2 = b
    · have h1 := lookup_some h.fst (p := x.1) (b := x.2) hx
      have h2 : x = (p, b) := by
        obtain ⟨i, hi, hxi⟩ := List.getElem_of_mem hx
        obtain ⟨j, hj, hbj⟩ := List.getElem_of_mem hb
        have h3 := h.snd
        have h4 : i = j := by
          refine (List.getElem_inj (i := i) (j := j) (h₀ := by simpa using hi) (h₁ := by simpa using hj) h3).1 ?_
          simp [hxi, hbj, e]
        subst h4
        rw [← hxi, ← hbj]
      subst h2
      exact hp
    · have h1 : x.1 ≠ p := by
        intro e2
        have h2 := lookup_some h.fst (p := x.1) (b := x.2) hx
        have h3 := lookup_some h.fst hb
        rw [e2, h3] at h2
        injection h2 with h2
        exact e h2.symm
      have h2 := hc.at (h.page x hx).2 e
      unfold PageAt
      rw [pageCells_congr (mem' := mem) (fun i hi => hm x.1 i h1 hi)]
      exact h2
  rest q hq hl i hi := by
    have h1 : q ≠ p := by
      rintro rfl
      rw [lookup_some h.fst hb] at hl
      cases hl
    rw [hm q i h1 hi]
    exact h.rest q hq hl i hi
  lim := h.lim
  low := h.low
  range := hr

theorem lay_range {mem : Nat → Int} {t : Nat} {l : List Int} (h : ∀ i, 0 ≤ mem i ∧ mem i ≤ 255) (hl : ∀ v ∈ l, 0 ≤ v ∧ v ≤ 255) : ∀ i, 0 ≤ lay mem t l i ∧ lay mem t l i ≤ 255 := by
  intro i
  unfold lay
  by_cases c : t ≤ i ∧ i < t + l.length
  · rw [if_pos c, List.getD_eq_getElem?_getD, List.getElem?_eq_getElem (by omega)]
    exact hl _ (List.getElem_mem _)
  · rw [if_neg c]
    exact h i

theorem storeC_any (g m bx byy n c : Nat) (A : Addr) (l : List Int) (pg : List (Nat × Nat)) (s : SpS) (p i k f : Nat) (w : World) (hs : Spc w g m pg s)
    (hx : w.cell? ⟨bx, 0, none⟩ = some (.pointer (some ⟨g, 0, none⟩))) (hy : w.cell? ⟨byy, 0, none⟩ = some (.slice (some A) n c)) (hr : BytesAt w A l) (hl : l.length = n) (hnc : n ≤ c) (hv : ∀ v ∈ l, 0 ≤ v ∧ v ≤ 255)
    (hp : p < s.pages) (hA : ¬ Own g m pg A.block) (hk0 : 1 ≤ k) (hk : i + k ≤ 4096) (hf : f + k ≤ n) (hN : n ≤ 4294967296) :
    Calls Try.prog 88 #[.int .u64 (p : Int), .int .u64 (i : Int), .int .u64 (k : Int), .int .u64 (f : Int), .pointer (some ⟨bx, 0, none⟩), .pointer (some ⟨byy, 0, none⟩)] w fun e w' =>
      e = .returned (.tuple #[]) ∧ ∃ pg', Spc w' g m pg' { s with mem := lay s.mem (p * 4096 + i) ((l.drop f).take k) } ∧ (∀ x ∈ pg', x ∈ pg ∨ w.heap.size ≤ x.2) ∧ Chg w w' (fun j => j = m ∨ j ∈ pg.map Prod.snd) := by
  have l2 : ((l.drop f).take k).length = k := by rw [List.length_take, List.length_drop]; omega
  have hm : ∀ q j, q ≠ p → j < 4096 → lay s.mem (p * 4096 + i) ((l.drop f).take k) (q * 4096 + j) = s.mem (q * 4096 + j) := by
    intro q j hq hj
    unfold lay
    rw [if_neg (by rw [l2]; omega)]
  have hrg := lay_range (t := p * 4096 + i) (l := (l.drop f).take k) hs.laid.range (fun v h => hv v (List.mem_of_mem_drop (List.mem_of_mem_take h)))
  have ha := hs.apart
  cases hn : pg.lookup p with
  | some b =>
    have hb := mem_of_lookup hn
    refine (store_some g m bx byy n c b A l pg s p i k f w hs hx hy hr hl hnc hp hn (fun e => hA (.inr (.inr (List.mem_map.2 ⟨_, hb, e.symm⟩)))) hk0 hk hf hN).mono ?_
    rintro e w' ⟨he, hpg, hc⟩
    refine ⟨he, pg, ⟨hc.at hs.head (fun e => ha.2.1 _ hb e.symm), hs.laid.wrote hb hpg hc hm hrg⟩, fun x hx => .inl hx, hc.mono (fun j hj => .inr (List.mem_map.2 ⟨_, hb, hj.symm⟩))⟩
  | none =>
    refine (store_new g m bx byy n c A l pg s p i k f w hs hx hy hr hl hnc hp hn (fun e => hA (.inr (.inl e))) hk0 hk hf hN).mono ?_
    rintro e w' ⟨he, b, W, hb, hL, hc1, hpg, hc2⟩
    have hmem : (p, b) ∈ pg ++ [(p, b)] := by simp
    refine ⟨he, _, ⟨hc2.at (hc1.at hs.head ha.1) (fun e => ?_), hL.wrote hmem hpg hc2 hm hrg⟩, fun x hx => ?_, (hc1.mono (S2 := fun j => j = m ∨ j ∈ pg.map Prod.snd) (fun j hj => .inl hj)).trans hc2 (fun j hj => .inr (by omega))⟩
    · have := hs.head.glt
      omega
    · rcases List.mem_append.1 hx with h | h
      · exact .inl h
      · simp only [List.mem_singleton] at h
        subst h
        exact .inr hb

theorem take_add_drop (l : List Int) (f k : Nat) : l.take f ++ (l.drop f).take k = l.take (f + k) := by rw [List.take_add]

theorem each_store (g m bx byy n c : Nat) (Ao : Option Addr) (l : List Int) (pg : List (Nat × Nat)) (s : SpS) (t : Nat) (w : World) (hs : Spc w g m pg s)
    (hx : w.cell? ⟨bx, 0, none⟩ = some (.pointer (some ⟨g, 0, none⟩))) (hy : w.cell? ⟨byy, 0, none⟩ = some (.slice Ao n c)) (hbx : ¬ Own g m pg bx) (hby : ¬ Own g m pg byy)
    (hr : 0 < n → ∃ A, Ao = some A ∧ BytesAt w A l ∧ ¬ Own g m pg A.block) (hl : l.length = n) (hnc : n ≤ c) (hv : ∀ v ∈ l, 0 ≤ v ∧ v ≤ 255) (hn : t + n ≤ s.pages * 4096) :
    Calls Try.prog 85 #[.int .u64 (t : Int), .int .u64 (n : Int), .func (.func 88) #[] #[.pointer (some ⟨bx, 0, none⟩), .pointer (some ⟨byy, 0, none⟩)]] w fun e w' =>
      e = .returned (.tuple #[]) ∧ ∃ pg', Spc w' g m pg' { s with mem := lay s.mem t l } ∧ (∀ x ∈ pg', x ∈ pg ∨ w.heap.size ≤ x.2) ∧ Chg w w' (fun j => j = m ∨ j ∈ pg.map Prod.snd) := by
  have hlim := hs.laid.lim
  refine (each_any 88 enter_storeC _ t n (fun f w' => ∃ pg', Spc w' g m pg' { s with mem := lay s.mem t (l.take f) } ∧ (∀ x ∈ pg', x ∈ pg ∨ w.heap.size ≤ x.2) ∧ Chg w w' (fun j => j = m ∨ j ∈ pg.map Prod.snd)) w (by omega) ?_
    ⟨pg, by rw [List.take_zero, lay_nil]; exact hs, fun x hx => .inl hx, Chg.refl _ _⟩).mono ?_
  · rintro f w1 hf ⟨pg1, hs1, hpg1, hc1⟩
    obtain ⟨A, rfl, hb, hA⟩ := hr (by omega)
    have hown : ∀ j, j < w.heap.size → ¬ Own g m pg j → ¬ Own g m pg1 j := by
      intro j hj hn
      rintro (h | h | h)
      · exact hn (.inl h)
      · exact hn (.inr (.inl h))
      · obtain ⟨x, hx, rfl⟩ := List.mem_map.1 h
        rcases hpg1 x hx with h2 | h2
        · exact hn (.inr (.inr (List.mem_map.2 ⟨x, h2, rfl⟩)))
        · omega
    have hnS : ∀ j, ¬ Own g m pg j → ¬ (j = m ∨ j ∈ pg.map Prod.snd) := fun j h h2 => h (.inr h2)
    have hAb : ∀ j, (A.add j).block = A.block := fun j => by unfold Addr.add; split <;> rfl
    have hAlt : A.block < w.heap.size := by
      have := World.block_lt_of_cell? w _ (hb 0 (by omega))
      rwa [hAb] at this
    refine (storeC_any g m bx byy n c A l pg1 _ ((t + f) / 4096) ((t + f) % 4096) (stepN t n f) f w1 hs1 (hc1.cell hx (hnS _ hbx)) (hc1.cell hy (hnS _ hby)) (fun j hj => hc1.cell (hb j hj) (by rw [hAb]; exact hnS _ hA)) hl hnc hv (by show _ < s.pages; omega) (hown _ hAlt hA)
      (stepN_pos hf) (stepN_in hf) (stepN_le hf) (by omega)).mono ?_
    rintro e w' ⟨he, pg2, hs2, hpg2, hc2⟩
    refine ⟨he, pg2, ?_, fun x hx => ?_, hc1.trans hc2 (fun j hj => ?_)⟩
    · have e1 := lay_lay s.mem t (l.take f) ((l.drop f).take (stepN t n f))
      rw [List.length_take, Nat.min_eq_left (by omega), take_add_drop] at e1
      rw [← e1]
      have e2 := stepN_at t f
      rw [e2] at hs2
      exact hs2
    · rcases hpg2 x hx with h | h
      · exact hpg1 x h
      · exact .inr (Nat.le_trans hc1.size h)
    · rcases hj with h | h
      · exact .inl (.inl h)
      · obtain ⟨x, hx, rfl⟩ := List.mem_map.1 h
        rcases hpg1 x hx with h2 | h2
        · exact .inl (.inr (List.mem_map.2 ⟨x, h2, rfl⟩))
        · exact .inr h2
  · rintro e w' ⟨he, h⟩
    rw [List.take_of_length_le (by omega)] at h
    exact ⟨he, h⟩

end Go.Proofs.Ytfdhjeeaigfmfaa.Sp
