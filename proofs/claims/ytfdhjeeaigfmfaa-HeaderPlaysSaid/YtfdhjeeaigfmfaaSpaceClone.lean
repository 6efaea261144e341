/- A space's clone: another space, with the same bytes. -/
import Derived.Test.YtfdhjeeaigfmfaaSpaceZero
import Derived.Laws.Rows
namespace Go.Proofs.Ytfdhjeeaigfmfaa.Sp
open Go.RowKit Go.WideMaps
open Go.ChangeMaps (setBlock heap_setBlock_same heap_setBlock_other)
open Go.MapKept (heap_set)
set_option linter.unusedVariables false

theorem run_load_page {w : World} {b p : Nat} {mem : Nat → Int} (h : PageAt w b p mem) : (Instr.loadAt 120 (.pointer (some ⟨b, 0, none⟩))).run Try.prog w = .ok (.agg (pageCells p mem).toArray) w := by
  have hu : Try.prog.underlying 120 = some (.array 4096 5) := by kernel_rfl
  have h2 : (Try.prog.info? 120).map (·.size) = some (pageCells p mem).toArray.size := by
    rw [List.size_toArray, pageCells_length]
    kernel_rfl
  simp [Instr.loadAt, Instr.sureAddr, run_loadVar_row w b 120 120 _ (0, 0) _ h hu rfl h2]

theorem setRow_alloc (w : World) (cs cs' : Array Value) (t : TypeId) (fr : Nat × Nat) : (w.alloc (.cells cs t fr)).setRow w.heap.size cs' = w.alloc (.cells cs' t fr) := by
  simp only [World.setRow, World.alloc]
  congr 1
  apply Array.ext_getElem?
  intro i
  rw [Array.getElem?_modify, Array.getElem?_push, Array.getElem?_push]
  by_cases h : i = w.heap.size
  · subst h; simp
  · have h2 : ¬ w.heap.size = i := fun e => h e.symm
    simp [h, h2]

theorem run_store_page (W : World) (p : Nat) (mem : Nat → Int) : (Instr.storeAt 120 (.pointer (some ⟨W.heap.size, 0, none⟩)) (.agg (pageCells p mem).toArray)).run Try.prog (W.alloc (.cells Try.zeroCells120 120)) = .ok () (W.alloc (.cells (pageCells p mem).toArray 120)) := by
  have hs : (sizeOf 120).run Try.prog (W.alloc (.cells Try.zeroCells120 120)) = .ok 4096 (W.alloc (.cells Try.zeroCells120 120)) := by kernel_rfl
  have hz : Try.zeroCells120.size = 4096 := by kernel_rfl
  have h4 : (pageCells p mem).toArray.size = 4096 := by rw [List.size_toArray, pageCells_length]
  have hst := run_storeCells_at (P := Try.prog) W.heap.size 0 120 (pageCells p mem) 0 Try.zeroCells120 (W.alloc (.cells Try.zeroCells120 120)) (al_new rfl) (by rw [hz, pageCells_length]; omega) (by
    intro v hv
    unfold pageCells at hv
    obtain ⟨q, _, rfl⟩ := List.mem_map.1 hv
    rfl)
  have hd : Try.zeroCells120.toList.drop (0 + 0 + (pageCells p mem).length) = [] := List.drop_eq_nil_of_le (by rw [Array.length_toList, hz, pageCells_length]; omega)
  rw [hd, List.append_nil, List.take_zero, List.nil_append, setRow_alloc] at hst
  generalize W.alloc (.cells Try.zeroCells120 120) = W1 at *
  generalize W.alloc (.cells (pageCells p mem).toArray 120) = W2 at *
  have hl : ((pageCells p mem).toArray).toList = pageCells p mem := toArray_list _
  generalize pageCells p mem = l at *
  simp only [Instr.storeAt, Instr.sureAddr, storeVar, Sem.run_bind, Sem.run_pure, Result.andThen_ok, hs, Value.cells, h4, ne_eq, not_true_eq_false, if_false, hl, hst]

section
variable {P : Program} {w : World} {ops : Array Oper} {rest : List Oper} {o : Oper} {a : Act} {Q : Exit → Act → World → Prop}
/-- An operation whose run is known. -/
theorem wpList_val (hg : o.guard = none) (x : Sem Value) (v : Value) (w' : World) (hx : execOp a.eval o = (do pure (.value (← x)))) (hrun : x.run P w = .ok v w') (h : wpList P ops Q rest (a.put o.dst v) w') : wpList P ops Q (o :: rest) a w := by
  refine wpList_plain hg fun K' hK' => ?_
  unfold Oper.wp
  rw [hx]
  simp only [Sem.run_bind, Sem.run_pure, hrun, Result.andThen_ok]
  exact hK' _ _ h
theorem wpList_unit (hg : o.guard = none) (x : Sem Unit) (w' : World) (hx : execOp a.eval o = (do x; pure .skip)) (hrun : x.run P w = .ok () w') (h : wpList P ops Q rest (a.put o.dst undef) w') : wpList P ops Q (o :: rest) a w := by
  refine wpList_plain hg fun K' hK' => ?_
  unfold Oper.wp
  rw [hx]
  simp only [Sem.run_bind, Sem.run_pure, hrun, Result.andThen_ok]
  exact hK' _ _ h
end

/-- The bytes of the pages that are done. -/
def memC (mem : Nat → Int) (done : Nat → Bool) : Nat → Int := fun i => if done (i / 4096) then mem i else 0
theorem memC_range {mem : Nat → Int} {done : Nat → Bool} (h : ∀ i, 0 ≤ mem i ∧ mem i ≤ 255) : ∀ i, 0 ≤ memC mem done i ∧ memC mem done i ≤ 255 := by
  intro i
  unfold memC
  by_cases c : done (i / 4096) = true
  · rw [if_pos c]; exact h i
  · rw [if_neg c]; omega
theorem memC_at (mem : Nat → Int) (done : Nat → Bool) (p i : Nat) (h : i < 4096) : memC mem done (p * 4096 + i) = if done p then mem (p * 4096 + i) else 0 := by
  unfold memC
  rw [show (p * 4096 + i) / 4096 = p by omega]

theorem Laid.congr {w : World} {m pages : Nat} {pg : List (Nat × Nat)} {mem mem' : Nat → Int} (h : Laid w m pg mem pages) (hm : ∀ i, i < pages * 4096 → mem' i = mem i) (hr : ∀ i, 0 ≤ mem' i ∧ mem' i ≤ 255) : Laid w m pg mem' pages :=
  { h with
    page := fun x hx => by
      have h1 := h.page x hx
      refine ⟨h1.1, ?_⟩
      unfold PageAt
      rw [pageCells_congr (mem' := mem) (fun i hi => hm _ (by omega))]
      exact h1.2
    rest := fun p hp hl i hi => by rw [hm _ (by omega)]; exact h.rest p hp hl i hi
    range := hr }

/-- One page more, with these bytes. -/
theorem Laid.more {W W3 : World} {m pages p clk : Nat} {es : Array MapEntry} {pg : List (Nat × Nat)} {mem mem' : Nat → Int} (h : Laid W m pg mem pages) (hp : p < pages) (hn : pg.lookup p = none)
    (hm : W.heap[m]? = some (.map es clk)) (h3 : W3 = setBlock (W.alloc (.cells (pageCells p mem').toArray 120)).drew m (.map (es.push ⟨keyV p, .pointer (some ⟨W.heap.size, 0, none⟩), clk⟩) (clk + 1)))
    (he : ∀ q i, q ≠ p → i < 4096 → mem' (q * 4096 + i) = mem (q * 4096 + i)) (hr : ∀ i, 0 ≤ mem' i ∧ mem' i ≤ 255) : Laid W3 m (pg ++ [(p, W.heap.size)]) mem' pages ∧ Chg W W3 (fun j => j = m) := by
  subst h3
  have hml := h.mlt
  have a1 : (W.alloc (.cells zeroPage 120)).drew.heap[m]? = some (.map es clk) := al_old hm
  have a2 : (W.alloc (.cells (pageCells p mem').toArray 120)).drew.heap[m]? = some (.map es clk) := al_old hm
  have b1 : (W.alloc (.cells zeroPage 120)).drew.heap[W.heap.size]? = some (.cells zeroPage 120 (0, 0)) := al_new (w := W) rfl
  have b2 : (W.alloc (.cells (pageCells p mem').toArray 120)).drew.heap[W.heap.size]? = some (.cells (pageCells p mem').toArray 120 (0, 0)) := al_new (w := W) rfl
  have c1 : Chg W (setBlock (W.alloc (.cells zeroPage 120)).drew m (.map (es.push ⟨keyV p, .pointer (some ⟨W.heap.size, 0, none⟩), clk⟩) (clk + 1))) (fun j => j = m) :=
    ⟨rfl, rfl, rfl, by simp [setBlock], fun j hj hn => (heap_setBlock_other a1 _ hn).trans (Below.heap_alloc _ _ _ hj)⟩
  have c2 : Chg W (setBlock (W.alloc (.cells (pageCells p mem').toArray 120)).drew m (.map (es.push ⟨keyV p, .pointer (some ⟨W.heap.size, 0, none⟩), clk⟩) (clk + 1))) (fun j => j = m) :=
    ⟨rfl, rfl, rfl, by simp [setBlock], fun j hj hn => (heap_setBlock_other a2 _ hn).trans (Below.heap_alloc _ _ _ hj)⟩
  have L1 := Laid.added h hp hn hm (heap_setBlock_same a1 _) ((heap_setBlock_other a1 _ (Nat.ne_of_gt hml)).trans b1) c1
  refine ⟨L1.wrote (b := W.heap.size) (by simp) ((heap_setBlock_other a2 _ (Nat.ne_of_gt hml)).trans b2) ?_ he hr, c2⟩
  refine ⟨c2.os.trans c1.os.symm, c2.tape.trans c1.tape.symm, c2.output.trans c1.output.symm, by simp [setBlock], fun j hj hn => ?_⟩
  by_cases e : j = m
  · subst e
    exact (heap_setBlock_same a2 _).trans (heap_setBlock_same a1 _).symm
  · refine (heap_setBlock_other a2 _ e).trans (Eq.trans ?_ (heap_setBlock_other a1 _ e).symm)
    have hj2 : j < W.heap.size := by
      have : (setBlock (W.alloc (.cells zeroPage 120)).drew m (.map (es.push ⟨keyV p, .pointer (some ⟨W.heap.size, 0, none⟩), clk⟩) (clk + 1))).heap.size = W.heap.size + 1 := by simp [setBlock]
      omega
    exact (Below.heap_alloc W _ _ hj2).trans (Below.heap_alloc W _ _ hj2).symm

/-- What holds in the loop that clones. -/
structure CM (w0 : World) (g m r gc mc : Nat) (pg : List (Nat × Nat)) (s : SpS) (es : Array MapEntry) (clk c0 : Nat) (seen : Array Nat) (pgc : List (Nat × Nat)) (done : Nat → Bool) (w : World) : Prop where
  bel : Below w0.heap.size w0 w
  iter : w.heap[r]? = some (.mapIter (some m) clk seen c0)
  sc : clk ≤ c0
  cl : Spc w gc mc pgc ⟨s.pages, memC s.mem done, 0⟩
  new : w0.heap.size ≤ gc ∧ w0.heap.size ≤ mc ∧ w0.heap.size ≤ r ∧ ∀ x ∈ pgc, w0.heap.size ≤ x.2
  sub : ∀ x ∈ pgc, done x.1 = true

def CRel (w0 : World) (g m r gc mc : Nat) (pg : List (Nat × Nat)) (s : SpS) (es : Array MapEntry) (clk : Nat) (w : World) : Prop :=
  ∃ c0 seen pgc done, CM w0 g m r gc mc pg s es clk c0 seen pgc done w ∧ Same es pg seen done es.size

section
variable {w0 w w' : World} {g m r gc mc clk c0 : Nat} {pg pgc : List (Nat × Nat)} {s : SpS} {es : Array MapEntry} {seen : Array Nat} {done : Nat → Bool}

theorem CM.below (h : CM w0 g m r gc mc pg s es clk c0 seen pgc done w) (hb : Below w.heap.size w w') : CM w0 g m r gc mc pg s es clk c0 seen pgc done w' :=
  { h with
    bel := h.bel.trans (hb.mono h.bel.size)
    iter := (hb.block r (Array.getElem?_eq_some_iff.1 h.iter).1).trans h.iter
    cl := h.cl.below hb }
theorem CM.r_own (h : CM w0 g m r gc mc pg s es clk c0 seen pgc done w) : ¬ Own gc mc pgc r := by
  intro hr
  have hi := h.iter
  rcases hr with rfl | rfl | hr
  · have := h.cl.head
    unfold Head at this
    rw [hi] at this
    cases this
  · obtain ⟨es1, clk1, hm1, _⟩ := h.cl.laid.map
    rw [hm1] at hi
    cases hi
  · obtain ⟨x, hx, rfl⟩ := List.mem_map.1 hr
    have := (h.cl.laid.page x hx).2
    unfold PageAt at this
    rw [hi] at this
    cases this

/-- The step. -/
theorem CM.next (h : CM w0 g m r gc mc pg s es clk c0 seen pgc done w) (hs : Same es pg seen done es.size) (hs0 : Spc w0 g m pg s) (hm : w0.heap[m]? = some (.map es clk)) (ht : Told es.toList pg) (hn : (es.toList.map (·.born)).Nodup)
    {e : MapEntry} (he : e ∈ (leftOf es seen).toList) {w1 : World} (hw : w1 = w ∨ w1 = w.drew) :
    ∃ j x, es.toList[j]? = some e ∧ pg[j]? = some x ∧ e.key = keyV x.1 ∧ e.val = .pointer (some ⟨x.2, 0, none⟩) ∧ CM w0 g m r gc mc pg s es clk clk (seen.push e.born) pgc done (setBlock w1 r (.mapIter (some m) clk (seen.push e.born) clk)) ∧
      Same es pg (seen.push e.born) done j ∧ done x.1 = false ∧ (Instr.entry (.pointer (some ⟨r, 0, none⟩))).run Try.prog (setBlock w1 r (.mapIter (some m) clk (seen.push e.born) clk)) = .ok (.tuple #[e.key, e.val]) (setBlock w1 r (.mapIter (some m) clk (seen.push e.born) clk)) := by
  obtain ⟨hem, hes⟩ := mem_left he
  obtain ⟨j, hj⟩ := List.getElem?_of_mem hem
  obtain ⟨x, hx, hk, hv⟩ := ht.at hj
  have hr1 : w1.heap[r]? = some (.mapIter (some m) clk seen c0) := by rcases hw with rfl | rfl <;> exact h.iter
  have hset := heap_set (o' := .mapIter (some m) clk (seen.push e.born) clk) hr1
  have hc : Chg w (setBlock w1 r (.mapIter (some m) clk (seen.push e.born) clk)) (fun i => i = r) := by
    rcases hw with rfl | rfl <;> exact ⟨rfl, rfl, rfl, by simp [setBlock], fun i _ hn => hset.2 i hn⟩
  have hml : m < w0.heap.size := (Array.getElem?_eq_some_iff.1 hm).1
  have hrm : ¬ m = r := by have := h.new.2.2.1; omega
  have hjl : j < es.size := by have := (List.getElem?_eq_some_iff.1 hj).1; simpa using this
  have hmw : w.heap[m]? = some (.map es clk) := (h.bel.block m hml).trans hm
  refine ⟨j, x, hj, hx, hk, hv, ?_, ?_, ?_, run_entry_at _ r m clk seen es clk e hset.1 (hc.at hmw hrm) hem hn⟩
  · exact { h with
      bel := hc.below h.bel h.bel.size (fun i hi => by rw [hi]; exact h.new.2.2.1)
      iter := hset.1
      sc := Nat.le_refl _
      cl := h.cl.chg hc (fun i hi => by rw [hi]; exact h.r_own) }
  · intro k e' x' hne hk' hx'
    have hkl : k < es.size := by have := (List.getElem?_eq_some_iff.1 hk').1; simpa using this
    rw [hs k e' x' (by omega) hk' hx', contains_push]
    have : (e'.born == e.born) = false := by
      have hne2 : e'.born ≠ e.born := by
        intro hb
        refine hne ((List.getElem_inj (i := k) (j := j) (h₀ := by simpa using hkl) (h₁ := by simpa using hjl) hn).1 ?_)
        obtain ⟨_, h4⟩ := List.getElem?_eq_some_iff.1 hk'
        obtain ⟨_, h5⟩ := List.getElem?_eq_some_iff.1 hj
        simp only [List.getElem_map, h4, h5, hb]
      simpa using hne2
    rw [this, Bool.or_false]
  · rw [hs j e x (by omega) hj hx, hes]

/-- The page is laid. -/
theorem CM.laid (h : CM w0 g m r gc mc pg s es clk c0 seen pgc done w) {j : Nat} (hs : Same es pg seen done j) (hs0 : Spc w0 g m pg s) {e : MapEntry} {x : Nat × Nat} (hj : es.toList[j]? = some e) (hx : pg[j]? = some x) (hb : seen.contains e.born = true) (hd : done x.1 = false)
    {esc : Array MapEntry} {clkc : Nat} (hmc : w.heap[mc]? = some (.map esc clkc)) (hw : w' = setBlock (w.alloc (.cells (pageCells x.1 s.mem).toArray 120)).drew mc (.map (esc.push ⟨keyV x.1, .pointer (some ⟨w.heap.size, 0, none⟩), clkc⟩) (clkc + 1))) :
    CRel w0 g m r gc mc pg s es clk w' ∧ w'.heap[r]? = some (.mapIter (some m) clk seen c0) := by
  have hxm : x ∈ pg := List.mem_of_getElem? hx
  have hxp := (hs0.laid.page x hxm).1
  have hlk : pgc.lookup x.1 = none := lookup_none (fun hq => by
    obtain ⟨y, hy, hy2⟩ := List.mem_map.1 hq
    have := h.sub y hy
    rw [hy2, hd] at this
    cases this)
  have e1 : pageCells x.1 s.mem = pageCells x.1 (memC s.mem (also done x.1)) := pageCells_congr (fun i hi => by rw [memC_at _ _ _ _ hi, also_same, if_pos rfl])
  have hfst : ∀ {i : Nat} {y : Nat × Nat}, pg[i]? = some y → i ≠ j → y.1 ≠ x.1 := by
    intro i y hi hne e2
    obtain ⟨hi1, hi2⟩ := List.getElem?_eq_some_iff.1 hi
    obtain ⟨hj1, hj2⟩ := List.getElem?_eq_some_iff.1 hx
    exact hne ((List.getElem_inj (i := i) (j := j) (h₀ := by simpa using hi1) (h₁ := by simpa using hj1) hs0.laid.fst).1 (by simp [hi2, hj2, e2]))
  obtain ⟨L, hc⟩ := Laid.more (W3 := w') (mem' := memC s.mem (also done x.1)) h.cl.laid hxp hlk hmc (by rw [hw, e1]) (fun q i hq hi => by
    show memC s.mem (also done x.1) (q * 4096 + i) = memC s.mem done (q * 4096 + i)
    rw [memC_at _ _ _ _ hi, memC_at _ _ _ _ hi, also_other done hq]) (memC_range hs0.laid.range)
  have hit := hc.at h.iter (fun e2 => h.r_own (.inr (.inl e2)))
  refine ⟨⟨c0, seen, pgc ++ [(x.1, w.heap.size)], also done x.1, ?_, ?_⟩, hit⟩
  · exact {
      bel := hc.below h.bel h.bel.size (fun i hi => by rw [hi]; exact h.new.2.1)
      iter := hit
      sc := h.sc
      cl := ⟨hc.at h.cl.head h.cl.apart.1, L⟩
      new := ⟨h.new.1, h.new.2.1, h.new.2.2.1, fun y hy => by
        rcases List.mem_append.1 hy with h1 | h1
        · exact h.new.2.2.2 y h1
        · simp only [List.mem_singleton] at h1
          subst h1
          exact h.bel.size⟩
      sub := fun y hy => by
        rcases List.mem_append.1 hy with h1 | h1
        · unfold also; rw [h.sub y h1]; rfl
        · simp only [List.mem_singleton] at h1
          subst h1
          exact also_same _ _ }
  · intro k e' y _ hk hy
    by_cases e2 : k = j
    · subst e2
      rw [hj] at hk; rw [hx] at hy
      obtain rfl := Option.some.inj hk
      obtain rfl := Option.some.inj hy
      rw [also_same, hb]
    · rw [also_other _ (hfst hy e2)]
      exact hs k e' y e2 hk hy

/-- At the end all is laid. -/
theorem CM.end_ (h : CM w0 g m r gc mc pg s es clk c0 seen pgc done w) (hs : Same es pg seen done es.size) (hs0 : Spc w0 g m pg s) (ht : Told es.toList pg) (hl : (leftOf es seen).size = 0) : Spc w gc mc pgc ⟨s.pages, s.mem, 0⟩ := by
  refine ⟨h.cl.head, h.cl.laid.congr (fun i hi => ?_) hs0.laid.range⟩
  have hp : i / 4096 < s.pages := by
    have : i < s.pages * 4096 := hi
    omega
  show s.mem i = memC s.mem done i
  unfold memC
  cases hl2 : pg.lookup (i / 4096) with
  | none =>
    have := hs0.laid.rest _ hp hl2 (i % 4096) (by omega)
    rw [show i / 4096 * 4096 + i % 4096 = i by omega] at this
    rw [this]
    split <;> rfl
  | some b =>
    have hm := mem_of_lookup hl2
    obtain ⟨j, hj⟩ := List.getElem?_of_mem hm
    have hlen : es.toList.length = pg.length := by have := congrArg List.length ht; simpa using this
    have hjl : j < es.toList.length := by rw [hlen]; exact (List.getElem?_eq_some_iff.1 hj).1
    have hd := hs j _ _ (by have : j < es.size := by simpa using hjl
                            omega) (List.getElem?_eq_getElem hjl) hj
    rw [all_seen es seen hl _ (List.getElem_mem hjl)] at hd
    rw [if_pos hd]
end
end Go.Proofs.Ytfdhjeeaigfmfaa.Sp
