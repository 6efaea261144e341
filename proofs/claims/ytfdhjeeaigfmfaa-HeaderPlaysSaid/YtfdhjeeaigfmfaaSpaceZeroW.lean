/- The loop over a space's map: what holds of it at each round's head, in plain words. -/
import Derived.Test.YtfdhjeeaigfmfaaSpaceNew
import Derived.Maps.RangeWalk
namespace Go.Proofs.Ytfdhjeeaigfmfaa.Sp
open Go.RowKit Go.WideMaps
open Go.ChangeMaps (setBlock heap_setBlock_same heap_setBlock_other)
open Go.MapKept (heap_set)
set_option linter.unusedVariables false

/-- The bytes where some pages have been blanked. -/
def memD (mem : Nat → Int) (t n : Nat) (done : Nat → Bool) : Nat → Int := fun i => if done (i / 4096) then blank mem t n i else mem i
theorem memD_at (mem : Nat → Int) (t n : Nat) (done : Nat → Bool) (p i : Nat) (h : i < 4096) : memD mem t n done (p * 4096 + i) = if done p then blank mem t n (p * 4096 + i) else mem (p * 4096 + i) := by
  unfold memD
  rw [show (p * 4096 + i) / 4096 = p by omega]
theorem blank_range {mem : Nat → Int} {t n : Nat} (h : ∀ i, 0 ≤ mem i ∧ mem i ≤ 255) : ∀ i, 0 ≤ blank mem t n i ∧ blank mem t n i ≤ 255 := by
  intro i
  unfold blank
  by_cases c : t ≤ i ∧ i < t + n
  · rw [if_pos c]; omega
  · rw [if_neg c]; exact h i
theorem memD_range {mem : Nat → Int} {t n : Nat} {done : Nat → Bool} (h : ∀ i, 0 ≤ mem i ∧ mem i ≤ 255) : ∀ i, 0 ≤ memD mem t n done i ∧ memD mem t n done i ≤ 255 := by
  intro i
  unfold memD
  by_cases c : done (i / 4096) = true
  · rw [if_pos c]; exact blank_range h i
  · rw [if_neg c]; exact h i
def also (done : Nat → Bool) (p : Nat) : Nat → Bool := fun q => done q || q == p

section
variable {P : Program} (w : World) {ops : Array Oper} {rest : List Oper} {o : Oper} {a : Act} {Q : Exit → Act → World → Prop}
/-- The step of a loop over a map. -/
theorem wpList_next_sp (hg : o.guard = none) (it : Operand) (hop : o.op = Op.next it false) (r m since c0 clk : Nat) (seen : Array Nat) (es : Array MapEntry)
    (hit : a.eval it = .pointer (some ⟨r, 0, none⟩)) (hr : w.heap[r]? = some (.mapIter (some m) since seen c0)) (hb : w.heap[m]? = some (.map es clk)) (hold : ∀ x ∈ es.toList, x.born < since) (hsc : since ≤ c0)
    (hDone : Hid ((leftOf es seen).size = 0) → wpList P ops Q rest (a.put o.dst (.tuple #[.bool false])) w)
    (hMore : ∀ e w1, Hid (e ∈ (leftOf es seen).toList) → Hid (w1 = w ∨ w1 = w.drew) → wpList P ops Q rest (a.put o.dst (.tuple #[.bool true, e.key, e.val])) (setBlock w1 r (.mapIter (some m) since (seen.push e.born) clk))) :
    wpList P ops Q (o :: rest) a w := by
  refine wpList_plain hg fun K' hK' => ?_
  unfold Oper.wp
  rcases run_next_at (P := P) w o.type r m since c0 seen es clk hr hb hold hsc with ⟨h0, hrun⟩ | ⟨e, he, w1, hal, hrun⟩
  · simp [execOp, hop, hit, hrun, Result.andThen]
    exact hK' _ _ (hDone h0)
  · simp [execOp, hop, hit, hrun, Result.andThen]
    exact hK' _ _ (hMore e w1 he hal)
end

/-- What holds in a loop over a space's map that blanks bytes. -/
structure ZM (w0 : World) (g m r : Nat) (pg0 : List (Nat × Nat)) (s : SpS) (t n : Nat) (pg : List (Nat × Nat)) (es : Array MapEntry) (clk since c0 : Nat) (seen : Array Nat) (done : Nat → Bool) (w : World) : Prop where
  map : w.heap[m]? = some (.map es clk)
  iter : w.heap[r]? = some (.mapIter (some m) since seen c0)
  hold : ∀ x ∈ es.toList, x.born < since
  sc : since ≤ c0
  sk : since ≤ clk
  told : Told es.toList pg
  born : (es.toList.map (·.born)).Nodup
  spc : Spc w g m pg { s with mem := memD s.mem t n done }
  sub : ∀ x ∈ pg, x ∈ pg0
  gone : ∀ p, p < s.pages → pg.lookup p = none → ∀ i, i < 4096 → memD s.mem t n done (p * 4096 + i) = blank s.mem t n (p * 4096 + i)
  chg : Chg w0 w (Own g m pg0)
  new : w0.heap.size ≤ r

def Same (es : Array MapEntry) (pg : List (Nat × Nat)) (seen : Array Nat) (done : Nat → Bool) (but : Nat) : Prop := ∀ (j : Nat) (e : MapEntry) (x : Nat × Nat), j ≠ but → es.toList[j]? = some e → pg[j]? = some x → done x.1 = seen.contains e.born

/-- At each round's head. -/
def ZRel (w0 : World) (g m r : Nat) (pg0 : List (Nat × Nat)) (s : SpS) (t n : Nat) (w : World) : Prop :=
  ∃ pg es clk since c0 seen done, ZM w0 g m r pg0 s t n pg es clk since c0 seen done w ∧ Same es pg seen done es.size

/-- The measure. -/
def zLeft (m r : Nat) (w : World) : Nat := w.rangeLeft m r
theorem ZM.left {w0 : World} {g m r : Nat} {pg0 : List (Nat × Nat)} {s : SpS} {t n : Nat} {pg : List (Nat × Nat)} {es : Array MapEntry} {clk since c0 : Nat} {seen : Array Nat} {done : Nat → Bool} {w : World}
    (h : ZM w0 g m r pg0 s t n pg es clk since c0 seen done w) : zLeft m r w = (leftOf es seen).size := by
  simp only [zLeft, World.rangeLeft, h.map, h.iter]

section
variable {w0 : World} {g m r : Nat} {pg0 : List (Nat × Nat)} {s : SpS} {t n : Nat} {pg : List (Nat × Nat)} {es : Array MapEntry} {clk since c0 : Nat} {seen : Array Nat} {done : Nat → Bool} {w w' : World}

theorem ZM.own (h : ZM w0 g m r pg0 s t n pg es clk since c0 seen done w) {j : Nat} (hj : Own g m pg j) : Own g m pg0 j := by
  rcases hj with h1 | h1 | h1
  · exact .inl h1
  · exact .inr (.inl h1)
  · obtain ⟨x, hx, rfl⟩ := List.mem_map.1 h1
    exact .inr (.inr (List.mem_map.2 ⟨x, h.sub x hx, rfl⟩))
theorem ZM.r_own (h : ZM w0 g m r pg0 s t n pg es clk since c0 seen done w) : ¬ Own g m pg r := by
  intro hr
  have hi := h.iter
  rcases hr with rfl | rfl | hr
  · have := h.spc.head
    unfold Head at this
    rw [hi] at this
    cases this
  · rw [h.map] at hi
    cases hi
  · obtain ⟨x, hx, rfl⟩ := List.mem_map.1 hr
    have := (h.spc.laid.page x hx).2
    unfold PageAt at this
    rw [hi] at this
    cases this
theorem ZM.below (h : ZM w0 g m r pg0 s t n pg es clk since c0 seen done w) (hb : Below w.heap.size w w') : ZM w0 g m r pg0 s t n pg es clk since c0 seen done w' :=
  { h with
    map := (hb.block m (Array.getElem?_eq_some_iff.1 h.map).1).trans h.map
    iter := (hb.block r (Array.getElem?_eq_some_iff.1 h.iter).1).trans h.iter
    spc := h.spc.below hb
    chg := h.chg.then_below hb }

/-- At the end all is blank. -/
theorem ZM.end_ (h : ZM w0 g m r pg0 s t n pg es clk since c0 seen done w) (hs : Same es pg seen done es.size) (hl : (leftOf es seen).size = 0) (hn : t + n ≤ s.pages * 4096) : memD s.mem t n done = blank s.mem t n := by
  funext i
  by_cases hp : i / 4096 < s.pages
  · have hi : i = i / 4096 * 4096 + i % 4096 := by omega
    cases hl2 : pg.lookup (i / 4096) with
    | none =>
      have := h.gone _ hp hl2 (i % 4096) (by omega)
      rwa [← hi] at this
    | some b =>
      have hm := mem_of_lookup hl2
      obtain ⟨j, hj⟩ := List.getElem?_of_mem hm
      have hlen : es.toList.length = pg.length := by have := congrArg List.length h.told; simpa using this
      have hjl : j < es.toList.length := by rw [hlen]; exact (List.getElem?_eq_some_iff.1 hj).1
      have hd := hs j _ _ (by have : j < es.size := by simpa using hjl
                              omega) (List.getElem?_eq_getElem hjl) hj
      rw [all_seen es seen hl _ (List.getElem_mem hjl)] at hd
      unfold memD
      rw [if_pos hd]
  · unfold memD
    have : blank s.mem t n i = s.mem i := by unfold blank; rw [if_neg (by omega)]
    rw [this]
    split <;> rfl

/-- The step. -/
theorem ZM.next (h : ZM w0 g m r pg0 s t n pg es clk since c0 seen done w) (hs : Same es pg seen done es.size) {e : MapEntry} (he : e ∈ (leftOf es seen).toList) {w1 : World} (hw : w1 = w ∨ w1 = w.drew) :
    ∃ j x, es.toList[j]? = some e ∧ pg[j]? = some x ∧ e.key = keyV x.1 ∧ e.val = .pointer (some ⟨x.2, 0, none⟩) ∧ ZM w0 g m r pg0 s t n pg es clk since clk (seen.push e.born) done (setBlock w1 r (.mapIter (some m) since (seen.push e.born) clk)) ∧
      Same es pg (seen.push e.born) done j ∧ done x.1 = false ∧ (Instr.entry (.pointer (some ⟨r, 0, none⟩))).run Try.prog (setBlock w1 r (.mapIter (some m) since (seen.push e.born) clk)) = .ok (.tuple #[e.key, e.val]) (setBlock w1 r (.mapIter (some m) since (seen.push e.born) clk)) := by
  obtain ⟨hem, hes⟩ := mem_left he
  obtain ⟨j, hj⟩ := List.getElem?_of_mem hem
  obtain ⟨x, hx, hk, hv⟩ := h.told.at hj
  have hr1 : w1.heap[r]? = some (.mapIter (some m) since seen c0) := by rcases hw with rfl | rfl <;> exact h.iter
  have hset := heap_set (o' := .mapIter (some m) since (seen.push e.born) clk) hr1
  have hc : Chg w (setBlock w1 r (.mapIter (some m) since (seen.push e.born) clk)) (fun i => i = r) := by
    rcases hw with rfl | rfl <;> exact ⟨rfl, rfl, rfl, by simp [setBlock], fun i _ hn => hset.2 i hn⟩
  have hrm : ¬ m = r := by
    rintro rfl
    have := h.iter
    rw [h.map] at this
    cases this
  have hjl : j < es.size := by have := (List.getElem?_eq_some_iff.1 hj).1; simpa using this
  refine ⟨j, x, hj, hx, hk, hv, ?_, ?_, ?_, run_entry_at _ r m since seen es clk e hset.1 (hc.at h.map hrm) hem h.born⟩
  · exact { h with
      map := hc.at h.map hrm
      iter := hset.1
      sc := h.sk
      spc := h.spc.chg hc (fun i hi => by rw [hi]; exact h.r_own)
      chg := h.chg.trans hc (fun i hi => .inr (by rw [hi]; exact h.new)) }
  · intro k e' x' hne hk' hx'
    have hkl : k < es.size := by have := (List.getElem?_eq_some_iff.1 hk').1; simpa using this
    rw [hs k e' x' (by omega) hk' hx', contains_push]
    have : (e'.born == e.born) = false := by
      have hne2 : e'.born ≠ e.born := by
        intro hb
        have h3 := h.born
        refine hne ((List.getElem_inj (i := k) (j := j) (h₀ := by simpa using hkl) (h₁ := by simpa using hjl) h3).1 ?_)
        obtain ⟨_, h4⟩ := List.getElem?_eq_some_iff.1 hk'
        obtain ⟨_, h5⟩ := List.getElem?_eq_some_iff.1 hj
        simp only [List.getElem_map, h4, h5, hb]
      simpa using hne2
    rw [this, Bool.or_false]
  · rw [hs j e x (by omega) hj hx, hes]

theorem mem_done (mem : Nat → Int) (t n : Nat) (done : Nat → Bool) (p : Nat) (h : ∀ i, i < 4096 → blank mem t n (p * 4096 + i) = mem (p * 4096 + i)) : memD mem t n (also done p) = memD mem t n done := by
  funext i
  unfold memD also
  by_cases c : i / 4096 = p
  · have e := h (i % 4096) (by omega)
    rw [show p * 4096 + i % 4096 = i by omega] at e
    rw [e]
    split <;> split <;> rfl
  · have : (i / 4096 == p) = false := by simpa using c
    rw [this, Bool.or_false]
theorem also_same (done : Nat → Bool) (p : Nat) : also done p p = true := by unfold also; simp
theorem also_other (done : Nat → Bool) {p q : Nat} (h : q ≠ p) : also done p q = done q := by
  have : (q == p) = false := by simpa using h
  unfold also; rw [this, Bool.or_false]
theorem memD_other (mem : Nat → Int) (t n : Nat) (done : Nat → Bool) {p q i : Nat} (h : q ≠ p) (hi : i < 4096) : memD mem t n (also done p) (q * 4096 + i) = memD mem t n done (q * 4096 + i) := by
  rw [memD_at _ _ _ _ _ _ hi, memD_at _ _ _ _ _ _ hi, also_other done h]
theorem memD_same (mem : Nat → Int) (t n : Nat) (done : Nat → Bool) {p i : Nat} (hi : i < 4096) : memD mem t n (also done p) (p * 4096 + i) = blank mem t n (p * 4096 + i) := by
  rw [memD_at _ _ _ _ _ _ hi, also_same, if_pos rfl]

theorem ZM.fst_ne (h : ZM w0 g m r pg0 s t n pg es clk since c0 seen done w) {i j : Nat} {x y : Nat × Nat} (hi : pg[i]? = some x) (hj : pg[j]? = some y) (hne : i ≠ j) : x.1 ≠ y.1 ∧ x.2 ≠ y.2 := by
  obtain ⟨hi1, hi2⟩ := List.getElem?_eq_some_iff.1 hi
  obtain ⟨hj1, hj2⟩ := List.getElem?_eq_some_iff.1 hj
  constructor
  · intro e
    exact hne ((List.getElem_inj (i := i) (j := j) (h₀ := by simpa using hi1) (h₁ := by simpa using hj1) h.spc.laid.fst).1 (by simp [hi2, hj2, e]))
  · intro e
    exact hne ((List.getElem_inj (i := i) (j := j) (h₀ := by simpa using hi1) (h₁ := by simpa using hj1) h.spc.laid.snd).1 (by simp [hi2, hj2, e]))

/-- The page has nothing to blank, or it was blanked in place. -/
theorem ZM.cleared (h : ZM w0 g m r pg0 s t n pg es clk since c0 seen done w) {j : Nat} (hs : Same es pg seen done j) {e : MapEntry} {x : Nat × Nat} (hj : es.toList[j]? = some e) (hx : pg[j]? = some x) (hb : seen.contains e.born = true)
    (hc : Chg w w' (fun i => i = x.2)) (hp : PageAt w' x.2 x.1 (memD s.mem t n (also done x.1))) (hr : ∀ i, 0 ≤ s.mem i ∧ s.mem i ≤ 255) : ZRel w0 g m r pg0 s t n w' := by
  have hxm : x ∈ pg := List.mem_of_getElem? hx
  have ho : Own g m pg x.2 := .inr (.inr (List.mem_map.2 ⟨x, hxm, rfl⟩))
  have ha := h.spc.apart
  refine ⟨pg, es, clk, since, c0, seen, also done x.1, ?_, ?_⟩
  · exact { h with
      map := hc.at h.map (fun e => ha.2.2 x hxm e.symm)
      iter := hc.at h.iter (fun e => h.r_own (e ▸ ho))
      spc := ⟨hc.at h.spc.head (fun e => ha.2.1 x hxm e.symm), h.spc.laid.wrote hxm hp hc (fun q i hq hi => memD_other _ _ _ _ hq hi) (memD_range hr)⟩
      gone := fun q hq hl i hi => by
        by_cases e : q = x.1
        · subst e; exact memD_same _ _ _ _ hi
        · rw [memD_other _ _ _ _ e hi]; exact h.gone q hq hl i hi
      chg := h.chg.trans hc (fun i hi => .inl (h.own (by rw [hi]; exact ho))) }
  · intro k e' y _ hk hy
    by_cases e : k = j
    · subst e
      rw [hj] at hk; rw [hx] at hy
      injection hk with hk; injection hy with hy
      subst hk hy
      rw [also_same, hb]
    · rw [also_other _ (h.fst_ne hy hx e).1]
      exact hs k e' y e hk hy

/-- The page goes. -/
theorem ZM.erased (h : ZM w0 g m r pg0 s t n pg es clk since c0 seen done w) {j : Nat} (hs : Same es pg seen done j) {e : MapEntry} {x : Nat × Nat} (hj : es.toList[j]? = some e) (hx : pg[j]? = some x)
    (hz : ∀ i, i < 4096 → blank s.mem t n (x.1 * 4096 + i) = 0) (hr : ∀ i, 0 ≤ s.mem i ∧ s.mem i ≤ 255) : ZRel w0 g m r pg0 s t n (setBlock w m (.map (es.eraseIdxIfInBounds j) clk)) := by
  have hxm : x ∈ pg := List.mem_of_getElem? hx
  have ha := h.spc.apart
  have hjl : j < es.toList.length := (List.getElem?_eq_some_iff.1 hj).1
  have hjs : j < es.size := by simpa using hjl
  have hsub : (es.eraseIdxIfInBounds j).toList = es.toList.eraseIdx j := by
    unfold Array.eraseIdxIfInBounds
    rw [dif_pos hjs]
    simp
  have hc : Chg w (setBlock w m (.map (es.eraseIdxIfInBounds j) clk)) (fun i => i = m) := ⟨rfl, rfl, rfl, by simp [setBlock], fun i _ hn => heap_setBlock_other h.map _ hn⟩
  have hpe : ∀ (i : Nat) (y : Nat × Nat), (pg.eraseIdx j)[i]? = some y → ∃ k : Nat, k ≠ j ∧ pg[k]? = some y ∧ ∀ z, (es.toList.eraseIdx j)[i]? = some z → es.toList[k]? = some z := by
    intro i y hi
    rw [List.getElem?_eraseIdx] at hi
    by_cases c : i < j
    · rw [if_pos c] at hi
      exact ⟨i, by omega, hi, fun z hz => by rw [List.getElem?_eraseIdx, if_pos c] at hz; exact hz⟩
    · rw [if_neg c] at hi
      exact ⟨i + 1, by omega, hi, fun z hz => by rw [List.getElem?_eraseIdx, if_neg c] at hz; exact hz⟩
  have hmem : ∀ y ∈ pg.eraseIdx j, y ∈ pg ∧ y.1 ≠ x.1 ∧ y.2 ≠ x.2 := by
    intro y hy
    obtain ⟨i, hi⟩ := List.getElem?_of_mem hy
    obtain ⟨k, hk, hk2, _⟩ := hpe i y hi
    exact ⟨List.mem_of_getElem? hk2, h.fst_ne hk2 hx hk⟩
  have htold : Told (es.eraseIdxIfInBounds j).toList (pg.eraseIdx j) := by
    have := h.told
    unfold Told at *
    rw [hsub, ChangeMaps.map_eraseIdx, ChangeMaps.map_eraseIdx, this]
  have hL := h.spc.laid
  refine ⟨pg.eraseIdx j, es.eraseIdxIfInBounds j, clk, since, c0, seen, also done x.1, ?_, ?_⟩
  · exact { h with
      map := heap_setBlock_same h.map _
      iter := hc.at h.iter (fun e => h.r_own (.inr (.inl e)))
      hold := fun y hy => h.hold y (by rw [hsub] at hy; exact (List.eraseIdx_sublist _ _).subset hy)
      told := htold
      born := by rw [hsub]; exact ((List.eraseIdx_sublist _ _).map _).nodup h.born
      spc := ⟨hc.at h.spc.head ha.1, by
        refine ⟨⟨_, _, heap_setBlock_same h.map _, htold, by rw [hsub]; exact ((List.eraseIdx_sublist _ _).map _).nodup h.born, fun y hy => Nat.lt_of_lt_of_le (h.hold y (by rw [hsub] at hy; exact (List.eraseIdx_sublist _ _).subset hy)) h.sk⟩,
          ((List.eraseIdx_sublist _ _).map _).nodup hL.fst, ((List.eraseIdx_sublist _ _).map _).nodup hL.snd, ?_, ?_, hL.lim, hL.low, memD_range hr⟩
        · intro y hy
          obtain ⟨hy1, hy2, hy3⟩ := hmem y hy
          refine ⟨(hL.page y hy1).1, ?_⟩
          have h2 := hc.at (hL.page y hy1).2 (fun e => ha.2.2 y hy1 e)
          unfold PageAt
          rw [pageCells_congr (mem' := memD s.mem t n done) (fun i hi => memD_other _ _ _ _ hy2 hi)]
          exact h2
        · intro q hq hl i hi
          by_cases e : q = x.1
          · subst e; exact (memD_same s.mem t n done hi).trans (hz i hi)
          · refine (memD_other s.mem t n done e hi).trans ?_
            refine hL.rest q hq ?_ i hi
            refine lookup_none (fun hq2 => ?_)
            obtain ⟨y, hy, rfl⟩ := List.mem_map.1 hq2
            obtain ⟨k, hk⟩ := List.getElem?_of_mem hy
            have hkj : k ≠ j := by
              rintro rfl
              rw [hx] at hk
              injection hk with hk
              exact e (by rw [hk])
            have : y ∈ pg.eraseIdx j := List.mem_eraseIdx_iff_getElem?.2 ⟨k, hkj, hk⟩
            rw [lookup_some (((List.eraseIdx_sublist _ _).map _).nodup hL.fst) (p := y.1) (b := y.2) this] at hl
            cases hl⟩
      sub := fun y hy => h.sub y (hmem y hy).1
      gone := fun q hq hl i hi => by
        by_cases e : q = x.1
        · subst e; exact memD_same _ _ _ _ hi
        · rw [memD_other _ _ _ _ e hi]
          refine h.gone q hq ?_ i hi
          refine lookup_none (fun hq2 => ?_)
          obtain ⟨y, hy, rfl⟩ := List.mem_map.1 hq2
          obtain ⟨k, hk⟩ := List.getElem?_of_mem hy
          have hkj : k ≠ j := by
            rintro rfl
            rw [hx] at hk
            injection hk with hk
            exact e (by rw [hk])
          have : y ∈ pg.eraseIdx j := List.mem_eraseIdx_iff_getElem?.2 ⟨k, hkj, hk⟩
          rw [lookup_some (((List.eraseIdx_sublist _ _).map _).nodup hL.fst) (p := y.1) (b := y.2) this] at hl
          cases hl
      chg := h.chg.trans hc (fun i hi => .inl (.inr (.inl hi))) }
  · intro k e' y _ hk hy
    rw [hsub] at hk
    obtain ⟨k2, hk2, hk3, hk4⟩ := hpe k y hy
    rw [also_other _ (h.fst_ne hk3 hx hk2).1]
    exact hs k2 e' y hk2 (hk4 _ hk) hk3
end

theorem cut_page2 (b i k : Nat) (h1 : i < k) (h2 : k ≤ 4096) (W : World) : (Instr.sliceAt 120 (.pointer (some ⟨b, 0, none⟩)) (some (.int .u64 (i : Int))) (some (.int .u64 (k : Int))) none).run Try.prog W = .ok (.slice (some ⟨b, i, none⟩) (k - i) (4096 - i)) W := by
  have ht : Try.prog.underlying 120 = some (.array (Try.prog.arrayLen 120) (Try.prog.elem 120)) := by kernel_rfl
  have h4 : Try.prog.arrayLen 120 = 4096 := by kernel_rfl
  have hs : (sizeOf (Try.prog.elem 120)).run Try.prog W = .ok 1 W := by kernel_rfl
  rw [run_sliceAt_array_lh W 120 ⟨b, 0, none⟩ ht .u64 .u64 (i : Int) (k : Int) (by omega) (by omega) (by rw [h4]; omega), hs, h4]
  have : ¬ 4096 = i := by omega
  simp only [Result.andThen, slicedAt, this, Addr.add, Int.toNat_natCast]
  by_cases h0 : i = 0
  · subst h0; rfl
  · simp [h0]

theorem page_cleared {p i k : Nat} {mem mem' : Nat → Int} (h1 : i ≤ k) (h2 : k ≤ 4096) (hz : ∀ j, i ≤ j → j < k → mem' (p * 4096 + j) = 0) (ho : ∀ j, j < 4096 → ¬ (i ≤ j ∧ j < k) → mem' (p * 4096 + j) = mem (p * 4096 + j)) :
    (pageCells p mem).take i ++ List.replicate (k - i) (Value.int .u8 0) ++ (pageCells p mem).drop (i + (k - i)) = pageCells p mem' := by
  have l1 : ((pageCells p mem).take i).length = i := by rw [List.length_take, pageCells_length]; omega
  apply List.ext_getElem?
  intro j
  by_cases c1 : j < i
  · rw [List.append_assoc, List.getElem?_append_left (by omega), List.getElem?_take, if_pos c1, pageCells_at (by omega), pageCells_at (by omega), ho j (by omega) (by omega)]
  · rw [List.append_assoc, List.getElem?_append_right (by omega), l1]
    by_cases c2 : j < k
    · rw [List.getElem?_append_left (by rw [List.length_replicate]; omega), List.getElem?_replicate, if_pos (by omega), pageCells_at (by omega), hz j (by omega) c2]
    · rw [List.getElem?_append_right (by rw [List.length_replicate]; omega), List.length_replicate, List.getElem?_drop, show i + (k - i) + (j - i - (k - i)) = j by omega]
      by_cases c3 : j < 4096
      · rw [pageCells_at c3, pageCells_at c3, ho j c3 (by omega)]
      · rw [pageCells_none (by omega), pageCells_none (by omega)]

theorem run_page_clear {w : World} {b p i k : Nat} {mem mem' : Nat → Int} (hp : PageAt w b p mem) (h1 : i < k) (h2 : k ≤ 4096) (hz : ∀ j, i ≤ j → j < k → mem' (p * 4096 + j) = 0) (ho : ∀ j, j < 4096 → ¬ (i ≤ j ∧ j < k) → mem' (p * 4096 + j) = mem (p * 4096 + j)) (ty : TypeId) :
    (Builtin.clear_ #[32] ty #[.slice (some ⟨b, i, none⟩) (k - i) (4096 - i)]).run Try.prog w = .ok (.tuple #[]) (w.setRow b (pageCells p mem').toArray) := by
  have hu : Try.prog.underlying 32 = some (.slice 5) := by kernel_rfl
  have hz8 : (zeroValue 5).run Try.prog w = .ok (.int .u8 0) w := by kernel_rfl
  have h0 : k - i ≠ 0 := by omega
  have hst := run_storeCells_at (P := Try.prog) b i 120 (List.replicate (k - i) (Value.int .u8 0)) 0 (pageCells p mem).toArray w hp (by rw [List.length_replicate, List.size_toArray, pageCells_length]; omega) (by intro v hv; rw [(List.mem_replicate.1 hv).2]; rfl)
  rw [List.length_replicate, Nat.add_zero, toArray_list, page_cleared (by omega) h2 hz ho] at hst
  have hzc : (Builtin.zeroCells (Value.int IntKind.u8 0).cells (k - i)).toList = List.replicate (k - i) (Value.int .u8 0) := by
    apply List.ext_getElem?
    intro j
    simp [Builtin.zeroCells, Value.cells, Nat.mod_one]
    rcases Nat.lt_or_ge j (k - i) with h | h
    · simp [h]
    · simp [h]
  generalize w.setRow b (pageCells p mem').toArray = R at *
  generalize 4096 - i = c at *
  clear hp h1 h2 hz ho
  generalize k - i = q at *
  have hcl : (Builtin.clear_ #[32] ty #[.slice (some ⟨b, i, none⟩) q c]).run Try.prog w = ((storeCells ⟨b, i, none⟩ (Builtin.zeroCells (Value.int IntKind.u8 0).cells q).toList 0).run Try.prog w).andThen fun _ w' => .ok (.tuple #[]) w' := by
    obtain ⟨q', rfl⟩ : ∃ q', q = q' + 1 := ⟨q - 1, by omega⟩
    simp [Builtin.clear_, run_underlying hu, hz8, Result.andThen]
  rw [hcl, hzc, hst]
  rfl

theorem run_map_drop {w : World} {m clk j : Nat} {es : Array MapEntry} {pg : List (Nat × Nat)} {x : Nat × Nat} (hm : w.heap[m]? = some (.map es clk)) (h : Told es.toList pg) (hlt : ∀ x ∈ pg, x.1 < 4294967296) (hn : (pg.map Prod.fst).Nodup) (hx : pg[j]? = some x) (ty : TypeId) :
    (Builtin.delete_ #[105, 116] ty #[.map (some m), keyV x.1]).run Try.prog w = .ok (.tuple #[]) (setBlock w m (.map (es.eraseIdxIfInBounds j) clk)) := by
  have h1 : Try.prog.underlying 105 = some (.map 116 117) := by kernel_rfl
  obtain ⟨l, hkl⟩ := key_lit x.1
  have hxm := List.mem_of_getElem? hx
  have hx1 := hlt x hxm
  have hc := law.check w es.isEmpty hkl
  rcases find_key w h hlt hn hx1 with ⟨g1, _⟩ | ⟨i, b, hi, _, g2⟩
  · rw [lookup_some hn (p := x.1) (b := x.2) hxm] at g1; cases g1
  · have hij : i = j := by
      obtain ⟨hi1, hi2⟩ := List.getElem?_eq_some_iff.1 hi
      obtain ⟨hj1, hj2⟩ := List.getElem?_eq_some_iff.1 hx
      exact (List.getElem_inj (i := i) (j := j) (h₀ := by simpa using hi1) (h₁ := by simpa using hj1) hn).1 (by simp [hi2, hj2])
    subst hij
    simp [Builtin.delete_, run_underlying h1, MapKept.run_getObj_map hm, hc, g2, MapKept.run_setObj_map _ hm, Result.andThen, setBlock]

theorem left_erased (es : Array MapEntry) (seen : Array Nat) (j : Nat) (hj : j < es.size) : (leftOf (es.eraseIdxIfInBounds j) seen).size ≤ (leftOf es seen).size := by
  have e1 : ∀ a : Array MapEntry, (leftOf a seen).size = (a.toList.filter fun e => !seen.contains e.born).length := fun a => by
    unfold leftOf
    rw [← Array.toList_filter, Array.length_toList]
  have hsub : (es.eraseIdxIfInBounds j).toList = es.toList.eraseIdx j := by
    unfold Array.eraseIdxIfInBounds
    rw [dif_pos hj]
    simp
  rw [e1, e1, hsub]
  exact ((List.eraseIdx_sublist _ _).filter _).length_le
theorem page_clear_chg {w : World} {b : Nat} {cs : Array Value} : Chg w (w.setRow b cs) (fun i => i = b) := ⟨rfl, rfl, rfl, by simp [World.setRow], fun i hi hn => by
    simp only [World.setRow, Array.getElem?_modify]
    rw [if_neg (fun e => hn e.symm)]⟩
end Go.Proofs.Ytfdhjeeaigfmfaa.Sp
