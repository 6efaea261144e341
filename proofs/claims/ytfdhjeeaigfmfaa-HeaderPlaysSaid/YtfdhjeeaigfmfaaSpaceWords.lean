/- What a space's memory holds, said in words of its own: its head, its map, its pages; and what a call leaves unchanged. -/
import Derived.Test.YtfdhjeeaigfmfaaSpaceSmall
import Derived.Deep.RegionWith
import Derived.Deep.RegionHeld3
import Derived.Deep.DeepCutAuto
import Derived.Laws.CopyRow
import Derived.Laws.CopyOwn
import Derived.Laws.MakeOwn
import Derived.Maps.RangeRun
namespace Go.Proofs.Ytfdhjeeaigfmfaa.Sp
open Go.RowKit Go.WideMaps
set_option linter.unusedVariables false

/-- All blocks but those of S are as they were. -/
structure Chg (w w' : World) (S : Nat → Prop) : Prop where
  os : w'.os = w.os
  tape : w'.tape = w.tape
  output : w'.output = w.output
  size : w.heap.size ≤ w'.heap.size
  block : ∀ i, i < w.heap.size → ¬ S i → w'.heap[i]? = w.heap[i]?

theorem Chg.refl (w : World) (S : Nat → Prop) : Chg w w S := ⟨rfl, rfl, rfl, Nat.le_refl _, fun _ _ _ => rfl⟩
theorem Chg.trans {a b c : World} {S S2 : Nat → Prop} (h : Chg a b S) (k : Chg b c S2) (hs : ∀ i, S2 i → S i ∨ a.heap.size ≤ i) : Chg a c S :=
  ⟨k.os.trans h.os, k.tape.trans h.tape, k.output.trans h.output, Nat.le_trans h.size k.size, fun i hi hn => (k.block i (Nat.lt_of_lt_of_le hi h.size) (fun h2 => by
    rcases hs i h2 with h3 | h3
    · exact hn h3
    · omega)).trans (h.block i hi hn)⟩
theorem Chg.mono {a b : World} {S S2 : Nat → Prop} (h : Chg a b S) (hs : ∀ i, S i → S2 i) : Chg a b S2 := ⟨h.os, h.tape, h.output, h.size, fun i hi hn => h.block i hi (fun h2 => hn (hs i h2))⟩
theorem Chg.alloc {a b : World} {S : Nat → Prop} (h : Chg a b S) (o : Obj) : Chg a (b.alloc o) S :=
  h.trans (S2 := fun _ => False) ⟨rfl, rfl, rfl, by simp, fun k hk _ => Below.heap_alloc _ _ _ hk⟩ (fun _ h => h.elim)
theorem Chg.drew {a b : World} {S : Nat → Prop} (h : Chg a b S) : Chg a b.drew S := ⟨h.os, h.tape, h.output, h.size, h.block⟩
theorem Chg.drewN {a b : World} {S : Nat → Prop} (h : Chg a b S) (n : Nat) : Chg a (b.drewN n) S := ⟨h.os, h.tape, h.output, h.size, h.block⟩
theorem Chg.set {a b : World} {S : Nat → Prop} (h : Chg a b S) {p : Addr} (hp : S p.block ∨ a.heap.size ≤ p.block) (u : Value) : Chg a (b.setCell p u) S :=
  h.trans (S2 := fun k => k = p.block) ⟨rfl, rfl, rfl, by simp [World.setCell], fun k hk hn => Below.heap_setCell _ _ _ _ hn⟩ (fun i hi => by rw [hi]; exact hp)
theorem Chg.of_below {a b : World} {S : Nat → Prop} (h : Below a.heap.size a b) : Chg a b S := ⟨h.os, h.tape, h.output, h.size, fun i hi _ => h.block i hi⟩
theorem Chg.of_grown {a b : World} {r : Option Nat} (h : a.grownBy b r) : Chg a b (fun i => some i = r) := ⟨h.os, h.tape, h.output, h.size, fun i hi hn => h.block i hi hn⟩
theorem Chg.then_below {a b c : World} {S : Nat → Prop} (h : Chg a b S) (k : Below b.heap.size b c) : Chg a c S := h.trans (S2 := fun _ => False) (Chg.of_below k) (fun _ h => h.elim)
theorem Chg.below {w0 a b : World} {S : Nat → Prop} {B : Nat} (h : Chg a b S) (hb : Below B w0 a) (hB : B ≤ a.heap.size) (hs : ∀ i, S i → B ≤ i) : Below B w0 b :=
  hb.trans ⟨h.os, h.tape, h.output, h.size, fun i hi => h.block i (Nat.lt_of_lt_of_le hi hB) (fun h2 => by have := hs i h2; omega)⟩
theorem Chg.only_new {a b : World} {S : Nat → Prop} (h : Chg a b S) (hs : ∀ i, S i → a.heap.size ≤ i) : Below a.heap.size a b := h.below (Below.refl _ _) (Nat.le_refl _) hs
theorem Chg.cell {a b : World} {S : Nat → Prop} (h : Chg a b S) {p : Addr} {v : Value} (hc : a.cell? p = some v) (hn : ¬ S p.block) : b.cell? p = some v := by
  have := h.block p.block (World.block_lt_of_cell? a p hc) hn
  simpa [World.cell?, this] using hc
theorem Chg.at {a b : World} {S : Nat → Prop} (h : Chg a b S) {i : Nat} {o : Obj} (hc : a.heap[i]? = some o) (hn : ¬ S i) : b.heap[i]? = some o :=
  (h.block i (Array.getElem?_eq_some_iff.1 hc).1 hn).trans hc

theorem al_new {w : World} {o : Obj} {i : Nat} (h : i = w.heap.size) : (w.alloc o).heap[i]? = some o := by subst h; exact (MapKept.heap_alloc w o).1
theorem al_old {w : World} {o x : Obj} {i : Nat} (h : w.heap[i]? = some x) : (w.alloc o).heap[i]? = some x := ((MapKept.heap_alloc w o).2 i (Array.getElem?_eq_some_iff.1 h).1).trans h
theorem cell_one {w : World} {b t : Nat} {v : Value} {fr : Nat × Nat} (h : w.heap[b]? = some (.cells #[v] t fr)) : w.cell? ⟨b, 0, none⟩ = some v := by simp [World.cell?, h]

/-! ### bytes -/
/-- The bytes l, laid from t on. -/
def lay (mem : Nat → Int) (t : Nat) (l : List Int) : Nat → Int := fun i => if t ≤ i ∧ i < t + l.length then l.getD (i - t) 0 else mem i
/-- So many noughts, from t on. -/
def blank (mem : Nat → Int) (t n : Nat) : Nat → Int := fun i => if t ≤ i ∧ i < t + n then 0 else mem i
/-- What stands from t on. -/
def seen (mem : Nat → Int) (t n : Nat) : List Int := (List.range n).map fun i => mem (t + i)
theorem seen_length (mem : Nat → Int) (t n : Nat) : (seen mem t n).length = n := by simp [seen]
theorem seen_getD (mem : Nat → Int) (t n i : Nat) (h : i < n) : (seen mem t n).getD i 0 = mem (t + i) := by simp [seen, List.getD_eq_getElem?_getD, h]
theorem lay_nil (mem : Nat → Int) (t : Nat) : lay mem t [] = mem := by funext i; unfold lay; rw [if_neg (by simp only [List.length_nil]; omega)]
theorem lay_lay (mem : Nat → Int) (t : Nat) (l k : List Int) : lay (lay mem t l) (t + l.length) k = lay mem t (l ++ k) := by
  funext i
  unfold lay
  by_cases h1 : t + l.length ≤ i ∧ i < t + l.length + k.length
  · rw [if_pos h1, if_pos (by rw [List.length_append]; omega), List.getD_eq_getElem?_getD, List.getD_eq_getElem?_getD, List.getElem?_append_right (by omega), Nat.sub_add_eq]
  · rw [if_neg h1]
    by_cases h2 : t ≤ i ∧ i < t + l.length
    · rw [if_pos h2, if_pos (by rw [List.length_append]; omega), List.getD_eq_getElem?_getD, List.getD_eq_getElem?_getD, List.getElem?_append_left (by omega)]
    · rw [if_neg h2, if_neg (by rw [List.length_append]; omega)]

def pageCells (p : Nat) (mem : Nat → Int) : List Value := (List.range 4096).map fun i => Value.int .u8 (mem (p * 4096 + i))
theorem pageCells_length (p : Nat) (mem : Nat → Int) : (pageCells p mem).length = 4096 := by unfold pageCells; simp
theorem pageCells_at {p i : Nat} {mem : Nat → Int} (h : i < 4096) : (pageCells p mem)[i]? = some (.int .u8 (mem (p * 4096 + i))) := by unfold pageCells; simp [h]
theorem pageCells_none {p i : Nat} {mem : Nat → Int} (h : 4096 ≤ i) : (pageCells p mem)[i]? = none := List.getElem?_eq_none (by rw [pageCells_length]; exact h)
theorem pageCells_congr {p : Nat} {mem mem' : Nat → Int} (h : ∀ i, i < 4096 → mem (p * 4096 + i) = mem' (p * 4096 + i)) : pageCells p mem = pageCells p mem' := by
  unfold pageCells
  exact List.map_congr_left fun i hi => by rw [h i (List.mem_range.1 hi)]

/-- A page's block. -/
def PageAt (w : World) (b p : Nat) (mem : Nat → Int) : Prop := w.heap[b]? = some (.cells (pageCells p mem).toArray 120 (0, 0))
theorem PageAt.cell {w : World} {b p i : Nat} {mem : Nat → Int} (h : PageAt w b p mem) (hi : i < 4096) : w.cell? ⟨b, i, none⟩ = some (.int .u8 (mem (p * 4096 + i))) := by
  unfold PageAt at h
  have := pageCells_at (p := p) (mem := mem) hi
  simp [World.cell?, h, this]

/-- A space, as it is told: how many pages, its bytes, what ticked. -/
structure SpS where
  pages : Nat
  mem : Nat → Int
  ticks : Int

/-- What a space's map and pages hold. -/
structure Laid (w : World) (m : Nat) (pg : List (Nat × Nat)) (mem : Nat → Int) (pages : Nat) : Prop where
  map : ∃ es clk, w.heap[m]? = some (.map es clk) ∧ Told es.toList pg ∧ (es.toList.map (·.born)).Nodup ∧ ∀ e ∈ es.toList, e.born < clk
  fst : (pg.map Prod.fst).Nodup
  snd : (pg.map Prod.snd).Nodup
  page : ∀ x ∈ pg, x.1 < pages ∧ PageAt w x.2 x.1 mem
  rest : ∀ p, p < pages → pg.lookup p = none → ∀ i, i < 4096 → mem (p * 4096 + i) = 0
  lim : pages ≤ 1048576
  low : 1 ≤ pages
  range : ∀ i, 0 ≤ mem i ∧ mem i ≤ 255

/-- A space whose head is block g, whose map is block m, whose pages are pg. -/
structure Spc (w : World) (g m : Nat) (pg : List (Nat × Nat)) (s : SpS) : Prop where
  head : Head w g s.pages m s.ticks
  laid : Laid w m pg s.mem s.pages

/-- The blocks that a call may turn. -/
def Own (g m : Nat) (pg : List (Nat × Nat)) (i : Nat) : Prop := i = g ∨ i = m ∨ i ∈ pg.map Prod.snd

theorem Laid.lt {w : World} {m pages : Nat} {pg : List (Nat × Nat)} {mem : Nat → Int} (h : Laid w m pg mem pages) : ∀ x ∈ pg, x.1 < 4294967296 := fun x hx => by have := (h.page x hx).1; have := h.lim; omega
theorem Laid.look {w : World} {m pages : Nat} {pg : List (Nat × Nat)} {mem : Nat → Int} (h : Laid w m pg mem pages) {p : Nat} (hp : p < 4294967296) :
    (Instr.lookup 105 (.map (some m)) (keyV p) false).run Try.prog w = .ok (ptrOf (pg.lookup p)) w := by
  obtain ⟨es, clk, hm, ht, _⟩ := h.map
  exact run_look hm ht h.lt h.fst hp
theorem Laid.mlt {w : World} {m pages : Nat} {pg : List (Nat × Nat)} {mem : Nat → Int} (h : Laid w m pg mem pages) : m < w.heap.size := by
  obtain ⟨es, clk, hm, _⟩ := h.map
  exact (Array.getElem?_eq_some_iff.1 hm).1
theorem Laid.plt {w : World} {m pages : Nat} {pg : List (Nat × Nat)} {mem : Nat → Int} (h : Laid w m pg mem pages) {x : Nat × Nat} (hx : x ∈ pg) : x.2 < w.heap.size := (Array.getElem?_eq_some_iff.1 (h.page x hx).2).1
theorem Laid.chg {w w' : World} {m pages : Nat} {pg : List (Nat × Nat)} {mem : Nat → Int} {S : Nat → Prop} (h : Laid w m pg mem pages) (hc : Chg w w' S) (hm : ¬ S m) (hp : ∀ x ∈ pg, ¬ S x.2) : Laid w' m pg mem pages where
  map := by
    obtain ⟨es, clk, h1, h2⟩ := h.map
    exact ⟨es, clk, hc.at h1 hm, h2⟩
  fst := h.fst
  snd := h.snd
  page x hx := ⟨(h.page x hx).1, hc.at (h.page x hx).2 (hp x hx)⟩
  rest := h.rest
  lim := h.lim
  low := h.low
  range := h.range
theorem Head.glt {w : World} {g pages m : Nat} {ticks : Int} (h : Head w g pages m ticks) : g < w.heap.size := (Array.getElem?_eq_some_iff.1 h).1
theorem Spc.chg {w w' : World} {g m : Nat} {pg : List (Nat × Nat)} {s : SpS} {S : Nat → Prop} (h : Spc w g m pg s) (hc : Chg w w' S) (hs : ∀ i, S i → ¬ Own g m pg i) : Spc w' g m pg s where
  head := hc.at h.head (fun h2 => hs _ h2 (.inl rfl))
  laid := h.laid.chg hc (fun h2 => hs _ h2 (.inr (.inl rfl))) (fun x hx h2 => hs _ h2 (.inr (.inr (List.mem_map.2 ⟨x, hx, rfl⟩))))
theorem Spc.lt {w : World} {g m : Nat} {pg : List (Nat × Nat)} {s : SpS} (h : Spc w g m pg s) {i : Nat} (hi : Own g m pg i) : i < w.heap.size := by
  rcases hi with rfl | rfl | hi
  · exact h.head.glt
  · exact h.laid.mlt
  · obtain ⟨x, hx, rfl⟩ := List.mem_map.1 hi
    exact h.laid.plt hx
theorem Spc.below {w w' : World} {g m : Nat} {pg : List (Nat × Nat)} {s : SpS} (h : Spc w g m pg s) (hb : Below w.heap.size w w') : Spc w' g m pg s := h.chg (S := fun _ => False) (Chg.of_below hb) (fun _ h => h.elim)
/-- A block of another kind is none of a space's. -/
theorem Spc.not_row {w : World} {g m i : Nat} {pg : List (Nat × Nat)} {s : SpS} (h : Spc w g m pg s) {cs : Array Value} {t : Nat} {fr : Nat × Nat} (hb : w.heap[i]? = some (.cells cs t fr)) (h1 : t ≠ 107) (h2 : t ≠ 120) : ¬ Own g m pg i := by
  rintro (rfl | rfl | hi)
  · have := h.head
    unfold Head at this
    rw [hb] at this
    injection this with this
    injection this with _ ht
    exact h1 ht
  · obtain ⟨es, clk, hm, _⟩ := h.laid.map
    rw [hb] at hm
    cases hm
  · obtain ⟨x, hx, rfl⟩ := List.mem_map.1 hi
    have := (h.laid.page x hx).2
    unfold PageAt at this
    rw [hb] at this
    injection this with this
    injection this with _ ht
    exact h2 ht
theorem Spc.apart {w : World} {g m : Nat} {pg : List (Nat × Nat)} {s : SpS} (h : Spc w g m pg s) : g ≠ m ∧ (∀ x ∈ pg, x.2 ≠ g) ∧ ∀ x ∈ pg, x.2 ≠ m := by
  have hh := h.head
  unfold Head at hh
  obtain ⟨es, clk, hm, _⟩ := h.laid.map
  refine ⟨?_, fun x hx => ?_, fun x hx => ?_⟩
  · rintro rfl
    rw [hh] at hm
    cases hm
  · rintro rfl
    have := (h.laid.page x hx).2
    unfold PageAt at this
    rw [hh] at this
    injection this with this
    injection this with _ ht
    exact absurd ht (by decide)
  · rintro rfl
    have := (h.laid.page x hx).2
    unfold PageAt at this
    rw [hm] at this
    cases this

end Go.Proofs.Ytfdhjeeaigfmfaa.Sp
