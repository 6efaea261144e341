/- A page's number as a key of a map, and what a look-up in such a map tells. -/
import Derived.Test.YtfdhjeeaigfmfaaProg
import Derived.WalkKit
import Derived.WalkSpells
import Derived.WalkLawsBesides
import Derived.KernelRfl
import Derived.Below
import Derived.Lib.Hide
import Derived.WideKeyArr
import Derived.Maps.Keyed
namespace Go.Proofs.Ytfdhjeeaigfmfaa.Sp
open Go.RowKit Go.WideMaps
set_option linter.unusedVariables false

theorem arr : ArrKey Try.prog 116 53 2 := ⟨by kernel_rfl, by kernel_rfl, by kernel_rfl, by kernel_rfl⟩
theorem law : KeyLaw Try.prog 116 := arr.law

/-- a page's number, as a key -/
def keyV (p : Nat) : Value := .agg #[.int .u16 ((p / 65536 % 65536 : Nat) : Int), .int .u16 ((p % 65536 : Nat) : Int)]

theorem keyV_inj {p q : Nat} (hp : p < 4294967296) (hq : q < 4294967296) (h : keyV p = keyV q) : p = q := by
  unfold keyV at h
  injection h with h
  have h1 := congrArg (fun a : Array Value => a[0]?) h
  have h2 := congrArg (fun a : Array Value => a[1]?) h
  simp at h1 h2
  omega

theorem key_lit (p : Nat) : ∃ l, keyOf Try.prog 116 (keyV p) = some l := by
  have h1 : Try.prog.underlying 116 = some (.array 2 53) := by kernel_rfl
  have h2 : Try.prog.underlying 53 = some (.int .u16) := by kernel_rfl
  have h3 : Try.prog.keyType 116 = true := by kernel_rfl
  have h4 : Try.prog.cellsOf 116 = 2 := by kernel_rfl
  have h5 : Try.prog.cellsOf 53 = 1 := by kernel_rfl
  obtain ⟨m, hm⟩ : ∃ m, Try.prog.types.size + 1 = m + 1 + 1 := ⟨Try.prog.types.size - 1, by have : 0 < Try.prog.types.size := of_decide_eq_true (by kernel_rfl); omega⟩
  have wa : (Lit.int .u16 ((p / 65536 % 65536 : Nat) : Int)).wf = true := by simp [Lit.wf, IntKind.min, IntKind.max, IntKind.signed, IntKind.bits]; omega
  have wb : (Lit.int .u16 ((p % 65536 : Nat) : Int)).wf = true := by simp [Lit.wf, IntKind.min, IntKind.max, IntKind.signed, IntKind.bits]; omega
  unfold keyOf keyV
  rw [h1]
  generalize ((p / 65536 % 65536 : Nat) : Int) = a at *
  generalize ((p % 65536 : Nat) : Int) = b at *
  have hl : Try.prog.keyLits (m + 1 + 1) 116 [.int .u16 a, .int .u16 b] = some [.int .u16 a, .int .u16 b] := by
    have ea : Try.prog.keyLits (m + 1) 53 [.int .u16 a] = some [.int .u16 a] := by
      simp only [Program.keyLits, h2]
      rw [if_pos ⟨trivial, wa⟩]
    have eb : Try.prog.keyLits (m + 1) 53 [.int .u16 b] = some [.int .u16 b] := by
      simp only [Program.keyLits, h2]
      rw [if_pos ⟨trivial, wb⟩]
    have step : Try.prog.keyLits (m + 1 + 1) 116 [.int .u16 a, .int .u16 b] = if [Value.int IntKind.u16 a, Value.int IntKind.u16 b].length = Try.prog.cellsOf 116 then ((List.range 2).mapM fun i => Try.prog.keyLits (m + 1) 53 (([Value.int IntKind.u16 a, Value.int IntKind.u16 b].drop (i * Try.prog.cellsOf 53)).take (Try.prog.cellsOf 53))).map List.flatten else none := by
      conv => lhs; unfold Program.keyLits
      rw [h1]
    rw [step, h4, h5, if_pos (show [Value.int IntKind.u16 a, Value.int IntKind.u16 b].length = 2 from rfl)]
    show (([0, 1] : List Nat).mapM fun i => Try.prog.keyLits (m + 1) 53 (List.take 1 (List.drop (i * 1) [Value.int .u16 a, Value.int .u16 b]))).map List.flatten = _
    simp [ea, eb]
  rw [hm]
  simp [h3, Value.formed, h1, h4, Value.cells, hl]

theorem keyV_ne {p q : Nat} (hp : p < 4294967296) (hq : q < 4294967296) (h : p ≠ q) : keyV p ≠ keyV q := fun e => h (keyV_inj hp hq e)

/-- the map's entries tell these pages, each with its block -/
def Told (es : List MapEntry) (pg : List (Nat × Nat)) : Prop := es.map (fun e => (e.key, e.val)) = pg.map (fun x => (keyV x.1, Value.pointer (some ⟨x.2, 0, none⟩)))

theorem Told.key {es : List MapEntry} {pg : List (Nat × Nat)} (h : Told es pg) {e : MapEntry} (he : e ∈ es) : ∃ x ∈ pg, e.key = keyV x.1 ∧ e.val = .pointer (some ⟨x.2, 0, none⟩) := by
  have : (e.key, e.val) ∈ es.map (fun e => (e.key, e.val)) := List.mem_map.2 ⟨e, he, rfl⟩
  rw [h] at this
  obtain ⟨x, hx, hxe⟩ := List.mem_map.1 this
  injection hxe with h1 h2
  exact ⟨x, hx, h1.symm, h2.symm⟩
theorem Told.at {es : List MapEntry} {pg : List (Nat × Nat)} (h : Told es pg) {j : Nat} {e : MapEntry} (he : es[j]? = some e) : ∃ x, pg[j]? = some x ∧ e.key = keyV x.1 ∧ e.val = .pointer (some ⟨x.2, 0, none⟩) := by
  have h1 : (es.map (fun e => (e.key, e.val)))[j]? = some (e.key, e.val) := by simp [he]
  rw [h, List.getElem?_map] at h1
  cases hp : pg[j]? with
  | none => rw [hp] at h1; cases h1
  | some x =>
    rw [hp] at h1
    simp at h1
    exact ⟨x, rfl, h1.1.symm, h1.2.symm⟩

/-- the block of a page, if there is one -/
def blk (pg : List (Nat × Nat)) (p : Nat) : Option Nat := pg.lookup p

theorem lookup_some {pg : List (Nat × Nat)} (hn : (pg.map Prod.fst).Nodup) {p b : Nat} (h : (p, b) ∈ pg) : pg.lookup p = some b := by
  induction pg with
  | nil => cases h
  | cons x pg ih =>
    obtain ⟨q, c⟩ := x
    rw [List.map_cons, List.nodup_cons] at hn
    rw [List.lookup_cons]
    rcases List.mem_cons.1 h with h | hmem
    · injection h with h1 h2
      subst h1 h2
      simp
    · have : p ≠ q := by
        rintro rfl
        exact hn.1 (List.mem_map.2 ⟨_, hmem, rfl⟩)
      have : (p == q) = false := by simpa using this
      rw [this]
      exact ih hn.2 hmem
theorem lookup_none {pg : List (Nat × Nat)} {p : Nat} (h : p ∉ pg.map Prod.fst) : pg.lookup p = none := by
  induction pg with
  | nil => rfl
  | cons x pg ih =>
    obtain ⟨q, c⟩ := x
    rw [List.map_cons, List.mem_cons, not_or] at h
    rw [List.lookup_cons]
    have : (p == q) = false := by simpa using h.1
    rw [this]
    exact ih h.2
theorem mem_of_lookup {pg : List (Nat × Nat)} {p b : Nat} (h : pg.lookup p = some b) : (p, b) ∈ pg := by
  induction pg with
  | nil => cases h
  | cons x pg ih =>
    obtain ⟨q, c⟩ := x
    rw [List.lookup_cons] at h
    by_cases e : p = q
    · subst e
      simp at h
      subst h
      exact List.mem_cons_self
    · have : (p == q) = false := by simpa using e
      rw [this] at h
      exact List.mem_cons_of_mem _ (ih h)

theorem find_key (w : World) {es : List MapEntry} {pg : List (Nat × Nat)} (h : Told es pg) (hlt : ∀ x ∈ pg, x.1 < 4294967296) (hn : (pg.map Prod.fst).Nodup) {p : Nat} (hp : p < 4294967296) :
    (pg.lookup p = none ∧ (Instr.findKey 116 (keyV p) es).run Try.prog w = .ok none w) ∨
    ∃ j b, pg[j]? = some (p, b) ∧ pg.lookup p = some b ∧ (Instr.findKey 116 (keyV p) es).run Try.prog w = .ok (some (j, .pointer (some ⟨b, 0, none⟩))) w := by
  obtain ⟨l, hl⟩ := key_lit p
  have hall : ∀ e ∈ es, ∃ l, keyOf Try.prog 116 e.key = some l := by
    intro e he
    obtain ⟨x, _, hk, _⟩ := h.key he
    rw [hk]
    exact key_lit x.1
  rcases law.find w hl es hall with ⟨h1, h2⟩ | ⟨j, e, h1, h2, h3⟩
  · refine .inl ⟨lookup_none ?_, h1⟩
    intro hm
    obtain ⟨x, hx, hxp⟩ := List.mem_map.1 hm
    have : (keyV x.1, Value.pointer (some ⟨x.2, 0, none⟩)) ∈ pg.map (fun x => (keyV x.1, Value.pointer (some ⟨x.2, 0, none⟩))) := List.mem_map.2 ⟨x, hx, rfl⟩
    rw [← h] at this
    obtain ⟨e, he, hee⟩ := List.mem_map.1 this
    injection hee with he1 _
    exact h2 e he (by rw [he1, hxp])
  · obtain ⟨x, hx, hk, hv⟩ := h.at h2
    have hxm : x ∈ pg := List.mem_of_getElem? hx
    have hxp : x.1 = p := keyV_inj (hlt x hxm) hp (by rw [← hk, h3])
    obtain ⟨q, b⟩ := x
    subst hxp
    exact .inr ⟨j, b, hx, lookup_some hn hxm, by rw [h1, hv]⟩

def ptrOf (o : Option Nat) : Value := match o with | some b => .pointer (some ⟨b, 0, none⟩) | none => .pointer none

theorem run_look {w : World} {m clk : Nat} {es : Array MapEntry} {pg : List (Nat × Nat)} (hm : w.heap[m]? = some (.map es clk)) (h : Told es.toList pg) (hlt : ∀ x ∈ pg, x.1 < 4294967296) (hn : (pg.map Prod.fst).Nodup) {p : Nat} (hp : p < 4294967296) :
    (Instr.lookup 105 (.map (some m)) (keyV p) false).run Try.prog w = .ok (ptrOf (pg.lookup p)) w := by
  have h1 : Try.prog.underlying 105 = some (.map 116 117) := by kernel_rfl
  have hz : (zeroValue 117).run Try.prog w = .ok (.pointer none) w := by kernel_rfl
  obtain ⟨l, hl⟩ := key_lit p
  have hc := law.check w es.isEmpty hl
  rcases find_key w h hlt hn hp with ⟨g1, g2⟩ | ⟨j, b, _, g1, g2⟩
  · rw [g1]
    simp [Instr.lookup, run_underlying h1, MapKept.run_getObj_map hm, hc, g2, hz, Result.andThen, ptrOf]
  · rw [g1]
    simp [Instr.lookup, run_underlying h1, MapKept.run_getObj_map hm, hc, g2, Result.andThen, ptrOf]

end Go.Proofs.Ytfdhjeeaigfmfaa.Sp
