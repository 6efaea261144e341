/- What Store and Copy tell of a space, and what they leave. -/
import Derived.Test.YtfdhjeeaigfmfaaSpaceStore
namespace Go.Proofs.Ytfdhjeeaigfmfaa.Sp
open Go.RowKit Go.WideMaps
set_option linter.unusedVariables false

/-- What is handed to be stored. -/
def Src (w : World) (g m : Nat) (pg : List (Nat × Nat)) (Ao : Option Addr) (l : List Int) : Prop :=
  (0 < l.length → ∃ A, Ao = some A ∧ BytesAt w A l ∧ ¬ Own g m pg A.block) ∧ ∀ v ∈ l, 0 ≤ v ∧ v ≤ 255
theorem Src.chg {w w' : World} {g m : Nat} {pg : List (Nat × Nat)} {Ao : Option Addr} {l : List Int} {S : Nat → Prop} (h : Src w g m pg Ao l) (hc : Chg w w' S) (hS : ∀ j, S j → Own g m pg j) : Src w' g m pg Ao l :=
  ⟨fun h0 => by
    obtain ⟨A, rfl, hb, hA⟩ := h.1 h0
    refine ⟨A, rfl, fun j hj => hc.cell (hb j hj) (fun h2 => hA ?_), hA⟩
    have : (A.add j).block = A.block := by unfold Addr.add; split <;> rfl
    rw [this] at h2
    exact hS _ h2, h.2⟩

set_option maxRecDepth 100000 in
set_option maxHeartbeats 2000000 in
theorem sstore_any {g m : Nat} {pg : List (Nat × Nat)} {s : SpS} (t c : Nat) (Ao : Option Addr) (l : List Int) (w : World) (hs : Spc w g m pg s) (hr : Src w g m pg Ao l) (hnc : l.length ≤ c) (hn : t + l.length ≤ s.pages * 4096) :
    Calls Try.prog 63 #[.pointer (some ⟨g, 0, none⟩), .int .u64 (t : Int), .slice Ao l.length c] w fun e w' => e = .returned (.tuple #[]) ∧
      ∃ pg', Spc w' g m pg' { s with mem := lay s.mem t l } ∧ (∀ x ∈ pg', x ∈ pg ∨ w.heap.size ≤ x.2) ∧ Chg w w' (fun j => j = m ∨ j ∈ pg.map Prod.snd) := by
  have hlim := hs.laid.lim
  have hW : Chg w ((w.alloc (.cells #[.pointer (some ⟨g, 0, none⟩)] 25)).alloc (.cells #[.slice Ao l.length c] 32)) (fun _ => False) := ((Chg.refl w _).alloc _).alloc _
  have hs1 := hs.chg hW (fun _ h => h.elim)
  have HC := Lib.hid (each_store g m w.heap.size (w.heap.size + 1) l.length c Ao l pg s t _ hs1 (cell_one (al_old (al_new rfl))) (cell_one (al_new (by simp))) (fun h => Nat.lt_irrefl _ (hs.lt h)) (fun h => by have := hs.lt h; omega)
    (hr.chg hW (fun _ h => h.elim)).1 rfl hnc hr.2 hn)
  have HW := Lib.hid hW
  have hlb : (l.length : Int) ≤ 4294967296 := by omega
  clear hW hs hs1 hr
  go_enter Try.func63, Try.ntmps63
  go_wp2_with (go_at_call 85; refine HC.out.mono ?_; rintro e w' ⟨rfl, hH⟩)
  go_end0
  obtain ⟨pg', h1, h2, h3⟩ := hH
  refine ⟨rfl, pg', h1, fun x hx => ?_, (HW.out.mono (S2 := fun j => j = m ∨ j ∈ pg.map Prod.snd) (fun _ h => h.elim)).trans h3 (fun j hj => .inl hj)⟩
  rcases h2 x hx with h | h
  · exact .inl h
  · exact .inr (Nat.le_trans HW.out.size h)

set_option maxRecDepth 100000 in
set_option maxHeartbeats 2000000 in
theorem Store_ok {g m : Nat} {pg : List (Nat × Nat)} {s : SpS} (t c : Nat) (Ao : Option Addr) (l : List Int) (w : World) (hs : Spc w g m pg s) (hr : Src w g m pg Ao l) (hnc : l.length ≤ c) (hn : t + l.length ≤ s.pages * 4096) (hm : l.length ≤ 1048576) :
    Calls Try.prog 22 #[.pointer (some ⟨g, 0, none⟩), .int .u64 (t : Int), .slice Ao l.length c] w fun e w' => e = .returned (.int .i64 0) ∧
      ∃ pg', Spc w' g m pg' { s with mem := lay s.mem t l, ticks := wrap64 (s.ticks + touchedI t l.length) } ∧ (∀ x ∈ pg', x ∈ pg ∨ w.heap.size ≤ x.2) ∧ Chg w w' (Own g m pg) := by
  have hlim := hs.laid.lim
  have HF := fits_any (t : Int) (l.length : Int) 1048576 w hs.head hs.laid.lim (by omega) (by omega)
  rw [fitsI_ok (by omega) (by omega)] at HF
  have HF1 := Lib.hid HF
  have HT := Lib.hid (fun W => touched_any (t : Int) (l.length : Int) W (by omega) (by omega) (by omega))
  have h2 := hs.head.c2
  have f2 := hs.head.f2
  have HQ := Lib.hid (hs.ticked_drew (wrap64 (s.ticks + touchedI t l.length)))
  have HL := Lib.hid (sstore_any t c Ao l _ HQ.out.1 (hr.chg HQ.out.2 (fun j hj => .inl hj)) hnc hn)
  have hlb : (l.length : Int) ≤ 1048576 := by omega
  clear HF hs hr
  generalize hl : l.length = n at *
  have HLn := Lib.hid hl
  clear hl
  have hwn : IntKind.u64.wrap (n : Int) = (n : Int) := by rw [IntKind.wrap_u64]; omega
  go_enter Try.func22, Try.ntmps22
  go_wp2_with (go_at_call 59; (with_reducible refine HF1.out.mono ?_); rintro e w' ⟨rfl, rfl⟩)
  go_region_with (go_at_call 60; (with_reducible refine (HT.out _).mono ?_); rintro e w' ⟨rfl, rfl⟩)
  all_goals
    go_wp2_with (go_at_call 63; (with_reducible refine HL.out.mono ?_); rintro e w' ⟨rfl, hH⟩)
    go_ret
    obtain ⟨pg', k1, k2, k3⟩ := hH
    exact ⟨rfl, pg', k1, fun x hx => (k2 x hx).imp_right (fun h => Nat.le_trans HQ.out.2.size h), (HQ.out.2.mono (S2 := Own g m pg) (fun j hj => .inl hj)).trans k3 (fun j hj => .inl (.inr hj))⟩

theorem Store_err {g m : Nat} {pg : List (Nat × Nat)} {s : SpS} (t k : Int) (n c : Nat) (Ao : Option Addr) (w : World) (hs : Spc w g m pg s) (t0 : 0 ≤ t) (hn : n ≤ 9223372036854775807) (hf : fitsI ((s.pages : Int) * 4096) t n 1048576 = k) (hk : k ≠ 0) :
    Calls Try.prog 22 #[.pointer (some ⟨g, 0, none⟩), .int .u64 t, .slice Ao n c] w fun e w' => e = .returned (.int .i64 k) ∧ w = w' := by
  have HF := fits_any t (n : Int) 1048576 w hs.head hs.laid.lim t0 (by omega)
  rw [hf] at HF
  have HF1 := Lib.hid HF
  have hc1 : (k == 0) = false := by simpa using hk
  have hc2 : (k != 0) = true := by simpa using hk
  have hlb : (n : Int) ≤ 9223372036854775807 := by omega
  clear HF hs hf
  go_enter Try.func22, Try.ntmps22
  go_wp2_with (go_at_call 59; refine HF1.out.mono ?_; rintro e w' ⟨rfl, rfl⟩)
  go_ret
  exact ⟨rfl, rfl⟩

theorem Store_nil (t : Int) (n c : Nat) (Ao : Option Addr) (w : World) (hn : n ≤ 9223372036854775807) : Calls Try.prog 22 #[.pointer none, .int .u64 t, .slice Ao n c] w fun e w' => e = .returned (.int .i64 3) ∧ w = w' := by
  have hlb : (n : Int) ≤ 9223372036854775807 := by omega
  go_enter Try.func22, Try.ntmps22
  go_wp2_with (go_at_call 59; refine (fits_nil _ _ _ _).mono ?_; rintro e w' ⟨rfl, rfl⟩)
  go_ret
  exact ⟨rfl, rfl⟩

theorem seen_row (n t : Nat) (mem : Nat → Int) : rowCells n n t mem = (seen mem t n).map (Value.int .u8) := by
  unfold rowCells seen
  rw [List.map_map]
  exact List.map_congr_left fun i hi => by rw [if_pos (List.mem_range.1 hi)]; rfl
theorem RowAt.bytes {w : World} {r n t : Nat} {mem : Nat → Int} (h : RowAt w r (rowCells n n t mem)) : BytesAt w ⟨r, 0, none⟩ (seen mem t n) := by
  intro j hj
  rw [seen_length] at hj
  unfold RowAt at h
  have e : (⟨r, 0, none⟩ : Addr).add j = ⟨r, j, none⟩ := by rw [Addr.add_lit, Nat.zero_add]
  rw [e, seen_getD _ _ _ _ hj]
  simp [World.cell?, h, rowCells_at hj, hj]
theorem seen_range {mem : Nat → Int} (h : ∀ i, 0 ≤ mem i ∧ mem i ≤ 255) (t n : Nat) : ∀ v ∈ seen mem t n, 0 ≤ v ∧ v ≤ 255 := by
  intro v hv
  unfold seen at hv
  obtain ⟨i, _, rfl⟩ := List.mem_map.1 hv
  exact h _

/-- A new row may be stored. -/
theorem src_new {w' : World} {g m r n t : Nat} {pg : List (Nat × Nat)} {s s' : SpS} (hs : Spc w' g m pg s) (h : RowAt w' r (rowCells n n t s'.mem)) (hm : ∀ i, 0 ≤ s'.mem i ∧ s'.mem i ≤ 255) : Src w' g m pg (some ⟨r, 0, none⟩) (seen s'.mem t n) :=
  ⟨fun _ => ⟨_, rfl, h.bytes, hs.not_row h (by decide) (by decide)⟩, seen_range hm t n⟩

end Go.Proofs.Ytfdhjeeaigfmfaa.Sp
