/- A space as one thing: what each method does to it, and what it leaves of all else. -/
import Derived.Test.YtfdhjeeaigfmfaaSpaceClones
namespace Go.Proofs.Ytfdhjeeaigfmfaa.Sp
open Go.RowKit Go.WideMaps
set_option linter.unusedVariables false

/-- Blocks of other kinds are as they were. -/
def KpT (W w' : World) : Prop := W.heap.size ≤ w'.heap.size ∧ ∀ (i : Nat) (cs : Array Value) (t : TypeId) (fr : Nat × Nat), W.heap[i]? = some (.cells cs t fr) → t ≠ 107 → t ≠ 120 → w'.heap[i]? = some (.cells cs t fr)
theorem KpT.refl (W : World) : KpT W W := ⟨Nat.le_refl _, fun _ _ _ _ h _ _ => h⟩
theorem KpT.trans {a b c : World} (h : KpT a b) (k : KpT b c) : KpT a c := ⟨Nat.le_trans h.1 k.1, fun i cs t fr h1 h2 h3 => k.2 i cs t fr (h.2 i cs t fr h1 h2 h3) h2 h3⟩
theorem KpT.of_below {a b : World} (h : Below a.heap.size a b) : KpT a b := ⟨h.size, fun i cs t fr h1 _ _ => (h.block i (Array.getElem?_eq_some_iff.1 h1).1).trans h1⟩
theorem KpT.al {a b : World} (h : KpT a b) (o : Obj) : KpT a (b.alloc o) := h.trans (KpT.of_below ((Below.refl _ _).alloc (Nat.le_refl _) _))
theorem KpT.dr {a b : World} (h : KpT a b) : KpT a b.drew := h
theorem KpT.dn {a b : World} (h : KpT a b) (n : Nat) : KpT a (b.drewN n) := h

/-- What one of a space's methods does. -/
def Upd (W w' : World) (g m : Nat) (pg : List (Nat × Nat)) (s' : SpS) : Prop := ∃ pg', Spc w' g m pg' s' ∧ (∀ x ∈ pg', x ∈ pg ∨ W.heap.size ≤ x.2) ∧ Chg W w' (Own g m pg)
theorem Upd.kp {W w' : World} {g m : Nat} {pg : List (Nat × Nat)} {s s' : SpS} (h : Upd W w' g m pg s') (hs : Spc W g m pg s) : KpT W w' := by
  obtain ⟨pg', _, _, hc⟩ := h
  exact ⟨hc.size, fun i cs t fr h1 h2 h3 => hc.at h1 (hs.not_row h1 h2 h3)⟩

/-- A space that was made since w0, all of whose blocks are new since. -/
def St (w0 W : World) (g : Nat) (s : SpS) : Prop := ∃ m pg, Spc W g m pg s ∧ (∀ i, Own g m pg i → w0.heap.size ≤ i) ∧ Below w0.heap.size w0 W
theorem St.upd {w0 W w' : World} {g m : Nat} {pg : List (Nat × Nat)} {s s' : SpS} (hs : Spc W g m pg s) (hn : ∀ i, Own g m pg i → w0.heap.size ≤ i) (hb : Below w0.heap.size w0 W) (h : Upd W w' g m pg s') : St w0 w' g s' ∧ KpT W w' := by
  have hk := h.kp hs
  obtain ⟨pg', h1, h2, hc⟩ := h
  refine ⟨⟨m, pg', h1, ?_, hc.below hb hb.size hn⟩, hk⟩
  rintro i (rfl | rfl | hi)
  · exact hn _ (.inl rfl)
  · exact hn _ (.inr (.inl rfl))
  · obtain ⟨x, hx, rfl⟩ := List.mem_map.1 hi
    rcases h2 x hx with h3 | h3
    · exact hn _ (.inr (.inr (List.mem_map.2 ⟨x, h3, rfl⟩)))
    · exact Nat.le_trans hb.size h3
theorem St.below {w0 W : World} {g : Nat} {s : SpS} (h : St w0 W g s) : Below w0.heap.size w0 W := by obtain ⟨m, pg, _, _, hb⟩ := h; exact hb
theorem St.step {w0 W w' : World} {g : Nat} {s : SpS} (h : St w0 W g s) (hb : Below W.heap.size W w') : St w0 w' g s := by
  obtain ⟨m, pg, h1, h2, h3⟩ := h
  exact ⟨m, pg, h1.below hb, h2, h3.trans (hb.mono h3.size)⟩
theorem St.al {w0 W : World} {g : Nat} {s : SpS} (h : St w0 W g s) (o : Obj) : St w0 (W.alloc o) g s := h.step ((Below.refl _ _).alloc (Nat.le_refl _) _)
theorem St.dr {w0 W : World} {g : Nat} {s : SpS} (h : St w0 W g s) : St w0 W.drew g s := h.step ((Below.refl _ _).drew)
theorem St.dn {w0 W : World} {g : Nat} {s : SpS} (h : St w0 W g s) (n : Nat) : St w0 (W.drewN n) g s := h.step ⟨rfl, rfl, rfl, Nat.le_refl _, fun _ _ => rfl⟩
theorem St.pages {w0 W : World} {g : Nat} {s : SpS} (h : St w0 W g s) : 1 ≤ s.pages ∧ s.pages ≤ 1048576 := by obtain ⟨m, pg, h1, _⟩ := h; exact ⟨h1.laid.low, h1.laid.lim⟩
theorem St.range {w0 W : World} {g : Nat} {s : SpS} (h : St w0 W g s) : ∀ i, 0 ≤ s.mem i ∧ s.mem i ≤ 255 := by obtain ⟨m, pg, h1, _⟩ := h; exact h1.laid.range

/-! ### rows of bytes -/
/-- A row of bytes in a block of its own. -/
def Row (w : World) (r : Nat) (l : List Int) : Prop := ∃ fr, w.heap[r]? = some (.cells (l.map (Value.int .u8)).toArray 5 fr)
theorem Row.kp {W w' : World} {r : Nat} {l : List Int} (h : Row W r l) (hk : KpT W w') : Row w' r l := by
  obtain ⟨fr, h⟩ := h
  exact ⟨fr, hk.2 r _ _ _ h (by decide) (by decide)⟩
theorem Row.al {W : World} {r : Nat} {l : List Int} (h : Row W r l) (o : Obj) : Row (W.alloc o) r l := h.kp ((KpT.refl _).al _)
theorem Row.dr {W : World} {r : Nat} {l : List Int} (h : Row W r l) : Row W.drew r l := h
theorem Row.dn {W : World} {r : Nat} {l : List Int} (h : Row W r l) (n : Nat) : Row (W.drewN n) r l := h
theorem Row.cell {W : World} {r : Nat} {l : List Int} (h : Row W r l) {j : Nat} (hj : j < l.length) : W.cell? ⟨r, j, none⟩ = some (.int .u8 (l.getD j 0)) := by
  obtain ⟨fr, h⟩ := h
  simp [World.cell?, h, List.getD_eq_getElem?_getD, List.getElem?_eq_getElem hj]
theorem Row.lit (W : World) (l : List Int) (fr : Nat × Nat) : Row (W.alloc (.cells (l.map (Value.int .u8)).toArray 5 fr)) W.heap.size l := ⟨fr, al_new rfl⟩
theorem Row.cells {W : World} {r : Nat} {l : List Int} (h : Row W r l) (n o : Nat) (ho : o + n ≤ l.length) : BytesAt W ⟨r, o, none⟩ ((l.drop o).take n) := by
  intro j hj
  rw [List.length_take, List.length_drop] at hj
  have e : (⟨r, o, none⟩ : Addr).add j = ⟨r, o + j, none⟩ := by rw [Addr.add_lit]
  rw [e, h.cell (by omega)]
  simp only [List.getD_eq_getElem?_getD]
  rw [List.getElem?_take, if_pos (by omega), List.getElem?_drop]

/-- What may be stored: bytes that came in, or lie in a row of their own. -/
def SrcW (w0 W : World) (Ao : Option Addr) (l : List Int) : Prop :=
  (0 < l.length → ∃ A, Ao = some A ∧ BytesAt W A l ∧ (A.block < w0.heap.size ∨ ∃ cs t fr, W.heap[A.block]? = some (.cells cs t fr) ∧ t ≠ 107 ∧ t ≠ 120)) ∧ ∀ v ∈ l, 0 ≤ v ∧ v ≤ 255
theorem SrcW.src {w0 W : World} {Ao : Option Addr} {l : List Int} {g m : Nat} {pg : List (Nat × Nat)} {s : SpS} (h : SrcW w0 W Ao l) (hs : Spc W g m pg s) (hn : ∀ i, Own g m pg i → w0.heap.size ≤ i) : Src W g m pg Ao l :=
  ⟨fun h0 => by
    obtain ⟨A, rfl, hb, hA⟩ := h.1 h0
    refine ⟨A, rfl, hb, fun ho => ?_⟩
    rcases hA with hA | ⟨cs, t, fr, h1, h2, h3⟩
    · have := hn _ ho; omega
    · exact hs.not_row h1 h2 h3 ho, h.2⟩
theorem Row.srcW {w0 W : World} {r : Nat} {l : List Int} (h : Row W r l) (hv : ∀ v ∈ l, 0 ≤ v ∧ v ≤ 255) : SrcW w0 W (some ⟨r, 0, none⟩) l :=
  ⟨fun h0 => ⟨_, rfl, by have := h.cells l.length 0 (by omega); simpa using this, .inr (by obtain ⟨fr, h⟩ := h; exact ⟨_, _, _, h, by decide, by decide⟩)⟩, hv⟩
theorem SrcW.step {w0 W w' : World} {Ao : Option Addr} {l : List Int} (h : SrcW w0 W Ao l) (hb : Below W.heap.size W w') : SrcW w0 w' Ao l :=
  ⟨fun h0 => by
    obtain ⟨A, rfl, hA, hx⟩ := h.1 h0
    refine ⟨A, rfl, fun j hj => (Chg.of_below (S := fun _ => False) hb).cell (hA j hj) (fun h => h), ?_⟩
    rcases hx with hx | ⟨cs, t, fr, h1, h2, h3⟩
    · exact .inl hx
    · exact .inr ⟨cs, t, fr, (hb.block _ (Array.getElem?_eq_some_iff.1 h1).1).trans h1, h2, h3⟩, h.2⟩

/-! ### the methods -/
def tick (s : SpS) (k : Int) : SpS := { s with ticks := wrap64 (s.ticks + k) }

theorem St.new (n : Int) {w0 w : World} (hb : Below w0.heap.size w0 w) : Calls Try.prog 17 #[.int .i64 n] w fun e w' => ∃ g : Nat, e = .returned (.pointer (some ⟨g, 0, none⟩)) ∧ w.heap.size ≤ g ∧ St w0 w' g (newS n) ∧ Below w.heap.size w w' := by
  refine (New_any n w).mono ?_
  rintro e w' ⟨m, he, hm, hs, hb2⟩
  refine ⟨m + 1, he, by omega, ⟨m, [], hs, ?_, hb.trans (hb2.mono hb.size)⟩, hb2⟩
  have := hb.size
  rintro i (rfl | rfl | hi)
  · omega
  · omega
  · cases hi

theorem St.pages_ {w0 W : World} {g : Nat} {s : SpS} (hs : St w0 W g s) : Calls Try.prog 30 #[.pointer (some ⟨g, 0, none⟩)] W fun e w' => e = .returned (.int .i64 (s.pages : Int)) ∧ W = w' := by
  obtain ⟨m, pg, h1, _⟩ := hs
  exact pages_any W h1.head
theorem St.size_ {w0 W : World} {g : Nat} {s : SpS} (hs : St w0 W g s) : Calls Try.prog 31 #[.pointer (some ⟨g, 0, none⟩)] W fun e w' => e = .returned (.int .u64 ((s.pages : Int) * 4096)) ∧ W = w' := by
  obtain ⟨m, pg, h1, _⟩ := hs
  exact size_any W h1.head h1.laid.lim
theorem St.ticks_ {w0 W : World} {g : Nat} {s : SpS} (hs : St w0 W g s) : Calls Try.prog 27 #[.pointer (some ⟨g, 0, none⟩)] W fun e w' => e = .returned (.int .i64 s.ticks) ∧ W = w' := by
  obtain ⟨m, pg, h1, _⟩ := hs
  exact Ticks_any W h1

theorem St.size_v {w0 W : World} {g : Nat} {s : SpS} (hs : St w0 W g s) (k : Int) (hk : (s.pages : Int) * 4096 = k) : Calls Try.prog 31 #[.pointer (some ⟨g, 0, none⟩)] W fun e w' => e = .returned (.int .u64 k) ∧ W = w' := hk ▸ hs.size_
theorem St.ticks_v {w0 W : World} {g : Nat} {s : SpS} (hs : St w0 W g s) (k : Int) (hk : s.ticks = k) : Calls Try.prog 27 #[.pointer (some ⟨g, 0, none⟩)] W fun e w' => e = .returned (.int .i64 k) ∧ W = w' := hk ▸ hs.ticks_

theorem St.load {w0 W : World} {g : Nat} {s : SpS} (hs : St w0 W g s) (t n : Int) (t0 : 0 ≤ t) (n0 : 0 ≤ n) (h : t + n ≤ (s.pages : Int) * 4096) (hm : n ≤ 1048576) :
    Calls Try.prog 20 #[.pointer (some ⟨g, 0, none⟩), .int .u64 t, .int .u64 n] W fun e w' => ∃ r : Nat, e = .returned (.tuple #[.slice (some ⟨r, 0, none⟩) n.toNat n.toNat, .int .i64 0]) ∧ W.heap.size ≤ r ∧ Row w' r (seen s.mem t.toNat n.toNat) ∧ St w0 w' g (tick s (touchedI t n)) ∧ KpT W w' := by
  obtain ⟨m, pg, h1, h2, h3⟩ := hs
  have H := Load_ok t.toNat n.toNat W h1 (by omega) (by omega)
  rw [Int.toNat_of_nonneg t0, Int.toNat_of_nonneg n0] at H
  refine H.mono ?_
  rintro e w' ⟨r, he, hr, hrow, hs', hc⟩
  have hu := St.upd h1 h2 h3 (w' := w') (s' := tick s (touchedI t n)) ⟨pg, hs', fun x hx => .inl hx, hc.mono (fun i hi => .inl hi)⟩
  refine ⟨r, he, hr, ?_, hu.1, hu.2⟩
  unfold RowAt at hrow
  rw [seen_row] at hrow
  exact ⟨_, hrow⟩
theorem St.load_err {w0 W : World} {g : Nat} {s : SpS} (hs : St w0 W g s) (t n c : Int) (t0 : 0 ≤ t) (n0 : 0 ≤ n) (hf : fitsI ((s.pages : Int) * 4096) t n 1048576 = c) (hc : c ≠ 0) :
    Calls Try.prog 20 #[.pointer (some ⟨g, 0, none⟩), .int .u64 t, .int .u64 n] W fun e w' => e = .returned (.tuple #[.slice none 0 0, .int .i64 c]) ∧ W = w' := by
  obtain ⟨m, pg, h1, h2, h3⟩ := hs
  exact Load_err t n c W h1 t0 n0 hf hc

theorem St.store {w0 W : World} {g : Nat} {s : SpS} (hs : St w0 W g s) (t : Int) (Ao : Option Addr) (n c : Nat) (l : List Int) (hl : l.length = n) (hnc : n ≤ c) (hr : SrcW w0 W Ao l) (t0 : 0 ≤ t) (h : t + n ≤ (s.pages : Int) * 4096) (hm : n ≤ 1048576) :
    Calls Try.prog 22 #[.pointer (some ⟨g, 0, none⟩), .int .u64 t, .slice Ao n c] W fun e w' => e = .returned (.int .i64 0) ∧ St w0 w' g (tick { s with mem := lay s.mem t.toNat l } (touchedI t n)) ∧ KpT W w' := by
  subst hl
  obtain ⟨m, pg, h1, h2, h3⟩ := hs
  have H := Store_ok t.toNat c Ao l W h1 (hr.src h1 h2) hnc (by omega) hm
  rw [Int.toNat_of_nonneg t0] at H
  refine H.mono ?_
  rintro e w' ⟨he, hu⟩
  exact ⟨he, St.upd h1 h2 h3 hu⟩
theorem St.store_err {w0 W : World} {g : Nat} {s : SpS} (hs : St w0 W g s) (t k : Int) (Ao : Option Addr) (n c : Nat) (t0 : 0 ≤ t) (hn : n ≤ 9223372036854775807) (hf : fitsI ((s.pages : Int) * 4096) t n 1048576 = k) (hk : k ≠ 0) :
    Calls Try.prog 22 #[.pointer (some ⟨g, 0, none⟩), .int .u64 t, .slice Ao n c] W fun e w' => e = .returned (.int .i64 k) ∧ W = w' := by
  obtain ⟨m, pg, h1, h2, h3⟩ := hs
  exact Store_err t k n c Ao W h1 t0 hn hf hk

theorem St.zero {w0 W : World} {g : Nat} {s : SpS} (hs : St w0 W g s) (t n : Int) (t0 : 0 ≤ t) (n0 : 0 ≤ n) (h : t + n ≤ (s.pages : Int) * 4096) :
    Calls Try.prog 24 #[.pointer (some ⟨g, 0, none⟩), .int .u64 t, .int .u64 n] W fun e w' => e = .returned (.int .i64 0) ∧ St w0 w' g (tick { s with mem := blank s.mem t.toNat n.toNat } (touchedI t n)) ∧ KpT W w' := by
  obtain ⟨m, pg, h1, h2, h3⟩ := hs
  have H := Zero_ok t.toNat n.toNat W h1 (by omega)
  rw [Int.toNat_of_nonneg t0, Int.toNat_of_nonneg n0] at H
  refine H.mono ?_
  rintro e w' ⟨he, pg', k1, k2, k3⟩
  exact ⟨he, St.upd h1 h2 h3 ⟨pg', k1, fun x hx => .inl (k2 x hx), k3⟩⟩
theorem St.zero_err {w0 W : World} {g : Nat} {s : SpS} (hs : St w0 W g s) (t n k : Int) (t0 : 0 ≤ t) (n0 : 0 ≤ n) (hf : fitsI ((s.pages : Int) * 4096) t n n = k) (hk : k ≠ 0) :
    Calls Try.prog 24 #[.pointer (some ⟨g, 0, none⟩), .int .u64 t, .int .u64 n] W fun e w' => e = .returned (.int .i64 k) ∧ W = w' := by
  obtain ⟨m, pg, h1, h2, h3⟩ := hs
  exact Zero_err t n k W h1 t0 n0 hf hk

theorem St.copy {w0 W : World} {g : Nat} {s : SpS} (hs : St w0 W g s) (t f n : Int) (t0 : 0 ≤ t) (f0 : 0 ≤ f) (n0 : 0 ≤ n) (h : t + n ≤ (s.pages : Int) * 4096) (hf : f + n ≤ (s.pages : Int) * 4096) (hm : n ≤ 1048576) :
    Calls Try.prog 26 #[.pointer (some ⟨g, 0, none⟩), .int .u64 t, .int .u64 f, .int .u64 n] W fun e w' => e = .returned (.int .i64 0) ∧ St w0 w' g (tick { s with mem := lay s.mem t.toNat (seen s.mem f.toNat n.toNat) } (wrap64 (touchedI t n + touchedI f n))) ∧ KpT W w' := by
  obtain ⟨m, pg, h1, h2, h3⟩ := hs
  have H := Copy_ok t.toNat f.toNat n.toNat W h1 (by omega) (by omega) (by omega)
  rw [Int.toNat_of_nonneg t0, Int.toNat_of_nonneg n0, Int.toNat_of_nonneg f0] at H
  refine H.mono ?_
  rintro e w' ⟨he, hu⟩
  exact ⟨he, St.upd h1 h2 h3 hu⟩
theorem St.copy_err1 {w0 W : World} {g : Nat} {s : SpS} (hs : St w0 W g s) (t f n k : Int) (t0 : 0 ≤ t) (n0 : 0 ≤ n) (hf : fitsI ((s.pages : Int) * 4096) t n n = k) (hk : k ≠ 0) :
    Calls Try.prog 26 #[.pointer (some ⟨g, 0, none⟩), .int .u64 t, .int .u64 f, .int .u64 n] W fun e w' => e = .returned (.int .i64 k) ∧ W = w' := by
  obtain ⟨m, pg, h1, h2, h3⟩ := hs
  exact Copy_err1 t f n k W h1 t0 n0 hf hk
theorem St.copy_err2 {w0 W : World} {g : Nat} {s : SpS} (hs : St w0 W g s) (t f n k : Int) (t0 : 0 ≤ t) (f0 : 0 ≤ f) (n0 : 0 ≤ n) (h0 : fitsI ((s.pages : Int) * 4096) t n n = 0) (hf : fitsI ((s.pages : Int) * 4096) f n 1048576 = k) (hk : k ≠ 0) :
    Calls Try.prog 26 #[.pointer (some ⟨g, 0, none⟩), .int .u64 t, .int .u64 f, .int .u64 n] W fun e w' => e = .returned (.int .i64 k) ∧ W = w' := by
  obtain ⟨m, pg, h1, h2, h3⟩ := hs
  exact Copy_err2 t f n k W h1 t0 f0 n0 h0 hf hk


theorem Row.string {W : World} {r : Nat} {l : List Int} (h : Row W r l) (o n c : Nat) (ho : o + n ≤ l.length) : (convert 32 9 (.slice (some ⟨r, o, none⟩) n c)).run Try.prog W = .ok (.string (strOfNums ((l.drop o).take n))) W := by
  refine run_convert_bytes_arg W 32 5 (by kernel_rfl) (by kernel_rfl) r o n c _ (by rw [List.length_take, List.length_drop]; omega) (fun i hi => ?_) 9 (by kernel_rfl)
  have := h.cells n o ho i (by rw [List.length_take, List.length_drop]; omega)
  rwa [Addr.add_lit] at this
theorem Row.string0 {W : World} {r : Nat} {l : List Int} (h : Row W r l) (n c : Nat) (hn : l.length = n) : (convert 32 9 (.slice (some ⟨r, 0, none⟩) n c)).run Try.prog W = .ok (.string (strOfNums l)) W := by
  have := h.string 0 n c (by omega)
  rw [List.drop_zero, List.take_of_length_le (by omega)] at this
  exact this
end Go.Proofs.Ytfdhjeeaigfmfaa.Sp
