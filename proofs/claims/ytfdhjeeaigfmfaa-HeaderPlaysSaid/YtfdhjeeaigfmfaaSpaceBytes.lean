/- A row of bytes out of a text; a store into a row of bytes beside a space. -/
import Derived.Test.YtfdhjeeaigfmfaaSpaceSeen
import Derived.Laws.IdiomStrings
namespace Go.Proofs.Ytfdhjeeaigfmfaa.Sp
open Go.RowKit Go.WideMaps Go.Proofs.Ytfdhjeeaigfmfaa.In
set_option linter.unusedVariables false

/-- The cells that '[]byte(s)' lays. -/
theorem bytes_cells (l : List Int) (hv : ∀ v ∈ l, 0 ≤ v ∧ v ≤ 255) (c : Nat) : bytesRow (strOfNums l) c = ((l ++ List.replicate (c - l.length) 0).map (Value.int .u8)).toArray := by
  unfold bytesRow
  rw [strOfNums_size, List.map_append, List.map_replicate]
  apply Array.toList_inj.1
  simp only [Array.toList_append, Array.toList_map, Array.toList_replicate]
  congr 1
  show (strOfNums l).data.toList.map _ = _
  rw [strOfNums_data, List.map_map]
  refine List.map_congr_left fun v h => ?_
  have := hv v h
  show Value.int .u8 ((UInt8.ofNat v.toNat).toNat : Int) = Value.int .u8 v
  congr 1
  rw [UInt8.toNat_ofNat']
  omega
/-- '[]byte(s)'. -/
theorem conv_text (W : World) (l : List Int) (hv : ∀ v ∈ l, 0 ≤ v ∧ v ≤ 255) : ∃ (c : Nat) (T : List Int) (C : Array Value) (fr : Nat × Nat), l.length ≤ c ∧ C = ((l ++ T).map (Value.int .u8)).toArray ∧ (l.length ≤ fr.1) ∧
    (convert 9 32 (.string (strOfNums l))).run Try.prog W = .ok (.slice (some ⟨W.heap.size, 0, none⟩) l.length c) (W.drew.alloc (.cells C 5 fr)) := by
  have h := run_bytes_of_string (P := Try.prog) W 9 32 5 (strOfNums l) (by kernel_rfl) (by kernel_rfl) (by kernel_rfl)
  have hge := grownCap_ge W (strOfNums l).size 0 5
  generalize grownCap W (strOfNums l).size 0 5 = c at h hge
  rw [strOfNums_size] at h hge
  refine ⟨c, List.replicate (c - l.length) 0, _, _, hge, bytes_cells l hv c, ?_, h⟩
  rw [bytes_cells l hv c]
  simp
/-- A store into a row of bytes, beside a space. -/
theorem St.row_set {w0 W : World} {g : Nat} {s : SpS} {r j : Nat} {l : List Int} {v : Value} (hs : St w0 W g s) (hr : Row W r l) (h0 : w0.heap.size ≤ r) : St w0 (W.setCell ⟨r, j, none⟩ v) g s := by
  obtain ⟨m, pg, h1, h2, h3⟩ := hs
  obtain ⟨fr, hr⟩ := hr
  have hc : Chg W (W.setCell ⟨r, j, none⟩ v) (fun k => k = r) := (Chg.refl W (fun k => k = r)).set (p := ⟨r, j, none⟩) (.inl rfl) v
  exact ⟨m, pg, h1.chg hc (fun i hi ho => by subst hi; exact h1.not_row hr (by decide) (by decide) ho), h2, hc.below h3 h3.size (fun i hi => by rw [hi]; exact h0)⟩
theorem Row.other_set {W : World} {r r2 j : Nat} {l : List Int} {v : Value} (hr : Row W r2 l) (h : r2 ≠ r) : Row (W.setCell ⟨r, j, none⟩ v) r2 l := by
  obtain ⟨fr, hr⟩ := hr
  exact ⟨fr, ((Chg.refl W (fun k => k = r)).set (p := ⟨r, j, none⟩) (.inl rfl) v).at hr h⟩

/-- A load, and that its row bears no mark. -/
theorem St.loadF {w0 W : World} {g : Nat} {s : SpS} (hs : St w0 W g s) (t n : Int) (t0 : 0 ≤ t) (n0 : 0 ≤ n) (h : t + n ≤ (s.pages : Int) * 4096) (hm : n ≤ 1048576) :
    Calls Try.prog 20 #[.pointer (some ⟨g, 0, none⟩), .int .u64 t, .int .u64 n] W fun e w' => ∃ r : Nat, e = .returned (.tuple #[.slice (some ⟨r, 0, none⟩) n.toNat n.toNat, .int .i64 0]) ∧ W.heap.size ≤ r ∧ Row w' r (seen s.mem t.toNat n.toNat) ∧ St w0 w' g (tick s (touchedI t n)) ∧ KpT W w' ∧ ∀ j, w'.frozen? ⟨r, j, none⟩ = false := by
  obtain ⟨m, pg, h1, h2, h3⟩ := hs
  have H := Load_ok t.toNat n.toNat W h1 (by omega) (by omega)
  rw [Int.toNat_of_nonneg t0, Int.toNat_of_nonneg n0] at H
  refine H.mono ?_
  rintro e w' ⟨r, he, hr, hrow, hs', hc⟩
  have hu := St.upd h1 h2 h3 (w' := w') (s' := tick s (touchedI t n)) ⟨pg, hs', fun x hx => .inl hx, hc.mono (fun i hi => .inl hi)⟩
  refine ⟨r, he, hr, ?_, hu.1, hu.2, fun j => ?_⟩
  · unfold RowAt at hrow
    rw [seen_row] at hrow
    exact ⟨_, hrow⟩
  · unfold RowAt at hrow
    unfold World.frozen?
    rw [hrow]
    simp
theorem St.clone {w0 W : World} {g : Nat} {s : SpS} (hs : St w0 W g s) :
    Calls Try.prog 32 #[.pointer (some ⟨g, 0, none⟩)] W fun e w' => ∃ gc : Nat, e = .returned (.pointer (some ⟨gc, 0, none⟩)) ∧ W.heap.size ≤ gc ∧ St W w' gc ⟨s.pages, s.mem, 0⟩ ∧ Below W.heap.size W w' := by
  obtain ⟨m, pg, h1, h2, h3⟩ := hs
  refine (Clone_any W h1).mono ?_
  rintro e w' ⟨mc, pgc, he, hm, hp, hs', hb⟩
  refine ⟨mc + 1, he, by omega, ⟨mc, pgc, hs', ?_, hb⟩, hb⟩
  rintro i (rfl | rfl | hi)
  · omega
  · exact hm
  · obtain ⟨x, hx, rfl⟩ := List.mem_map.1 hi
    exact hp x hx
theorem Row.lt {W : World} {r : Nat} {l : List Int} (h : Row W r l) : r < W.heap.size := by
  obtain ⟨fr, h⟩ := h
  exact (Array.getElem?_eq_some_iff.1 h).1
end Go.Proofs.Ytfdhjeeaigfmfaa.Sp
