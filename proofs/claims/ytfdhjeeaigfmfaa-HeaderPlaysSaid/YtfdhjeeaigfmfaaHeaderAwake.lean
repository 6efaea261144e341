/- The document's examples of headers. -/
import Derived.Test.YtfdhjeeaigfmfaaHeaderOps
namespace Go.Proofs.Ytfdhjeeaigfmfaa.Sp
open Go.RowKit Go.WideMaps Go.Proofs.Ytfdhjeeaigfmfaa.In Go.Proofs.Ytfdhjeeaigfmfaa.Plain
set_option linter.unusedVariables false
set_option linter.unusedSimpArgs false

/-- A header at a page, as it is known. -/
def HdAt (s : SpS) (n : Nat) (h : Hd) : Prop := seen s.mem (n * 4096) 32 = hdL h ∧ hRight h ∧ (0 ≤ h.owner ∧ h.owner ≤ 18446744073709551615) ∧ (0 ≤ h.next ∧ h.next ≤ 18446744073709551615)
theorem HdAt.is {s : SpS} {n : Nat} {h : Hd} (H : HdAt s n h) : isHd (seen s.mem (n * 4096) 32) := by rw [H.1]; exact isHd_hdL h H.2.1 H.2.2.1 H.2.2.2
theorem HdAt.of {s : SpS} {n : Nat} {h : Hd} (H : HdAt s n h) : ofL (seen s.mem (n * 4096) 32) = h := by rw [H.1]; exact ofL_hdL h H.2.1 H.2.2.1 H.2.2.2
theorem HdAt.wrote (s : SpS) (n : Nat) (h : Hd) (hr : hRight h) (ho : 0 ≤ h.owner ∧ h.owner ≤ 18446744073709551615) (hx : 0 ≤ h.next ∧ h.next ≤ 18446744073709551615) : HdAt (wrote s (n * 4096) h) n h := ⟨seen_wrote _ _ _, hr, ho, hx⟩
theorem HdAt.linked {s : SpS} {n : Nat} {h : Hd} (H : HdAt s n h) (x : Int) (hx : 0 ≤ x ∧ x ≤ 18446744073709551615) : HdAt (linked s (n * 4096) x) n ⟨h.pages, h.kind, h.owner, x⟩ := ⟨seen_linked _ _ _ _ H.1, H.2.1, H.2.2.1, hx⟩
theorem HdAt.tick {s : SpS} {n : Nat} {h : Hd} (H : HdAt s n h) (k : Int) : HdAt (tick s k) n h := H
theorem St.hRead_hd {w0 W : World} {g : Nat} {s : SpS} (hs : St w0 W g s) (n : Nat) (hn : n < s.pages) (h : Hd) (H : HdAt s n h) :
    Calls Try.prog 52 #[.pointer (some ⟨g, 0, none⟩), .int .i64 (n : Int)] W fun e w' => e = .returned (.tuple #[.agg #[.int .i64 h.pages, .int .i64 h.kind, .int .u64 h.owner, .int .u64 h.next], .int .i64 0]) ∧ St w0 w' g (tick s (touchedI ((n * 4096 : Nat) : Int) 32)) ∧ KpT W w' :=
  hs.hRead n hn _ 0 (.inl ⟨H.is, by rw [H.of]; rfl, rfl⟩)
theorem St.hRead_no {w0 W : World} {g : Nat} {s : SpS} (hs : St w0 W g s) (n : Nat) (hn : n < s.pages) (H : ¬ isHd (seen s.mem (n * 4096) 32)) :
    Calls Try.prog 52 #[.pointer (some ⟨g, 0, none⟩), .int .i64 (n : Int)] W fun e w' => e = .returned (.tuple #[.agg #[.int .i64 0, .int .i64 0, .int .u64 0, .int .u64 0], .int .i64 5]) ∧ St w0 w' g (tick s (touchedI ((n * 4096 : Nat) : Int) 32)) ∧ KpT W w' :=
  hs.hRead n hn _ 5 (.inr ⟨H, rfl, rfl⟩)

theorem touched_page (n : Nat) : touchedI ((n * 4096 : Nat) : Int) 32 = 1 := (touched_one _ _ (by omega) (by decide)).1 (by omega)
theorem touched_next (n : Nat) : touchedI ((n * 4096 + 24 : Nat) : Int) 8 = 1 := (touched_one _ _ (by omega) (by decide)).1 (by omega)
/-- What is known of a space: its pages, how many were touched. -/
def Kn (s : SpS) (p : Nat) (k : Int) : Prop := s.pages = p ∧ s.ticks = k ∧ 0 ≤ k ∧ k ≤ 1000000
theorem Kn.tick {s : SpS} {p : Nat} {k : Int} (h : Kn s p k) (n : Nat) (hk : k < 100000) : Kn (tick s (touchedI ((n * 4096 : Nat) : Int) 32)) p (k + 1) := by
  obtain ⟨h1, h2, h3, h4⟩ := h
  refine ⟨h1, ?_, by omega, by omega⟩
  show wrap64 (s.ticks + _) = _
  rw [touched_page, h2, wrap_in (by omega) (by omega)]
theorem Kn.wrote {s : SpS} {p : Nat} {k : Int} (h : Kn s p k) (n : Nat) (x : Hd) (hk : k < 100000) : Kn (wrote s (n * 4096) x) p (k + 1) := by
  obtain ⟨h1, h2, h3, h4⟩ := h
  refine ⟨h1, ?_, by omega, by omega⟩
  show wrap64 (s.ticks + touchedI ((n * 4096 : Nat) : Int) 32) = _
  rw [touched_page, h2, wrap_in (by omega) (by omega)]
theorem Kn.linked {s : SpS} {p : Nat} {k : Int} (h : Kn s p k) (n : Nat) (x : Int) (hk : k < 100000) : Kn (linked s (n * 4096) x) p (k + 2) := by
  obtain ⟨h1, h2, h3, h4⟩ := h
  refine ⟨h1, ?_, by omega, by omega⟩
  show wrap64 (wrap64 (s.ticks + touchedI ((n * 4096 : Nat) : Int) 32) + touchedI ((n * 4096 + 24 : Nat) : Int) 8) = _
  rw [touched_page, touched_next, h2, wrap_in (a := k + 1) (by omega) (by omega), wrap_in (by omega) (by omega)]
  omega
theorem Kn.cleared {s : SpS} {p : Nat} {k : Int} (h : Kn s p k) (n : Nat) (hk : k < 100000) : Kn (cleared s (n * 4096)) p (k + 2) := by
  obtain ⟨h1, h2, h3, h4⟩ := h
  refine ⟨h1, ?_, by omega, by omega⟩
  show wrap64 (wrap64 (s.ticks + touchedI ((n * 4096 : Nat) : Int) 32) + touchedI ((n * 4096 : Nat) : Int) 32) = _
  rw [touched_page, h2, wrap_in (a := k + 1) (by omega) (by omega), wrap_in (by omega) (by omega)]
  omega

set_option maxRecDepth 100000 in
set_option maxHeartbeats 4000000 in
theorem awake8_any (w : World) : Calls Try.prog 46 #[] w fun e w' => e = .returned (.bool true) ∧ Below w.heap.size w w' := by
  go_enter Try.func46, Try.ntmps46
  go_wp2_with fail
  refine (St.new 4 (Below.refl w.heap.size w)).mono ?_
  rintro e w1 ⟨g, rfl, hg, hs1, hb1⟩
  have HS1 := Lib.hid hs1
  clear hs1 hb1 hg
  go_wp2_with fail
  have K1 : Kn (newS 4) 4 0 := ⟨by decide, rfl, by decide, by decide⟩
  refine ((HS1.out.al _).hWrite 3 ⟨2, 1, 7, 0⟩ (by decide) (by decide) (by decide) (by decide)).mono ?_
  rintro e w2 ⟨rfl, hs2, hk2⟩
  have H2 := Lib.hid (HdAt.wrote (newS 4) 3 ⟨2, 1, 7, 0⟩ (by decide) (by decide) (by decide))
  have K2 := K1.wrote 3 ⟨2, 1, 7, 0⟩ (by decide)
  generalize wrote (newS 4) (3 * 4096) ⟨2, 1, 7, 0⟩ = s2 at *
  have hx2 := hk2.2 _ _ _ _ (al_new (w := w1) (o := .cells #[.int .i64 2, .int .i64 1, .int .u64 7, .int .u64 0] 82) rfl) (by decide) (by decide)
  obtain ⟨a0, a1, a2, a3⟩ := box4 hx2
  have HS2 := Lib.hid (And.intro hs2 (And.intro K2 hx2))
  clear hs2 hk2 hx2 K1 K2
  go_wp2_with fail
  refine (HS2.out.1.hRead_hd 3 (by rw [HS2.out.2.1.1]; decide) _ H2.out).mono ?_
  rintro e w3 ⟨rfl, hs3, hk3⟩
  have K3 := HS2.out.2.1.tick 3 (by decide)
  have H3 := Lib.hid (H2.out.tick (touchedI ((3 * 4096 : Nat) : Int) 32))
  generalize tick s2 (touchedI ((3 * 4096 : Nat) : Int) 32) = s3 at *
  have hx3 := hk3.2 _ _ _ _ HS2.out.2.2 (by decide) (by decide)
  have HS3 := Lib.hid (And.intro hs3 (And.intro K3 hx3))
  clear hs3 hk3 hx3 K3 a0 a1 a2 a3
  go_wp2_with fail
  refine ((HS3.out.1.al _).hLink 3 5 (by decide) (by rw [HS3.out.2.1.1]; decide) H3.out.is).mono ?_
  rintro e w4 ⟨rfl, hs4, hk4⟩
  have K4 := HS3.out.2.1.linked 3 5 (by decide)
  have H4 := Lib.hid (H3.out.linked 5 (by decide))
  generalize linked s3 (3 * 4096) 5 = s4 at *
  have hy4 := hk4.2 _ _ _ _ (al_new (w := w3) (o := .cells #[.int .i64 2, .int .i64 1, .int .u64 7, .int .u64 0] 82) rfl) (by decide) (by decide)
  have hx4 := hk4.2 _ _ _ _ (al_old (o := .cells #[.int .i64 2, .int .i64 1, .int .u64 7, .int .u64 0] 82) HS3.out.2.2) (by decide) (by decide)
  have HS4 := Lib.hid (And.intro hs4 (And.intro K4 (And.intro hx4 hy4)))
  clear hs4 hk4 hx4 hy4 K4
  go_wp2_with fail
  refine (HS4.out.1.hRead_hd 3 (by rw [HS4.out.2.1.1]; decide) _ H4.out).mono ?_
  rintro e w5 ⟨rfl, hs5, hk5⟩
  have K5 := HS4.out.2.1.tick 3 (by decide)
  have H5 := Lib.hid (H4.out.tick (touchedI ((3 * 4096 : Nat) : Int) 32))
  generalize tick s4 (touchedI ((3 * 4096 : Nat) : Int) 32) = s5 at *
  have hx5 := hk5.2 _ _ _ _ HS4.out.2.2.1 (by decide) (by decide)
  have hy5 := hk5.2 _ _ _ _ HS4.out.2.2.2 (by decide) (by decide)
  have HS5 := Lib.hid (And.intro hs5 (And.intro K5 (And.intro hx5 hy5)))
  clear hs5 hk5 hx5 hy5 K5
  go_wp2_with fail
  refine ((HS5.out.1.al _).hClear 3 (by rw [HS5.out.2.1.1]; decide) H5.out.is).mono ?_
  rintro e w6 ⟨rfl, hs6, hk6⟩
  have K6 := HS5.out.2.1.cleared 3 (by decide)
  have H6 := Lib.hid (show ¬ isHd (seen (cleared s5 (3 * 4096)).mem (3 * 4096) 32) by rw [seen_cleared]; exact not_blank)
  generalize cleared s5 (3 * 4096) = s6 at *
  have hz6 := hk6.2 _ _ _ _ (al_new (w := w5) (o := .cells #[.int .i64 2, .int .i64 1, .int .u64 7, .int .u64 5] 82) rfl) (by decide) (by decide)
  have hx6 := hk6.2 _ _ _ _ (al_old (o := .cells #[.int .i64 2, .int .i64 1, .int .u64 7, .int .u64 5] 82) HS5.out.2.2.1) (by decide) (by decide)
  have hy6 := hk6.2 _ _ _ _ (al_old (o := .cells #[.int .i64 2, .int .i64 1, .int .u64 7, .int .u64 5] 82) HS5.out.2.2.2) (by decide) (by decide)
  have HS6 := Lib.hid (And.intro hs6 (And.intro K6 (And.intro hx6 (And.intro hy6 hz6))))
  clear hs6 hk6 hx6 hy6 hz6 K6
  go_wp2_with fail
  refine (HS6.out.1.hRead_no 3 (by rw [HS6.out.2.1.1]; decide) H6.out).mono ?_
  rintro e w7 ⟨rfl, hs7, hk7⟩
  have K7 := HS6.out.2.1.tick 3 (by decide)
  generalize tick s6 (touchedI ((3 * 4096 : Nat) : Int) 32) = s7 at *
  have hx7 := hk7.2 _ _ _ _ HS6.out.2.2.1 (by decide) (by decide)
  have hy7 := hk7.2 _ _ _ _ HS6.out.2.2.2.1 (by decide) (by decide)
  have hz7 := hk7.2 _ _ _ _ HS6.out.2.2.2.2 (by decide) (by decide)
  have HS7 := Lib.hid (And.intro hs7 (And.intro K7 (And.intro hx7 (And.intro hy7 hz7))))
  clear hs7 hk7 hx7 hy7 hz7 K7
  have x0 := fun o => (box4 (al_old (o := o) HS7.out.2.2.1)).1
  have x1 := fun o => (box4 (al_old (o := o) HS7.out.2.2.1)).2.1
  have x2 := fun o => (box4 (al_old (o := o) HS7.out.2.2.1)).2.2.1
  have x3 := fun o => (box4 (al_old (o := o) HS7.out.2.2.1)).2.2.2
  have y0 := fun o => (box4 (al_old (o := o) HS7.out.2.2.2.1)).1
  have y1 := fun o => (box4 (al_old (o := o) HS7.out.2.2.2.1)).2.1
  have y2 := fun o => (box4 (al_old (o := o) HS7.out.2.2.2.1)).2.2.1
  have y3 := fun o => (box4 (al_old (o := o) HS7.out.2.2.2.1)).2.2.2
  have z0 := fun o => (box4 (al_old (o := o) HS7.out.2.2.2.2)).1
  have z1 := fun o => (box4 (al_old (o := o) HS7.out.2.2.2.2)).2.1
  have z2 := fun o => (box4 (al_old (o := o) HS7.out.2.2.2.2)).2.2.1
  have z3 := fun o => (box4 (al_old (o := o) HS7.out.2.2.2.2)).2.2.2
  go_wp2_with fail
  refine ((HS7.out.1.al _).ticks_v 8 (by rw [HS7.out.2.1.2.1]; decide)).mono ?_
  rintro e w8 ⟨rfl, rfl⟩
  go_wp2_with fail
  go_ret
  exact ⟨rfl, (HS7.out.1.al _).below⟩
end Go.Proofs.Ytfdhjeeaigfmfaa.Sp
