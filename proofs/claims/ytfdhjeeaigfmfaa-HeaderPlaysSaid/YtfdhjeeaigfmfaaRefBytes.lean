/- The reference's bytes. -/
import Derived.Test.YtfdhjeeaigfmfaaRefSmall
namespace Go.Proofs.Ytfdhjeeaigfmfaa.Sp
open Go.RowKit Go.WideMaps Go.Proofs.Ytfdhjeeaigfmfaa.In Go.Proofs.Ytfdhjeeaigfmfaa.Plain
set_option linter.unusedVariables false

/-- So far read. -/
def sofarB (mem : Nat → Int) (t n j : Nat) : List Int := seen mem t j ++ List.replicate (n - j) 0
theorem sofarB_zero (mem : Nat → Int) (t n : Nat) : sofarB mem t n 0 = List.replicate n 0 := by simp [sofarB, seen]
theorem sofarB_all (mem : Nat → Int) (t n : Nat) : sofarB mem t n n = seen mem t n := by simp [sofarB]
theorem sofarB_length (mem : Nat → Int) (t : Nat) {n j : Nat} (h : j ≤ n) : (sofarB mem t n j).length = n := by
  unfold sofarB
  rw [List.length_append, seen_length, List.length_replicate]
  omega
theorem sofarB_set (mem : Nat → Int) (t : Nat) {n j : Nat} (h : j < n) : (sofarB mem t n j).set j (mem (t + j)) = sofarB mem t n (j + 1) := by
  unfold sofarB
  rw [List.set_append_right _ _ (by rw [seen_length]; exact Nat.le_refl _), seen_length, Nat.sub_self, show n - j = (n - (j + 1)) + 1 by omega, List.replicate_succ, List.set_cons_zero]
  unfold seen
  rw [List.range_succ, List.map_append, List.append_assoc]
  rfl
theorem RowZ.below {w w' : World} {r : Nat} {l : List Int} (h : RowZ w r l) (hb : Below w.heap.size w w') : RowZ w' r l := (hb.block r (Array.getElem?_eq_some_iff.1 h).1).trans h

set_option maxRecDepth 100000 in
set_option maxHeartbeats 4000000 in
theorem ref03Bytes_any {base q : Nat} {v : Value} {s : SpS} (t n : Nat) (W : World) (hs : RefS base q W v s) (hq : q ≤ 100000) (ht : t + n ≤ 4294967296) :
    Calls Try.prog 29 #[v, .int .u64 (t : Int), .int .u64 (n : Int)] W fun e w' => e = .returned (.string (strOfNums (seen s.mem t n))) ∧ Below W.heap.size W w' := by
  obtain ⟨lv, log, rfl, hown, hwf, hmem, hlq, hp1, hp2⟩ := hs
  have HB := Lib.hid (fun (W1 : World) (j : Nat) (hj : t + j ≤ 4294967296) (hb : Below W.heap.size W W1) => (ref03Byte_any base (s.pages : Int) s.ticks lv log (t + j) W1 hj (by omega) hwf (by
    have hR : RefS base q W (.agg #[.int .i64 (s.pages : Int), lv, .int .i64 s.ticks]) s := ⟨lv, log, rfl, hown, hwf, hmem, hlq, hp1, hp2⟩
    rcases hown.2 with h3 | ⟨g, cap, cur, e1, e2, e3, e4⟩
    · exact ⟨hown.1, .inl h3⟩
    · exact ⟨hown.1, .inr ⟨g, cap, cur, e1, e2, (hb.block g (Array.getElem?_eq_some_iff.1 e3).1).trans e3, e4⟩⟩)).mono (fun e w' h => (⟨by rw [← hmem]; exact h.1, h.2⟩ : e = .returned (.int .u8 (s.mem (t + j))) ∧ Below W1.heap.size W1 w')))
  have hmk := run_make_bytes64 n (by omega)
  have HM0 : RowKit.Hid (∀ o, RowZ ((W.alloc o).alloc (.cells (madeCells #[.int .u8 0] n) 5)) (W.heap.size + 1) (sofarB s.mem t n 0)) := by
    intro o
    rw [made_bytes, sofarB_zero]
    exact al_new (by simp)
  obtain ⟨pg, hpg⟩ : ∃ pg : Int, (s.pages : Int) = pg := ⟨_, rfl⟩
  obtain ⟨tk, htk⟩ : ∃ tk : Int, s.ticks = tk := ⟨_, rfl⟩
  rw [hpg, htk] at HB ⊢
  obtain ⟨mem, hme⟩ : ∃ mem, s.mem = mem := ⟨_, rfl⟩
  rw [hme] at HB HM0 ⊢
  clear hown hwf hmem hlq hp1 hp2 hpg htk hme
  go_enter Try.func29, Try.ntmps29
  go_wp2
  obtain ⟨bx, hbx⟩ : ∃ bx, W.heap.size = bx := ⟨_, rfl⟩
  go_loopw [8] (fun i wr => ∃ j : Nat, j ≤ n ∧ i = .int .i64 (j : Int) ∧ RowZ wr (W.heap.size + 1) (sofarB mem t n j) ∧ wr.heap[W.heap.size]? = some (.cells #[.int .i64 pg, lv, .int .i64 tk] 29 (0, 0)) ∧ Below W.heap.size W wr) (fun i _ => n - (intOf i).toNat)
  case atStart => exact ⟨0, Nat.zero_le _, rfl, HM0.out _, al_old (al_new rfl), ((Below.refl _ _).alloc (Nat.le_refl _) _).alloc (by simp) _⟩
  case round =>
    obtain ⟨j, hj, rfl, hrow, hbox, hb⟩ := hrel
    have HROW := Lib.hid hrow
    have HBX := Lib.hid hbox
    have HBW := Lib.hid hb
    have c0 : wr.cell? ⟨W.heap.size, 0, none⟩ = some (.int .i64 pg) := by simp [World.cell?, hbox]
    have c1 : wr.cell? ⟨W.heap.size, 1, none⟩ = some lv := by simp [World.cell?, hbox]
    have c2 : wr.cell? ⟨W.heap.size, 2, none⟩ = some (.int .i64 tk) := by simp [World.cell?, hbox]
    clear hrow hbox hb hbx
    by_cases hlt : j < n
    · have hlti : (j : Int) < (n : Int) := by omega
      have HC := Lib.hid (HB.out wr j (by omega) HBW.out)
      obtain ⟨p, hp⟩ : ∃ p : Nat, t + j = p := ⟨_, rfl⟩
      have hpi : (t : Int) + (j : Int) = (p : Int) := by omega
      have hpb : (p : Int) ≤ 4294967296 := by omega
      rw [hp] at HC
      have HP := Lib.hid hp
      obtain ⟨x, hx⟩ : ∃ x, mem p = x := ⟨_, rfl⟩
      rw [hx] at HC
      have HX := Lib.hid hx
      clear hp hx
      go_wp2_with fail
      refine HC.out.mono ?_
      rintro e w2 ⟨rfl, hb2⟩
      have hr2 := HROW.out.below hb2
      have hfr := hr2.frozen j
      have hcl := hr2.row.cell (j := j) (by rw [sofarB_length _ _ hj]; exact hlt)
      have HR2 := Lib.hid (hr2.set j x)
      have hset : (sofarB mem t n j).set j x = sofarB mem t n (j + 1) := by rw [← HX.out, ← HP.out, sofarB_set _ _ hlt]
      rw [hset] at HR2
      have hb3 := HBW.out.trans (hb2.mono HBW.out.size)
      have HB3 : RowKit.Hid (Below W.heap.size W (w2.setCell ⟨W.heap.size + 1, j, none⟩ (.int .u8 x))) := hb3.setCell (Nat.le_succ _) _
      have HBX2 : RowKit.Hid ((w2.setCell ⟨W.heap.size + 1, j, none⟩ (.int .u8 x)).heap[W.heap.size]? = some (.cells #[.int .i64 pg, lv, .int .i64 tk] 29 (0, 0))) := by
        have e1 : w2.heap[W.heap.size]? = some (.cells #[.int .i64 pg, lv, .int .i64 tk] 29 (0, 0)) := (hb2.block _ (Array.getElem?_eq_some_iff.1 HBX.out).1).trans HBX.out
        exact ((Chg.refl w2 (fun k => k = W.heap.size + 1)).set (p := ⟨W.heap.size + 1, j, none⟩) (.inl rfl) (.int .u8 x)).at e1 (by omega)
      clear hr2 hset hb3 hb2 c0 c1 c2
      go_wp2
      go_roundw
      case rel => exact ⟨j + 1, by omega, by go_num, HR2.out, HBX2.out, HB3.out⟩
      case measure => simp [intOf]; omega
    · have hlti : ¬ (j : Int) < (n : Int) := by omega
      obtain rfl : j = n := by omega
      have hcv := HROW.out.row.string0 j j (sofarB_length _ _ (Nat.le_refl _))
      rw [sofarB_all] at hcv
      go_wp2
      go_ret
      exact ⟨rfl, HBW.out⟩
end Go.Proofs.Ytfdhjeeaigfmfaa.Sp
