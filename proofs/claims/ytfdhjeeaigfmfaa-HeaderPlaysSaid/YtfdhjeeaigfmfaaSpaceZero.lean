/- What Zero tells of a space, and what it leaves. -/
import Derived.Test.YtfdhjeeaigfmfaaSpaceZeroW
namespace Go.Proofs.Ytfdhjeeaigfmfaa.Sp
open Go.RowKit Go.WideMaps
open Go.ChangeMaps (setBlock heap_setBlock_same heap_setBlock_other)
set_option linter.unusedVariables false

set_option maxRecDepth 100000 in
set_option maxHeartbeats 4000000 in
theorem Zero_ok {g m : Nat} {pg : List (Nat × Nat)} {s : SpS} (t n : Nat) (w : World) (hs : Spc w g m pg s) (hn : t + n ≤ s.pages * 4096) :
    Calls Try.prog 24 #[.pointer (some ⟨g, 0, none⟩), .int .u64 (t : Int), .int .u64 (n : Int)] w fun e w' => e = .returned (.int .i64 0) ∧
      ∃ pg', Spc w' g m pg' { s with mem := blank s.mem t n, ticks := wrap64 (s.ticks + touchedI t n) } ∧ (∀ x ∈ pg', x ∈ pg) ∧ Chg w w' (Own g m pg) := by
  have hlim := hs.laid.lim
  have HF := fits_any (t : Int) (n : Int) (n : Int) w hs.head hs.laid.lim (by omega) (by omega)
  rw [fitsI_ok (by omega) (by omega)] at HF
  have HF1 := Lib.hid HF
  have HT := Lib.hid (fun W => touched_any (t : Int) (n : Int) W (by omega) (by omega) (by omega))
  have h2 := hs.head.c2
  have f2 := hs.head.f2
  have HQ := Lib.hid (hs.ticked_drew (wrap64 (s.ticks + touchedI t n)))
  have HS := Lib.hid hs
  have HQ2 := Lib.hid (hs.ticked (Below.refl _ _) (wrap64 (s.ticks + touchedI t n)))
  clear HF hs
  go_enter Try.func24, Try.ntmps24
  go_wp2_with (go_at_call 59; (with_reducible refine HF1.out.mono ?_); rintro e w' ⟨rfl, rfl⟩)
  go_region_with (go_at_call 60; (with_reducible refine (HT.out _).mono ?_); rintro e w' ⟨rfl, rfl⟩)
  all_goals
    obtain ⟨es0, clk0, hm0, ht0, hb0, hc0⟩ := HQ.out.1.laid.map
    have hrange := run_range_map (P := Try.prog) _ 105 116 117 m es0 clk0 (by kernel_rfl) hm0
    have h1 := HQ.out.1.head.c1
    have HM0 := Lib.hid hm0
    have HZ0 : Hid (ZRel w g m w.heap.size pg { s with ticks := wrap64 (s.ticks + touchedI t n) } t n ((w.setCell ⟨g, 2, none⟩ (.int .i64 (wrap64 (s.ticks + touchedI t n)))).alloc (.mapIter (some m) clk0 #[] clk0)).drew) := by
      refine ⟨pg, es0, clk0, clk0, clk0, #[], fun _ => false, ?_, ?_⟩
      · exact {
          map := al_old (w := w.setCell ⟨g, 2, none⟩ (.int .i64 (wrap64 (s.ticks + touchedI t n)))) hm0
          iter := al_new (w := w.setCell ⟨g, 2, none⟩ (.int .i64 (wrap64 (s.ticks + touchedI t n)))) (by simp [World.setCell])
          hold := hc0
          sc := Nat.le_refl _
          sk := Nat.le_refl _
          told := ht0
          born := hb0
          spc := HQ2.out.1.below (((Below.refl _ _).alloc (Nat.le_refl _) _).drew)
          sub := fun x hx => hx
          gone := fun p hp hl i hi => by
            have h3 := HS.out.laid.rest p hp hl i hi
            show s.mem (p * 4096 + i) = blank s.mem t n (p * 4096 + i)
            unfold blank
            rw [h3]
            split <;> rfl
          chg := ((HQ2.out.2.mono (S2 := Own g m pg) (fun j hj => .inl hj)).alloc _).drew
          new := Nat.le_refl _ }
      · intro j e x _ _ _
        simp
    clear hm0 ht0 hb0 hc0
    go_wp2
    have HR := Lib.hid HS.out.laid.range
    clear h1 h2 f2 hrange
    generalize ((w.setCell ⟨g, 2, none⟩ (.int .i64 (wrap64 (s.ticks + touchedI t n)))).alloc (.mapIter (some m) clk0 #[] clk0)).drew = W at *
    go_loopw [36] (fun _ wr => ZRel w g m w.heap.size pg { s with ticks := wrap64 (s.ticks + touchedI t n) } t n wr) (fun _ wr => zLeft m w.heap.size wr)
    case atStart => exact HZ0.out
    case round =>
      obtain ⟨pg1, es, clk, since, c0, seen, done, hz, hsame⟩ := hrel
      have HZ := Lib.hid hz
      have HSame := Lib.hid hsame
      clear hz hsame HZ0
      go_wp2_with (at_next; refine wpList_next_sp _ rfl _ rfl w.heap.size m since c0 clk seen es rfl HZ.out.iter HZ.out.map HZ.out.hold HZ.out.sc ?_ ?_)
      · intro HD
        go_wp2
        go_ret
        refine ⟨rfl, pg1, ?_, HZ.out.sub, HZ.out.chg⟩
        have h1 := HZ.out.spc
        rw [HZ.out.end_ HSame.out (by rw [HD.out]; rfl) hn] at h1
        exact h1
      · intro e w1 HE HW1
        obtain ⟨j, x, hj, hx, hk, hv, hzm, hs1, hd, hent⟩ := HZ.out.next HSame.out (Array.mem_toList_iff.2 HE.out) HW1.out
        have hxl := HZ.out.spc.laid.lt x (List.mem_of_getElem? hx)
        obtain ⟨ka, kb, hka⟩ := key_agg x.1
        have HN := number_any x.1
        rw [hka] at hk HN
        rw [hk, hv] at hent
        rw [hk, hv]
        have HNu := Lib.hid (fun W => HN W hxl)
        have HZ1 := Lib.hid hzm
        have HS1 := Lib.hid hs1
        have HJ := Lib.hid hj
        have HX := Lib.hid hx
        have HKA := Lib.hid hka
        have HD0 := Lib.hid hd
        clear hk hv hzm hs1 hd hj hx hka HN HW1
        generalize setBlock w1 w.heap.size (.mapIter (some m) since (seen.push e.born) clk) = W1 at *
        obtain ⟨p, b⟩ := x
        have HM := Lib.hid (left_shrinks es seen e (Array.mem_toList_iff.2 HE.out))
        have hfin : ∀ W, ZRel w g m w.heap.size pg { s with ticks := wrap64 (s.ticks + touchedI t n) } t n W → zLeft m w.heap.size W ≤ (leftOf es (seen.push e.born)).size → ZRel w g m w.heap.size pg { s with ticks := wrap64 (s.ticks + touchedI t n) } t n W ∧ zLeft m w.heap.size W < zLeft m w.heap.size wr := by
          intro W h1 h2
          have h3 := HM.out
          refine ⟨h1, ?_⟩
          rw [HZ.out.left]
          omega
        have HFin := Lib.hid hfin
        clear hfin
        have hp1 : p < s.pages := (HZ.out.spc.laid.page (p, b) (List.mem_of_getElem? HX.out)).1
        obtain ⟨lo, hlo⟩ : ∃ lo : Nat, lo = if t < p * 4096 then p * 4096 else t := ⟨_, rfl⟩
        obtain ⟨hi, hhi⟩ : ∃ hi : Nat, hi = if p * 4096 + 4096 < t + n then p * 4096 + 4096 else t + n := ⟨_, rfl⟩
        have elo : (if (t : Int) < (p : Int) * 4096 then (p : Int) * 4096 else (t : Int)) = (lo : Int) := by
          rw [hlo]; by_cases c : t < p * 4096
          · rw [if_pos c, if_pos (by omega)]; omega
          · rw [if_neg c, if_neg (by omega)]
        have ehi : (if (p : Int) * 4096 + 4096 < (t : Int) + (n : Int) then (p : Int) * 4096 + 4096 else (t : Int) + (n : Int)) = (hi : Int) := by
          rw [hhi]; by_cases c : p * 4096 + 4096 < t + n
          · rw [if_pos c, if_pos (by omega)]; omega
          · rw [if_neg c, if_neg (by omega)]; omega
        have HLo := Lib.hid (show p * 4096 ≤ lo ∧ t ≤ lo ∧ (lo = t ∨ lo = p * 4096) by rw [hlo]; split <;> omega)
        have HHi := Lib.hid (show hi ≤ p * 4096 + 4096 ∧ hi ≤ t + n ∧ (hi = t + n ∨ hi = p * 4096 + 4096) by rw [hhi]; split <;> omega)
        clear hlo hhi
        have HB : Hid ((seen.push e.born).contains e.born = true) := by show (seen.push e.born).contains e.born = true; rw [contains_push]; simp
        by_cases c3 : hi ≤ lo
        · have c3b : (hi : Int) ≤ (lo : Int) := by omega
          have HC3 := Lib.hid c3
          clear c3
          go_wp2_with (go_at_call 64; (with_reducible refine (HNu.out _).mono ?_); rintro e' w2 ⟨rfl, hb2⟩)
          have hbb : Below W1.heap.size W1 w2 := ((Below.refl _ _).alloc (Nat.le_refl _) _).trans (hb2.mono (by simp))
          have hz2 := HZ1.out.below hbb
          refine HFin.out _ ?_ (by rw [hz2.left]; exact Nat.le_refl _)
          refine hz2.cleared HS1.out HJ.out HX.out HB.out (Chg.refl _ _) ?_ HR.out
          have hpg := (hz2.spc.laid.page (p, b) (List.mem_of_getElem? HX.out)).2
          rw [mem_done]
          · exact hpg
          · intro i hi2
            have h1 := HC3.out
            have h2 := HLo.out
            have h3 := HHi.out
            unfold blank
            rw [if_neg (by omega)]
        · have c3b : ¬ (hi : Int) ≤ (lo : Int) := by omega
          have HC3 := Lib.hid c3
          clear c3
          by_cases c4 : hi - lo = 4096
          · have c4b : ((hi : Int) - (lo : Int) == 4096) = true := by simp; omega
            have HC4 := Lib.hid c4
            have hcw : (IntKind.u64.wrap ((hi : Int) - (lo : Int)) == 4096) = true := by
              have := HC3.out
              rw [IntKind.wrap_u64]; simp; omega
            clear c4
            go_wp2_with (go_at_call 64; (with_reducible refine (HNu.out _).mono ?_); rintro e' w2 ⟨rfl, hb2⟩)
            have hbb : Below W1.heap.size W1 w2 := ((Below.refl _ _).alloc (Nat.le_refl _) _).trans (hb2.mono (by simp))
            have hz2 := HZ1.out.below hbb
            have hz3 := hz2.below (w' := w2.drew) ⟨rfl, rfl, rfl, Nat.le_refl _, fun _ _ => rfl⟩
            have k1 := hz3.spc.head.c1
            have hkb : w2.heap[W1.heap.size]? = some (.cells #[.int .u16 ka, .int .u16 kb] 116 (0, 0)) := (hb2.block W1.heap.size (by simp)).trans (al_new rfl)
            have k2 : w2.cell? ⟨W1.heap.size, 0, none⟩ = some (.int .u16 ka) := by simp [World.cell?, hkb]
            have k3 : w2.cell? ⟨W1.heap.size, 1, none⟩ = some (.int .u16 kb) := by simp [World.cell?, hkb]
            have k4 := fun ty => run_map_drop hz3.map hz3.told hz3.spc.laid.lt hz3.spc.laid.fst HX.out ty
            rw [HKA.out] at k4
            have HZ3 := Lib.hid hz3
            have HZ2 := Lib.hid hz2
            clear hz2 hz3 hkb hbb hb2
            go_region
            go_wp2
            have hjl : j < es.size := by have := (List.getElem?_eq_some_iff.1 HJ.out).1; simpa using this
            refine HFin.out _ ?_ ?_
            · refine HZ3.out.erased HS1.out HJ.out HX.out ?_ HR.out
              intro i hi2
              have h1 := HC4.out
              have h2 := HLo.out
              have h3 := HHi.out
              unfold blank
              rw [if_pos (by show t ≤ p * 4096 + i ∧ p * 4096 + i < t + n; omega)]
            · have h1 := left_erased es (seen.push e.born) j hjl
              have h2 : zLeft m w.heap.size (setBlock w2.drew m (.map (es.eraseIdxIfInBounds j) clk)) = (leftOf (es.eraseIdxIfInBounds j) (seen.push e.born)).size := by
                simp only [zLeft, World.rangeLeft, heap_setBlock_same HZ3.out.map, heap_setBlock_other HZ3.out.map (.map (es.eraseIdxIfInBounds j) clk) (fun e1 => HZ3.out.r_own (.inr (.inl e1))), HZ3.out.iter]
              rw [h2]
              exact h1
          · have c4b : ((hi : Int) - (lo : Int) == 4096) = false := by simp; omega
            obtain ⟨i0, hi0⟩ : ∃ i0, lo = p * 4096 + i0 := ⟨lo - p * 4096, by have := HLo.out; omega⟩
            obtain ⟨k0, hk0⟩ : ∃ k0, hi = p * 4096 + k0 := ⟨hi - p * 4096, by have := HLo.out; have := HC3.out; omega⟩
            have d1 : (lo : Int) - (p : Int) * 4096 = (i0 : Int) := by omega
            have d2 : (hi : Int) - (p : Int) * 4096 = (k0 : Int) := by omega
            have d3 : i0 < k0 ∧ k0 ≤ 4096 := by have := HHi.out; have := HC3.out; omega
            have d4 := cut_page2 b i0 k0 d3.1 d3.2
            have D0 := Lib.hid hi0
            have D1 := Lib.hid hk0
            have D3 := Lib.hid d3
            clear hi0 hk0 d3 c4
            have HCl : Hid (∀ w2, Below (W1.alloc (.cells #[.int .u16 ka, .int .u16 kb] 116)).heap.size (W1.alloc (.cells #[.int .u16 ka, .int .u16 kb] 116)) w2 → ∀ ty, (Builtin.clear_ #[32] ty #[.slice (some ⟨b, i0, none⟩) (k0 - i0) (4096 - i0)]).run Try.prog w2 = .ok (.tuple #[]) (w2.setRow b (pageCells p (memD s.mem t n (also done p))).toArray)) := by
              intro w2 hb2 ty
              have hz2 := HZ1.out.below (((Below.refl _ _).alloc (Nat.le_refl _) (.cells #[.int .u16 ka, .int .u16 kb] 116)).trans (hb2.mono (by simp)))
              have h0 := D0.out
              have h1 := D1.out
              have h2 := HLo.out
              have h3 := HHi.out
              have h4 := D3.out
              have h5 := HS1.out
              refine run_page_clear (hz2.spc.laid.page (p, b) (List.mem_of_getElem? HX.out)).2 h4.1 h4.2 ?_ ?_ ty
              · intro j h6 h7
                rw [memD_same _ _ _ _ (by omega)]
                unfold blank
                rw [if_pos (by omega)]
              · intro j h6 h7
                show memD s.mem t n (also done p) (p * 4096 + j) = memD s.mem t n done (p * 4096 + j)
                rw [memD_same _ _ _ _ h6, memD_at _ _ _ _ _ _ h6, HD0.out]
                unfold blank
                rw [if_neg (by omega)]
                rfl
            go_wp2_with (go_at_call 64; (with_reducible refine (HNu.out _).mono ?_); rintro e' w2 ⟨rfl, hb2⟩; have k5 := HCl.out w2 hb2)
            have hbb : Below W1.heap.size W1 w2 := ((Below.refl _ _).alloc (Nat.le_refl _) _).trans (hb2.mono (by simp))
            have hz2 := HZ1.out.below hbb
            have hpg := (hz2.spc.laid.page (p, b) (List.mem_of_getElem? HX.out)).2
            have hmem : (p, b) ∈ pg1 := List.mem_of_getElem? HX.out
            refine HFin.out _ (hz2.cleared HS1.out HJ.out HX.out HB.out page_clear_chg (setRow_heap _ _ _ _ _ _ hpg) HR.out) ?_
            have h2 : zLeft m w.heap.size (w2.setRow b (pageCells p (memD s.mem t n (also done p))).toArray) = (leftOf es (seen.push e.born)).size := by
              have h3 : (w2.setRow b (pageCells p (memD s.mem t n (also done p))).toArray).heap[m]? = some (.map es clk) := page_clear_chg.at hz2.map (fun e1 => hz2.spc.apart.2.2 (p, b) hmem e1.symm)
              have h4 : (w2.setRow b (pageCells p (memD s.mem t n (also done p))).toArray).heap[w.heap.size]? = _ := page_clear_chg.at hz2.iter (fun e1 => hz2.r_own (.inr (.inr (List.mem_map.2 ⟨_, hmem, e1.symm⟩))))
              simp only [zLeft, World.rangeLeft, h3, h4]
            rw [h2]
            exact Nat.le_refl _

theorem Zero_err {g m : Nat} {pg : List (Nat × Nat)} {s : SpS} (t n k : Int) (w : World) (hs : Spc w g m pg s) (t0 : 0 ≤ t) (n0 : 0 ≤ n) (hf : fitsI ((s.pages : Int) * 4096) t n n = k) (hk : k ≠ 0) :
    Calls Try.prog 24 #[.pointer (some ⟨g, 0, none⟩), .int .u64 t, .int .u64 n] w fun e w' => e = .returned (.int .i64 k) ∧ w = w' := by
  have HF := fits_any t n n w hs.head hs.laid.lim t0 n0
  rw [hf] at HF
  have HF1 := Lib.hid HF
  have hc1 : (k == 0) = false := by simpa using hk
  have hc2 : (k != 0) = true := by simpa using hk
  clear HF hs hf
  go_enter Try.func24, Try.ntmps24
  go_wp2_with (go_at_call 59; (with_reducible refine HF1.out.mono ?_); rintro e w' ⟨rfl, rfl⟩)
  go_ret
  exact ⟨rfl, rfl⟩

theorem Zero_nil (t n : Int) (w : World) : Calls Try.prog 24 #[.pointer none, .int .u64 t, .int .u64 n] w fun e w' => e = .returned (.int .i64 3) ∧ w = w' := by
  go_enter Try.func24, Try.ntmps24
  go_wp2_with (go_at_call 59; refine (fits_nil _ _ _ _).mono ?_; rintro e w' ⟨rfl, rfl⟩)
  go_ret
  exact ⟨rfl, rfl⟩
end Go.Proofs.Ytfdhjeeaigfmfaa.Sp
