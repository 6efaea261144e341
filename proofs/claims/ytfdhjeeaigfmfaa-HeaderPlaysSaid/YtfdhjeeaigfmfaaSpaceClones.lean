/- What Clone makes of a space. -/
import Derived.Test.YtfdhjeeaigfmfaaSpaceClone
namespace Go.Proofs.Ytfdhjeeaigfmfaa.Sp
open Go.RowKit Go.WideMaps
open Go.ChangeMaps (setBlock heap_setBlock_same heap_setBlock_other)
set_option linter.unusedVariables false

theorem Clone_nil (w : World) : Calls Try.prog 32 #[.pointer none] w fun e w' => e = .returned (.pointer none) ∧ w = w' := by
  go_enter Try.func32, Try.ntmps32
  go_wp2
  go_ret
  exact ⟨rfl, rfl⟩

set_option maxRecDepth 100000 in
set_option maxHeartbeats 4000000 in
theorem Clone_any {g m : Nat} {pg : List (Nat × Nat)} {s : SpS} (w : World) (hs : Spc w g m pg s) :
    Calls Try.prog 32 #[.pointer (some ⟨g, 0, none⟩)] w fun e w' => ∃ mc pgc, e = .returned (.pointer (some ⟨mc + 1, 0, none⟩)) ∧ w.heap.size ≤ mc ∧ (∀ x ∈ pgc, w.heap.size ≤ x.2) ∧ Spc w' (mc + 1) mc pgc ⟨s.pages, s.mem, 0⟩ ∧ Below w.heap.size w w' := by
  have hlim := hs.laid.lim
  have hlow := hs.laid.low
  obtain ⟨es, clk, hm, ht, hbn, hbl⟩ := hs.laid.map
  have h0 := hs.head.c0
  have h1 := hs.head.c1
  have hcl : clampP (s.pages : Int) = s.pages := by unfold clampP; rw [if_neg (by omega), if_neg (by omega)]; omega
  have HN := Lib.hid (New_any (s.pages : Int) w)
  have HCL := Lib.hid hcl
  have HR : Hid (∀ W, Below w.heap.size w W → (Instr.range 105 (.map (some m))).run Try.prog W = .ok (.pointer (some ⟨W.heap.size, 0, none⟩)) (W.alloc (.mapIter (some m) clk #[] clk)) ∧ W.cell? ⟨g, 1, none⟩ = some (.map (some m))) := fun W hb =>
    ⟨run_range_map (P := Try.prog) W 105 116 117 m es clk (by kernel_rfl) ((hb.block m hs.laid.mlt).trans hm), (hs.below hb).head.c1⟩
  have HS := Lib.hid hs
  have HM := Lib.hid hm
  have HT := Lib.hid ht
  have HBN := Lib.hid hbn
  have HBL := Lib.hid hbl
  clear hm ht hbn hbl hcl hs
  go_enter Try.func32, Try.ntmps32
  go_wp2_with (go_at_call 17; (with_reducible refine HN.out.mono ?_); rintro e w1 ⟨mc, rfl, hmc, hnew, hb1⟩; have HN1 := Lib.hid hnew; have HR1 := HR.out w1 hb1; obtain ⟨hr1, hr2⟩ := HR1; clear hnew)
  have HZ0 : Hid (CRel w g m w1.heap.size (mc + 1) mc pg s es clk (w1.alloc (.mapIter (some m) clk #[] clk))) := by
    have hn := HN1.out
    have en : newS (s.pages : Int) = ⟨s.pages, memC s.mem (fun _ => false), 0⟩ := by
      have e0 : memC s.mem (fun _ => false) = fun _ => 0 := by
        funext i
        unfold memC
        exact if_neg (fun h => by cases h)
      unfold newS
      rw [HCL.out, e0]
    rw [en] at hn
    refine ⟨clk, #[], [], fun _ => false, ?_, ?_⟩
    · exact {
        bel := hb1.alloc hb1.size _
        iter := al_new rfl
        sc := Nat.le_refl _
        cl := hn.below ((Below.refl _ _).alloc (Nat.le_refl _) _)
        new := ⟨by omega, hmc, hb1.size, fun x hx => by cases hx⟩
        sub := fun x hx => by cases hx }
    · intro j e x _ _ _
      simp
  have HB1 := Lib.hid hb1
  have HMC := Lib.hid hmc
  clear hr1 hr2 hb1 hmc
  generalize w1.heap.size = r at *
  generalize w1.alloc (.mapIter (some m) clk #[] clk) = W at *
  go_loopw [19] (fun _ wr => CRel w g m r (mc + 1) mc pg s es clk wr) (fun _ wr => zLeft m r wr)
  case atStart => exact HZ0.out
  case round =>
    obtain ⟨c0, seen, pgc, done, hz, hsame⟩ := hrel
    have HZ := Lib.hid hz
    have HSame := Lib.hid hsame
    have HMW : Hid (wr.heap[m]? = some (.map es clk)) := Lib.hid ((hz.bel.block m HS.out.laid.mlt).trans HM.out)
    have HLeft : Hid (zLeft m r wr = (leftOf es seen).size) := by
      have h1 := HMW.out
      have h2 := hz.iter
      show zLeft m r wr = _
      simp only [zLeft, World.rangeLeft, h1, h2]
    clear hz hsame HZ0
    go_wp2_with (at_next; refine wpList_next_sp _ rfl _ rfl r m clk c0 clk seen es rfl HZ.out.iter HMW.out HBL.out HZ.out.sc ?_ ?_)
    · intro HD
      go_wp2
      go_ret
      exact ⟨mc, pgc, rfl, HMC.out, HZ.out.new.2.2.2, HZ.out.end_ HSame.out HS.out HT.out (by rw [HD.out]; rfl), HZ.out.bel⟩
    · intro e w1 HE HW1
      obtain ⟨j, x, hj, hx, hk, hv, hzm, hs1, hd, hent⟩ := HZ.out.next HSame.out HS.out HM.out HT.out HBN.out (Array.mem_toList_iff.2 HE.out) HW1.out
      have hxl := HS.out.laid.lt x (List.mem_of_getElem? hx)
      obtain ⟨ka, kb, hka⟩ := key_agg x.1
      rw [hka] at hk
      rw [hk, hv] at hent
      rw [hk, hv]
      have HZ1 := Lib.hid hzm
      have HS1 := Lib.hid hs1
      have HJ := Lib.hid hj
      have HX := Lib.hid hx
      have HKA := Lib.hid hka
      have HD0 := Lib.hid hd
      have HB : Hid ((seen.push e.born).contains e.born = true) := by show (seen.push e.born).contains e.born = true; rw [contains_push]; simp
      have HMs := Lib.hid (left_shrinks es seen e (Array.mem_toList_iff.2 HE.out))
      clear hk hv hzm hs1 hd hj hx hka HW1
      generalize setBlock w1 r (.mapIter (some m) clk (seen.push e.born) clk) = W1 at *
      obtain ⟨p, b⟩ := x
      have hz2 := HZ1.out.below ((Below.refl _ _).alloc (Nat.le_refl _) (.cells #[.int .u16 ka, .int .u16 kb] 116))
      have hpg := (((HS.out.below hz2.bel).laid.page (p, b) (List.mem_of_getElem? HX.out)).2)
      have HF1 := Lib.hid (run_load_page hpg)
      have hf2 := run_store_page (W1.alloc (.cells #[.int .u16 ka, .int .u16 kb] 116)) p s.mem
      rw [show (W1.alloc (.cells #[.int .u16 ka, .int .u16 kb] 116)).heap.size = W1.heap.size + 1 by simp] at hf2
      have HF2 := Lib.hid hf2
      have HZ2 := Lib.hid hz2
      clear hz2 hpg hf2
      generalize hPP : (pageCells p s.mem).toArray = PP at *
      have HPP := Lib.hid hPP
      clear hPP
      go_wp2_with (first | (refine wpList_val (o := ⟨some 26, _, _, _, _, _⟩) rfl (Instr.loadAt 120 (.pointer (some ⟨b, 0, none⟩))) _ _ ?_ HF1.out ?_; rfl) | (refine wpList_unit (o := ⟨none, .store 120 _ _, _, _, _, _⟩) rfl (Instr.storeAt 120 (.pointer (some ⟨W1.heap.size + 1, 0, none⟩)) (.agg PP)) _ ?_ HF2.out ?_; rfl))
      obtain ⟨esc, clkc, hmc2, htc, _⟩ := HZ2.out.cl.laid.map
      have hsz : (W1.alloc (.cells #[.int .u16 ka, .int .u16 kb] 116)).heap.size = W1.heap.size + 1 := by simp
      have hlk : pgc.lookup p = none := lookup_none (fun hq => by
        obtain ⟨y, hy, hy2⟩ := List.mem_map.1 hq
        have h3 := HZ2.out.sub y hy
        have h4 := HD0.out
        rw [hy2] at h3
        rw [h3] at h4
        cases h4)
      have hkb : ((W1.alloc (.cells #[.int .u16 ka, .int .u16 kb] 116)).alloc (.cells PP 120)).heap[W1.heap.size]? = some (.cells #[.int .u16 ka, .int .u16 kb] 116 (0, 0)) := al_old (al_new rfl)
      have q1 : ((W1.alloc (.cells #[.int .u16 ka, .int .u16 kb] 116)).alloc (.cells PP 120)).cell? ⟨W1.heap.size, 0, none⟩ = some (.int .u16 ka) := by simp [World.cell?, hkb]
      have q2 : ((W1.alloc (.cells #[.int .u16 ka, .int .u16 kb] 116)).alloc (.cells PP 120)).cell? ⟨W1.heap.size, 1, none⟩ = some (.int .u16 kb) := by simp [World.cell?, hkb]
      have q3 : ((W1.alloc (.cells #[.int .u16 ka, .int .u16 kb] 116)).alloc (.cells PP 120)).cell? ⟨mc + 1, 1, none⟩ = some (.map (some mc)) := (HZ2.out.cl.below ((Below.refl _ _).alloc (Nat.le_refl _) (.cells PP 120))).head.c1
      have hmc3 : ((W1.alloc (.cells #[.int .u16 ka, .int .u16 kb] 116)).alloc (.cells PP 120)).drew.heap[mc]? = some (.map esc clkc) := al_old hmc2
      have q4 := run_map_put hmc3 htc HZ2.out.cl.laid.lt HZ2.out.cl.laid.fst hxl hlk (.pointer (some ⟨W1.heap.size + 1, 0, none⟩))
      rw [HKA.out] at q4
      have HMC2 := Lib.hid hmc2
      have HSZ := Lib.hid hsz
      clear hmc2 htc hsz hlk hkb hmc3 HF1 HF2
      go_region
      go_wp2
      have h5 := HZ2.out.laid (w' := setBlock ((W1.alloc (.cells #[.int .u16 ka, .int .u16 kb] 116)).alloc (.cells PP 120)).drew mc (.map (esc.push ⟨.agg #[.int .u16 ka, .int .u16 kb], .pointer (some ⟨W1.heap.size + 1, 0, none⟩), clkc⟩) (clkc + 1))) HS1.out HS.out HJ.out HX.out HB.out HD0.out HMC2.out (by rw [HSZ.out, HKA.out, HPP.out])
      generalize setBlock ((W1.alloc (.cells #[.int .u16 ka, .int .u16 kb] 116)).alloc (.cells PP 120)).drew mc (.map (esc.push ⟨.agg #[.int .u16 ka, .int .u16 kb], .pointer (some ⟨W1.heap.size + 1, 0, none⟩), clkc⟩) (clkc + 1)) = W4 at *
      obtain ⟨h6, h7⟩ := h5
      refine ⟨h6, ?_⟩
      obtain ⟨c1, se1, pg2, dn, hcm, _⟩ := h6
      have h8 : W4.heap[m]? = some (.map es clk) := (hcm.bel.block m HS.out.laid.mlt).trans HM.out
      have h9 : zLeft m r W4 = (leftOf es (seen.push e.born)).size := by simp only [zLeft, World.rangeLeft, h8, h7]
      have h10 := HLeft.out
      have h11 := HMs.out
      omega
end Go.Proofs.Ytfdhjeeaigfmfaa.Sp
