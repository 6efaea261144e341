/- SpaceApart: what is done to a clone changes nothing of the space, nor does what was loaded, or what was stored. -/
import Derived.Test.YtfggmddngbbljaaLawMoves
import Derived.Test.YtfggmddngbbljaaSpaceBytes
import Derived.BigQuiet
namespace Go.Proofs.Ytfggmddngbbljaa.Sp
open Go.RowKit Go.WideMaps Go.Proofs.Ytfggmddngbbljaa.In
set_option linter.unusedVariables false

set_option maxRecDepth 100000 in
set_option maxHeartbeats 4000000 in
theorem SpaceApart_any (w : World) (A0 : Option Addr) (n0 c0 : Nat) (l0 : List Act3) (A1 : Option Addr) (n1 c1 : Nat) (l1 : List Act3) (a2 : Int) (A3 : Option Addr) (n3 c3 : Nat) (l3 : List Int)
    (h0 : l0.length = n0) (h0b : n0 ≤ 9223372036854775807) (h0c : Lst KAct3 5 w A0 l0) (h0d : ∀ p ∈ l0, wfAct3 p) (h1 : l1.length = n1) (h1b : n1 ≤ 9223372036854775807) (h1c : Lst KAct3 5 w A1 l1) (h1d : ∀ p ∈ l1, wfAct3 p)
    (h3 : l3.length = n3) (h3a : n3 ≤ c3) (h3b : n3 ≤ 9223372036854775807) (h3c : Lst (KInt .u8) 1 w A3 l3) (h3d : ∀ p ∈ l3, wfInt .u8 p) (w2 : 0 ≤ a2 ∧ a2 ≤ 255) :
    Calls Try.prog 8 #[.slice A0 n0 c0, .slice A1 n1 c1, .int .u8 a2, .slice A3 n3 c3] w fun e w' => e = .returned (.bool true) ∧ Below w.heap.size w w' := by
  have HA := Lib.hid (awake3_any w)
  have HF0 := Lib.hid (fun W (hb : Below w.heap.size w W) => few3_any A0 n0 c0 l0 W h0 h0b (lst_acts h0c hb))
  have HF1 := Lib.hid (fun W (hb : Below w.heap.size w W) => few3_any A1 n1 c1 l1 W h1 h1b (lst_acts h1c hb))
  have HV := Lib.hid (fun v hv => u8_of (h3d v hv))
  have HP3 := Lib.hid (show (((newS 3).pages : Nat) : Int) * 4096 = 12288 by kernel_rfl)
  go_enter Try.func8, Try.ntmps8
  go_wp2_with fail
  refine HA.out.mono ?_
  rintro e wa ⟨rfl, hb1⟩
  go_wp2_with fail
  refine (HF0.out wa hb1).mono ?_
  rintro e wb ⟨⟨b, rfl⟩, rfl⟩
  cases b with
  | false =>
    go_wp2
    go_ret
    exact ⟨rfl, hb1⟩
  | true =>
    go_wp2_with fail
    refine (HF1.out wa hb1).mono ?_
    rintro e wb ⟨⟨b, rfl⟩, rfl⟩
    cases b with
    | false =>
      go_wp2
      go_ret
      exact ⟨rfl, hb1⟩
    | true =>
      by_cases hbig : n3 ≤ 100
      · have hbi : (n3 : Int) ≤ 100 := by omega
        go_wp2_with fail
        refine (St.new 3 (hb1 : Below w.heap.size w wa)).mono ?_
        rintro e wc ⟨g, rfl, hg, hs2, hb2⟩
        go_wp2_with fail
        refine (play3_any w g _ A0 n0 c0 l0 wc hs2 h0 h0b h0c h0d).mono ?_
        rintro e wd ⟨rfl, s, hp, hs, _⟩
        have HP := Lib.hid (show (s.pages : Int) * 4096 = 12288 by rw [hp]; exact HP3.out)
        clear hp hs2 hb2 hg hb1 HP3
        go_wp2_with fail
        refine (hs.load 0 12288 (by omega) (by omega) (by rw [HP.out]; omega) (by omega)).mono ?_
        rintro e w5 ⟨r1, rfl, hr1, hrow1, hs5, _⟩
        have hrow1 : Row w5 r1 (seen s.mem 0 12288) := hrow1
        go_wp2_with fail
        refine hs5.clone.mono ?_
        rintro e wk ⟨gc, rfl, hgc, hc0, hbk⟩
        go_wp2_with fail
        refine (hc0.ticks_v 0 rfl).mono ?_
        rintro e w' ⟨rfl, rfl⟩
        go_wp2_with fail
        refine (play3_any w5 gc _ A1 n1 c1 l1 wk hc0 h1 h1b (lst_acts h1c hs5.below) h1d).mono ?_
        rintro e w6 ⟨rfl, sc, hpc, hc6, hk6⟩
        have HPC := Lib.hid (show (sc.pages : Int) * 4096 = 12288 by rw [hpc]; exact HP.out)
        clear hpc hc0
        have R1 := (hrow1.kp (KpT.of_below hbk)).kp hk6
        have hW := hs5.below.trans (hc6.below.mono hs5.below.size)
        have x1 := lst_string h3c hW n3 c3 h3
        obtain ⟨c, T, C, fr, hc, hC, hfr, x2⟩ := conv_text w6 l3 HV.out
        rw [h3] at x2 hc hfr
        obtain ⟨S3, hS3⟩ : ∃ S, strOfNums l3 = S := ⟨_, rfl⟩
        rw [hS3] at x1 x2
        have HS3 := Lib.hid hS3
        have HCW := Lib.hid (show St w5 (w6.alloc (.cells C 5 fr)).drew gc sc from (hc6.al _).dr)
        have hrx : Row (w6.alloc (.cells C 5 fr)).drew w6.heap.size (l3 ++ T) := ⟨fr, by rw [hC]; exact al_new rfl⟩
        have hblk : (w6.alloc (.cells C 5 fr)).drew.heap[w6.heap.size]? = some (.cells C 5 fr) := al_new (w := w6) rfl
        have hsrc : SrcW w5 (w6.alloc (.cells C 5 fr)).drew (some ⟨w6.heap.size, 0, none⟩) l3 := by
          refine ⟨fun _ => ⟨_, rfl, ?_, .inr ⟨_, _, _, hblk, by decide, by decide⟩⟩, HV.out⟩
          have h := hrx.cells l3.length 0 (by rw [List.length_append]; omega)
          rw [List.drop_zero, List.take_append_of_le_length (Nat.le_refl _), List.take_length] at h
          exact h
        have HRX := Lib.hid (And.intro hrx (And.intro hblk hsrc))
        have HR1 := Lib.hid (show Row (w6.alloc (.cells C 5 fr)).drew r1 (seen s.mem 0 12288) from (R1.al _).dr)
        have HL := Lib.hid (show r1 < w6.heap.size ∧ w5.heap.size ≤ w6.heap.size from ⟨R1.lt, hc6.below.size⟩)
        have HS5 := Lib.hid hs5
        obtain ⟨t, rfl⟩ := Int.eq_ofNat_of_zero_le w2.1
        clear hC hS3 hrx hblk hsrc R1 hrow1 hs5 hbk hk6 hc6 hW hgc hr1
        go_wp2_with fail
        clear x1 x2
        refine (HCW.out.store (t : Int) _ n3 c l3 h3 hc HRX.out.2.2 w2.1 (by rw [HPC.out]; omega) (by omega)).mono ?_
        rintro e w8 ⟨rfl, hc8, hk8⟩
        have hrx8 := HRX.out.1.kp hk8
        have hb8 := hk8.2 _ _ _ _ HRX.out.2.1 (by decide) (by decide)
        have hr18 := HR1.out.kp hk8
        clear hk8
        by_cases hz : 0 < n3
        case' pos =>
          have hzi : (0 : Int) < (n3 : Int) := by omega
          have hcx := hrx8.cell (j := 0) (by rw [List.length_append]; omega)
          have hfx : w8.frozen? ⟨w6.heap.size, 0, none⟩ = false := by
            unfold World.frozen?
            rw [hb8]
            show (decide (fr.1 ≤ 0) && decide (0 < fr.2)) = false
            rw [decide_eq_false (by omega)]
            rfl
          have HC9 := fun v => Lib.hid (hc8.row_set (j := 0) (v := v) hrx8 HL.out.2)
          have HR9 := fun v => Lib.hid (hr18.other_set (r := w6.heap.size) (j := 0) (v := v) (by have := HL.out; omega))
          generalize (l3 ++ T).getD 0 0 = x at hcx
          clear hrx8 hb8 hc8 hr18
          go_wp2_with fail
          clear hcx hfx
          refine ((HC9 _).out.load (t : Int) (n3 : Int) w2.1 (by omega) (by show _ ≤ (sc.pages : Int) * 4096; rw [HPC.out]; omega) (by omega)).mono ?_
        case' neg =>
          have hzi : ¬ (0 : Int) < (n3 : Int) := by omega
          have HC9 := Lib.hid hc8
          have HR9 := Lib.hid hr18
          clear hrx8 hb8 hc8 hr18
          go_wp2_with fail
          refine (HC9.out.load (t : Int) (n3 : Int) w2.1 (by omega) (by show _ ≤ (sc.pages : Int) * 4096; rw [HPC.out]; omega) (by omega)).mono ?_
        all_goals
          rintro e w10 ⟨r3, rfl, hr3, hrow3, hc10, hk10⟩
          rw [Int.toNat_natCast] at *
          have hr110 : Row w10 r1 (seen s.mem 0 12288) := by first | exact (HR9 _).out.kp hk10 | exact HR9.out.kp hk10
          have hrow3 : Row w10 r3 l3 := by
            have h : Row w10 r3 (seen (lay sc.mem t l3) t n3) := hrow3
            rwa [← h3, seen_lay_same] at h
          have HS10 := Lib.hid (HS5.out.step hc10.below)
          have HL10 := Lib.hid (show r1 < w10.heap.size ∧ w.heap.size ≤ w10.heap.size from ⟨hr110.lt, HS10.out.below.size⟩)
          clear HR9 HC9 hk10 hc10 hr3
          go_wp2_with fail
          refine (HS10.out.loadF 0 12288 (by omega) (by omega) (by show (0 : Int) + _ ≤ (s.pages : Int) * 4096; rw [HP.out]; omega) (by omega)).mono ?_
          rintro e w11 ⟨r4, rfl, hr4, hrow4, hs11, hk11, hfz⟩
          have hrow4 : Row w11 r4 (seen s.mem 0 12288) := hrow4
          have y1 := (hrow3.kp hk11).string0 n3 n3 h3
          have y2 := lst_string h3c hs11.below n3 c3 h3
          have y3 := hrow4.string0 12288 12288 (seen_length _ _ _)
          have y4 := (hr110.kp hk11).string0 12288 12288 (seen_length _ _ _)
          rw [HS3.out] at y1 y2
          generalize strOfNums (seen s.mem 0 12288) = X at y3 y4
          have hcx := hrow4.cell (j := 0) (by rw [seen_length]; omega)
          have hfx := hfz 0
          have hr111 := hr110.kp hk11
          have HS11 := fun v => Lib.hid (hs11.row_set (j := 0) (v := v) hrow4 (Nat.le_trans HL10.out.2 hr4))
          have HR11 := fun v => Lib.hid (hr111.other_set (r := r4) (j := 0) (v := v) (by have := HL10.out; omega))
          generalize (seen s.mem 0 12288).getD 0 0 = x at hcx
          clear hr110 hrow3 hr4 hrow4 hs11 hk11 hfz hr111
          go_wp2_with fail
          clear y1 y2 y3 y4 hcx hfx
          refine ((HS11 _).out.load 0 1 (by omega) (by omega) (by show (0 : Int) + _ ≤ (s.pages : Int) * 4096; rw [HP.out]; omega) (by omega)).mono ?_
          rintro e w13 ⟨r5, rfl, hr5, hrow5, hs13, hk13⟩
          have hrow5 : Row w13 r5 (seen s.mem 0 1) := hrow5
          have z1 := fun q => (hrow5.dn q).cell (j := 0) (by rw [seen_length]; omega)
          have z2 := fun q => (((HR11 _).out.kp hk13).dn q).cell (j := 0) (by rw [seen_length]; omega)
          rw [seen_getD _ _ _ _ (by omega)] at z1 z2
          generalize s.mem (0 + 0) = y at z1 z2
          have HBB := Lib.hid hs13.below
          clear hrow5 hs13 hk13 hr5 HR11 HS11
          go_wp2_with fail
          go_quiet (fail)
          go_wp2
          go_ret
          exact ⟨rfl, ⟨HBB.out.os, HBB.out.tape, HBB.out.output, HBB.out.size, HBB.out.block⟩⟩
      · have hbi : ¬ (n3 : Int) ≤ 100 := by omega
        go_wp2
        go_ret
        exact ⟨rfl, hb1⟩

theorem SpaceApart_walk (A0 : Option Addr) (n0 c0 : Nat) (l0 : List Act3) (A1 : Option Addr) (n1 c1 : Nat) (l1 : List Act3) (a2 : Int) (A3 : Option Addr) (n3 c3 : Nat) (l3 : List Int) (w : World) (h0 : l0.length = n0 ∧ n0 ≤ c0 ∧ n0 ≤ maxLen ∧ Lst KAct3 5 w A0 l0 ∧ ∀ p ∈ l0, wfAct3 p) (y0 : n0 * 56 ≤ 140737488351232) (h1 : l1.length = n1 ∧ n1 ≤ c1 ∧ n1 ≤ maxLen ∧ Lst KAct3 5 w A1 l1 ∧ ∀ p ∈ l1, wfAct3 p) (y1 : n1 * 56 ≤ 140737488351232) (h2 : (Lit.int .u8 a2).wf = true)
    (h3 : l3.length = n3 ∧ n3 ≤ c3 ∧ n3 ≤ maxLen ∧ Lst (KInt .u8) 1 w A3 l3 ∧ ∀ p ∈ l3, wfInt .u8 p) (y3 : n3 * 1 ≤ 140737488351232) :
    Calls Try.prog 8 #[.slice A0 n0 c0, .slice A1 n1 c1, .int .u8 a2, .slice A3 n3 c3] w fun e w' => e = .returned (.bool true) ∧ Below w.heap.size w w' :=
  SpaceApart_any w A0 n0 c0 l0 A1 n1 c1 l1 a2 A3 n3 c3 l3 h0.1 (by omega) h0.2.2.2.1 h0.2.2.2.2 h1.1 (by omega) h1.2.2.2.1 h1.2.2.2.2 h3.1 h3.2.1 (by omega) h3.2.2.2.1 h3.2.2.2.2 (u8_lit h2)
end Go.Proofs.Ytfggmddngbbljaa.Sp
