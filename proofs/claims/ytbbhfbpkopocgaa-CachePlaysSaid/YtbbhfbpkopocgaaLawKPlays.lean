/- CachePlays: whatever is pushed, popped and cleared, each answer, and all that is kept, are the document's, step by step. -/
import Derived.Test.YtbbhfbpkopocgaaCacheSame
import Derived.Test.YtbbhfbpkopocgaaIn9
namespace Go.Proofs.Ytbbhfbpkopocgaa.Hand
open Go.RowKit Go.Proofs.Ytbbhfbpkopocgaa.In
set_option linter.unusedVariables false
set_option linter.unusedSimpArgs false

theorem add_fld (ad : Addr) (m i : Nat) (h : 0 < i) : ad.add (m + i) = ⟨(ad.add m).block, (ad.add m).off + i, none⟩ := by
  unfold Addr.add
  rw [if_neg (by omega)]
  by_cases hm : m = 0
  · rw [if_pos hm]; subst hm; simp
  · rw [if_neg hm]; simp; omega
theorem act9_cells {w : World} {A : Option Addr} {l : List Act9} (h : Lst KAct9 3 w A l) {k : Nat} (hk : k < l.length) :
    ∃ ad, A = some ad ∧ w.cell? (ad.add (k * 3)) = some (.int .u8 l[k].do_) ∧ w.cell? ⟨(ad.add (k * 3)).block, (ad.add (k * 3)).off + 1, none⟩ = some (.int .i64 l[k].cls) ∧ w.cell? ⟨(ad.add (k * 3)).block, (ad.add (k * 3)).off + 2, none⟩ = some (.int .i64 l[k].page) := by
  obtain ⟨ad, c, hA, hc, rfl, hcell⟩ := h k _ (List.getElem?_eq_getElem hk)
  refine ⟨ad, hA, hcell 0 _ rfl, ?_, ?_⟩
  · rw [← add_fld _ _ 1 (by omega)]; exact hcell 1 _ rfl
  · rw [← add_fld _ _ 2 (by omega)]; exact hcell 2 _ rfl
theorem lst_acts9 {w w' : World} {A : Option Addr} {l : List Act9} (h : Lst KAct9 3 w A l) (hb : Below w.heap.size w w') : Lst KAct9 3 w' A l := by
  intro j p hj
  obtain ⟨ad, c, h1, h2, h3, h4⟩ := h j p hj
  refine ⟨ad, c, h1, h2, h3, fun i u hu => ?_⟩
  have h5 := h4 i u hu
  have hlt : (ad.add (j * 3 + i)).block < w.heap.size := by
    apply Classical.byContradiction
    intro hn
    have : w.heap[(ad.add (j * 3 + i)).block]? = none := Array.getElem?_eq_none (by omega)
    cases hsp : (ad.add (j * 3 + i)) with
    | mk b o s =>
      rw [hsp] at this h5
      cases s <;> simp [World.cell?, this] at h5
  exact (hb.cell hlt).trans h5

theorem pushF_lit (L : Lg) (k p : Int) (h4 : ∀ j, j < 7 → (stk L j).length ≤ 4) (h : mayP L k p) (L' : Lg) (hL : L' = L ++ [(k.toNat, p)]) : (pushF (stk L) k p).1 = true ∧ (pushF (stk L) k p).2 = stk L' := by
  rw [pushF_stk L k p h4 h, hL]; exact ⟨rfl, rfl⟩
theorem popF_lit (L L' : Lg) (k p : Int) (b : Bool) (h7 : ∀ x ∈ L, x.1 < 7) (h : Popped L L' k p b) : (popF (stk L) k).1 = p ∧ (popF (stk L) k).2.1 = b ∧ (popF (stk L) k).2.2 = stk L' := by
  rw [popF_stk L L' k p b h7 h]; exact ⟨rfl, rfl, rfl⟩
theorem Cch.below {w w' : World} {c : Nat} {S : Nat → List Int} (h : Cch w c S) (hb : Below w.heap.size w w') : Cch w' c S := by
  obtain ⟨F, h1, h2⟩ := h
  have hlt : c < w.heap.size := by unfold Blk at h1; exact (Array.getElem?_eq_some_iff.1 h1).1
  exact ⟨F, (hb.block c hlt).trans h1, h2⟩

set_option maxRecDepth 100000 in
set_option maxHeartbeats 2000000 in
theorem awake9_any (w : World) : Calls Try.prog 15 #[] w fun e w' => e = .returned (.bool true) ∧ Below w.heap.size w w' := by
  obtain ⟨a1, a2⟩ := pushF_lit [] 1 4 (by decide) (by decide) [(1, 4)] rfl
  obtain ⟨b1, b2⟩ := pushF_lit [(1, 4)] 1 8 (by decide) (by decide) [(1, 4), (1, 8)] rfl
  have s1 : pagesF (stk [(1, 4), (1, 8)]) = 4 := by rw [sum_stk _ (by decide)]; decide
  obtain ⟨p1, p2, p3⟩ := popF_lit [(1, 4), (1, 8)] [(1, 4)] 1 8 true (by decide) (.inr ⟨rfl, [(1, 4)], [], (1, 8), rfl, rfl, rfl, rfl, by simp⟩)
  obtain ⟨q1, q2, q3⟩ := popF_lit [(1, 4)] [] 1 4 true (by decide) (.inr ⟨rfl, [], [], (1, 4), rfl, rfl, rfl, rfl, by simp⟩)
  obtain ⟨r1, r2, r3⟩ := popF_lit [] [] 1 0 false (by decide) (.inl ⟨rfl, rfl, rfl, by simp⟩)
  have HB0 : RowKit.Hid (∀ w' w'', Below w.heap.size w w' → w'.grownBy w'' (some w.heap.size) → Below w.heap.size w w'') := fun w' w'' h1 h2 => h1.grown h2 h1.size (fun k hk => by injection hk with hk; omega)
  have HE := Lib.hid (And.intro (And.intro a1 a2) (And.intro (And.intro b1 b2) (And.intro s1 (And.intro (And.intro p1 (And.intro p2 p3)) (And.intro (And.intro q1 (And.intro q2 q3)) (And.intro r1 (And.intro r2 r3)))))))
  clear a1 a2 b1 b2 s1 p1 p2 p3 q1 q2 q3 r1 r2 r3
  go_enter Try.func15, Try.ntmps15
  go_wp2_with fail
  refine (new_any w).mono ?_
  rintro e w1 ⟨rfl, hc, hb1⟩
  go_wp2_with fail
  refine (push_any w.heap.size 1 4 (stk []) w1 hc).mono ?_
  rw [HE.out.1.1, HE.out.1.2]
  rintro e w2 ⟨rfl, hc2, hg2⟩
  have hb2 := HB0.out _ _ hb1 hg2
  clear hc hb1 hg2
  go_wp2_with fail
  refine (push_any w.heap.size 1 8 (stk [(1, 4)]) w2 hc2).mono ?_
  rw [HE.out.2.1.1, HE.out.2.1.2]
  rintro e w3 ⟨rfl, hc3, hg3⟩
  have hb3 := HB0.out _ _ hb2 hg3
  clear hc2 hb2 hg3
  go_wp2_with fail
  refine (pages_all w.heap.size _ w3 hc3).mono ?_
  rw [HE.out.2.2.1]
  rintro e w4 ⟨rfl, rfl⟩
  go_wp2_with fail
  refine (pop_any w.heap.size 1 _ w3 hc3).mono ?_
  rw [HE.out.2.2.2.1.1, HE.out.2.2.2.1.2.1, HE.out.2.2.2.1.2.2]
  rintro e w5 ⟨rfl, hc5, hg5⟩
  have hb5 := HB0.out _ _ hb3 hg5
  clear hc3 hb3 hg5
  go_wp2_with fail
  refine (pop_any w.heap.size 1 _ w5 hc5).mono ?_
  rw [HE.out.2.2.2.2.1.1, HE.out.2.2.2.2.1.2.1, HE.out.2.2.2.2.1.2.2]
  rintro e w6 ⟨rfl, hc6, hg6⟩
  have hb6 := HB0.out _ _ hb5 hg6
  clear hc5 hb5 hg6
  go_wp2_with fail
  refine (pop_any w.heap.size 1 _ w6 hc6).mono ?_
  rw [HE.out.2.2.2.2.2.1, HE.out.2.2.2.2.2.2.1, HE.out.2.2.2.2.2.2.2]
  rintro e w7 ⟨rfl, hc7, hg7⟩
  have hb7 := HB0.out _ _ hb6 hg7
  clear hc6 hb6 hg7
  go_wp2_with fail
  go_ret
  exact ⟨rfl, hb7⟩

def PushP (base : Nat) (w : World) (L : Lg) (k p : Int) (e : Ending) (w' : World) : Prop := ∃ v' b L', e = .returned (.tuple #[v', .bool b]) ∧ RefL base w' v' L' ∧ Below w.heap.size w w' ∧ pushF (stk L) k p = (b, stk L') ∧ L'.length ≤ L.length + 1
theorem refL_below {base : Nat} {w w' : World} {v : Value} {L : Lg} (h : RefL base w v L) (hb : Below w.heap.size w w') : RefL base w' v L := ⟨own_below h.1 hb, h.2⟩
theorem refPush_any (base : Nat) (v : Value) (L : Lg) (k p : Int) (w : World) (h : RefL base w v L) (hb : base ≤ w.heap.size) (hl : L.length < 100) (h4 : ∀ j, j < 7 → (stk L j).length ≤ 4) : Calls Try.prog 23 #[v, .int .i64 k, .int .i64 p] w (PushP base w L k p) := by
  by_cases hm : mayP L k p
  · have hk := hm.1
    obtain ⟨m, rfl⟩ := Int.eq_ofNat_of_zero_le hk.1
    refine (refPush_ok base v L m p w h hb hm hl).mono ?_
    rintro e w' ⟨v', he, hr, hb'⟩
    exact ⟨v', true, _, he, hr, hb', by have := pushF_stk L m p h4 hm; rwa [Int.toNat_natCast] at this, by simp⟩
  · refine (refPush_no base v L k p w h hm).mono ?_
    rintro e w' ⟨he, hb'⟩
    exact ⟨v, false, L, he, refL_below h hb', hb', pushF_no L k p hm, by omega⟩
theorem boxes1 {W w1 : World} {o1 : Obj} (h : Below (W.alloc o1).heap.size (W.alloc o1) w1) : w1.heap[W.heap.size]? = some o1 ∧ Below W.heap.size W w1 := by
  have hs : W.heap.size < (W.alloc o1).heap.size := (Array.getElem?_eq_some_iff.1 (heap_alloc_new W o1)).1
  exact ⟨(h.block _ hs).trans (heap_alloc_new W o1), ((Below.refl _ _).alloc (Nat.le_refl _) o1).trans (h.mono (by omega))⟩
theorem box3 {w : World} {b t : Nat} {x y z : Value} (h : w.heap[b]? = some (.cells #[x, y, z] t (0, 0))) : w.cell? ⟨b, 0, none⟩ = some x ∧ w.cell? ⟨b, 1, none⟩ = some y ∧ w.cell? ⟨b, 2, none⟩ = some z := by
  simp [World.cell?, h]
theorem stk_le {w : World} {c : Nat} {S : Nat → List Int} (h : Cch w c S) : ∀ j, j < 7 → (S j).length ≤ 4 := by obtain ⟨F, _, hs⟩ := h; exact hs.le
theorem Cch.size {w : World} {c : Nat} {S : Nat → List Int} (h : Cch w c S) : ∃ cs, w.heap[c]? = some (.cells cs 47 (0, 0)) := by obtain ⟨F, g1, _⟩ := h; exact ⟨_, g1⟩
theorem refL_kept {base c : Nat} {w w' : World} {v : Value} {L : Lg} {S : Nat → List Int} (h : RefL base w v L) (hc : Cch w c S) (hg : w.grownBy w' (some c)) : RefL base w' v L := by
  refine ⟨⟨h.1.1, ?_⟩, h.2⟩
  rcases h.1.2 with h2 | ⟨g, cap, cur, e1, e2, e3, e4⟩
  · exact .inl h2
  · refine .inr ⟨g, cap, cur, e1, e2, (hg.block g (Array.getElem?_eq_some_iff.1 e3).1 (fun e => ?_)).trans e3, e4⟩
    injection e with e
    subst e
    obtain ⟨cs, h3⟩ := hc.size
    rw [e3] at h3
    injection h3 with h3
    injection h3 with _ h4
    cases h4
/-- How things stand ahead of a round: the cache, the reference's row, a second cache that is bare. -/
def Both9 (w0 W : World) (q cb zb : Nat) (v : Value) (L : Lg) : Prop :=
  Below w0.heap.size w0 W ∧ Cch W cb (stk L) ∧ Cch W zb none7 ∧ RefL w0.heap.size W v L ∧ L.length ≤ q ∧ w0.heap.size ≤ cb ∧ w0.heap.size ≤ zb ∧ cb ≠ zb

theorem Both9.step {w0 W W' : World} {q cb zb : Nat} {v : Value} {L : Lg} (h : Both9 w0 W q cb zb v L) (hb : Below W.heap.size W W') : Both9 w0 W' q cb zb v L := by
  obtain ⟨h1, h2, h3, h4, h5, h6, h7, h8⟩ := h
  exact ⟨h1.trans (hb.mono h1.size), h2.below hb, h3.below hb, refL_below h4 hb, h5, h6, h7, h8⟩
/-- The reference's row is another one, the cache too. -/
theorem Both9.next {w0 W W' : World} {q q' cb zb : Nat} {v v' : Value} {L L' : Lg} (h : Both9 w0 W q cb zb v L) (hr : RefL w0.heap.size W v' L') (hl : L'.length ≤ q') (hg : W.grownBy W' (some cb)) (hc : Cch W' cb (stk L')) : Both9 w0 W' q' cb zb v' L' := by
  obtain ⟨h1, h2, h3, h4, h5, h6, h7, h8⟩ := h
  refine ⟨h1.grown hg h1.size (fun k hk => by injection hk with hk; omega), hc, ?_, refL_kept hr h2 hg, hl, h6, h7, h8⟩
  obtain ⟨F, g1, g2⟩ := h3
  refine ⟨F, (hg.block zb ?_ (fun e => by injection e with e; exact h8 e.symm)).trans g1, g2⟩
  unfold Blk at g1; exact (Array.getElem?_eq_some_iff.1 g1).1

theorem popped_len {L L' : Lg} {k p : Int} {b : Bool} (h : Popped L L' k p b) : L'.length ≤ L.length := by
  rcases h with ⟨_, _, rfl, _⟩ | ⟨_, M, N, x, rfl, rfl, _⟩
  · exact Nat.le_refl _
  · simp
theorem box_kept {w w' : World} {c b : Nat} {S : Nat → List Int} {cs : Array Value} (hb : w.heap[b]? = some (.cells cs 50 (0, 0))) (hc : Cch w c S) (hg : w.grownBy w' (some c)) : w'.heap[b]? = some (.cells cs 50 (0, 0)) := by
  refine (hg.block b (Array.getElem?_eq_some_iff.1 hb).1 (fun e => ?_)).trans hb
  injection e with e
  subst e
  obtain ⟨cs, h3⟩ := hc.size
  rw [hb] at h3
  injection h3 with h3
  injection h3 with _ h4
  cases h4

set_option maxRecDepth 100000 in
set_option maxHeartbeats 4000000 in
theorem CachePlays_any (w : World) (A : Option Addr) (n c : Nat) (l : List Act9) (hl : l.length = n) (hn : n ≤ 9223372036854775807) (hA : Lst KAct9 3 w A l) :
    Calls Try.prog 6 #[.slice A n c] w fun e w' => e = .returned (.bool true) ∧ Below w.heap.size w w' := by
  have HL := Lib.hid hl
  have HLA := Lib.hid hA
  clear hl hA
  go_enter Try.func6, Try.ntmps6
  go_wp2_with fail
  refine (awake9_any w).mono ?_
  rintro e w1 ⟨rfl, hb1⟩
  by_cases hhi : 80 < n
  · have hhii : (80 : Int) < (n : Int) := by omega
    go_wp2_with fail
    go_ret
    exact ⟨rfl, hb1⟩
  have hhii : ¬ (80 : Int) < (n : Int) := by omega
  have hn80 : n ≤ 80 := by omega
  go_wp2_with fail
  refine (new_any w1).mono ?_
  rintro e w2 ⟨rfl, hc2, hb2⟩
  have HW2 := Lib.hid (And.intro hb1 (And.intro hc2 hb2))
  have HZB : RowKit.Hid (Blk (w2.alloc (.cells (Array.replicate 35 (.int .i64 0)) 47)) w2.heap.size (fun _ => 0)) := by
    unfold Blk
    rw [cells_zero]
    exact heap_alloc_new _ _
  clear hb1 hc2 hb2
  go_wp2_with (refine wpList_store_row rfl 47 _ _ rfl w2.heap.size (Array.replicate 35 (.int .i64 0)) rfl rfl 47 _ HZB.out (by kernel_rfl) (cells_size _) ones ?_)
  have HI0 : RowKit.Hid (Both9 w ((w2.alloc (.cells (Array.replicate 35 (.int .i64 0)) 47)).setRow w2.heap.size (Array.replicate 35 (.int .i64 0))) 0 w1.heap.size w2.heap.size (.slice none 0 0) []) := by
    obtain ⟨h1, h2, h3⟩ := HW2.out
    have h4 := h1.trans (h3.mono h1.size)
    have hc : w1.heap.size < w2.heap.size := by obtain ⟨F, g1, _⟩ := h2; unfold Blk at g1; exact (Array.getElem?_eq_some_iff.1 g1).1
    have h5 := grown_alloc_row w2 (.cells (Array.replicate 35 (.int .i64 0)) 47) (Array.replicate 35 (.int .i64 0))
    refine ⟨h4.grown h5 h4.size (fun k hk => by cases hk), ?_, row_zero HZB.out, ⟨World.ownsRow_nil _ _ _ _, (fun x hx => by cases hx), by decide⟩, Nat.le_refl _, h1.size, h4.size, by omega⟩
    obtain ⟨F, g1, g2⟩ := h2
    exact ⟨F, (h5.block _ hc (by simp)).trans g1, g2⟩
  clear HW2 HZB
  go_loopw [7, 8] (fun v i wr => ∃ (q : Nat) (L : Lg), q ≤ n ∧ i = .int .i64 (q : Int) ∧ Both9 w wr q w1.heap.size w2.heap.size v L) (fun _ i _ => n - (intOf i).toNat)
  case atStart => exact ⟨0, [], Nat.zero_le _, rfl, HI0.out⟩
  case round =>
    obtain ⟨q, L, hq, rfl, hB⟩ := hrel
    have HB := Lib.hid hB
    clear hB HI0
    obtain ⟨VA, Vc, hvf, _⟩ := refL_form HB.out.2.2.2.1
    subst hvf
    generalize w1.heap.size = cb at *
    generalize w2.heap.size = zb at *
    by_cases hlt : q < n
    · have hlti : (q : Int) < (n : Int) := by omega
      have hkl : q < l.length := by rw [HL.out]; exact hlt
      obtain ⟨ad, rfl, c0, c1, c2⟩ := act9_cells (lst_acts9 HLA.out HB.out.1) hkl
      generalize l[q] = x at *
      obtain ⟨xd, xk, xp⟩ := x
      simp only at c0 c1 c2
      by_cases d0 : xd = 0
      · have e0 : (xd == 0) = true := by simpa using d0
        clear d0
        go_wp2_with fail
        refine (refPush_any w.heap.size _ L xk xp _ (refL_below HB.out.2.2.2.1 ((Below.refl _ _).alloc (Nat.le_refl _) _)) (Nat.le_trans HB.out.1.size ((Below.refl wr.heap.size wr).alloc (Nat.le_refl _) _).size) (by have := HB.out.2.2.2.2.1; omega) (stk_le HB.out.2.1)).mono ?_
        rintro e w5 ⟨v5, b5, L5, rfl, hr5, hb5, hp5, hl5⟩
        obtain ⟨ea5, hbb5⟩ := boxes1 hb5
        obtain ⟨p0, p1, p2⟩ := box3 ea5
        have HB5 := Lib.hid (And.intro (HB.out.step hbb5) (And.intro hr5 (And.intro hp5 (And.intro hl5 ea5))))
        clear hr5 hb5 hbb5 hp5 hl5 ea5
        go_wp2_with fail
        refine (push_any cb xk xp (stk L) w5 HB5.out.1.2.1).mono ?_
        rw [HB5.out.2.2.1]
        rintro e w6 ⟨rfl, hc6, hg6⟩
        obtain ⟨r0, r1, r2⟩ := box3 (box_kept HB5.out.2.2.2.2 HB5.out.1.2.1 hg6)
        have HN6 : RowKit.Hid (Both9 w w6 (q + 1) cb zb v5 L5) := Lib.hid (HB5.out.1.next HB5.out.2.1 (by have := HB5.out.2.2.2.1; have := HB.out.2.2.2.2.1; omega) hg6 hc6)
        clear hc6 hg6 p0 p1 p2 c0 c1 c2
        have hbe : (b5 != b5) = false := by simp
        go_wp2_with fail
        refine (push_nil xk xp w6).mono ?_
        rintro e w7 ⟨rfl, rfl⟩
        go_wp2_with fail
        -- TAIL
        go_loopw [19] (fun i wt => ∃ z : Int, i = .int .i64 z ∧ -1 ≤ z ∧ z ≤ 9 ∧ Both9 w wt (q + 1) cb zb v5 L5) (fun i _ => (9 - intOf i).toNat)
        case atStart => exact ⟨-1, rfl, by omega, by omega, HN6.out⟩
        case round =>
          obtain ⟨z, rfl, hz1, hz2, hB7⟩ := hrel
          have HB7 := Lib.hid hB7
          clear hB7 HN6
          by_cases hz : z < 9
          · go_wp2_with fail
            refine (len_any cb z (stk L5) _ HB7.out.2.1).mono ?_
            rw [lenF_stk L5 z HB7.out.2.2.2.1.2.1]
            rintro e w8 ⟨rfl, rfl⟩
            go_wp2_with fail
            refine (refLen_any w.heap.size v5 L5 z _ HB7.out.2.2.2.1).mono ?_
            rintro e w8 ⟨rfl, rfl⟩
            go_wp2_with fail
            go_roundw
            case rel => exact ⟨z + 1, by first | go_num | rfl, by omega, by omega, HB7.out⟩
            case measure => simp [intOf]; omega
          · clear hz1 hz2
            have hcn := cnt_le (stk_le HB7.out.2.1) 7 (by decide)
            have HCN := Lib.hid hcn
            clear hcn
            go_wp2_with fail
            refine (pages_all cb (stk L5) _ HB7.out.2.1).mono ?_
            rw [sum_stk L5 HB7.out.2.2.2.1.2.1]
            rintro e w8 ⟨rfl, rfl⟩
            go_wp2_with fail
            refine (refSum_any w.heap.size v5 L5 _ HB7.out.2.2.2.1).mono ?_
            rintro e w8 ⟨rfl, rfl⟩
            go_wp2_with fail
            refine (all_any cb (stk L5) _ HB7.out.2.1).mono ?_
            rintro e w8 ⟨va, rfl, hoa, hb8⟩
            have HA8 := Lib.hid (And.intro hoa hb8)
            clear hoa hb8
            go_wp2_with fail
            refine (refAll_any w.heap.size v5 L5 w8 (refL_below HB7.out.2.2.2.1 HA8.out.2)).mono ?_
            rintro e w9 ⟨vb, rfl, hob, hb9⟩
            have HA9 := Lib.hid (And.intro hob hb9)
            clear hob hb9
            go_wp2_with fail
            refine (same_ok _ _ (cnt (stk L5) 7) va vb (allC (stk L5) 7) w9 (own_below HA8.out.1 HA9.out.2) HA9.out.1 (pairs_all _ 7).2 (by have := HCN.out; omega)).mono ?_
            rintro e w10 ⟨rfl, hb10⟩
            have HN := Lib.hid (((HB7.out.step HA8.out.2).step HA9.out.2).step hb10)
            clear hb10
            go_wp2_with fail
            go_roundw
            case rel => exact ⟨q + 1, L5, by omega, by go_num, HN.out⟩
            case measure => simp [intOf]; omega
        -- END
      · have e0 : (xd == 0) = false := by simpa using d0
        by_cases d1 : xd = 1
        · have e1 : (xd == 1) = true := by simpa using d1
          clear d0 d1
          go_wp2_with fail
          refine (refPop_any w.heap.size _ L xk _ (refL_below HB.out.2.2.2.1 ((Below.refl _ _).alloc (Nat.le_refl _) _)) (Nat.le_trans HB.out.1.size ((Below.refl wr.heap.size wr).alloc (Nat.le_refl _) _).size)).mono ?_
          rintro e w5 ⟨v5, p5, b5, L5, rfl, hr5, hb5, hp5⟩
          obtain ⟨ea5, hbb5⟩ := boxes1 hb5
          obtain ⟨p0, p1, p2⟩ := box3 ea5
          have HB5 := Lib.hid (And.intro (HB.out.step hbb5) (And.intro hr5 (And.intro hp5 ea5)))
          clear hr5 hb5 hbb5 hp5 ea5
          go_wp2_with fail
          refine (pop_any cb xk (stk L) w5 HB5.out.1.2.1).mono ?_
          rw [popF_stk L L5 xk p5 b5 HB.out.2.2.2.1.2.1 HB5.out.2.2.1]
          rintro e w6 ⟨rfl, hc6, hg6⟩
          obtain ⟨r0, r1, r2⟩ := box3 (box_kept HB5.out.2.2.2 HB5.out.1.2.1 hg6)
          have HN6 : RowKit.Hid (Both9 w w6 (q + 1) cb zb v5 L5) := Lib.hid (HB5.out.1.next HB5.out.2.1 (by have := popped_len HB5.out.2.2.1; have := HB.out.2.2.2.2.1; omega) hg6 hc6)
          clear hc6 hg6 p0 p1 p2 c0 c1 c2
          have hbe : (b5 != b5) = false := by simp
          have hpe : (p5 != p5) = false := by simp
          go_wp2_with fail
          refine (pop_nil xk w6).mono ?_
          rintro e w7 ⟨rfl, rfl⟩
          go_wp2_with fail
          -- TAIL
          go_loopw [19] (fun i wt => ∃ z : Int, i = .int .i64 z ∧ -1 ≤ z ∧ z ≤ 9 ∧ Both9 w wt (q + 1) cb zb v5 L5) (fun i _ => (9 - intOf i).toNat)
          case atStart => exact ⟨-1, rfl, by omega, by omega, HN6.out⟩
          case round =>
            obtain ⟨z, rfl, hz1, hz2, hB7⟩ := hrel
            have HB7 := Lib.hid hB7
            clear hB7 HN6
            by_cases hz : z < 9
            · go_wp2_with fail
              refine (len_any cb z (stk L5) _ HB7.out.2.1).mono ?_
              rw [lenF_stk L5 z HB7.out.2.2.2.1.2.1]
              rintro e w8 ⟨rfl, rfl⟩
              go_wp2_with fail
              refine (refLen_any w.heap.size v5 L5 z _ HB7.out.2.2.2.1).mono ?_
              rintro e w8 ⟨rfl, rfl⟩
              go_wp2_with fail
              go_roundw
              case rel => exact ⟨z + 1, by first | go_num | rfl, by omega, by omega, HB7.out⟩
              case measure => simp [intOf]; omega
            · clear hz1 hz2
              have hcn := cnt_le (stk_le HB7.out.2.1) 7 (by decide)
              have HCN := Lib.hid hcn
              clear hcn
              go_wp2_with fail
              refine (pages_all cb (stk L5) _ HB7.out.2.1).mono ?_
              rw [sum_stk L5 HB7.out.2.2.2.1.2.1]
              rintro e w8 ⟨rfl, rfl⟩
              go_wp2_with fail
              refine (refSum_any w.heap.size v5 L5 _ HB7.out.2.2.2.1).mono ?_
              rintro e w8 ⟨rfl, rfl⟩
              go_wp2_with fail
              refine (all_any cb (stk L5) _ HB7.out.2.1).mono ?_
              rintro e w8 ⟨va, rfl, hoa, hb8⟩
              have HA8 := Lib.hid (And.intro hoa hb8)
              clear hoa hb8
              go_wp2_with fail
              refine (refAll_any w.heap.size v5 L5 w8 (refL_below HB7.out.2.2.2.1 HA8.out.2)).mono ?_
              rintro e w9 ⟨vb, rfl, hob, hb9⟩
              have HA9 := Lib.hid (And.intro hob hb9)
              clear hob hb9
              go_wp2_with fail
              refine (same_ok _ _ (cnt (stk L5) 7) va vb (allC (stk L5) 7) w9 (own_below HA8.out.1 HA9.out.2) HA9.out.1 (pairs_all _ 7).2 (by have := HCN.out; omega)).mono ?_
              rintro e w10 ⟨rfl, hb10⟩
              have HN := Lib.hid (((HB7.out.step HA8.out.2).step HA9.out.2).step hb10)
              clear hb10
              go_wp2_with fail
              go_roundw
              case rel => exact ⟨q + 1, L5, by omega, by go_num, HN.out⟩
              case measure => simp [intOf]; omega
          -- END
        · have e1 : (xd == 1) = false := by simpa using d1
          clear d0 d1
          have HB5 := Lib.hid (HB.out.step ((Below.refl _ _).alloc (Nat.le_refl _) (.cells #[.int .u8 xd, .int .i64 xk, .int .i64 xp] 50)))
          go_wp2_with fail
          refine (clear_any cb (stk L) _ HB5.out.2.1).mono ?_
          rintro e w6 ⟨rfl, hc6, hg6⟩
          obtain ⟨v5, hv5⟩ : ∃ v5 : Value, v5 = .slice none 0 0 := ⟨_, rfl⟩
          obtain ⟨L5, hL5⟩ : ∃ L5 : Lg, L5 = [] := ⟨_, rfl⟩
          have HN6 : RowKit.Hid (Both9 w w6 (q + 1) cb zb v5 L5) := Lib.hid (HB5.out.next (L' := L5) (by rw [hv5, hL5]; exact ⟨World.ownsRow_nil _ _ _ _, (fun x hx => by cases hx), by decide⟩) (by rw [hL5]; exact Nat.zero_le _) hg6 (by rw [hL5, stk_nil]; exact hc6))
          clear hc6 hg6 c0 c1 c2 hL5
          rw [← hv5]
          clear hv5
          go_wp2_with fail
          refine (clear_nil w6).mono ?_
          rintro e w7 ⟨rfl, rfl⟩
          go_wp2_with fail
          -- TAIL
          go_loopw [19] (fun i wt => ∃ z : Int, i = .int .i64 z ∧ -1 ≤ z ∧ z ≤ 9 ∧ Both9 w wt (q + 1) cb zb v5 L5) (fun i _ => (9 - intOf i).toNat)
          case atStart => exact ⟨-1, rfl, by omega, by omega, HN6.out⟩
          case round =>
            obtain ⟨z, rfl, hz1, hz2, hB7⟩ := hrel
            have HB7 := Lib.hid hB7
            clear hB7 HN6
            by_cases hz : z < 9
            · go_wp2_with fail
              refine (len_any cb z (stk L5) _ HB7.out.2.1).mono ?_
              rw [lenF_stk L5 z HB7.out.2.2.2.1.2.1]
              rintro e w8 ⟨rfl, rfl⟩
              go_wp2_with fail
              refine (refLen_any w.heap.size v5 L5 z _ HB7.out.2.2.2.1).mono ?_
              rintro e w8 ⟨rfl, rfl⟩
              go_wp2_with fail
              go_roundw
              case rel => exact ⟨z + 1, by first | go_num | rfl, by omega, by omega, HB7.out⟩
              case measure => simp [intOf]; omega
            · clear hz1 hz2
              have hcn := cnt_le (stk_le HB7.out.2.1) 7 (by decide)
              have HCN := Lib.hid hcn
              clear hcn
              go_wp2_with fail
              refine (pages_all cb (stk L5) _ HB7.out.2.1).mono ?_
              rw [sum_stk L5 HB7.out.2.2.2.1.2.1]
              rintro e w8 ⟨rfl, rfl⟩
              go_wp2_with fail
              refine (refSum_any w.heap.size v5 L5 _ HB7.out.2.2.2.1).mono ?_
              rintro e w8 ⟨rfl, rfl⟩
              go_wp2_with fail
              refine (all_any cb (stk L5) _ HB7.out.2.1).mono ?_
              rintro e w8 ⟨va, rfl, hoa, hb8⟩
              have HA8 := Lib.hid (And.intro hoa hb8)
              clear hoa hb8
              go_wp2_with fail
              refine (refAll_any w.heap.size v5 L5 w8 (refL_below HB7.out.2.2.2.1 HA8.out.2)).mono ?_
              rintro e w9 ⟨vb, rfl, hob, hb9⟩
              have HA9 := Lib.hid (And.intro hob hb9)
              clear hob hb9
              go_wp2_with fail
              refine (same_ok _ _ (cnt (stk L5) 7) va vb (allC (stk L5) 7) w9 (own_below HA8.out.1 HA9.out.2) HA9.out.1 (pairs_all _ 7).2 (by have := HCN.out; omega)).mono ?_
              rintro e w10 ⟨rfl, hb10⟩
              have HN := Lib.hid (((HB7.out.step HA8.out.2).step HA9.out.2).step hb10)
              clear hb10
              go_wp2_with fail
              go_roundw
              case rel => exact ⟨q + 1, L5, by omega, by go_num, HN.out⟩
              case measure => simp [intOf]; omega
          -- END
    · have hlti : ¬ (q : Int) < (n : Int) := by omega
      have hcn := cnt_le (stk_le HB.out.2.1) 7 (by decide)
      have HCN := Lib.hid hcn
      clear hcn
      obtain ⟨z1, z2⟩ := pushF_lit [] 0 1 (by decide) (by decide) [(0, 1)] rfl
      have s1 : pagesF none7 = 0 := by rw [← stk_nil, sum_stk _ (by decide)]; decide
      have s2 : lenF (stk [(0, 1)]) 0 = 1 := by rw [lenF_stk _ _ (by decide)]; decide
      have HZ := Lib.hid (And.intro z1 (And.intro z2 (And.intro s1 s2)))
      clear z1 z2 s1 s2
      go_wp2_with fail
      refine (all_any cb (stk L) _ HB.out.2.1).mono ?_
      rintro e w8 ⟨va, rfl, hoa, hb8⟩
      have HA8 := Lib.hid (And.intro hoa hb8)
      clear hoa hb8
      go_wp2_with fail
      refine (refAll_any w.heap.size _ L w8 (refL_below HB.out.2.2.2.1 HA8.out.2)).mono ?_
      rintro e w9 ⟨vb, rfl, hob, hb9⟩
      have HA9 := Lib.hid (And.intro hob hb9)
      clear hob hb9
      go_wp2_with fail
      refine (same_ok _ _ (cnt (stk L) 7) va vb (allC (stk L) 7) w9 (own_below HA8.out.1 HA9.out.2) HA9.out.1 (pairs_all _ 7).2 (by have := HCN.out; omega)).mono ?_
      rintro e w10 ⟨rfl, hb10⟩
      have HN := Lib.hid (((HB.out.step HA8.out.2).step HA9.out.2).step hb10)
      clear hb10
      go_wp2_with fail
      refine (len_nil 0 w10).mono ?_
      rintro e w11 ⟨rfl, rfl⟩
      go_wp2_with fail
      refine (sum_nil w10).mono ?_
      rintro e w11 ⟨rfl, rfl⟩
      go_wp2_with fail
      refine (all_nil w10).mono ?_
      rintro e w11 ⟨NA, Nc, rfl, hb11⟩
      have HN11 := Lib.hid (HN.out.step hb11)
      clear hb11
      go_wp2_with fail
      refine (pages_all zb none7 w11 HN11.out.2.2.1).mono ?_
      rw [HZ.out.2.2.1]
      rintro e w12 ⟨rfl, rfl⟩
      go_wp2_with fail
      refine (push_any zb 0 1 none7 w11 HN11.out.2.2.1).mono ?_
      rw [← stk_nil, HZ.out.1, HZ.out.2.1]
      rintro e w12 ⟨rfl, hc12, hg12⟩
      have HB12 := Lib.hid (And.intro hc12 (HN11.out.1.grown hg12 HN11.out.1.size (fun k hk => by have := HN11.out.2.2.2.2.2.2.1; injection hk with hk; omega)))
      clear hc12 hg12
      go_wp2_with fail
      refine (len_any zb 0 _ w12 HB12.out.1).mono ?_
      rw [HZ.out.2.2.2]
      rintro e w13 ⟨rfl, rfl⟩
      go_wp2_with fail
      go_ret
      exact ⟨rfl, HB12.out.2⟩
theorem CachePlays_walk (A1 : Option Addr) (n1 c1 : Nat) (l1 : List Act9) (w : World)
    (h1 : l1.length = n1 ∧ n1 ≤ c1 ∧ n1 ≤ maxLen ∧ Lst KAct9 3 w A1 l1 ∧ ∀ p ∈ l1, wfAct9 p) (y1 : n1 * 24 ≤ 140737488351232) :
    Calls Try.prog 6 #[.slice A1 n1 c1] w fun e w' => e = .returned (.bool true) ∧ Below w.heap.size w w' :=
  CachePlays_any w A1 n1 c1 l1 h1.1 (by omega) h1.2.2.2.1
end Go.Proofs.Ytbbhfbpkopocgaa.Hand
