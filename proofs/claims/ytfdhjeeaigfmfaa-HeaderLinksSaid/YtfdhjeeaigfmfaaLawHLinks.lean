/- HeaderLinks: pages that are linked one behind the other are met in that order, whatever bytes stand behind their headers. -/
import Derived.Test.YtfdhjeeaigfmfaaLawHBack
import Derived.Test.YtfdhjeeaigfmfaaLawHInside
import Derived.Laws.OwnMore
namespace Go.Proofs.Ytfdhjeeaigfmfaa.Sp
open Go.RowKit Go.WideMaps Go.Proofs.Ytfdhjeeaigfmfaa.In Go.Proofs.Ytfdhjeeaigfmfaa.Plain
set_option linter.unusedVariables false
set_option linter.unusedSimpArgs false

/-- What the last page's link tells. -/
def nextOf : List Nat → Int
  | [] => 0
  | p :: _ => (p : Int) + 1
/-- Pages' headers, the last one first: each has the one ahead of it as its next one. -/
def Chain (s : SpS) : List Nat → Prop
  | [] => True
  | p :: L => (∃ o, HdAt s p ⟨1, 1, o, nextOf L⟩) ∧ Chain s L
theorem chain_of {s s' : SpS} (L : List Nat) (h : Chain s L) (hs : ∀ p ∈ L, ∀ x, HdAt s p x → HdAt s' p x) : Chain s' L := by
  induction L with
  | nil => trivial
  | cons p L ih =>
    obtain ⟨⟨o, ho⟩, h2⟩ := h
    exact ⟨⟨o, hs p List.mem_cons_self _ ho⟩, ih h2 fun q hq => hs q (List.mem_cons_of_mem _ hq)⟩
theorem nextOf_in (L : List Nat) (h : ∀ p ∈ L, p ≤ 255) : 0 ≤ nextOf L ∧ nextOf L ≤ 256 := by
  cases L with
  | nil => exact ⟨by decide, by decide⟩
  | cons p L => have := h p List.mem_cons_self; show 0 ≤ (p : Int) + 1 ∧ (p : Int) + 1 ≤ 256; omega
/-- Bytes behind any page's header leave the headers. -/
theorem hdAt_store {s : SpS} {p q t n : Nat} {h : Hd} {k : Int} {l : List Int} (H : HdAt s q h) (ht : p * 4096 + 32 = t) (hl : l.length = n) (hn : n ≤ 300) : HdAt (tick { s with mem := lay s.mem t l } k) q h := by
  refine ⟨?_, H.2⟩
  rw [← H.1]
  exact seen_lay_off _ _ _ _ _ (by omega)
theorem chain_next {s : SpS} {p t n : Nat} {L : List Nat} {k o : Int} {l : List Int} (hc : Chain s L) (hp : p ∉ L) (hL : ∀ q ∈ L, q ≤ 255) (ho : 0 ≤ o ∧ o ≤ 18446744073709551615) (ht : p * 4096 + 32 = t) (hl : l.length = n) (hn : n ≤ 300) :
    Chain (tick { linked (wrote s (p * 4096) ⟨1, 1, o, 0⟩) (p * 4096) (nextOf L) with mem := lay (linked (wrote s (p * 4096) ⟨1, 1, o, 0⟩) (p * 4096) (nextOf L)).mem t l } k) (p :: L) := by
  have hx := nextOf_in L hL
  have h1 := HdAt.wrote s p ⟨1, 1, o, 0⟩ ⟨by show (1 : Int) ≤ 1; decide, by show (1 : Int) ≤ 1048576; decide, by show (0 : Int) ≤ 1; decide, by show (1 : Int) ≤ 255; decide⟩ ho ⟨by show (0 : Int) ≤ 0; decide, by show (0 : Int) ≤ 18446744073709551615; decide⟩
  have h2 := h1.linked (nextOf L) ⟨hx.1, by omega⟩
  refine ⟨⟨o, hdAt_store h2 ht hl hn⟩, chain_of L hc fun q hq x H => ?_⟩
  have hne : q ≠ p := fun e => hp (e ▸ hq)
  exact hdAt_store (hdAt_off (hdAt_off H hne ⟨1, 1, o, 0⟩ 0).1 hne ⟨1, 1, o, 0⟩ (nextOf L)).2.1 ht hl hn

/-- A row of truths. -/
def URow (w : World) (u : Nat) (f : Nat → Bool) : Prop := w.heap[u]? = some (.cells ((List.range 256).map fun i => Value.bool (f i)).toArray 4 (0, 0))
theorem URow.cell {w : World} {u : Nat} {f : Nat → Bool} (h : URow w u f) {p : Nat} (hp : p < 256) : w.cell? ⟨u, p, none⟩ = some (.bool (f p)) := by
  unfold URow at h
  simp [World.cell?, h, hp]
theorem URow.frozen {w : World} {u : Nat} {f : Nat → Bool} (h : URow w u f) (j : Nat) : w.frozen? ⟨u, j, none⟩ = false := by
  unfold URow at h
  unfold World.frozen?
  rw [h]
  simp
theorem URow.set {w : World} {u : Nat} {f : Nat → Bool} (h : URow w u f) (p : Nat) : URow (w.setCell ⟨u, p, none⟩ (.bool true)) u (fun i => f i || decide (i = p)) := by
  unfold URow at h ⊢
  simp only [World.setCell, Array.getElem?_modify, if_true, h, Option.map_some]
  congr 2
  apply Array.ext
  · simp
  · intro i h1 h2
    by_cases hi : p = i
    · subst hi
      simp
    · have hi2 : ¬ i = p := fun h => hi h.symm
      simp [Array.getElem_modify, hi, hi2]
theorem URow.kp {w w' : World} {u : Nat} {f : Nat → Bool} (h : URow w u f) (hk : KpT w w') : URow w' u f := hk.2 _ _ _ _ h (by decide) (by decide)

theorem run_make_bools (W : World) : (Instr.makeSlice 102 (.int .i64 256) (.int .i64 256)).run Try.prog W = .ok (.slice (some ⟨W.heap.size, 0, none⟩) 256 256) (W.alloc (.cells (madeCells #[.bool false] 256) 4)) :=
  run_make_row' 102 4 (.bool false) 1 (by kernel_rfl) (by kernel_rfl) rfl .i64 .i64 256 (by omega) (by omega) W
theorem URow.made (W : World) : URow (W.alloc (.cells (madeCells #[.bool false] 256) 4)) W.heap.size (fun _ => false) := by
  unfold URow
  rw [al_new rfl]
  rw [show madeCells #[Value.bool false] 256 = ((List.range 256).map fun _ => Value.bool false).toArray from by kernel_rfl]

theorem owns_kp {w w' : World} {B n : Nat} {e : TypeId} {size : Nat} {v : Value} {xs : List Value} (h : w.ownsRow B e size v n xs) (hk : KpT w w') (h1 : e ≠ 107) (h2 : e ≠ 120) : w'.ownsRow B e size v n xs := by
  refine ⟨h.1, ?_⟩
  rcases h.2 with k2 | ⟨g, cap, cur, e1, e2, e3, e4⟩
  · exact .inl k2
  · exact .inr ⟨g, cap, cur, e1, e2, hk.2 _ _ _ _ e3 h1 h2, e4⟩
theorem owns_al {w : World} {B n : Nat} {e : TypeId} {size : Nat} {v : Value} {xs : List Value} (h : w.ownsRow B e size v n xs) (o : Obj) : (w.alloc o).ownsRow B e size v n xs := by
  refine ⟨h.1, ?_⟩
  rcases h.2 with k2 | ⟨g, cap, cur, e1, e2, e3, e4⟩
  · exact .inl k2
  · exact .inr ⟨g, cap, cur, e1, e2, al_old e3, e4⟩
/-- A space beside a row that grows. -/
theorem St.grown {w0 W W' : World} {g : Nat} {s : SpS} {B n : Nat} {e : TypeId} {size : Nat} {v : Value} {xs : List Value} (hs : St w0 W g s) (ho : W.ownsRow B e size v n xs) (h1 : e ≠ 107) (h2 : e ≠ 120) (hB : w0.heap.size ≤ B) (hg : W.grownBy W' v.ownBlock) : St w0 W' g s := by
  obtain ⟨m, pg, k1, k2, k3⟩ := hs
  rcases ho.2 with ⟨rfl, _⟩ | ⟨b, cap, cur, rfl, e2, e3, e4⟩
  · have hc : Chg W W' (fun i => some i = (Value.slice none 0 0).ownBlock) := Chg.of_grown hg
    exact ⟨m, pg, k1.chg hc (fun i hi _ => by simp [Value.ownBlock] at hi), k2, hc.below k3 k3.size (fun i hi => by simp [Value.ownBlock] at hi)⟩
  · have hc : Chg W W' (fun i => some i = (Value.slice (some ⟨b, 0, none⟩) n cap).ownBlock) := Chg.of_grown hg
    have hb (i : Nat) (hi : some i = (Value.slice (some ⟨b, 0, none⟩) n cap).ownBlock) : i = b := by simpa [Value.ownBlock] using hi
    exact ⟨m, pg, k1.chg hc (fun i hi ho => by rw [hb i hi] at ho; exact k1.not_row e3 h1 h2 ho), k2, hc.below k3 k3.size (fun i hi => by rw [hb i hi]; omega)⟩
theorem one_news (w : World) (u : Value) : ∀ j x, ([u] : List Value)[j]? = some x → (w.alloc (.cells #[u] 3)).cell? ((⟨w.heap.size, 0, none⟩ : Addr).add j) = some x := by
  intro j x h
  cases j with
  | zero =>
    obtain rfl : u = x := by simpa using h
    exact cell_one (w := w.alloc (.cells #[u] 3)) (al_new rfl)
  | succ j => simp at h
theorem infoI : (Try.prog.info? 3).map (fun i => (i.zero, i.size, i.bytes)) = some (some (.int .i64 0), 1, 8) := by kernel_rfl
/-- The first loop: what is made so far. -/
def LInv (w wr : World) (g ub : Nat) (ov nv : Value) (k : Nat) : Prop := ∃ (s : SpS) (L : List Nat) (f : Nat → Bool), nv = .int .u64 (nextOf L) ∧ L.length ≤ k ∧ (∀ p ∈ L, p ≤ 255 ∧ f p = true) ∧ St w wr g s ∧ s.pages = 256 ∧ Chain s L ∧ URow wr ub f ∧
  wr.ownsRow (ub + 1) 3 1 ov L.length (L.reverse.map fun p : Nat => Value.int .i64 (p : Int)) ∧ w.heap.size ≤ ub

set_option maxRecDepth 100000 in
set_option maxHeartbeats 8000000 in
theorem HeaderLinks_any (w : World) (A : Option Addr) (n c : Nat) (l : List Int) (B : Option Addr) (m d : Nat) (b : List Int) (hl : l.length = n) (hn : n ≤ 9223372036854775807) (hA : Lst (KInt .u8) 1 w A l) (hv : ∀ v ∈ l, wfInt .u8 v)
    (hbl : b.length = m) (hmd : m ≤ d) (hm : m ≤ 9223372036854775807) (hB : Lst (KInt .u8) 1 w B b) (hbv : ∀ v ∈ b, wfInt .u8 v) :
    Calls Try.prog 14 #[.slice A n c, .slice B m d] w fun e w' => e = .returned (.bool true) ∧ Below w.heap.size w w' := by
  have HA := Lib.hid (awake8_any w)
  have HL := Lib.hid (And.intro hl (And.intro hA hv))
  have HBY := Lib.hid (And.intro hbl (And.intro hmd (And.intro hB hbv)))
  clear hl hA hv hbl hmd hB hbv
  go_enter Try.func14, Try.ntmps14
  go_wp2_with fail
  refine HA.out.mono ?_
  rintro e w1 ⟨rfl, hb1⟩
  by_cases r0 : (30 : Int) < (n : Int)
  · go_wp2_with fail
    go_ret
    exact ⟨rfl, hb1⟩
  by_cases r1 : (300 : Int) < (m : Int)
  · go_wp2_with fail
    go_ret
    exact ⟨rfl, hb1⟩
  have HN := Lib.hid (show n ≤ 30 ∧ m ≤ 300 by omega)
  go_wp2_with fail
  refine (St.new 256 (hb1 : Below w.heap.size w w1)).mono ?_
  rintro e w2 ⟨g, rfl, hg, hs2, hb2⟩
  have HS2 := Lib.hid hs2
  clear hs2 hb2 hg hb1 r0 r1 hn hm
  have hmk := run_make_bools
  go_wp2_with fail
  have HU := Lib.hid (And.intro (URow.made w2) (And.intro (HS2.out.al (.cells (madeCells #[.bool false] 256) 4)) HS2.out.below.size))
  generalize w2.alloc (.cells (madeCells #[.bool false] 256) 4) = w3 at *
  generalize w2.heap.size = ub at *
  clear HS2 hmk
  go_loopw [8, 9, 10] (fun ov nv i wr => ∃ k : Nat, k ≤ n ∧ i = .int .i64 (k : Int) ∧ LInv w wr g ub ov nv k)
    (fun _ _ i _ => n - (intOf i).toNat)
  case atStart => exact ⟨0, Nat.zero_le _, rfl, newS 256, [], fun _ => false, rfl, Nat.le_refl _, fun p hp => absurd hp List.not_mem_nil, HU.out.2.1, by decide, trivial, HU.out.1, World.ownsRow_nil _ _ _ _, HU.out.2.2⟩
  case round =>
    obtain ⟨k, hk, rfl, s, L, f, rfl, hLk, hLp, hs, hpg, hch, hu, hown, hub⟩ := hrel
    obtain ⟨OA, oc, rfl⟩ := owns_slice hown
    have HS := Lib.hid (And.intro hs (And.intro hpg hch))
    have HW := Lib.hid (And.intro hu (And.intro hown hub))
    have HLL := Lib.hid (And.intro hLk hLp)
    clear hs hpg hch hu hown hub hLk hLp HU
    by_cases hlt : k < n
    · have hlti : (k : Int) < (n : Int) := by omega
      obtain ⟨bA, oA, rfl, hcA⟩ := lst_cells HL.out.2.1 (by rw [HL.out.1]; omega)
      have c0 := (Chg.of_below (S := fun _ => False) HS.out.1.below).cell (hcA k (by rw [HL.out.1]; exact hlt)) (fun h => h)
      have hvb : 0 ≤ l.getD k 0 ∧ l.getD k 0 ≤ 255 := by
        have hkl : k < l.length := by rw [HL.out.1]; exact hlt
        rw [List.getD_eq_getElem?_getD, List.getElem?_eq_getElem hkl]
        exact u8_of (HL.out.2.2 _ (List.getElem_mem hkl))
      obtain ⟨p, hp⟩ : ∃ p : Nat, l.getD k 0 = (p : Int) := ⟨(l.getD k 0).toNat, by omega⟩
      rw [hp] at c0 hvb
      have HP := Lib.hid (show p ≤ 255 by omega)
      clear hp hcA hvb
      have hpw := wrap_nat p (by have := HP.out; omega)
      have u0 := HW.out.1.cell (p := p) (by have := HP.out; omega)
      have hp256 : (p : Int) < 256 := by have := HP.out; omega
      cases hf : f p with
      | true =>
        rw [hf] at u0
        go_wp2_with fail
        go_roundw
        case rel => exact ⟨k + 1, by omega, by go_num, s, L, f, rfl, by have := HLL.out.1; omega, HLL.out.2, HS.out.1, HS.out.2.1, HS.out.2.2, HW.out.1, HW.out.2.1, HW.out.2.2⟩
        case measure => simp [intOf]; omega
      | false =>
        rw [hf] at u0
        have uf := HW.out.1.frozen p
        have hk1 : IntKind.u64.wrap (k : Int) = (k : Int) := u64w k (by have := HN.out; omega)
        have hpL : p ∉ L := fun h => by have := (HLL.out.2 p h).2; rw [hf] at this; cases this
        have HO := Lib.hid (show (0 : Int) ≤ (k : Int) ∧ (k : Int) ≤ 18446744073709551615 by have := HN.out; omega)
        have hx := nextOf_in L (fun q hq => (HLL.out.2 q hq).1)
        have HX := Lib.hid (show 0 ≤ nextOf L ∧ nextOf L ≤ 18446744073709551615 by omega)
        obtain ⟨t, ht⟩ : ∃ t : Nat, p * 4096 + 32 = t := ⟨_, rfl⟩
        have HT := Lib.hid ht
        have HSZ := Lib.hid (show (t : Int) + (m : Int) ≤ ((256 : Nat) : Int) * 4096 ∧ m ≤ 1048576 ∧ p < 256 by have := HP.out; have := HN.out; omega)
        have hpt : (p : Int) * 4096 + 32 = (t : Int) := by have := HT.out; omega
        have htu := at_u64 p t (by have := HP.out; omega) ht
        have hpu := u64w p (by have := HP.out; omega)
        have hp1 : IntKind.u64.wrap ((p : Int) + 1) = (p : Int) + 1 := u64w (p + 1) (by have := HP.out; omega)
        have HCH := Lib.hid (fun K => chain_next (k := K) HS.out.2.2 hpL (fun q hq => (HLL.out.2 q hq).1) HO.out ht HBY.out.1 HN.out.2)
        clear hx ht hpL
        go_wp2_with fail
        have hs0 := HS.out.1.set_boxH (o := p) (v := .bool true) HW.out.1 (by decide) (by decide) HW.out.2.2
        refine (hs0.hWrite p ⟨1, 1, (k : Int), 0⟩ ⟨by show (1 : Int) ≤ 1; decide, by show (1 : Int) ≤ 1048576; decide, by show (0 : Int) ≤ 1; decide, by show (1 : Int) ≤ 255; decide⟩ HO.out ⟨by show (0 : Int) ≤ 0; decide, by show (0 : Int) ≤ 18446744073709551615; decide⟩ (by rw [HS.out.2.1]; exact HSZ.out.2.2)).mono ?_
        rintro e w4 ⟨rfl, hs4, hk4⟩
        have HS4 := Lib.hid (And.intro hs4 (And.intro ((HW.out.1.set p).kp hk4) (owns_kp (owns_set (p := ⟨ub, p, none⟩) (u := .bool true) HW.out.2.1 (Nat.lt_succ_self ub)) hk4 (by decide) (by decide))))
        have HD4 := Lib.hid (HdAt.wrote s p ⟨1, 1, (k : Int), 0⟩ ⟨by show (1 : Int) ≤ 1; decide, by show (1 : Int) ≤ 1048576; decide, by show (0 : Int) ≤ 1; decide, by show (1 : Int) ≤ 255; decide⟩ HO.out ⟨by show (0 : Int) ≤ 0; decide, by show (0 : Int) ≤ 18446744073709551615; decide⟩)
        clear hs4 hk4 hs0 uf u0
        go_wp2_with fail
        refine (HS4.out.1.hLink p (nextOf L) HX.out (by show p < s.pages; rw [HS.out.2.1]; exact HSZ.out.2.2) HD4.out.is).mono ?_
        rintro e w5 ⟨rfl, hs5, hk5⟩
        have HS5 := Lib.hid (And.intro hs5 (And.intro (HS4.out.2.1.kp hk5) (owns_kp HS4.out.2.2 hk5 (by decide) (by decide))))
        clear hs5 hk5
        go_wp2_with fail
        refine (HS5.out.1.store (t : Int) B m d b HBY.out.1 HBY.out.2.1 (lst_srcW HBY.out.2.2.1 HS5.out.1.below HBY.out.2.2.2) (Int.natCast_nonneg t) (by show (t : Int) + (m : Int) ≤ (s.pages : Int) * 4096; rw [HS.out.2.1]; exact HSZ.out.1) HSZ.out.2.1).mono ?_
        rintro e w6 ⟨rfl, hs6, hk6⟩
        have HS6 := Lib.hid (And.intro hs6 (And.intro (HS5.out.2.1.kp hk6) (owns_kp HS5.out.2.2 hk6 (by decide) (by decide))))
        clear hs6 hk6
        obtain ⟨i0, hi0, hzz⟩ := Option.map_eq_some_iff.1 infoI
        simp only [Prod.mk.injEq] at hzz
        obtain ⟨hz0, hz1, hz2⟩ := hzz
        have HI0 := Lib.hid hi0
        have HZ := Lib.hid (And.intro hz0 (And.intro hz1 hz2))
        have HLN := Lib.hid (show L.length ≤ 30 by have := HLL.out.1; have := HN.out; omega)
        have HUB := Lib.hid (show ub + 1 ≤ w6.heap.size from (Array.getElem?_eq_some_iff.1 HS6.out.2.1).1)
        clear hi0 hz0 hz1 hz2
        go_wp2_with (at_builtin; go_loud (refine wpList_append_own _ rfl _ _ _ rfl (ub + 1) 3 i0 (.int .i64 0) 1 8 Try.underlying103 HI0.out HZ.out.1 HZ.out.2.1 HZ.out.2.2 rfl (by decide) (.slice OA L.length oc) L.length (L.reverse.map fun p : Nat => Value.int .i64 (p : Int)) rfl (owns_al HS6.out.2.2 _) ⟨w6.heap.size, 0, none⟩ 1 1 [.int .i64 (p : Int)] rfl rfl (one_news w6 _) (by simp [Value.oneCell']) (by have := HLN.out; simp only [maxLen]; omega) (by have := HLN.out; omega) (Nat.le_trans HUB.out (by simp)) ?_); intro v2 w7 hown7 hg7 hat7)
        have hub7 : URow w7 ub (fun i => f i || decide (i = p)) := (Chg.of_grown hg7).at (al_old HS6.out.2.1) (fun h => by
          have := ((owns_al HS6.out.2.2 (.cells #[.int .i64 (p : Int)] 3)).lt ub h.symm).1
          omega)
        have hs7 := (HS6.out.1.al (.cells #[.int .i64 (p : Int)] 3)).grown (owns_al HS6.out.2.2 _) (by decide) (by decide) (Nat.le_succ_of_le HW.out.2.2) hg7
        go_roundw
        case rel => exact ⟨k + 1, by omega, by go_num, _, p :: L, fun i => f i || decide (i = p), rfl, Nat.succ_le_succ HLL.out.1, fun q hq => by
          rcases List.mem_cons.1 hq with rfl | h
          · exact ⟨HP.out, by simp⟩
          · exact ⟨(HLL.out.2 q h).1, by simp [(HLL.out.2 q h).2]⟩, hs7, HS.out.2.1, HCH.out _, hub7, by rw [List.reverse_cons, List.map_append]; exact hown7, HW.out.2.2⟩
        case measure => simp [intOf]; omega
    · have hlti : ¬ (k : Int) < (n : Int) := by omega
      obtain rfl : k = n := by omega
      go_wp2_with fail
      go_loopw [9, 12] (fun nv i wq => ∃ (s : SpS) (R : List Nat) (M : List Nat), L = M ++ R ∧ i = .int .i64 ((R.length : Int) - 1) ∧ nv = .int .u64 (nextOf R) ∧ St w wq g s ∧ s.pages = 256 ∧ Chain s R ∧ wq.ownsRow (ub + 1) 3 1 (.slice OA L.length oc) L.length (L.reverse.map fun p : Nat => Value.int .i64 (p : Int))) (fun _ i _ => ((intOf i) + 1).toNat)
      case atStart => exact ⟨s, L, [], rfl, by rw [wrap_in (by omega) (by have := HLL.out.1; have := HN.out; omega)], rfl, HS.out.1, HS.out.2.1, HS.out.2.2, HW.out.2.1⟩
      case round =>
        obtain ⟨s2, R, M, hMR, rfl, rfl, hs2, hpg2, hch2, hown2⟩ := hrel
        have HS2 := Lib.hid (And.intro hs2 (And.intro hpg2 (And.intro hch2 hown2)))
        clear hs2 hpg2 hch2 hown2
        cases R with
        | nil =>
          rw [show (([] : List Nat).length : Int) - 1 = -1 from rfl, show nextOf [] = 0 from rfl]
          go_wp2_with fail
          go_ret
          exact ⟨rfl, HS2.out.1.below⟩
        | cons p R =>
          rw [show ((p :: R).length : Int) - 1 = (R.length : Int) by rw [List.length_cons]; omega, show nextOf (p :: R) = (p : Int) + 1 from rfl]
          have HP := Lib.hid (show p ≤ 255 from (HLL.out.2 p (by rw [hMR]; simp)).1)
          have HRL := Lib.hid (show R.length < L.length ∧ L.length ≤ 30 by have := HLL.out.1; have := HN.out; rw [hMR, List.length_append, List.length_cons] at *; omega)
          obtain ⟨gq, rfl⟩ : ∃ gq : Nat, OA = some ⟨gq, 0, none⟩ := by
            rcases HS2.out.2.2.2.2 with ⟨_, h0⟩ | ⟨b1, cap, cur, e1, _⟩
            · have := HRL.out; omega
            · injection e1 with e1; exact ⟨b1, e1⟩
          have hc := HS2.out.2.2.2.cellAt R.length (by have := HRL.out; omega)
          rw [show (L.reverse.map fun p : Nat => Value.int .i64 (p : Int))[R.length]? = some (.int .i64 (p : Int)) by
            rw [hMR, List.reverse_append, List.reverse_cons, List.append_assoc, List.map_append, List.getElem?_append_right (by simp)]; simp] at hc
          obtain ⟨⟨o, ho⟩, hch3⟩ := HS2.out.2.2.1
          have HD := Lib.hid ho
          have HC3 := Lib.hid hch3
          clear ho hch3
          have HMR := Lib.hid hMR
          clear hMR
          have hlr : (R.length : Int) < (L.length : Int) := by have := HRL.out; omega
          have hpu := u64w p (by have := HP.out; omega)
          have hp1 : IntKind.u64.wrap ((p : Int) + 1) = (p : Int) + 1 := u64w (p + 1) (by have := HP.out; omega)
          go_wp2_with fail
          refine (HS2.out.1.hRead_hd p (by rw [HS2.out.2.1]; have := HP.out; omega) _ HD.out).mono ?_
          rintro e w9 ⟨rfl, hs9, hk9⟩
          have HS9 := Lib.hid (And.intro hs9 (owns_kp HS2.out.2.2.2 hk9 (by decide) (by decide)))
          clear hs9 hk9 hc
          have hw1 : wrap64 ((R.length : Int) - 1) = (R.length : Int) - 1 := wrap_in (by omega) (by have := HRL.out; omega)
          go_wp2_with fail
          go_roundw
          case rel => exact ⟨_, R, M ++ [p], by rw [HMR.out]; simp, by rw [hw1], rfl, HS9.out.1.al _, HS2.out.2.1, chain_of R HC3.out (fun q _ x H => H.tick _), owns_al HS9.out.2 _⟩
          case measure => simp [intOf]; omega

theorem HeaderLinks_walk (A : Option Addr) (n c : Nat) (l : List Int) (B : Option Addr) (m d : Nat) (b : List Int) (w : World) (h0 : l.length = n ∧ n ≤ c ∧ n ≤ maxLen ∧ Lst (KInt .u8) 1 w A l ∧ ∀ p ∈ l, wfInt .u8 p) (y0 : n * 1 ≤ 140737488351232) (h1 : b.length = m ∧ m ≤ d ∧ m ≤ maxLen ∧ Lst (KInt .u8) 1 w B b ∧ ∀ p ∈ b, wfInt .u8 p) (y1 : m * 1 ≤ 140737488351232) :
    Calls Try.prog 14 #[.slice A n c, .slice B m d] w fun e w' => e = .returned (.bool true) ∧ Below w.heap.size w w' :=
  HeaderLinks_any w A n c l B m d b h0.1 (by omega) h0.2.2.2.1 h0.2.2.2.2 h1.1 h1.2.1 (by omega) h1.2.2.2.1 h1.2.2.2.2
end Go.Proofs.Ytfdhjeeaigfmfaa.Sp
