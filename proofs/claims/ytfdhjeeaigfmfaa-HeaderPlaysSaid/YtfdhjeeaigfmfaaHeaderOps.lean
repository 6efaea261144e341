/- header.Write, Read, Link and Clear on a space, at a page that it has. -/
import Derived.Test.YtfdhjeeaigfmfaaHeaderRead
import Derived.Test.YtfdhjeeaigfmfaaWordsOne
namespace Go.Proofs.Ytfdhjeeaigfmfaa.Sp
open Go.RowKit Go.WideMaps Go.Proofs.Ytfdhjeeaigfmfaa.In Go.Proofs.Ytfdhjeeaigfmfaa.Plain
set_option linter.unusedVariables false
set_option linter.unusedSimpArgs false

theorem St.set_boxH {w0 W : World} {g b t o : Nat} {s : SpS} {cs : Array Value} {fr : Nat × Nat} {v : Value} (hs : St w0 W g s) (hb : W.heap[b]? = some (.cells cs t fr)) (h1 : t ≠ 107) (h2 : t ≠ 120) (h0 : w0.heap.size ≤ b) : St w0 (W.setCell ⟨b, o, none⟩ v) g s := by
  obtain ⟨m, pg, k1, k2, k3⟩ := hs
  have hc : Chg W (W.setCell ⟨b, o, none⟩ v) (fun k => k = b) := (Chg.refl W (fun k => k = b)).set (p := ⟨b, o, none⟩) (.inl rfl) v
  exact ⟨m, pg, k1.chg hc (fun i hi ho => by subst hi; exact k1.not_row hb h1 h2 ho), k2, hc.below k3 k3.size (fun i hi => by rw [hi]; exact h0)⟩
theorem seenH_app (mem : Nat → Int) (t k n : Nat) : seen mem t (k + n) = seen mem t k ++ seen mem (t + k) n := by
  unfold seen
  rw [List.range_add, List.map_append, List.map_map]
  congr 1
  exact List.map_congr_left fun i _ => by show mem (t + (k + i)) = mem (t + k + i); rw [Nat.add_assoc]
theorem seenH_bs {mem : Nat → Int} (h : ∀ i, 0 ≤ mem i ∧ mem i ≤ 255) (t n : Nat) : Bs (seen mem t n) := by
  intro x hx
  unfold seen at hx
  obtain ⟨i, _, rfl⟩ := List.mem_map.1 hx
  exact h _
theorem hdL_length (h : Hd) : (hdL h).length = 32 := by simp [hdL, magicL, le_length]
theorem magic_bs : Bs magicL := by unfold Bs magicL; decide
theorem hdL_bs (h : Hd) : Bs (hdL h) := bs_append (bs_append magic_bs (bs_append (le_bs _ _) (le_bs _ _))) (bs_append (le_bs _ _) (le_bs _ _))
theorem KpT.set_new {W w : World} (h : KpT W w) {b o : Nat} {v : Value} (hb : W.heap.size ≤ b) : KpT W (w.setCell ⟨b, o, none⟩ v) := by
  refine ⟨by have := h.1; simpa [World.setCell] using this, fun i cs t fr hi h1 h2 => ?_⟩
  have hlt := (Array.getElem?_eq_some_iff.1 hi).1
  rw [Below.heap_setCell _ ⟨b, o, none⟩ _ i (fun e => by simp only at e; omega)]
  exact h.2 i cs t fr hi h1 h2
theorem atP_in (s : SpS) (n : Nat) (h : n < s.pages) : atP s (n : Int) = ((n * 4096 : Nat) : Int) := by unfold atP; rw [if_pos (by omega)]; omega
/-- What is told of bytes. -/
def rdV (l : List Int) : Value := if l.take 8 = magicL ∧ hRight (ofL l) then hdV (ofL l) else hdV ⟨0, 0, 0, 0⟩
instance (l : List Int) : Decidable (isHd l) := by unfold isHd hRight; infer_instance
def wrote (s : SpS) (t : Nat) (h : Hd) : SpS := tick { s with mem := lay s.mem t (hdL h) } (touchedI t 32)

theorem St.hWrite {w0 W : World} {g : Nat} {s : SpS} (hs : St w0 W g s) (n : Nat) (h : Hd) (hr : hRight h) (ho : 0 ≤ h.owner ∧ h.owner ≤ 18446744073709551615) (hx : 0 ≤ h.next ∧ h.next ≤ 18446744073709551615) (hn : n < s.pages) :
    Calls Try.prog 50 #[.pointer (some ⟨g, 0, none⟩), .int .i64 (n : Int), .agg #[.int .i64 h.pages, .int .i64 h.kind, .int .u64 h.owner, .int .u64 h.next]] W fun e w' => e = .returned (.int .i64 0) ∧ St w0 w' g (wrote s (n * 4096) h) ∧ KpT W w' := by
  have hp := hs.pages
  refine hWrite_gen (some ⟨g, 0, none⟩) (n : Int) 0 ((n * 4096 : Nat) : Int) h W (fun w' => St w0 w' g (wrote s (n * 4096) h) ∧ KpT W w') hr ho hx (fun W1 hb => ?_) (fun r w1 hz hb => ?_)
  · rw [← atP_in s n hn]
    exact (hs.step hb).hat (n : Int) (by omega)
  · refine ((hs.step hb).store ((n * 4096 : Nat) : Int) (some ⟨r, 0, none⟩) 32 32 (hdL h) (hdL_length h) (Nat.le_refl _) (hz.row.srcW (fun v hv => hdL_bs h v hv)) (by omega) (by omega) (by decide)).mono ?_
    rintro e w' ⟨rfl, hs', hk⟩
    rw [Int.toNat_natCast] at hs'
    exact ⟨rfl, hs', (KpT.of_below hb).trans hk⟩
theorem St.hRead {w0 W : World} {g : Nat} {s : SpS} (hs : St w0 W g s) (n : Nat) (hn : n < s.pages) (v : Value) (c : Int)
    (hd : (isHd (seen s.mem (n * 4096) 32) ∧ v = hdV (ofL (seen s.mem (n * 4096) 32)) ∧ c = 0) ∨ (¬ isHd (seen s.mem (n * 4096) 32) ∧ v = hdV ⟨0, 0, 0, 0⟩ ∧ c = 5)) :
    Calls Try.prog 52 #[.pointer (some ⟨g, 0, none⟩), .int .i64 (n : Int)] W fun e w' => e = .returned (.tuple #[v, .int .i64 c]) ∧ St w0 w' g (tick s (touchedI ((n * 4096 : Nat) : Int) 32)) ∧ KpT W w' := by
  have hp := hs.pages
  have h0 := hs.below.size
  refine hRead_ok (some ⟨g, 0, none⟩) (n : Int) ((n * 4096 : Nat) : Int) (seen s.mem (n * 4096) 32) W (fun w' => St w0 w' g (tick s (touchedI ((n * 4096 : Nat) : Int) 32)) ∧ KpT W w') (seen_length _ _ _) (seenH_bs hs.range _ _) (fun W1 hb => ?_) (fun W1 hb => ?_) (fun w w' hq hb => ⟨hq.1.step hb, hq.2.trans (KpT.of_below hb)⟩) (fun w b o x cs hq hc hB => ⟨hq.1.set_boxH hc (by decide) (by decide) (Nat.le_trans h0 hB), hq.2.set_new hB⟩) v c hd
  · rw [← atP_in s n hn]
    exact (hs.step hb).hat (n : Int) (by omega)
  · refine ((hs.step hb).load ((n * 4096 : Nat) : Int) 32 (by omega) (by decide) (by omega) (by decide)).mono ?_
    rintro e w' ⟨r, rfl, hr, hrow, hs', hk⟩
    rw [Int.toNat_natCast] at hrow
    exact ⟨r, hk, hk.1, rfl, hrow, hs', (KpT.of_below hb).trans hk⟩
/-- A header's next one, changed. -/
def linked (s : SpS) (t : Nat) (x : Int) : SpS := tick { tick s (touchedI t 32) with mem := lay s.mem (t + 24) (le 8 x) } (touchedI ((t + 24 : Nat) : Int) 8)
def cleared (s : SpS) (t : Nat) : SpS := tick { tick s (touchedI t 32) with mem := blank s.mem t 32 } (touchedI t 32)

set_option maxRecDepth 100000 in
set_option maxHeartbeats 4000000 in
theorem St.hLink {w0 W : World} {g : Nat} {s : SpS} (hs : St w0 W g s) (n : Nat) (x : Int) (hx : 0 ≤ x ∧ x ≤ 18446744073709551615) (hn : n < s.pages) (hd : isHd (seen s.mem (n * 4096) 32)) :
    Calls Try.prog 54 #[.pointer (some ⟨g, 0, none⟩), .int .i64 (n : Int), .int .u64 x] W fun e w' => e = .returned (.int .i64 0) ∧ St w0 w' g (linked s (n * 4096) x) ∧ KpT W w' := by
  have hp := hs.pages
  have HR := Lib.hid (hs.hRead n hn _ 0 (.inl ⟨hd, rfl, rfl⟩))
  have HH := Lib.hid (fun (W1 : World) (s1 : SpS) (h1 : St w0 W1 g s1) (hp1 : s1.pages = s.pages) => (atP_in s1 n (by omega)) ▸ h1.hat (n : Int) (by omega))
  have HP := Lib.hid (fun (W1 : World) (s1 : SpS) (h1 : St w0 W1 g s1) (hp1 : s1.pages = s.pages) => h1.put (n * 4096 + 24) 8 x ⟨by unfold wideP; omega, by omega⟩ hx (by omega))
  have hw : IntKind.u64.wrap (((n * 4096 : Nat) : Int) + 24) = ((n * 4096 + 24 : Nat) : Int) := by rw [IntKind.wrap_u64]; omega
  obtain ⟨⟨p1, p2, p3, p4⟩, hv⟩ : ∃ v, ofL (seen s.mem (n * 4096) 32) = v := ⟨_, rfl⟩
  rw [hv] at HR
  have HR : RowKit.Hid (Calls Try.prog 52 #[.pointer (some ⟨g, 0, none⟩), .int .i64 (n : Int)] W fun e w' => e = .returned (.tuple #[.agg #[.int .i64 p1, .int .i64 p2, .int .u64 p3, .int .u64 p4], .int .i64 0]) ∧ St w0 w' g (tick s (touchedI ((n * 4096 : Nat) : Int) 32)) ∧ KpT W w') := HR
  obtain ⟨T, hT⟩ : ∃ T : Nat, n * 4096 = T := ⟨_, rfl⟩
  rw [hT] at hw HH HR HP ⊢
  obtain ⟨U, hU⟩ : ∃ U : Nat, T + 24 = U := ⟨_, rfl⟩
  unfold linked
  rw [hU] at hw HP ⊢
  clear hd hx hn hv hT hU
  go_enter Try.func54, Try.ntmps54
  go_wp2_with fail
  refine HR.out.mono ?_
  rintro e w1 ⟨rfl, hs1, hk1⟩
  have HS1 := Lib.hid (And.intro hs1 hk1)
  clear hs1 hk1
  go_wp2_with fail
  refine (HH.out _ _ (HS1.out.1.al _) rfl).mono ?_
  rintro e w2 ⟨rfl, rfl⟩
  go_wp2_with fail
  refine (HP.out _ _ (HS1.out.1.al _) rfl).mono ?_
  rintro e w3 ⟨rfl, hs3, hk3⟩
  have HS3 := Lib.hid (And.intro hs3 ((HS1.out.2.al _).trans hk3))
  clear hs3 hk3
  go_wp2_with fail
  go_ret
  exact ⟨rfl, HS3.out⟩
set_option maxRecDepth 100000 in
set_option maxHeartbeats 4000000 in
theorem St.hLink_bad {w0 W : World} {g : Nat} {s : SpS} (hs : St w0 W g s) (n : Nat) (x : Int) (hn : n < s.pages) (hd : ¬ isHd (seen s.mem (n * 4096) 32)) :
    Calls Try.prog 54 #[.pointer (some ⟨g, 0, none⟩), .int .i64 (n : Int), .int .u64 x] W fun e w' => e = .returned (.int .i64 5) ∧ St w0 w' g (tick s (touchedI ((n * 4096 : Nat) : Int) 32)) ∧ KpT W w' := by
  have HR : RowKit.Hid (Calls Try.prog 52 #[.pointer (some ⟨g, 0, none⟩), .int .i64 (n : Int)] W fun e w' => e = .returned (.tuple #[.agg #[.int .i64 0, .int .i64 0, .int .u64 0, .int .u64 0], .int .i64 5]) ∧ St w0 w' g (tick s (touchedI ((n * 4096 : Nat) : Int) 32)) ∧ KpT W w') := Lib.hid (hs.hRead n hn _ 5 (.inr ⟨hd, rfl, rfl⟩))
  generalize tick s (touchedI ((n * 4096 : Nat) : Int) 32) = s1 at *
  clear hd hn
  go_enter Try.func54, Try.ntmps54
  go_wp2_with fail
  refine HR.out.mono ?_
  rintro e w1 ⟨rfl, hs1, hk1⟩
  have HS1 := Lib.hid (And.intro hs1 hk1)
  clear hs1 hk1
  go_wp2_with fail
  go_ret
  exact ⟨rfl, HS1.out.1.al _, HS1.out.2.al _⟩
set_option maxRecDepth 100000 in
set_option maxHeartbeats 4000000 in
theorem St.hClear {w0 W : World} {g : Nat} {s : SpS} (hs : St w0 W g s) (n : Nat) (hn : n < s.pages) (hd : isHd (seen s.mem (n * 4096) 32)) :
    Calls Try.prog 56 #[.pointer (some ⟨g, 0, none⟩), .int .i64 (n : Int)] W fun e w' => e = .returned (.int .i64 0) ∧ St w0 w' g (cleared s (n * 4096)) ∧ KpT W w' := by
  have hp := hs.pages
  have HR := Lib.hid (hs.hRead n hn _ 0 (.inl ⟨hd, rfl, rfl⟩))
  have HH := Lib.hid (fun (W1 : World) (s1 : SpS) (h1 : St w0 W1 g s1) (hp1 : s1.pages = s.pages) => (atP_in s1 n (by omega)) ▸ h1.hat (n : Int) (by omega))
  have HP := Lib.hid (fun (W1 : World) (s1 : SpS) (h1 : St w0 W1 g s1) (hp1 : s1.pages = s.pages) => h1.zero ((n * 4096 : Nat) : Int) 32 (by omega) (by decide) (by omega))
  obtain ⟨⟨p1, p2, p3, p4⟩, hv⟩ : ∃ v, ofL (seen s.mem (n * 4096) 32) = v := ⟨_, rfl⟩
  rw [hv] at HR
  have HR : RowKit.Hid (Calls Try.prog 52 #[.pointer (some ⟨g, 0, none⟩), .int .i64 (n : Int)] W fun e w' => e = .returned (.tuple #[.agg #[.int .i64 p1, .int .i64 p2, .int .u64 p3, .int .u64 p4], .int .i64 0]) ∧ St w0 w' g (tick s (touchedI ((n * 4096 : Nat) : Int) 32)) ∧ KpT W w') := HR
  obtain ⟨T, hT⟩ : ∃ T : Nat, n * 4096 = T := ⟨_, rfl⟩
  rw [hT] at HH HR HP ⊢
  clear hd hn hv hT
  go_enter Try.func56, Try.ntmps56
  go_wp2_with fail
  refine HR.out.mono ?_
  rintro e w1 ⟨rfl, hs1, hk1⟩
  have HS1 := Lib.hid (And.intro hs1 hk1)
  clear hs1 hk1
  go_wp2_with fail
  refine (HH.out _ _ (HS1.out.1.al _) rfl).mono ?_
  rintro e w2 ⟨rfl, rfl⟩
  go_wp2_with fail
  refine (HP.out _ _ (HS1.out.1.al _) rfl).mono ?_
  rintro e w3 ⟨rfl, hs3, hk3⟩
  rw [Int.toNat_natCast] at hs3
  have HS3 := Lib.hid (And.intro hs3 ((HS1.out.2.al _).trans hk3))
  clear hs3 hk3
  go_wp2_with fail
  go_ret
  exact ⟨rfl, HS3.out⟩
set_option maxRecDepth 100000 in
set_option maxHeartbeats 4000000 in
theorem St.hClear_bad {w0 W : World} {g : Nat} {s : SpS} (hs : St w0 W g s) (n : Nat) (hn : n < s.pages) (hd : ¬ isHd (seen s.mem (n * 4096) 32)) :
    Calls Try.prog 56 #[.pointer (some ⟨g, 0, none⟩), .int .i64 (n : Int)] W fun e w' => e = .returned (.int .i64 5) ∧ St w0 w' g (tick s (touchedI ((n * 4096 : Nat) : Int) 32)) ∧ KpT W w' := by
  have HR : RowKit.Hid (Calls Try.prog 52 #[.pointer (some ⟨g, 0, none⟩), .int .i64 (n : Int)] W fun e w' => e = .returned (.tuple #[.agg #[.int .i64 0, .int .i64 0, .int .u64 0, .int .u64 0], .int .i64 5]) ∧ St w0 w' g (tick s (touchedI ((n * 4096 : Nat) : Int) 32)) ∧ KpT W w') := Lib.hid (hs.hRead n hn _ 5 (.inr ⟨hd, rfl, rfl⟩))
  generalize tick s (touchedI ((n * 4096 : Nat) : Int) 32) = s1 at *
  clear hd hn
  go_enter Try.func56, Try.ntmps56
  go_wp2_with fail
  refine HR.out.mono ?_
  rintro e w1 ⟨rfl, hs1, hk1⟩
  have HS1 := Lib.hid (And.intro hs1 hk1)
  clear hs1 hk1
  go_wp2_with fail
  go_ret
  exact ⟨rfl, HS1.out.1.al _, HS1.out.2.al _⟩

/-! ### what bytes tell -/
theorem hdL_take (h : Hd) : (hdL h).take 8 = magicL := rfl
theorem num_le_of (w : Nat) (n : Int) (h0 : 0 ≤ n) (h1 : n < 256 ^ w) : num (le w n) = n := by rw [num_le]; exact Int.emod_eq_of_lt h0 h1
theorem ofL_hdL (h : Hd) (hr : hRight h) (ho : 0 ≤ h.owner ∧ h.owner ≤ 18446744073709551615) (hx : 0 ≤ h.next ∧ h.next ≤ 18446744073709551615) : ofL (hdL h) = h := by
  obtain ⟨pg, kd, ow, nx⟩ := h
  obtain ⟨r1, r2, r3, r4⟩ := hr
  simp only at r1 r2 r3 r4 ho hx
  have l1 := le_length 4 pg
  have l2 := le_length 4 kd
  have l3 := le_length 8 ow
  have l4 := le_length 8 nx
  have e0 : hdL ⟨pg, kd, ow, nx⟩ = magicL ++ (le 4 pg ++ (le 4 kd ++ (le 8 ow ++ le 8 nx))) := by simp [hdL]
  unfold ofL
  rw [e0]
  have d8 : (magicL ++ (le 4 pg ++ (le 4 kd ++ (le 8 ow ++ le 8 nx)))).drop 8 = le 4 pg ++ (le 4 kd ++ (le 8 ow ++ le 8 nx)) := List.drop_left' rfl
  have d12 : (magicL ++ (le 4 pg ++ (le 4 kd ++ (le 8 ow ++ le 8 nx)))).drop 12 = le 4 kd ++ (le 8 ow ++ le 8 nx) := by rw [show 12 = 8 + 4 from rfl, ← List.drop_drop, d8, List.drop_left' l1]
  have d16 : (magicL ++ (le 4 pg ++ (le 4 kd ++ (le 8 ow ++ le 8 nx)))).drop 16 = le 8 ow ++ le 8 nx := by rw [show 16 = 12 + 4 from rfl, ← List.drop_drop, d12, List.drop_left' l2]
  have d24 : (magicL ++ (le 4 pg ++ (le 4 kd ++ (le 8 ow ++ le 8 nx)))).drop 24 = le 8 nx := by rw [show 24 = 16 + 8 from rfl, ← List.drop_drop, d16, List.drop_left' l3]
  rw [d8, d12, d16, d24, List.take_left' l1, List.take_left' l2, List.take_left' l3, List.take_of_length_le (by omega), num_le_of 4 pg (by omega) (by omega), num_le_of 4 kd (by omega) (by omega), num_le_of 8 ow ho.1 (by omega), num_le_of 8 nx hx.1 (by omega)]
theorem isHd_hdL (h : Hd) (hr : hRight h) (ho : 0 ≤ h.owner ∧ h.owner ≤ 18446744073709551615) (hx : 0 ≤ h.next ∧ h.next ≤ 18446744073709551615) : isHd (hdL h) := ⟨hdL_take h, by rw [ofL_hdL h hr ho hx]; exact hr⟩
theorem seen_wrote (s : SpS) (t : Nat) (h : Hd) : seen (wrote s t h).mem t 32 = hdL h := by
  have := seen_lay_same s.mem t (hdL h)
  rw [hdL_length] at this
  exact this
/-- The next one changed, in the bytes. -/
theorem hdL_next (h : Hd) (x : Int) : (hdL h).take 24 ++ le 8 x = hdL ⟨h.pages, h.kind, h.owner, x⟩ := by
  have l : (magicL ++ (le 4 h.pages ++ le 4 h.kind) ++ le 8 h.owner).length = 24 := by simp [magicL, le_length]
  have e0 : hdL h = (magicL ++ (le 4 h.pages ++ le 4 h.kind) ++ le 8 h.owner) ++ le 8 h.next := by simp [hdL]
  rw [e0, List.take_left' l]
  simp [hdL]
theorem seen_linked (s : SpS) (t : Nat) (x : Int) (h : Hd) (hh : seen s.mem t 32 = hdL h) : seen (linked s t x).mem t 32 = hdL ⟨h.pages, h.kind, h.owner, x⟩ := by
  rw [← hdL_next, ← hh, seen_take _ _ 32 24 (by decide)]
  show seen (lay s.mem (t + 24) (le 8 x)) t (24 + 8) = _
  rw [seenH_app, seen_lay_off _ _ _ _ _ (.inl (Nat.le_refl _))]
  have := seen_lay_same s.mem (t + 24) (le 8 x)
  rw [le_length] at this
  rw [this]
theorem seen_cleared (s : SpS) (t : Nat) : seen (cleared s t).mem t 32 = List.replicate 32 0 := by
  show seen (blank s.mem t 32) t 32 = _
  apply List.ext_getElem
  · simp [seen_length]
  · intro i h1 h2
    rw [seen_length] at h1
    simp only [seen, List.getElem_map, List.getElem_range, List.getElem_replicate]
    unfold blank
    rw [if_pos (by omega)]
theorem not_blank : ¬ isHd (List.replicate 32 0) := fun h => absurd h.1 (by decide)
/-- What another place holds stays. -/
theorem seen_off (s : SpS) (t a n : Nat) (h : Hd) (x : Int) (ho : a + n ≤ t ∨ t + 32 ≤ a) : seen (wrote s t h).mem a n = seen s.mem a n ∧ seen (linked s t x).mem a n = seen s.mem a n ∧ seen (cleared s t).mem a n = seen s.mem a n := by
  refine ⟨seen_lay_off _ _ _ _ _ (by rw [hdL_length]; exact ho), seen_lay_off s.mem _ _ _ _ (by rw [le_length]; omega), seen_congr fun i hi => ?_⟩
  show blank s.mem t 32 (a + i) = s.mem (a + i)
  unfold blank
  rw [if_neg (by omega)]
end Go.Proofs.Ytfdhjeeaigfmfaa.Sp
