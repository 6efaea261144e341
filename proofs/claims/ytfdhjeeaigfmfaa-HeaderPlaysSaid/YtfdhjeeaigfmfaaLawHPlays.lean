/- HeaderPlays: whatever headers are written, read, linked and cleared, and bytes are stored between, each answer, and what ticks, are the document's, step by step. -/
import Derived.Test.YtfdhjeeaigfmfaaHeaderBoth8
import Derived.Test.YtfdhjeeaigfmfaaIn8
import Derived.Test.YtfdhjeeaigfmfaaRegionGen
import Derived.BigQuiet
namespace Go.Proofs.Ytfdhjeeaigfmfaa.Sp
open Go.RowKit Go.WideMaps Go.Proofs.Ytfdhjeeaigfmfaa.In Go.Proofs.Ytfdhjeeaigfmfaa.Plain
set_option linter.unusedVariables false
set_option linter.unusedSimpArgs false

theorem lst_acts8 {w w' : World} {A : Option Addr} {l : List Act8} (h : Lst KAct8 8 w A l) (hb : Below w.heap.size w w') : Lst KAct8 8 w' A l := lst_below h (fun x cs h => ⟨h.1, h.2.1, h.2.2.1, lst_below h.2.2.2 (fun _ _ h => h) hb⟩) hb
theorem act8_cells {w : World} {A : Option Addr} {l : List Act8} (h : Lst KAct8 8 w A l) {k : Nat} (hk : k < l.length) :
    ∃ ad, A = some ad ∧ w.cell? (ad.add (k * 8)) = some (.int .u8 l[k].do_) ∧ w.cell? ⟨(ad.add (k * 8)).block, (ad.add (k * 8)).off + 1, none⟩ = some (.int .i64 l[k].page) ∧ w.cell? ⟨(ad.add (k * 8)).block, (ad.add (k * 8)).off + 2, none⟩ = some (.int .i64 l[k].h.pages) ∧
      w.cell? ⟨(ad.add (k * 8)).block, (ad.add (k * 8)).off + 3, none⟩ = some (.int .i64 l[k].h.kind) ∧ w.cell? ⟨(ad.add (k * 8)).block, (ad.add (k * 8)).off + 4, none⟩ = some (.int .u64 l[k].h.owner) ∧ w.cell? ⟨(ad.add (k * 8)).block, (ad.add (k * 8)).off + 5, none⟩ = some (.int .u64 l[k].h.next) ∧
      w.cell? ⟨(ad.add (k * 8)).block, (ad.add (k * 8)).off + 6, none⟩ = some (.int .u64 l[k].at_) ∧ w.cell? ⟨(ad.add (k * 8)).block, (ad.add (k * 8)).off + 7, none⟩ = some (.slice l[k].A l[k].b.length l[k].c) ∧ l[k].b.length ≤ l[k].c ∧ l[k].b.length ≤ maxLen ∧ Lst (KInt .u8) 1 w l[k].A l[k].b := by
  obtain ⟨ad, c, hA, hc, ⟨rfl, h2, h3, h4⟩, hcell⟩ := h k _ (List.getElem?_eq_getElem hk)
  refine ⟨ad, hA, hcell 0 _ rfl, ?_, ?_, ?_, ?_, ?_, ?_, ?_, h2, h3, h4⟩
  · rw [← add_fld _ _ 1 (by omega)]; exact hcell 1 _ rfl
  · rw [← add_fld _ _ 2 (by omega)]; exact hcell 2 _ rfl
  · rw [← add_fld _ _ 3 (by omega)]; exact hcell 3 _ rfl
  · rw [← add_fld _ _ 4 (by omega)]; exact hcell 4 _ rfl
  · rw [← add_fld _ _ 5 (by omega)]; exact hcell 5 _ rfl
  · rw [← add_fld _ _ 6 (by omega)]; exact hcell 6 _ rfl
  · rw [← add_fld _ _ 7 (by omega)]; exact hcell 7 _ rfl

def ABool30 (n : Nat) (w : World) (e : Ending) (w' : World) : Prop := (∃ b : Bool, e = .returned (.bool b) ∧ (b = true → n ≤ 30)) ∧ w = w'
set_option maxRecDepth 100000 in
set_option maxHeartbeats 4000000 in
theorem few8_any (A : Option Addr) (n c : Nat) (l : List Act8) (w : World) (hl : l.length = n) (hn : n ≤ 9223372036854775807) (h : Lst KAct8 8 w A l) :
    Calls Try.prog 47 #[.slice A n c] w (ABool30 n w) := by
  have HL := Lib.hid hl
  have H := Lib.hid h
  clear hl h
  go_enter Try.func47, Try.ntmps47
  go_wp2
  go_loop [3] (fun i => ∃ k : Nat, k ≤ n ∧ i = .int .i64 (k : Int)) (fun i => n - (intOf i).toNat)
  case atStart => exact ⟨0, Nat.zero_le _, rfl⟩
  case round =>
    obtain ⟨k, hk, rfl⟩ := hrel
    by_cases hlt : k < n
    · have hlti : (k : Int) < (n : Int) := by omega
      obtain ⟨ad, rfl, c0, c1, c2, c3, c4, c5, c6, c7, _⟩ := act8_cells H.out (k := k) (by rw [HL.out]; exact hlt)
      go_wp2
      all_goals first
        | (go_ret; exact ⟨⟨false, rfl, fun h => by cases h⟩, rfl⟩)
        | (go_round
           case rel => exact ⟨k + 1, by omega, by go_num⟩
           case measure => simp [intOf]; omega)
    · have hlti : ¬ (k : Int) < (n : Int) := by omega
      go_wp2
      go_ret
      exact ⟨⟨_, rfl, fun h => by simp at h; omega⟩, rfl⟩
set_option maxRecDepth 100000 in
set_option maxHeartbeats 4000000 in
theorem model8_any (h : Hd) (W : World) : Calls Try.prog 49 #[hW h] W fun e w' => e = .returned (hW h) ∧ Below W.heap.size W w' := by
  obtain ⟨a, b, c, d⟩ := h
  show Calls Try.prog 49 #[.agg #[.int .i64 a, .int .i64 b, .int .u64 c, .int .u64 d]] W fun e w' => e = .returned (.agg #[.int .i64 a, .int .i64 b, .int .u64 c, .int .u64 d]) ∧ Below W.heap.size W w'
  go_enter Try.func49, Try.ntmps49
  go_wp2
  refine bodyPost_ret (v := .agg #[.int .i64 a, .int .i64 b, .int .u64 c, .int .u64 d]) ?_ rfl ?_
  · simp [results, Try.results49, go_sem]
  · exact ⟨rfl, ((Below.refl _ _).alloc (Nat.le_refl _) _).alloc (by simp) _⟩

theorem refS_base {b b' q : Nat} {w : World} {v : Value} {s : SpS} (h : RefS b q w v s) (hb : b' ≤ b) : RefS b' q w v s := by
  obtain ⟨lv, log, h1, h2, h3⟩ := h
  exact ⟨lv, log, h1, owns_base h2 hb, h3⟩
theorem box3_set {W : World} {b t : Nat} {x y z x' y' z' : Value} (h : W.heap[b]? = some (.cells #[x, y, z] t (0, 0))) : (((W.setCell ⟨b, 0, none⟩ x').setCell ⟨b, 1, none⟩ y').setCell ⟨b, 2, none⟩ z').heap[b]? = some (.cells #[x', y', z'] t (0, 0)) := by
  simp [World.setCell, Array.getElem?_modify, h]
theorem St.set_box3 {w0 W : World} {g b t : Nat} {s : SpS} {x y z x' y' z' : Value} (hs : St w0 W g s) (h : W.heap[b]? = some (.cells #[x, y, z] t (0, 0))) (h1 : t ≠ 107) (h2 : t ≠ 120) (h0 : w0.heap.size ≤ b) : St w0 (((W.setCell ⟨b, 0, none⟩ x').setCell ⟨b, 1, none⟩ y').setCell ⟨b, 2, none⟩ z') g s := by
  have e1 : (W.setCell ⟨b, 0, none⟩ x').heap[b]? = some (.cells #[x', y, z] t (0, 0)) := by simp [World.setCell, Array.getElem?_modify, h]
  have e2 : ((W.setCell ⟨b, 0, none⟩ x').setCell ⟨b, 1, none⟩ y').heap[b]? = some (.cells #[x', y', z] t (0, 0)) := by simp [World.setCell, Array.getElem?_modify, h]
  exact ((hs.set_boxH h h1 h2 h0).set_boxH e1 h1 h2 h0).set_boxH e2 h1 h2 h0
theorem St.set_box4 {w0 W : World} {g b t : Nat} {s : SpS} {x y z u x' y' z' u' : Value} (hs : St w0 W g s) (h : W.heap[b]? = some (.cells #[x, y, z, u] t (0, 0))) (h1 : t ≠ 107) (h2 : t ≠ 120) (h0 : w0.heap.size ≤ b) : St w0 ((((W.setCell ⟨b, 0, none⟩ x').setCell ⟨b, 1, none⟩ y').setCell ⟨b, 2, none⟩ z').setCell ⟨b, 3, none⟩ u') g s := by
  have e1 : (W.setCell ⟨b, 0, none⟩ x').heap[b]? = some (.cells #[x', y, z, u] t (0, 0)) := by simp [World.setCell, Array.getElem?_modify, h]
  have e2 : ((W.setCell ⟨b, 0, none⟩ x').setCell ⟨b, 1, none⟩ y').heap[b]? = some (.cells #[x', y', z, u] t (0, 0)) := by simp [World.setCell, Array.getElem?_modify, h]
  have e3 : (((W.setCell ⟨b, 0, none⟩ x').setCell ⟨b, 1, none⟩ y').setCell ⟨b, 2, none⟩ z').heap[b]? = some (.cells #[x', y', z', u] t (0, 0)) := by simp [World.setCell, Array.getElem?_modify, h]
  exact (((hs.set_boxH h h1 h2 h0).set_boxH e1 h1 h2 h0).set_boxH e2 h1 h2 h0).set_boxH e3 h1 h2 h0
theorem box3_other {W : World} {b i : Nat} {x y z : Value} {o : Obj} (h : W.heap[i]? = some o) (hn : b ≠ i) : (((W.setCell ⟨b, 0, none⟩ x).setCell ⟨b, 1, none⟩ y).setCell ⟨b, 2, none⟩ z).heap[i]? = some o := by
  rw [Below.heap_setCell _ ⟨b, 2, none⟩ _ i (fun e => hn e.symm), Below.heap_setCell _ ⟨b, 1, none⟩ _ i (fun e => hn e.symm), Below.heap_setCell _ ⟨b, 0, none⟩ _ i (fun e => hn e.symm)]
  exact h
theorem box4_other {W : World} {b i : Nat} {x y z u : Value} {o : Obj} (h : W.heap[i]? = some o) (hn : b ≠ i) : ((((W.setCell ⟨b, 0, none⟩ x).setCell ⟨b, 1, none⟩ y).setCell ⟨b, 2, none⟩ z).setCell ⟨b, 3, none⟩ u).heap[i]? = some o := by
  rw [Below.heap_setCell _ ⟨b, 3, none⟩ _ i (fun e => hn e.symm)]
  exact box3_other h hn
theorem box8 {w : World} {b t : Nat} {x0 x1 x2 x3 x4 x5 x6 x7 : Value} (h : w.heap[b]? = some (.cells #[x0, x1, x2, x3, x4, x5, x6, x7] t (0, 0))) :
    w.cell? ⟨b, 0, none⟩ = some x0 ∧ w.cell? ⟨b, 1, none⟩ = some x1 ∧ w.cell? ⟨b, 2, none⟩ = some x2 ∧ w.cell? ⟨b, 3, none⟩ = some x3 ∧ w.cell? ⟨b, 4, none⟩ = some x4 ∧ w.cell? ⟨b, 5, none⟩ = some x5 ∧ w.cell? ⟨b, 6, none⟩ = some x6 ∧ w.cell? ⟨b, 7, none⟩ = some x7 := by
  simp [World.cell?, h]
theorem at_bel {W w : World} {i : Nat} {o : Obj} (h : W.heap[i]? = some o) (hb : Below W.heap.size W w) : w.heap[i]? = some o := (hb.block _ (Array.getElem?_eq_some_iff.1 h).1).trans h
def boxV (s : SpS) (A : Option Addr) (m c : Nat) : Array Value := #[.int .i64 (s.pages : Int), .slice A m c, .int .i64 s.ticks]
def h0C : Array Value := #[.int .i64 0, .int .i64 0, .int .u64 0, .int .u64 0]
/-- Both spaces, the reference's in a box. -/
def BothS (w0 W : World) (q g b : Nat) (s : SpS) : Prop :=
  St w0 W g s ∧ ∃ A m c, W.heap[b]? = some (.cells (boxV s A m c) 29 (0, 0)) ∧ RefS w0.heap.size q W (.agg (boxV s A m c)) s
theorem act8_row {w : World} {A : Option Addr} {l : List Act8} (h : Lst KAct8 8 w A l) {k : Nat} (hk : k < l.length) : Lst (KInt .u8) 1 w l[k].A l[k].b := by
  obtain ⟨ad, _, _, _, _, _, _, _, _, _, _, _, h7⟩ := act8_cells h hk
  exact h7

set_option maxRecDepth 100000 in
set_option maxHeartbeats 8000000 in
theorem HeaderPlays_any (w : World) (a0 : Int) (A : Option Addr) (n c : Nat) (l : List Act8) (hl : l.length = n) (hn : n ≤ 9223372036854775807) (hA : Lst KAct8 8 w A l) (hv : ∀ p ∈ l, wfAct8 p) :
    Calls Try.prog 10 #[.int .i64 a0, .slice A n c] w fun e w' => e = .returned (.bool true) ∧ Below w.heap.size w w' := by
  have HA := Lib.hid (awake8_any w)
  have HF := Lib.hid (fun W (hb : Below w.heap.size w W) => few8_any A n c l W hl hn (lst_acts8 hA hb))
  have HL := Lib.hid hl
  have HLA := Lib.hid hA
  have HV := Lib.hid hv
  clear hl hA hv
  go_enter Try.func10, Try.ntmps10
  go_wp2_with fail
  refine HA.out.mono ?_
  rintro e w1 ⟨rfl, hb1⟩
  go_wp2_with fail
  refine (HF.out w1 hb1).mono ?_
  rintro e w2 ⟨⟨b, rfl, hb30⟩, rfl⟩
  cases b with
  | false =>
    go_wp2
    go_ret
    exact ⟨rfl, hb1⟩
  | true =>
    have hn30 : n ≤ 30 := hb30 rfl
    clear hb30
    go_wp2_with fail
    refine (St.new a0 (hb1 : Below w.heap.size w w1)).mono ?_
    rintro e w3 ⟨g, rfl, hg, hs3, hb3⟩
    go_wp2_with fail
    refine (ref03New_any a0 w3).mono ?_
    rintro e w4 ⟨v, rfl, hr4, hb4⟩
    have hs4 := hs3.step hb4
    obtain ⟨LA, Lm, Lc, rfl⟩ := refS_form hr4
    have HS4 := Lib.hid hs4
    have HR4 := Lib.hid (refS_base hr4 (show w.heap.size ≤ w3.heap.size from hs3.below.size))
    clear hs3 hs4 hr4 hb4 hg hb3 hb1
    have HI0 : RowKit.Hid (BothS w (w4.alloc (.cells #[.int .i64 ((newS a0).pages : Int), .slice LA Lm Lc, .int .i64 (newS a0).ticks] 29)) 0 g w4.heap.size (newS a0)) := ⟨HS4.out.al _, LA, Lm, Lc, al_new rfl, HR4.out.below ((Below.refl _ _).alloc (Nat.le_refl _) _)⟩
    have HBW := Lib.hid (show w.heap.size ≤ w4.heap.size from HS4.out.below.size)
    go_wp2
    generalize w4.heap.size = bw at *
    go_loopw [9] (fun i wr => ∃ k : Nat, k ≤ n ∧ i = .int .i64 (k : Int) ∧ ∃ s : SpS, BothS w wr k g bw s) (fun i _ => n - (intOf i).toNat)
    case atStart => exact ⟨0, Nat.zero_le _, rfl, newS a0, HI0.out⟩
    case round =>
      obtain ⟨k, hk, rfl, s, hst, RA, Rm, Rc, hbox, hrs⟩ := hrel
      by_cases hlt : k < n
      · have hlti : (k : Int) < (n : Int) := by omega
        have hkl : k < l.length := by rw [HL.out]; exact hlt
        have HV1 := Lib.hid (HV.out _ (List.getElem_mem hkl))
        obtain ⟨ad, rfl, c0, c1, c2, c3, c4, c5, c6, c7, c8, c9, _⟩ := act8_cells (lst_acts8 HLA.out hst.below) hkl
        have HB0 := Lib.hid (act8_row HLA.out hkl)
        generalize l[k] = x at *
        obtain ⟨xd, xp, ⟨y1, y2, y3, y4⟩, xt, xA, xc, xb⟩ := x
        simp only at c0 c1 c2 c3 c4 c5 c6 c7 c8 c9 HB0
        have HC8 := Lib.hid (And.intro c8 c9)
        have HXP := Lib.hid (i64_lit HV1.out.2.1)
        have HXT := Lib.hid (u64_of HV1.out.2.2.2.1)
        have HXO := Lib.hid (u64_of HV1.out.2.2.1.2.2.1)
        have HXN := Lib.hid (u64_of HV1.out.2.2.1.2.2.2)
        have HBV := Lib.hid (fun v hv => u8_of (HV1.out.2.2.2.2 v hv))
        simp only at HXP HXT HXO HXN HBV
        obtain ⟨oA, hoA⟩ : ∃ oA : Obj, oA = .cells #[.int .u8 xd, .int .i64 xp, .int .i64 y1, .int .i64 y2, .int .u64 y3, .int .u64 y4, .int .u64 xt, .slice xA xb.length xc] 84 := ⟨_, rfl⟩
        have hbw3 := (Array.getElem?_eq_some_iff.1 hbox).1
        have E3 : Below wr.heap.size wr (((wr.alloc oA).alloc (.cells #[.int .i64 0, .int .i64 0, .int .u64 0, .int .u64 0] 82)).alloc (.cells #[.int .i64 0, .int .i64 0, .int .u64 0, .int .u64 0] 85)) := (((Below.refl _ _).alloc (Nat.le_refl _) _).alloc (by simp) _).alloc (by simp; omega) _
        have HST := Lib.hid (hst.step E3)
        have HRS := Lib.hid (hrs.below E3)
        have HBX := Lib.hid (at_bel hbox E3)
        have HAX := Lib.hid (show (((wr.alloc oA).alloc (.cells #[.int .i64 0, .int .i64 0, .int .u64 0, .int .u64 0] 82)).alloc (.cells #[.int .i64 0, .int .i64 0, .int .u64 0, .int .u64 0] 85)).heap[wr.heap.size]? = some oA from al_old (al_old (al_new rfl)))
        have HHX := Lib.hid (show (((wr.alloc oA).alloc (.cells #[.int .i64 0, .int .i64 0, .int .u64 0, .int .u64 0] 82)).alloc (.cells #[.int .i64 0, .int .i64 0, .int .u64 0, .int .u64 0] 85)).heap[wr.heap.size + 1]? = some (.cells #[.int .i64 0, .int .i64 0, .int .u64 0, .int .u64 0] 82) from al_old (al_new (by simp)))
        have HMX := Lib.hid (show (((wr.alloc oA).alloc (.cells #[.int .i64 0, .int .i64 0, .int .u64 0, .int .u64 0] 82)).alloc (.cells #[.int .i64 0, .int .i64 0, .int .u64 0, .int .u64 0] 85)).heap[wr.heap.size + 1 + 1]? = some (.cells #[.int .i64 0, .int .i64 0, .int .u64 0, .int .u64 0] 85) from al_new (by simp))
        have HNW := Lib.hid (show w.heap.size ≤ wr.heap.size from hst.below.size)
        have HBR := Lib.hid hbox
        subst hoA
        clear c8 c9 hst hrs hbox HI0 HS4 HR4 E3
        by_cases d0 : xd = 0
        · have e0 : (xd == 0) = true := by simpa using d0
          clear d0
          obtain ⟨cc, s', HG0, HP0⟩ := hwrite_both s xp ⟨y1, y2, y3, y4⟩ HST.out.pages.2 HXP.out HXO.out HXN.out
          have HG : ∀ base q W v, RefS base q W v s → q ≤ 100000 → base ≤ W.heap.size → RefTo base q W v s s' 48 #[.int .i64 xp, .agg #[.int .i64 y1, .int .i64 y2, .int .u64 y3, .int .u64 y4]] [.int .i64 cc] := HG0
          have HP : ∀ w0 W g, St w0 W g s → StTo w0 W g s s' 50 #[.int .i64 xp, .agg #[.int .i64 y1, .int .i64 y2, .int .u64 y3, .int .u64 y4]] (.int .i64 cc) := HP0
          clear HG0 HP0
          have q0 := fun o1 o2 o3 => (box3 (al_old (o := o1) (al_old (o := o2) (al_old (o := o3) HBR.out)))).1
          have q1 := fun o1 o2 o3 => (box3 (al_old (o := o1) (al_old (o := o2) (al_old (o := o3) HBR.out)))).2.1
          have q2 := fun o1 o2 o3 => (box3 (al_old (o := o1) (al_old (o := o2) (al_old (o := o3) HBR.out)))).2.2.1
          have HGG := Lib.hid HG
          have HPP := Lib.hid HP
          clear HG HP
          go_wp2_with fail
          obtain ⟨N, hN⟩ : ∃ N, wr.heap.size = N := ⟨_, rfl⟩
          have hne1 : ¬ bw = N := by omega
          have hne2 : ¬ N = bw := by omega
          have hne3 : ¬ bw = N + 1 := by omega
          have hne4 : ¬ N + 1 = bw := by omega
          have hne5 : ¬ bw = N + 1 + 1 := by omega
          have hne6 : ¬ N + 1 + 1 = bw := by omega
          have hne7 : ¬ N + 1 + 1 = N := by omega
          have hne8 : ¬ N + 1 + 1 = N + 1 := by omega
          have hne9 : ¬ N + 1 = N + 1 + 1 := by omega
          rw [hN] at HAX HHX HMX HNW ⊢
          clear hN hbw3 c0 c1 c2 c3 c4 c5 c6 c7 q0 q1 q2
          generalize ((wr.alloc (.cells #[.int .u8 xd, .int .i64 xp, .int .i64 y1, .int .i64 y2, .int .u64 y3, .int .u64 y4, .int .u64 xt, .slice xA xb.length xc] 84)).alloc (.cells #[.int .i64 0, .int .i64 0, .int .u64 0, .int .u64 0] 82)).alloc (.cells #[.int .i64 0, .int .i64 0, .int .u64 0, .int .u64 0] 85) = W3 at *
          have HGB := Lib.hid (fun (W W' : World) (h : St w W g s ∧ W.heap[N]? = some (.cells #[.int .u8 xd, .int .i64 xp, .int .i64 y1, .int .i64 y2, .int .u64 y3, .int .u64 y4, .int .u64 xt, .slice xA xb.length xc] 84) ∧ W.heap[N + 1]? = some (.cells #[.int .i64 0, .int .i64 0, .int .u64 0, .int .u64 0] 82) ∧ W.heap[N + 1 + 1]? = some (.cells #[.int .i64 0, .int .i64 0, .int .u64 0, .int .u64 0] 85) ∧ ∃ x y z, W.heap[bw]? = some (.cells #[x, y, z] 29 (0, 0))) (hb : Below W.heap.size W W') => (show St w W' g s ∧ W'.heap[N]? = some (.cells #[.int .u8 xd, .int .i64 xp, .int .i64 y1, .int .i64 y2, .int .u64 y3, .int .u64 y4, .int .u64 xt, .slice xA xb.length xc] 84) ∧ W'.heap[N + 1]? = some (.cells #[.int .i64 0, .int .i64 0, .int .u64 0, .int .u64 0] 82) ∧ W'.heap[N + 1 + 1]? = some (.cells #[.int .i64 0, .int .i64 0, .int .u64 0, .int .u64 0] 85) ∧ ∃ x y z, W'.heap[bw]? = some (.cells #[x, y, z] 29 (0, 0)) from ⟨h.1.step hb, at_bel h.2.1 hb, at_bel h.2.2.1 hb, at_bel h.2.2.2.1 hb, by obtain ⟨x, y, z, h5⟩ := h.2.2.2.2; exact ⟨x, y, z, at_bel h5 hb⟩⟩))
          have HG0 := Lib.hid ((show St w W3.drew g s ∧ W3.drew.heap[N]? = some (.cells #[.int .u8 xd, .int .i64 xp, .int .i64 y1, .int .i64 y2, .int .u64 y3, .int .u64 y4, .int .u64 xt, .slice xA xb.length xc] 84) ∧ W3.drew.heap[N + 1]? = some (.cells #[.int .i64 0, .int .i64 0, .int .u64 0, .int .u64 0] 82) ∧ W3.drew.heap[N + 1 + 1]? = some (.cells #[.int .i64 0, .int .i64 0, .int .u64 0, .int .u64 0] 85) ∧ ∃ x y z, W3.drew.heap[bw]? = some (.cells #[x, y, z] 29 (0, 0)) from ⟨HST.out.dr, HAX.out, HHX.out, HMX.out, _, _, _, HBX.out⟩))
          refine Rg.wp_region_use 12 12 rfl (by kernel_rfl) (fun ix W vv => match ix with
            | 0 => vv = .agg (boxV s RA Rm Rc)
            | 1 => vv = .pointer (some ⟨N, 1, none⟩)
            | 2 => vv = .int .i64 xp
            | 3 => vv = .pointer (some ⟨N, 2, none⟩)
            | 4 => vv = .agg #[.int .i64 y1, .int .i64 y2, .int .u64 y3, .int .u64 y4]
            | 5 => vv = .agg #[.int .i64 y1, .int .i64 y2, .int .u64 y3, .int .u64 y4]
            | 6 => ∃ v' : Value, vv = .tuple #[v', .int .i64 cc] ∧ RefS w.heap.size (k + 1) W v' s'
            | 7 => ∃ v' : Value, vv = .tuple #[v', .int .i64 cc] ∧ RefS w.heap.size (k + 1) W v' s'
            | 8 => ∃ v' : Value, vv = v' ∧ RefS w.heap.size (k + 1) W v' s'
            | 9 => vv = .int .i64 cc
            | 10 => ∃ A m c, W.heap[bw]? = some (.cells (boxV s' A m c) 29 (0, 0)) ∧ RefS w.heap.size (k + 1) W (.agg (boxV s' A m c)) s'
            | 11 => vv = .int .i64 cc
            | _ => True) (fun jx w w' => (jx = 10 ∧ (∃ x y z x' y' z', w.heap[bw]? = some (.cells #[x, y, z] 29 (0, 0)) ∧ w' = ((w.setCell ⟨bw, 0, none⟩ x').setCell ⟨bw, 1, none⟩ y').setCell ⟨bw, 2, none⟩ z')) ∨ (¬ jx = 10 ∧ Below w.heap.size w w')) (fun W => St w W g s ∧ W.heap[N]? = some (.cells #[.int .u8 xd, .int .i64 xp, .int .i64 y1, .int .i64 y2, .int .u64 y3, .int .u64 y4, .int .u64 xt, .slice xA xb.length xc] 84) ∧ W.heap[N + 1]? = some (.cells #[.int .i64 0, .int .i64 0, .int .u64 0, .int .u64 0] 82) ∧ W.heap[N + 1 + 1]? = some (.cells #[.int .i64 0, .int .i64 0, .int .u64 0, .int .u64 0] 85) ∧ ∃ x y z, W.heap[bw]? = some (.cells #[x, y, z] 29 (0, 0))) (HG0.out) (fun ix W => match ix with
            | 0 => W.heap[bw]? = some (.cells (boxV s RA Rm Rc) 29 (0, 0))
            | 6 => RefS w.heap.size k W (.agg (boxV s RA Rm Rc)) s
            | _ => True) ?_ ?_ ?_ ?_ ?_
          · intro ix hix
            have hj2 : ix = 0 ∨ ix = 1 ∨ ix = 2 ∨ ix = 3 ∨ ix = 4 ∨ ix = 5 ∨ ix = 6 ∨ ix = 7 ∨ ix = 8 ∨ ix = 9 ∨ ix = 10 ∨ ix = 11 := by omega
            rcases hj2 with rfl | rfl | rfl | rfl | rfl | rfl | rfl | rfl | rfl | rfl | rfl | rfl
            · exact HBX.out
            · trivial
            · trivial
            · trivial
            · trivial
            · trivial
            · exact HRS.out.below (Below.refl _ _).drew
            · trivial
            · trivial
            · trivial
            · trivial
            · trivial
          · intro ix jx w w' hix hjx hne hcn h hr
            rcases hr with ⟨rfl, hr⟩ | ⟨_, hr⟩
            · have hj2 : ix = 0 ∨ ix = 1 ∨ ix = 2 ∨ ix = 3 ∨ ix = 4 ∨ ix = 5 ∨ ix = 6 ∨ ix = 7 ∨ ix = 8 ∨ ix = 9 ∨ ix = 10 ∨ ix = 11 := by omega
              rcases hj2 with rfl | rfl | rfl | rfl | rfl | rfl | rfl | rfl | rfl | rfl | rfl | rfl
              · exact absurd hcn (by rw [show (Rg.behind _ 12 (Rg.depsAt _ 10)).contains 0 = true from by kernel_rfl]; decide)
              · trivial
              · trivial
              · trivial
              · trivial
              · trivial
              · exact absurd hcn (by rw [show (Rg.behind _ 12 (Rg.depsAt _ 10)).contains 6 = true from by kernel_rfl]; decide)
              · trivial
              · trivial
              · trivial
              · trivial
              · trivial
            · have hj2 : ix = 0 ∨ ix = 1 ∨ ix = 2 ∨ ix = 3 ∨ ix = 4 ∨ ix = 5 ∨ ix = 6 ∨ ix = 7 ∨ ix = 8 ∨ ix = 9 ∨ ix = 10 ∨ ix = 11 := by omega
              rcases hj2 with rfl | rfl | rfl | rfl | rfl | rfl | rfl | rfl | rfl | rfl | rfl | rfl
              · exact at_bel h hr
              · trivial
              · trivial
              · trivial
              · trivial
              · trivial
              · exact RefS.below h hr
              · trivial
              · trivial
              · trivial
              · trivial
              · trivial
          · intro ix jx w w' vv hix hjx hne hcn h hr
            rcases hr with ⟨rfl, hr⟩ | ⟨_, hr⟩
            · have hj2 : ix = 0 ∨ ix = 1 ∨ ix = 2 ∨ ix = 3 ∨ ix = 4 ∨ ix = 5 ∨ ix = 6 ∨ ix = 7 ∨ ix = 8 ∨ ix = 9 ∨ ix = 10 ∨ ix = 11 := by omega
              rcases hj2 with rfl | rfl | rfl | rfl | rfl | rfl | rfl | rfl | rfl | rfl | rfl | rfl
              · exact h
              · exact h
              · exact h
              · exact h
              · exact h
              · exact h
              · obtain ⟨v', e1, e2⟩ := h; obtain ⟨x, y, z, x', y', z', hb, rfl⟩ := hr; exact ⟨v', e1, refS_set3 e2 hb (by decide)⟩
              · obtain ⟨v', e1, e2⟩ := h; obtain ⟨x, y, z, x', y', z', hb, rfl⟩ := hr; exact ⟨v', e1, refS_set3 e2 hb (by decide)⟩
              · obtain ⟨v', e1, e2⟩ := h; obtain ⟨x, y, z, x', y', z', hb, rfl⟩ := hr; exact ⟨v', e1, refS_set3 e2 hb (by decide)⟩
              · exact h
              · exact absurd rfl hne
              · exact h
            · have hj2 : ix = 0 ∨ ix = 1 ∨ ix = 2 ∨ ix = 3 ∨ ix = 4 ∨ ix = 5 ∨ ix = 6 ∨ ix = 7 ∨ ix = 8 ∨ ix = 9 ∨ ix = 10 ∨ ix = 11 := by omega
              rcases hj2 with rfl | rfl | rfl | rfl | rfl | rfl | rfl | rfl | rfl | rfl | rfl | rfl
              · exact h
              · exact h
              · exact h
              · exact h
              · exact h
              · exact h
              · obtain ⟨v', e1, e2⟩ := h; exact ⟨v', e1, e2.below hr⟩
              · obtain ⟨v', e1, e2⟩ := h; exact ⟨v', e1, e2.below hr⟩
              · obtain ⟨v', e1, e2⟩ := h; exact ⟨v', e1, e2.below hr⟩
              · exact h
              · obtain ⟨A, m, c, e1, e2⟩ := h; exact ⟨A, m, c, at_bel e1 hr, e2.below hr⟩
              · exact h
          · intro ix a W K hix hg hpd hfr hdep hK
            have hj2 : ix = 0 ∨ ix = 1 ∨ ix = 2 ∨ ix = 3 ∨ ix = 4 ∨ ix = 5 ∨ ix = 6 ∨ ix = 7 ∨ ix = 8 ∨ ix = 9 ∨ ix = 10 ∨ ix = 11 := by omega
            rcases hj2 with rfl | rfl | rfl | rfl | rfl | rfl | rfl | rfl | rfl | rfl | rfl | rfl
            · have s8 : a.tmps[8]? = some _ := hfr 8 (by kernel_rfl)
              have hold : W.heap[bw]? = some (.cells (boxV s RA Rm Rc) 29 (0, 0)) := hpd
              obtain ⟨q0, q1, q2, _⟩ := box3 hold
              refine Rg.wpOp_wp rfl rfl ?_
              go_simp
              exact hK _ _ rfl (Or.inr (⟨by decide, Below.refl _ _⟩)) hg
            · have s10 : a.tmps[10]? = some _ := hfr 10 (by kernel_rfl)
              refine Rg.wpOp_wp rfl rfl ?_
              go_simp
              exact hK _ _ rfl (Or.inr (⟨by decide, Below.refl _ _⟩)) hg
            · obtain ⟨_, s620, rfl⟩ := hdep 1 (by kernel_rfl)
              have s62 := s620 62 rfl
              clear s620
              obtain ⟨p0, p1, p2, p3, p4, p5, p6, p7⟩ := box8 hg.2.1
              refine Rg.wpOp_wp rfl rfl ?_
              go_simp
              exact hK _ _ rfl (Or.inr (⟨by decide, Below.refl _ _⟩)) hg
            · have s10 : a.tmps[10]? = some _ := hfr 10 (by kernel_rfl)
              refine Rg.wpOp_wp rfl rfl ?_
              go_simp
              exact hK _ _ rfl (Or.inr (⟨by decide, Below.refl _ _⟩)) hg
            · obtain ⟨_, s640, rfl⟩ := hdep 3 (by kernel_rfl)
              have s64 := s640 64 rfl
              clear s640
              obtain ⟨p0, p1, p2, p3, p4, p5, p6, p7⟩ := box8 hg.2.1
              refine Rg.wpOp_wp rfl rfl ?_
              go_simp
              exact hK _ _ rfl (Or.inr (⟨by decide, Below.refl _ _⟩)) hg
            · obtain ⟨_, s650, rfl⟩ := hdep 4 (by kernel_rfl)
              have s65 := s650 65 rfl
              clear s650
              refine Rg.wpOp_wp rfl rfl ?_
              go_simp
              refine (model8_any ⟨y1, y2, y3, y4⟩ W).mono ?_
              rintro e w8 ⟨rfl, hb8⟩
              exact hK _ _ rfl (Or.inr (⟨by decide, hb8⟩)) (HGB.out _ _ hg (hb8))
            · obtain ⟨_, s610, rfl⟩ := hdep 0 (by kernel_rfl)
              have s61 := s610 61 rfl
              clear s610
              obtain ⟨_, s630, rfl⟩ := hdep 2 (by kernel_rfl)
              have s63 := s630 63 rfl
              clear s630
              obtain ⟨_, s660, rfl⟩ := hdep 5 (by kernel_rfl)
              have s66 := s660 66 rfl
              clear s660
              have hpd' : RefS w.heap.size k W (.agg (boxV s RA Rm Rc)) s := hpd
              refine Rg.wpOp_wp rfl rfl ?_
              go_simp
              refine (HGG.out _ k _ _ hpd' (by omega) hg.1.below.size).mono ?_
              rintro e w8 ⟨v9, rfl, hs9, hb9⟩
              exact hK _ _ ⟨v9, rfl, hs9⟩ (Or.inr (⟨by decide, hb9⟩)) (HGB.out _ _ hg (hb9))
            · obtain ⟨_, s670, ⟨v6, rfl, hs6⟩⟩ := hdep 6 (by kernel_rfl)
              have s67 := s670 67 rfl
              clear s670
              refine Rg.wpOp_wp rfl rfl ?_
              go_simp
              exact hK _ _ ⟨v6, rfl, hs6⟩ (Or.inr (⟨by decide, Below.refl _ _⟩)) hg
            · obtain ⟨_, s600, ⟨v7, rfl, hs7⟩⟩ := hdep 7 (by kernel_rfl)
              have s60 := s600 60 rfl
              clear s600
              refine Rg.wpOp_wp rfl rfl ?_
              go_simp
              exact hK _ _ ⟨v7, rfl, hs7⟩ (Or.inr (⟨by decide, Below.refl _ _⟩)) hg
            · obtain ⟨_, s600, ⟨v7, rfl, hs7⟩⟩ := hdep 7 (by kernel_rfl)
              have s60 := s600 60 rfl
              clear s600
              refine Rg.wpOp_wp rfl rfl ?_
              go_simp
              exact hK _ _ rfl (Or.inr (⟨by decide, Below.refl _ _⟩)) hg
            · have s8 : a.tmps[8]? = some _ := hfr 8 (by kernel_rfl)
              obtain ⟨_, s680, ⟨v8, rfl, hs8⟩⟩ := hdep 8 (by kernel_rfl)
              have s68 := s680 68 rfl
              clear s680
              obtain ⟨A8, m8, c8, rfl⟩ := refS_form hs8
              obtain ⟨g1, g2, g3, g4, x, y, z, g5⟩ := hg
              obtain ⟨m0, m1, m2, n1, n2, n0⟩ := box3 g5
              refine Rg.wpOp_wp rfl rfl ?_
              go_simp
              exact hK undef _ ⟨A8, m8, c8, box3_set g5, refS_set3 hs8 g5 (by decide)⟩ (Or.inl ⟨rfl, x, y, z, _, _, _, g5, rfl⟩) ⟨g1.set_box3 g5 (by decide) (by decide) HBW.out, box3_other g2 hne1, box3_other g3 hne3, box3_other g4 hne5, _, _, _, box3_set g5⟩
            · obtain ⟨_, s690, rfl⟩ := hdep 9 (by kernel_rfl)
              have s69 := s690 69 rfl
              clear s690
              refine Rg.wpOp_wp rfl rfl ?_
              go_simp
              exact hK _ _ rfl (Or.inr (⟨by decide, Below.refl _ _⟩)) hg
          · intro vv W hvv hg
            obtain ⟨LA5, Lm5, Lc5, hE5, hR5⟩ := hvv 10 (by decide)
            have e11 : vv 11 = .int .i64 cc := hvv 11 (by decide)
            obtain ⟨g1, g2, g3, g4, _⟩ := hg
            have HS5 := Lib.hid g1
            have HR5 := Lib.hid hR5
            have HE5 := Lib.hid hE5
            have HA5 := Lib.hid g2
            have HH5 := Lib.hid g3
            have HM5 := Lib.hid g4
            clear hvv g1 g2 g3 g4 hE5 hR5
            refine Rg.of_fakes (P := Try.prog) [Rg.fake (some 61) (vv 0), Rg.fake (some 62) (vv 1), Rg.fake (some 63) (vv 2), Rg.fake (some 64) (vv 3), Rg.fake (some 65) (vv 4), Rg.fake (some 66) (vv 5), Rg.fake (some 67) (vv 6), Rg.fake (some 60) (vv 7), Rg.fake (some 68) (vv 8), Rg.fake (some 69) (vv 9), Rg.fake none (vv 10), Rg.fake (some 14) (vv 11)] rfl ?_
            simp only [Rg.fake, e11]
            obtain ⟨p0', p1', p2', p3', p4', p5', p6', p7'⟩ := box8 HA5.out
            go_wp2_with fail
            clear p0' p1' p2' p3' p4' p5' p6' p7'
            refine (HPP.out _ _ _ HS5.out).mono ?_
            rintro e wT ⟨rfl, hs6, hk6⟩
            have eb6 := hk6.2 _ _ _ _ HE5.out (by decide) (by decide)
            have eh6 := hk6.2 _ _ _ _ HH5.out (by decide) (by decide)
            have em6 := hk6.2 _ _ _ _ HM5.out (by decide) (by decide)
            have hr6 := HR5.out.kp hk6
            have HTT := Lib.hid (And.intro hs6 (And.intro hr6 (And.intro eb6 (And.intro eh6 em6))))
            clear hs6 hk6 eb6 eh6 em6 hr6
            clear hne1 hne2 hne3 hne4 hne5 hne6 hne7 hne8 hne9
            go_wp2_with fail
            refine Rg.wp_region_grow 16 16 rfl (by kernel_rfl) (fun ix W vv => match ix with
              | 0 => vv = .agg #[.int .i64 0, .int .i64 0, .int .u64 0, .int .u64 0]
              | 1 => vv = .agg #[.int .i64 0, .int .i64 0, .int .u64 0, .int .u64 0]
              | 2 => vv = .agg #[.int .i64 0, .int .i64 0, .int .u64 0, .int .u64 0]
              | 3 => vv = .bool false
              | 4 => vv = .bool false
              | 5 => vv = .int .i64 cc
              | 6 => vv = .int .i64 cc
              | 7 => vv = .bool false
              | 8 => vv = .bool false
              | 9 => vv = .bool false
              | 10 => vv = .pointer (some ⟨g, 0, none⟩)
              | 11 => vv = .int .i64 s'.ticks
              | 12 => vv = .pointer (some ⟨bw, 2, none⟩)
              | 13 => vv = .int .i64 s'.ticks
              | 14 => vv = .bool false
              | 15 => vv = .bool false
              | _ => True) ?_ ?_ ?_
            · intro ix W W' vv hix h hb
              have hj2 : ix = 0 ∨ ix = 1 ∨ ix = 2 ∨ ix = 3 ∨ ix = 4 ∨ ix = 5 ∨ ix = 6 ∨ ix = 7 ∨ ix = 8 ∨ ix = 9 ∨ ix = 10 ∨ ix = 11 ∨ ix = 12 ∨ ix = 13 ∨ ix = 14 ∨ ix = 15 := by omega
              rcases hj2 with rfl | rfl | rfl | rfl | rfl | rfl | rfl | rfl | rfl | rfl | rfl | rfl | rfl | rfl | rfl | rfl
              all_goals first
                | exact h
            · intro ix a W K hix hbl hfr hdep hK
              have hj2 : ix = 0 ∨ ix = 1 ∨ ix = 2 ∨ ix = 3 ∨ ix = 4 ∨ ix = 5 ∨ ix = 6 ∨ ix = 7 ∨ ix = 8 ∨ ix = 9 ∨ ix = 10 ∨ ix = 11 ∨ ix = 12 ∨ ix = 13 ∨ ix = 14 ∨ ix = 15 := by omega
              rcases hj2 with rfl | rfl | rfl | rfl | rfl | rfl | rfl | rfl | rfl | rfl | rfl | rfl | rfl | rfl | rfl | rfl
              · have s11 : a.tmps[11]? = some _ := hfr 11 (by kernel_rfl)
                obtain ⟨q0, q1, q2, q3⟩ := box4 (at_bel HTT.out.2.2.2.1 hbl)
                refine Rg.wpOp_wp rfl rfl ?_
                go_simp
                exact hK _ _ rfl (Below.refl _ _)
              · obtain ⟨_, s125, rfl⟩ := hdep 0 125 (by kernel_rfl) rfl
                refine Rg.wpOp_wp rfl rfl ?_
                go_simp
                refine (model8_any ⟨0, 0, 0, 0⟩ W).mono ?_
                rintro e w8 ⟨rfl, hb8⟩
                exact hK _ _ rfl hb8
              · have s12 : a.tmps[12]? = some _ := hfr 12 (by kernel_rfl)
                obtain ⟨q0, q1, q2, q3⟩ := box4 (at_bel HTT.out.2.2.2.2 hbl)
                refine Rg.wpOp_wp rfl rfl ?_
                go_simp
                exact hK _ _ rfl (Below.refl _ _)
              · obtain ⟨_, s126, rfl⟩ := hdep 1 126 (by kernel_rfl) rfl
                obtain ⟨_, s127, rfl⟩ := hdep 2 127 (by kernel_rfl) rfl
                refine Rg.wpOp_wp rfl rfl ?_
                go_simp
                exact hK _ _ rfl (Below.refl _ _)
              · obtain ⟨_, s128, rfl⟩ := hdep 3 128 (by kernel_rfl) rfl
                refine Rg.wpOp_wp rfl rfl ?_
                go_simp
                exact hK _ _ rfl (Below.refl _ _)
              · obtain ⟨_, sg, hg⟩ := hdep 4 129 (by kernel_rfl) rfl
                subst hg
                have s13 : a.tmps[13]? = some _ := hfr 13 (by kernel_rfl)
                refine Rg.wpOp_go rfl rfl rfl sg ?_
                go_simp
                exact hK _ _ rfl (Below.refl _ _)
              · obtain ⟨_, sg, hg⟩ := hdep 4 129 (by kernel_rfl) rfl
                subst hg
                have s14 : a.tmps[14]? = some _ := hfr 14 (by kernel_rfl)
                refine Rg.wpOp_go rfl rfl rfl sg ?_
                go_simp
                exact hK _ _ rfl (Below.refl _ _)
              · obtain ⟨_, sg, hg⟩ := hdep 4 129 (by kernel_rfl) rfl
                subst hg
                obtain ⟨_, s130, rfl⟩ := hdep 5 130 (by kernel_rfl) rfl
                obtain ⟨_, s131, rfl⟩ := hdep 6 131 (by kernel_rfl) rfl
                refine Rg.wpOp_go rfl rfl rfl sg ?_
                go_simp
                exact hK _ _ rfl (Below.refl _ _)
              · obtain ⟨_, s129, rfl⟩ := hdep 4 129 (by kernel_rfl) rfl
                obtain ⟨_, s132, rfl⟩ := hdep 7 132 (by kernel_rfl) rfl
                refine Rg.wpOp_wp rfl rfl ?_
                go_simp
                exact hK _ _ rfl (Below.refl _ _)
              · obtain ⟨_, s133, rfl⟩ := hdep 8 133 (by kernel_rfl) rfl
                refine Rg.wpOp_wp rfl rfl ?_
                go_simp
                exact hK _ _ rfl (Below.refl _ _)
              · obtain ⟨_, sg, hg⟩ := hdep 9 134 (by kernel_rfl) rfl
                subst hg
                have s7 : a.tmps[7]? = some _ := hfr 7 (by kernel_rfl)
                refine Rg.wpOp_go rfl rfl rfl sg ?_
                go_simp
                exact hK _ _ rfl (Below.refl _ _)
              · obtain ⟨_, sg, hg⟩ := hdep 9 134 (by kernel_rfl) rfl
                subst hg
                obtain ⟨_, s135, rfl⟩ := hdep 10 135 (by kernel_rfl) rfl
                refine Rg.wpOp_go rfl rfl rfl sg ?_
                go_simp
                refine ((HTT.out.1.step hbl).ticks_).mono ?_
                rintro e w8 ⟨rfl, rfl⟩
                exact hK _ _ rfl (Below.refl _ _)
              · obtain ⟨_, sg, hg⟩ := hdep 9 134 (by kernel_rfl) rfl
                subst hg
                have s8 : a.tmps[8]? = some _ := hfr 8 (by kernel_rfl)
                refine Rg.wpOp_go rfl rfl rfl sg ?_
                go_simp
                exact hK _ _ rfl (Below.refl _ _)
              · obtain ⟨_, sg, hg⟩ := hdep 9 134 (by kernel_rfl) rfl
                subst hg
                obtain ⟨_, s137, rfl⟩ := hdep 12 137 (by kernel_rfl) rfl
                obtain ⟨q0, q1, q2, _⟩ := box3 (at_bel HTT.out.2.2.1 hbl)
                refine Rg.wpOp_go rfl rfl rfl sg ?_
                go_simp
                exact hK _ _ rfl (Below.refl _ _)
              · obtain ⟨_, sg, hg⟩ := hdep 9 134 (by kernel_rfl) rfl
                subst hg
                obtain ⟨_, s136, rfl⟩ := hdep 11 136 (by kernel_rfl) rfl
                obtain ⟨_, s138, rfl⟩ := hdep 13 138 (by kernel_rfl) rfl
                refine Rg.wpOp_go rfl rfl rfl sg ?_
                go_simp
                exact hK _ _ rfl (Below.refl _ _)
              · obtain ⟨_, s134, rfl⟩ := hdep 9 134 (by kernel_rfl) rfl
                obtain ⟨_, s139, rfl⟩ := hdep 14 139 (by kernel_rfl) rfl
                refine Rg.wpOp_wp rfl rfl ?_
                go_simp
                exact hK _ _ rfl (Below.refl _ _)
            · intro vv W hvv hbl
              have e15 : vv 15 = .bool false := hvv 15 (by decide)
              have HFN : RowKit.Hid (BothS w W (k + 1) g bw s') := ⟨HTT.out.1.step hbl, LA5, Lm5, Lc5, at_bel HTT.out.2.2.1 hbl, HTT.out.2.1.below hbl⟩
              clear hvv hbl
              refine Rg.of_fakes_all [Rg.fake (some 125) (vv 0), Rg.fake (some 126) (vv 1), Rg.fake (some 127) (vv 2), Rg.fake (some 128) (vv 3), Rg.fake (some 129) (vv 4), Rg.fake (some 130) (vv 5), Rg.fake (some 131) (vv 6), Rg.fake (some 132) (vv 7), Rg.fake (some 133) (vv 8), Rg.fake (some 134) (vv 9), Rg.fake (some 135) (vv 10), Rg.fake (some 136) (vv 11), Rg.fake (some 137) (vv 12), Rg.fake (some 138) (vv 13), Rg.fake (some 139) (vv 14), Rg.fake (some 140) (vv 15)] rfl ?_
              simp only [Rg.fake, e15]
              go_wp2_with fail
              go_roundw
              case rel => exact ⟨k + 1, by omega, by go_num, s', HFN.out⟩
              case measure => simp [intOf]; omega
        · have e0 : (xd == 0) = false := by simpa using d0
          by_cases d1 : xd = 1
          · have e1 : (xd == 1) = true := by simpa using d1
            clear d0 d1
            obtain ⟨⟨x1, x2, x3, x4⟩, cc, s', HG0, HP0⟩ := hread_both s xp HST.out.pages.2 HST.out.range HXP.out
            have HG : ∀ base q W v, RefS base q W v s → q ≤ 100000 → RefTo base q W v s s' 51 #[.int .i64 xp] [.agg #[.int .i64 x1, .int .i64 x2, .int .u64 x3, .int .u64 x4], .int .i64 cc] := HG0
            have HP : ∀ w0 W g, St w0 W g s → StTo w0 W g s s' 52 #[.int .i64 xp] (.tuple #[.agg #[.int .i64 x1, .int .i64 x2, .int .u64 x3, .int .u64 x4], .int .i64 cc]) := HP0
            clear HG0 HP0
            have q0 := fun o1 o2 o3 => (box3 (al_old (o := o1) (al_old (o := o2) (al_old (o := o3) HBR.out)))).1
            have q1 := fun o1 o2 o3 => (box3 (al_old (o := o1) (al_old (o := o2) (al_old (o := o3) HBR.out)))).2.1
            have q2 := fun o1 o2 o3 => (box3 (al_old (o := o1) (al_old (o := o2) (al_old (o := o3) HBR.out)))).2.2.1
            have HGG := Lib.hid HG
            have HPP := Lib.hid HP
            clear HG HP
            go_wp2_with fail
            obtain ⟨N, hN⟩ : ∃ N, wr.heap.size = N := ⟨_, rfl⟩
            have hne1 : ¬ bw = N := by omega
            have hne2 : ¬ N = bw := by omega
            have hne3 : ¬ bw = N + 1 := by omega
            have hne4 : ¬ N + 1 = bw := by omega
            have hne5 : ¬ bw = N + 1 + 1 := by omega
            have hne6 : ¬ N + 1 + 1 = bw := by omega
            have hne7 : ¬ N + 1 + 1 = N := by omega
            have hne8 : ¬ N + 1 + 1 = N + 1 := by omega
            have hne9 : ¬ N + 1 = N + 1 + 1 := by omega
            rw [hN] at HAX HHX HMX HNW ⊢
            clear hN hbw3 c0 c1 c2 c3 c4 c5 c6 c7 q0 q1 q2
            generalize ((wr.alloc (.cells #[.int .u8 xd, .int .i64 xp, .int .i64 y1, .int .i64 y2, .int .u64 y3, .int .u64 y4, .int .u64 xt, .slice xA xb.length xc] 84)).alloc (.cells #[.int .i64 0, .int .i64 0, .int .u64 0, .int .u64 0] 82)).alloc (.cells #[.int .i64 0, .int .i64 0, .int .u64 0, .int .u64 0] 85) = W3 at *
            refine (HGG.out _ k _ _ HRS.out (by omega)).mono ?_
            rintro e w5 ⟨v', rfl, hr5, hb5⟩
            obtain ⟨LA5, Lm5, Lc5, rfl⟩ := refS_form hr5
            have eb5 := at_bel HBX.out hb5
            have ea5 := at_bel HAX.out hb5
            have eh5 := at_bel HHX.out hb5
            have em5 := at_bel HMX.out hb5
            obtain ⟨p0, p1, p2, p3, p4, p5, p6, p7⟩ := box8 ea5
            obtain ⟨m0, m1, m2, n1, n2, n0⟩ := box3 eb5
            obtain ⟨⟨f0, f1, f2, f3⟩, ff⟩ := box4f em5
            have ff0 := ff 0
            have ff1 := ff 1
            have ff2 := ff 2
            have ff3 := ff 3
            have HS5 := Lib.hid (St.set_box4 (x' := .int .i64 x1) (y' := .int .i64 x2) (z' := .int .u64 x3) (u' := .int .u64 x4) ((HST.out.step hb5).set_box3 (x' := .int .i64 (s'.pages : Int)) (y' := .slice LA5 Lm5 Lc5) (z' := .int .i64 s'.ticks) eb5 (by decide) (by decide) HBW.out) (box3_other (x := .int .i64 (s'.pages : Int)) (y := .slice LA5 Lm5 Lc5) (z := .int .i64 s'.ticks) em5 hne5) (by decide) (by decide) (by have := HNW.out; omega))
            have HR5 := Lib.hid (refS_set4 (x := .int .i64 x1) (y := .int .i64 x2) (z := .int .u64 x3) (u := .int .u64 x4) (refS_set3 (x := .int .i64 (s'.pages : Int)) (y := .slice LA5 Lm5 Lc5) (z := .int .i64 s'.ticks) hr5 eb5 (by decide)) (box3_other (x := .int .i64 (s'.pages : Int)) (y := .slice LA5 Lm5 Lc5) (z := .int .i64 s'.ticks) em5 hne5) (by decide))
            have HE5 := Lib.hid (box4_other (x := .int .i64 x1) (y := .int .i64 x2) (z := .int .u64 x3) (u := .int .u64 x4) (box3_set (x' := .int .i64 (s'.pages : Int)) (y' := .slice LA5 Lm5 Lc5) (z' := .int .i64 s'.ticks) eb5) hne6)
            have HA5 := Lib.hid (box4_other (x := .int .i64 x1) (y := .int .i64 x2) (z := .int .u64 x3) (u := .int .u64 x4) (box3_other (x := .int .i64 (s'.pages : Int)) (y := .slice LA5 Lm5 Lc5) (z := .int .i64 s'.ticks) ea5 hne1) hne7)
            have HH5 := Lib.hid (box4_other (x := .int .i64 x1) (y := .int .i64 x2) (z := .int .u64 x3) (u := .int .u64 x4) (box3_other (x := .int .i64 (s'.pages : Int)) (y := .slice LA5 Lm5 Lc5) (z := .int .i64 s'.ticks) eh5 hne3) hne8)
            have HM5 := Lib.hid (box4_set (x' := .int .i64 x1) (y' := .int .i64 x2) (z' := .int .u64 x3) (u' := .int .u64 x4) (box3_other (x := .int .i64 (s'.pages : Int)) (y := .slice LA5 Lm5 Lc5) (z := .int .i64 s'.ticks) em5 hne5))
            clear hr5 hb5 eb5 ea5 eh5 em5 ff
            go_wp2_with fail
            refine (HPP.out _ _ _ HS5.out).mono ?_
            rintro e w6 ⟨rfl, hs6, hk6⟩
            have eb6 := hk6.2 _ _ _ _ HE5.out (by decide) (by decide)
            have eh6 := hk6.2 _ _ _ _ HH5.out (by decide) (by decide)
            have em6 := hk6.2 _ _ _ _ HM5.out (by decide) (by decide)
            have hr6 := HR5.out.kp hk6
            obtain ⟨⟨j0, j1, j2, j3⟩, jf⟩ := box4f eh6
            have jf0 := jf 0
            have jf1 := jf 1
            have jf2 := jf 2
            have jf3 := jf 3
            have HTT := Lib.hid (And.intro (St.set_box4 (x' := .int .i64 x1) (y' := .int .i64 x2) (z' := .int .u64 x3) (u' := .int .u64 x4) hs6 eh6 (by decide) (by decide) (by have := HNW.out; omega)) (And.intro (refS_set4 (x := .int .i64 x1) (y := .int .i64 x2) (z := .int .u64 x3) (u := .int .u64 x4) hr6 eh6 (by decide)) (And.intro (box4_other (x := .int .i64 x1) (y := .int .i64 x2) (z := .int .u64 x3) (u := .int .u64 x4) eb6 hne4) (And.intro (box4_set (x' := .int .i64 x1) (y' := .int .i64 x2) (z' := .int .u64 x3) (u' := .int .u64 x4) eh6) (box4_other (x := .int .i64 x1) (y := .int .i64 x2) (z := .int .u64 x3) (u := .int .u64 x4) em6 hne9)))))
            clear m0 m1 m2 n0 n1 n2 p0 p1 p2 p3 p4 p5 p6 p7
            clear hs6 hk6 eb6 eh6 em6 hr6 jf
            clear hne1 hne2 hne3 hne4 hne5 hne6 hne7 hne8 hne9
            go_wp2_with fail
            refine Rg.wp_region_grow 16 16 rfl (by kernel_rfl) (fun ix W vv => match ix with
              | 0 => vv = .agg #[.int .i64 x1, .int .i64 x2, .int .u64 x3, .int .u64 x4]
              | 1 => vv = .agg #[.int .i64 x1, .int .i64 x2, .int .u64 x3, .int .u64 x4]
              | 2 => vv = .agg #[.int .i64 x1, .int .i64 x2, .int .u64 x3, .int .u64 x4]
              | 3 => vv = .bool false
              | 4 => vv = .bool false
              | 5 => vv = .int .i64 cc
              | 6 => vv = .int .i64 cc
              | 7 => vv = .bool false
              | 8 => vv = .bool false
              | 9 => vv = .bool false
              | 10 => vv = .pointer (some ⟨g, 0, none⟩)
              | 11 => vv = .int .i64 s'.ticks
              | 12 => vv = .pointer (some ⟨bw, 2, none⟩)
              | 13 => vv = .int .i64 s'.ticks
              | 14 => vv = .bool false
              | 15 => vv = .bool false
              | _ => True) ?_ ?_ ?_
            · intro ix W W' vv hix h hb
              have hj2 : ix = 0 ∨ ix = 1 ∨ ix = 2 ∨ ix = 3 ∨ ix = 4 ∨ ix = 5 ∨ ix = 6 ∨ ix = 7 ∨ ix = 8 ∨ ix = 9 ∨ ix = 10 ∨ ix = 11 ∨ ix = 12 ∨ ix = 13 ∨ ix = 14 ∨ ix = 15 := by omega
              rcases hj2 with rfl | rfl | rfl | rfl | rfl | rfl | rfl | rfl | rfl | rfl | rfl | rfl | rfl | rfl | rfl | rfl
              all_goals first
                | exact h
            · intro ix a W K hix hbl hfr hdep hK
              have hj2 : ix = 0 ∨ ix = 1 ∨ ix = 2 ∨ ix = 3 ∨ ix = 4 ∨ ix = 5 ∨ ix = 6 ∨ ix = 7 ∨ ix = 8 ∨ ix = 9 ∨ ix = 10 ∨ ix = 11 ∨ ix = 12 ∨ ix = 13 ∨ ix = 14 ∨ ix = 15 := by omega
              rcases hj2 with rfl | rfl | rfl | rfl | rfl | rfl | rfl | rfl | rfl | rfl | rfl | rfl | rfl | rfl | rfl | rfl
              · have s11 : a.tmps[11]? = some _ := hfr 11 (by kernel_rfl)
                obtain ⟨q0, q1, q2, q3⟩ := box4 (at_bel HTT.out.2.2.2.1 hbl)
                refine Rg.wpOp_wp rfl rfl ?_
                go_simp
                exact hK _ _ rfl (Below.refl _ _)
              · obtain ⟨_, s125, rfl⟩ := hdep 0 125 (by kernel_rfl) rfl
                refine Rg.wpOp_wp rfl rfl ?_
                go_simp
                refine (model8_any ⟨x1, x2, x3, x4⟩ W).mono ?_
                rintro e w8 ⟨rfl, hb8⟩
                exact hK _ _ rfl hb8
              · have s12 : a.tmps[12]? = some _ := hfr 12 (by kernel_rfl)
                obtain ⟨q0, q1, q2, q3⟩ := box4 (at_bel HTT.out.2.2.2.2 hbl)
                refine Rg.wpOp_wp rfl rfl ?_
                go_simp
                exact hK _ _ rfl (Below.refl _ _)
              · obtain ⟨_, s126, rfl⟩ := hdep 1 126 (by kernel_rfl) rfl
                obtain ⟨_, s127, rfl⟩ := hdep 2 127 (by kernel_rfl) rfl
                refine Rg.wpOp_wp rfl rfl ?_
                go_simp
                exact hK _ _ rfl (Below.refl _ _)
              · obtain ⟨_, s128, rfl⟩ := hdep 3 128 (by kernel_rfl) rfl
                refine Rg.wpOp_wp rfl rfl ?_
                go_simp
                exact hK _ _ rfl (Below.refl _ _)
              · obtain ⟨_, sg, hg⟩ := hdep 4 129 (by kernel_rfl) rfl
                subst hg
                have s13 : a.tmps[13]? = some _ := hfr 13 (by kernel_rfl)
                refine Rg.wpOp_go rfl rfl rfl sg ?_
                go_simp
                exact hK _ _ rfl (Below.refl _ _)
              · obtain ⟨_, sg, hg⟩ := hdep 4 129 (by kernel_rfl) rfl
                subst hg
                have s14 : a.tmps[14]? = some _ := hfr 14 (by kernel_rfl)
                refine Rg.wpOp_go rfl rfl rfl sg ?_
                go_simp
                exact hK _ _ rfl (Below.refl _ _)
              · obtain ⟨_, sg, hg⟩ := hdep 4 129 (by kernel_rfl) rfl
                subst hg
                obtain ⟨_, s130, rfl⟩ := hdep 5 130 (by kernel_rfl) rfl
                obtain ⟨_, s131, rfl⟩ := hdep 6 131 (by kernel_rfl) rfl
                refine Rg.wpOp_go rfl rfl rfl sg ?_
                go_simp
                exact hK _ _ rfl (Below.refl _ _)
              · obtain ⟨_, s129, rfl⟩ := hdep 4 129 (by kernel_rfl) rfl
                obtain ⟨_, s132, rfl⟩ := hdep 7 132 (by kernel_rfl) rfl
                refine Rg.wpOp_wp rfl rfl ?_
                go_simp
                exact hK _ _ rfl (Below.refl _ _)
              · obtain ⟨_, s133, rfl⟩ := hdep 8 133 (by kernel_rfl) rfl
                refine Rg.wpOp_wp rfl rfl ?_
                go_simp
                exact hK _ _ rfl (Below.refl _ _)
              · obtain ⟨_, sg, hg⟩ := hdep 9 134 (by kernel_rfl) rfl
                subst hg
                have s7 : a.tmps[7]? = some _ := hfr 7 (by kernel_rfl)
                refine Rg.wpOp_go rfl rfl rfl sg ?_
                go_simp
                exact hK _ _ rfl (Below.refl _ _)
              · obtain ⟨_, sg, hg⟩ := hdep 9 134 (by kernel_rfl) rfl
                subst hg
                obtain ⟨_, s135, rfl⟩ := hdep 10 135 (by kernel_rfl) rfl
                refine Rg.wpOp_go rfl rfl rfl sg ?_
                go_simp
                refine ((HTT.out.1.step hbl).ticks_).mono ?_
                rintro e w8 ⟨rfl, rfl⟩
                exact hK _ _ rfl (Below.refl _ _)
              · obtain ⟨_, sg, hg⟩ := hdep 9 134 (by kernel_rfl) rfl
                subst hg
                have s8 : a.tmps[8]? = some _ := hfr 8 (by kernel_rfl)
                refine Rg.wpOp_go rfl rfl rfl sg ?_
                go_simp
                exact hK _ _ rfl (Below.refl _ _)
              · obtain ⟨_, sg, hg⟩ := hdep 9 134 (by kernel_rfl) rfl
                subst hg
                obtain ⟨_, s137, rfl⟩ := hdep 12 137 (by kernel_rfl) rfl
                obtain ⟨q0, q1, q2, _⟩ := box3 (at_bel HTT.out.2.2.1 hbl)
                refine Rg.wpOp_go rfl rfl rfl sg ?_
                go_simp
                exact hK _ _ rfl (Below.refl _ _)
              · obtain ⟨_, sg, hg⟩ := hdep 9 134 (by kernel_rfl) rfl
                subst hg
                obtain ⟨_, s136, rfl⟩ := hdep 11 136 (by kernel_rfl) rfl
                obtain ⟨_, s138, rfl⟩ := hdep 13 138 (by kernel_rfl) rfl
                refine Rg.wpOp_go rfl rfl rfl sg ?_
                go_simp
                exact hK _ _ rfl (Below.refl _ _)
              · obtain ⟨_, s134, rfl⟩ := hdep 9 134 (by kernel_rfl) rfl
                obtain ⟨_, s139, rfl⟩ := hdep 14 139 (by kernel_rfl) rfl
                refine Rg.wpOp_wp rfl rfl ?_
                go_simp
                exact hK _ _ rfl (Below.refl _ _)
            · intro vv W hvv hbl
              have e15 : vv 15 = .bool false := hvv 15 (by decide)
              have HFN : RowKit.Hid (BothS w W (k + 1) g bw s') := ⟨HTT.out.1.step hbl, LA5, Lm5, Lc5, at_bel HTT.out.2.2.1 hbl, HTT.out.2.1.below hbl⟩
              clear hvv hbl
              refine Rg.of_fakes_all [Rg.fake (some 125) (vv 0), Rg.fake (some 126) (vv 1), Rg.fake (some 127) (vv 2), Rg.fake (some 128) (vv 3), Rg.fake (some 129) (vv 4), Rg.fake (some 130) (vv 5), Rg.fake (some 131) (vv 6), Rg.fake (some 132) (vv 7), Rg.fake (some 133) (vv 8), Rg.fake (some 134) (vv 9), Rg.fake (some 135) (vv 10), Rg.fake (some 136) (vv 11), Rg.fake (some 137) (vv 12), Rg.fake (some 138) (vv 13), Rg.fake (some 139) (vv 14), Rg.fake (some 140) (vv 15)] rfl ?_
              simp only [Rg.fake, e15]
              go_wp2_with fail
              go_roundw
              case rel => exact ⟨k + 1, by omega, by go_num, s', HFN.out⟩
              case measure => simp [intOf]; omega
          · have e1 : (xd == 1) = false := by simpa using d1
            by_cases d2 : xd = 2
            · have e2 : (xd == 2) = true := by simpa using d2
              clear d0 d1 d2
              obtain ⟨cc, s', HG, HP⟩ := hlink_both s xp y4 HST.out.pages.2 HST.out.range HXP.out HXN.out
              have q0 := fun o1 o2 o3 => (box3 (al_old (o := o1) (al_old (o := o2) (al_old (o := o3) HBR.out)))).1
              have q1 := fun o1 o2 o3 => (box3 (al_old (o := o1) (al_old (o := o2) (al_old (o := o3) HBR.out)))).2.1
              have q2 := fun o1 o2 o3 => (box3 (al_old (o := o1) (al_old (o := o2) (al_old (o := o3) HBR.out)))).2.2.1
              have HGG := Lib.hid HG
              have HPP := Lib.hid HP
              clear HG HP
              go_wp2_with fail
              obtain ⟨N, hN⟩ : ∃ N, wr.heap.size = N := ⟨_, rfl⟩
              have hne1 : ¬ bw = N := by omega
              have hne2 : ¬ N = bw := by omega
              have hne3 : ¬ bw = N + 1 := by omega
              have hne4 : ¬ N + 1 = bw := by omega
              have hne5 : ¬ bw = N + 1 + 1 := by omega
              have hne6 : ¬ N + 1 + 1 = bw := by omega
              have hne7 : ¬ N + 1 + 1 = N := by omega
              have hne8 : ¬ N + 1 + 1 = N + 1 := by omega
              have hne9 : ¬ N + 1 = N + 1 + 1 := by omega
              rw [hN] at HAX HHX HMX HNW ⊢
              clear hN hbw3 c0 c1 c2 c3 c4 c5 c6 c7 q0 q1 q2
              generalize ((wr.alloc (.cells #[.int .u8 xd, .int .i64 xp, .int .i64 y1, .int .i64 y2, .int .u64 y3, .int .u64 y4, .int .u64 xt, .slice xA xb.length xc] 84)).alloc (.cells #[.int .i64 0, .int .i64 0, .int .u64 0, .int .u64 0] 82)).alloc (.cells #[.int .i64 0, .int .i64 0, .int .u64 0, .int .u64 0] 85) = W3 at *
              refine (HGG.out _ k _ _ HRS.out (by omega) (by have h1 := HNW.out; have h2 := (Array.getElem?_eq_some_iff.1 HAX.out).1; omega)).mono ?_
              rintro e w5 ⟨v', rfl, hr5, hb5⟩
              obtain ⟨LA5, Lm5, Lc5, rfl⟩ := refS_form hr5
              have eb5 := at_bel HBX.out hb5
              have ea5 := at_bel HAX.out hb5
              have eh5 := at_bel HHX.out hb5
              have em5 := at_bel HMX.out hb5
              obtain ⟨p0, p1, p2, p3, p4, p5, p6, p7⟩ := box8 ea5
              obtain ⟨m0, m1, m2, n1, n2, n0⟩ := box3 eb5
              have HS5 := Lib.hid ((HST.out.step hb5).set_box3 (x' := .int .i64 (s'.pages : Int)) (y' := .slice LA5 Lm5 Lc5) (z' := .int .i64 s'.ticks) eb5 (by decide) (by decide) HBW.out)
              have HR5 := Lib.hid (refS_set3 (x := .int .i64 (s'.pages : Int)) (y := .slice LA5 Lm5 Lc5) (z := .int .i64 s'.ticks) hr5 eb5 (by decide))
              have HE5 := Lib.hid (box3_set (x' := .int .i64 (s'.pages : Int)) (y' := .slice LA5 Lm5 Lc5) (z' := .int .i64 s'.ticks) eb5)
              have HA5 := Lib.hid (box3_other (x := .int .i64 (s'.pages : Int)) (y := .slice LA5 Lm5 Lc5) (z := .int .i64 s'.ticks) ea5 hne1)
              have HH5 := Lib.hid (box3_other (x := .int .i64 (s'.pages : Int)) (y := .slice LA5 Lm5 Lc5) (z := .int .i64 s'.ticks) eh5 hne3)
              have HM5 := Lib.hid (box3_other (x := .int .i64 (s'.pages : Int)) (y := .slice LA5 Lm5 Lc5) (z := .int .i64 s'.ticks) em5 hne5)
              clear hr5 hb5 eb5 ea5 eh5 em5
              obtain ⟨p0', p1', p2', p3', p4', p5', p6', p7'⟩ := box8 HA5.out
              go_wp2_with fail
              clear p0' p1' p2' p3' p4' p5' p6' p7'
              refine (HPP.out _ _ _ HS5.out).mono ?_
              rintro e wT ⟨rfl, hs6, hk6⟩
              have eb6 := hk6.2 _ _ _ _ HE5.out (by decide) (by decide)
              have eh6 := hk6.2 _ _ _ _ HH5.out (by decide) (by decide)
              have em6 := hk6.2 _ _ _ _ HM5.out (by decide) (by decide)
              have hr6 := HR5.out.kp hk6
              have HTT := Lib.hid (And.intro hs6 (And.intro hr6 (And.intro eb6 (And.intro eh6 em6))))
              clear m0 m1 m2 n0 n1 n2 p0 p1 p2 p3 p4 p5 p6 p7
              clear hs6 hk6 eb6 eh6 em6 hr6
              clear hne1 hne2 hne3 hne4 hne5 hne6 hne7 hne8 hne9
              go_wp2_with fail
              refine Rg.wp_region_grow 16 16 rfl (by kernel_rfl) (fun ix W vv => match ix with
                | 0 => vv = .agg #[.int .i64 0, .int .i64 0, .int .u64 0, .int .u64 0]
                | 1 => vv = .agg #[.int .i64 0, .int .i64 0, .int .u64 0, .int .u64 0]
                | 2 => vv = .agg #[.int .i64 0, .int .i64 0, .int .u64 0, .int .u64 0]
                | 3 => vv = .bool false
                | 4 => vv = .bool false
                | 5 => vv = .int .i64 cc
                | 6 => vv = .int .i64 cc
                | 7 => vv = .bool false
                | 8 => vv = .bool false
                | 9 => vv = .bool false
                | 10 => vv = .pointer (some ⟨g, 0, none⟩)
                | 11 => vv = .int .i64 s'.ticks
                | 12 => vv = .pointer (some ⟨bw, 2, none⟩)
                | 13 => vv = .int .i64 s'.ticks
                | 14 => vv = .bool false
                | 15 => vv = .bool false
                | _ => True) ?_ ?_ ?_
              · intro ix W W' vv hix h hb
                have hj2 : ix = 0 ∨ ix = 1 ∨ ix = 2 ∨ ix = 3 ∨ ix = 4 ∨ ix = 5 ∨ ix = 6 ∨ ix = 7 ∨ ix = 8 ∨ ix = 9 ∨ ix = 10 ∨ ix = 11 ∨ ix = 12 ∨ ix = 13 ∨ ix = 14 ∨ ix = 15 := by omega
                rcases hj2 with rfl | rfl | rfl | rfl | rfl | rfl | rfl | rfl | rfl | rfl | rfl | rfl | rfl | rfl | rfl | rfl
                all_goals first
                  | exact h
              · intro ix a W K hix hbl hfr hdep hK
                have hj2 : ix = 0 ∨ ix = 1 ∨ ix = 2 ∨ ix = 3 ∨ ix = 4 ∨ ix = 5 ∨ ix = 6 ∨ ix = 7 ∨ ix = 8 ∨ ix = 9 ∨ ix = 10 ∨ ix = 11 ∨ ix = 12 ∨ ix = 13 ∨ ix = 14 ∨ ix = 15 := by omega
                rcases hj2 with rfl | rfl | rfl | rfl | rfl | rfl | rfl | rfl | rfl | rfl | rfl | rfl | rfl | rfl | rfl | rfl
                · have s11 : a.tmps[11]? = some _ := hfr 11 (by kernel_rfl)
                  obtain ⟨q0, q1, q2, q3⟩ := box4 (at_bel HTT.out.2.2.2.1 hbl)
                  refine Rg.wpOp_wp rfl rfl ?_
                  go_simp
                  exact hK _ _ rfl (Below.refl _ _)
                · obtain ⟨_, s125, rfl⟩ := hdep 0 125 (by kernel_rfl) rfl
                  refine Rg.wpOp_wp rfl rfl ?_
                  go_simp
                  refine (model8_any ⟨0, 0, 0, 0⟩ W).mono ?_
                  rintro e w8 ⟨rfl, hb8⟩
                  exact hK _ _ rfl hb8
                · have s12 : a.tmps[12]? = some _ := hfr 12 (by kernel_rfl)
                  obtain ⟨q0, q1, q2, q3⟩ := box4 (at_bel HTT.out.2.2.2.2 hbl)
                  refine Rg.wpOp_wp rfl rfl ?_
                  go_simp
                  exact hK _ _ rfl (Below.refl _ _)
                · obtain ⟨_, s126, rfl⟩ := hdep 1 126 (by kernel_rfl) rfl
                  obtain ⟨_, s127, rfl⟩ := hdep 2 127 (by kernel_rfl) rfl
                  refine Rg.wpOp_wp rfl rfl ?_
                  go_simp
                  exact hK _ _ rfl (Below.refl _ _)
                · obtain ⟨_, s128, rfl⟩ := hdep 3 128 (by kernel_rfl) rfl
                  refine Rg.wpOp_wp rfl rfl ?_
                  go_simp
                  exact hK _ _ rfl (Below.refl _ _)
                · obtain ⟨_, sg, hg⟩ := hdep 4 129 (by kernel_rfl) rfl
                  subst hg
                  have s13 : a.tmps[13]? = some _ := hfr 13 (by kernel_rfl)
                  refine Rg.wpOp_go rfl rfl rfl sg ?_
                  go_simp
                  exact hK _ _ rfl (Below.refl _ _)
                · obtain ⟨_, sg, hg⟩ := hdep 4 129 (by kernel_rfl) rfl
                  subst hg
                  have s14 : a.tmps[14]? = some _ := hfr 14 (by kernel_rfl)
                  refine Rg.wpOp_go rfl rfl rfl sg ?_
                  go_simp
                  exact hK _ _ rfl (Below.refl _ _)
                · obtain ⟨_, sg, hg⟩ := hdep 4 129 (by kernel_rfl) rfl
                  subst hg
                  obtain ⟨_, s130, rfl⟩ := hdep 5 130 (by kernel_rfl) rfl
                  obtain ⟨_, s131, rfl⟩ := hdep 6 131 (by kernel_rfl) rfl
                  refine Rg.wpOp_go rfl rfl rfl sg ?_
                  go_simp
                  exact hK _ _ rfl (Below.refl _ _)
                · obtain ⟨_, s129, rfl⟩ := hdep 4 129 (by kernel_rfl) rfl
                  obtain ⟨_, s132, rfl⟩ := hdep 7 132 (by kernel_rfl) rfl
                  refine Rg.wpOp_wp rfl rfl ?_
                  go_simp
                  exact hK _ _ rfl (Below.refl _ _)
                · obtain ⟨_, s133, rfl⟩ := hdep 8 133 (by kernel_rfl) rfl
                  refine Rg.wpOp_wp rfl rfl ?_
                  go_simp
                  exact hK _ _ rfl (Below.refl _ _)
                · obtain ⟨_, sg, hg⟩ := hdep 9 134 (by kernel_rfl) rfl
                  subst hg
                  have s7 : a.tmps[7]? = some _ := hfr 7 (by kernel_rfl)
                  refine Rg.wpOp_go rfl rfl rfl sg ?_
                  go_simp
                  exact hK _ _ rfl (Below.refl _ _)
                · obtain ⟨_, sg, hg⟩ := hdep 9 134 (by kernel_rfl) rfl
                  subst hg
                  obtain ⟨_, s135, rfl⟩ := hdep 10 135 (by kernel_rfl) rfl
                  refine Rg.wpOp_go rfl rfl rfl sg ?_
                  go_simp
                  refine ((HTT.out.1.step hbl).ticks_).mono ?_
                  rintro e w8 ⟨rfl, rfl⟩
                  exact hK _ _ rfl (Below.refl _ _)
                · obtain ⟨_, sg, hg⟩ := hdep 9 134 (by kernel_rfl) rfl
                  subst hg
                  have s8 : a.tmps[8]? = some _ := hfr 8 (by kernel_rfl)
                  refine Rg.wpOp_go rfl rfl rfl sg ?_
                  go_simp
                  exact hK _ _ rfl (Below.refl _ _)
                · obtain ⟨_, sg, hg⟩ := hdep 9 134 (by kernel_rfl) rfl
                  subst hg
                  obtain ⟨_, s137, rfl⟩ := hdep 12 137 (by kernel_rfl) rfl
                  obtain ⟨q0, q1, q2, _⟩ := box3 (at_bel HTT.out.2.2.1 hbl)
                  refine Rg.wpOp_go rfl rfl rfl sg ?_
                  go_simp
                  exact hK _ _ rfl (Below.refl _ _)
                · obtain ⟨_, sg, hg⟩ := hdep 9 134 (by kernel_rfl) rfl
                  subst hg
                  obtain ⟨_, s136, rfl⟩ := hdep 11 136 (by kernel_rfl) rfl
                  obtain ⟨_, s138, rfl⟩ := hdep 13 138 (by kernel_rfl) rfl
                  refine Rg.wpOp_go rfl rfl rfl sg ?_
                  go_simp
                  exact hK _ _ rfl (Below.refl _ _)
                · obtain ⟨_, s134, rfl⟩ := hdep 9 134 (by kernel_rfl) rfl
                  obtain ⟨_, s139, rfl⟩ := hdep 14 139 (by kernel_rfl) rfl
                  refine Rg.wpOp_wp rfl rfl ?_
                  go_simp
                  exact hK _ _ rfl (Below.refl _ _)
              · intro vv W hvv hbl
                have e15 : vv 15 = .bool false := hvv 15 (by decide)
                have HFN : RowKit.Hid (BothS w W (k + 1) g bw s') := ⟨HTT.out.1.step hbl, LA5, Lm5, Lc5, at_bel HTT.out.2.2.1 hbl, HTT.out.2.1.below hbl⟩
                clear hvv hbl
                refine Rg.of_fakes_all [Rg.fake (some 125) (vv 0), Rg.fake (some 126) (vv 1), Rg.fake (some 127) (vv 2), Rg.fake (some 128) (vv 3), Rg.fake (some 129) (vv 4), Rg.fake (some 130) (vv 5), Rg.fake (some 131) (vv 6), Rg.fake (some 132) (vv 7), Rg.fake (some 133) (vv 8), Rg.fake (some 134) (vv 9), Rg.fake (some 135) (vv 10), Rg.fake (some 136) (vv 11), Rg.fake (some 137) (vv 12), Rg.fake (some 138) (vv 13), Rg.fake (some 139) (vv 14), Rg.fake (some 140) (vv 15)] rfl ?_
                simp only [Rg.fake, e15]
                go_wp2_with fail
                go_roundw
                case rel => exact ⟨k + 1, by omega, by go_num, s', HFN.out⟩
                case measure => simp [intOf]; omega
            · have e2 : (xd == 2) = false := by simpa using d2
              by_cases d3 : xd = 3
              · have e3 : (xd == 3) = true := by simpa using d3
                clear d0 d1 d2 d3
                obtain ⟨cc, s', HG, HP⟩ := hclear_both s xp HST.out.pages.2 HST.out.range HXP.out
                have q0 := fun o1 o2 o3 => (box3 (al_old (o := o1) (al_old (o := o2) (al_old (o := o3) HBR.out)))).1
                have q1 := fun o1 o2 o3 => (box3 (al_old (o := o1) (al_old (o := o2) (al_old (o := o3) HBR.out)))).2.1
                have q2 := fun o1 o2 o3 => (box3 (al_old (o := o1) (al_old (o := o2) (al_old (o := o3) HBR.out)))).2.2.1
                have HGG := Lib.hid HG
                have HPP := Lib.hid HP
                clear HG HP
                go_wp2_with fail
                obtain ⟨N, hN⟩ : ∃ N, wr.heap.size = N := ⟨_, rfl⟩
                have hne1 : ¬ bw = N := by omega
                have hne2 : ¬ N = bw := by omega
                have hne3 : ¬ bw = N + 1 := by omega
                have hne4 : ¬ N + 1 = bw := by omega
                have hne5 : ¬ bw = N + 1 + 1 := by omega
                have hne6 : ¬ N + 1 + 1 = bw := by omega
                have hne7 : ¬ N + 1 + 1 = N := by omega
                have hne8 : ¬ N + 1 + 1 = N + 1 := by omega
                have hne9 : ¬ N + 1 = N + 1 + 1 := by omega
                rw [hN] at HAX HHX HMX HNW ⊢
                clear hN hbw3 c0 c1 c2 c3 c4 c5 c6 c7 q0 q1 q2
                generalize ((wr.alloc (.cells #[.int .u8 xd, .int .i64 xp, .int .i64 y1, .int .i64 y2, .int .u64 y3, .int .u64 y4, .int .u64 xt, .slice xA xb.length xc] 84)).alloc (.cells #[.int .i64 0, .int .i64 0, .int .u64 0, .int .u64 0] 82)).alloc (.cells #[.int .i64 0, .int .i64 0, .int .u64 0, .int .u64 0] 85) = W3 at *
                refine (HGG.out _ k _ _ HRS.out (by omega) (by have h1 := HNW.out; have h2 := (Array.getElem?_eq_some_iff.1 HAX.out).1; omega)).mono ?_
                rintro e w5 ⟨v', rfl, hr5, hb5⟩
                obtain ⟨LA5, Lm5, Lc5, rfl⟩ := refS_form hr5
                have eb5 := at_bel HBX.out hb5
                have ea5 := at_bel HAX.out hb5
                have eh5 := at_bel HHX.out hb5
                have em5 := at_bel HMX.out hb5
                obtain ⟨p0, p1, p2, p3, p4, p5, p6, p7⟩ := box8 ea5
                obtain ⟨m0, m1, m2, n1, n2, n0⟩ := box3 eb5
                have HS5 := Lib.hid ((HST.out.step hb5).set_box3 (x' := .int .i64 (s'.pages : Int)) (y' := .slice LA5 Lm5 Lc5) (z' := .int .i64 s'.ticks) eb5 (by decide) (by decide) HBW.out)
                have HR5 := Lib.hid (refS_set3 (x := .int .i64 (s'.pages : Int)) (y := .slice LA5 Lm5 Lc5) (z := .int .i64 s'.ticks) hr5 eb5 (by decide))
                have HE5 := Lib.hid (box3_set (x' := .int .i64 (s'.pages : Int)) (y' := .slice LA5 Lm5 Lc5) (z' := .int .i64 s'.ticks) eb5)
                have HA5 := Lib.hid (box3_other (x := .int .i64 (s'.pages : Int)) (y := .slice LA5 Lm5 Lc5) (z := .int .i64 s'.ticks) ea5 hne1)
                have HH5 := Lib.hid (box3_other (x := .int .i64 (s'.pages : Int)) (y := .slice LA5 Lm5 Lc5) (z := .int .i64 s'.ticks) eh5 hne3)
                have HM5 := Lib.hid (box3_other (x := .int .i64 (s'.pages : Int)) (y := .slice LA5 Lm5 Lc5) (z := .int .i64 s'.ticks) em5 hne5)
                clear hr5 hb5 eb5 ea5 eh5 em5
                obtain ⟨p0', p1', p2', p3', p4', p5', p6', p7'⟩ := box8 HA5.out
                go_wp2_with fail
                clear p0' p1' p2' p3' p4' p5' p6' p7'
                refine (HPP.out _ _ _ HS5.out).mono ?_
                rintro e wT ⟨rfl, hs6, hk6⟩
                have eb6 := hk6.2 _ _ _ _ HE5.out (by decide) (by decide)
                have eh6 := hk6.2 _ _ _ _ HH5.out (by decide) (by decide)
                have em6 := hk6.2 _ _ _ _ HM5.out (by decide) (by decide)
                have hr6 := HR5.out.kp hk6
                have HTT := Lib.hid (And.intro hs6 (And.intro hr6 (And.intro eb6 (And.intro eh6 em6))))
                clear m0 m1 m2 n0 n1 n2 p0 p1 p2 p3 p4 p5 p6 p7
                clear hs6 hk6 eb6 eh6 em6 hr6
                clear hne1 hne2 hne3 hne4 hne5 hne6 hne7 hne8 hne9
                go_wp2_with fail
                refine Rg.wp_region_grow 16 16 rfl (by kernel_rfl) (fun ix W vv => match ix with
                  | 0 => vv = .agg #[.int .i64 0, .int .i64 0, .int .u64 0, .int .u64 0]
                  | 1 => vv = .agg #[.int .i64 0, .int .i64 0, .int .u64 0, .int .u64 0]
                  | 2 => vv = .agg #[.int .i64 0, .int .i64 0, .int .u64 0, .int .u64 0]
                  | 3 => vv = .bool false
                  | 4 => vv = .bool false
                  | 5 => vv = .int .i64 cc
                  | 6 => vv = .int .i64 cc
                  | 7 => vv = .bool false
                  | 8 => vv = .bool false
                  | 9 => vv = .bool false
                  | 10 => vv = .pointer (some ⟨g, 0, none⟩)
                  | 11 => vv = .int .i64 s'.ticks
                  | 12 => vv = .pointer (some ⟨bw, 2, none⟩)
                  | 13 => vv = .int .i64 s'.ticks
                  | 14 => vv = .bool false
                  | 15 => vv = .bool false
                  | _ => True) ?_ ?_ ?_
                · intro ix W W' vv hix h hb
                  have hj2 : ix = 0 ∨ ix = 1 ∨ ix = 2 ∨ ix = 3 ∨ ix = 4 ∨ ix = 5 ∨ ix = 6 ∨ ix = 7 ∨ ix = 8 ∨ ix = 9 ∨ ix = 10 ∨ ix = 11 ∨ ix = 12 ∨ ix = 13 ∨ ix = 14 ∨ ix = 15 := by omega
                  rcases hj2 with rfl | rfl | rfl | rfl | rfl | rfl | rfl | rfl | rfl | rfl | rfl | rfl | rfl | rfl | rfl | rfl
                  all_goals first
                    | exact h
                · intro ix a W K hix hbl hfr hdep hK
                  have hj2 : ix = 0 ∨ ix = 1 ∨ ix = 2 ∨ ix = 3 ∨ ix = 4 ∨ ix = 5 ∨ ix = 6 ∨ ix = 7 ∨ ix = 8 ∨ ix = 9 ∨ ix = 10 ∨ ix = 11 ∨ ix = 12 ∨ ix = 13 ∨ ix = 14 ∨ ix = 15 := by omega
                  rcases hj2 with rfl | rfl | rfl | rfl | rfl | rfl | rfl | rfl | rfl | rfl | rfl | rfl | rfl | rfl | rfl | rfl
                  · have s11 : a.tmps[11]? = some _ := hfr 11 (by kernel_rfl)
                    obtain ⟨q0, q1, q2, q3⟩ := box4 (at_bel HTT.out.2.2.2.1 hbl)
                    refine Rg.wpOp_wp rfl rfl ?_
                    go_simp
                    exact hK _ _ rfl (Below.refl _ _)
                  · obtain ⟨_, s125, rfl⟩ := hdep 0 125 (by kernel_rfl) rfl
                    refine Rg.wpOp_wp rfl rfl ?_
                    go_simp
                    refine (model8_any ⟨0, 0, 0, 0⟩ W).mono ?_
                    rintro e w8 ⟨rfl, hb8⟩
                    exact hK _ _ rfl hb8
                  · have s12 : a.tmps[12]? = some _ := hfr 12 (by kernel_rfl)
                    obtain ⟨q0, q1, q2, q3⟩ := box4 (at_bel HTT.out.2.2.2.2 hbl)
                    refine Rg.wpOp_wp rfl rfl ?_
                    go_simp
                    exact hK _ _ rfl (Below.refl _ _)
                  · obtain ⟨_, s126, rfl⟩ := hdep 1 126 (by kernel_rfl) rfl
                    obtain ⟨_, s127, rfl⟩ := hdep 2 127 (by kernel_rfl) rfl
                    refine Rg.wpOp_wp rfl rfl ?_
                    go_simp
                    exact hK _ _ rfl (Below.refl _ _)
                  · obtain ⟨_, s128, rfl⟩ := hdep 3 128 (by kernel_rfl) rfl
                    refine Rg.wpOp_wp rfl rfl ?_
                    go_simp
                    exact hK _ _ rfl (Below.refl _ _)
                  · obtain ⟨_, sg, hg⟩ := hdep 4 129 (by kernel_rfl) rfl
                    subst hg
                    have s13 : a.tmps[13]? = some _ := hfr 13 (by kernel_rfl)
                    refine Rg.wpOp_go rfl rfl rfl sg ?_
                    go_simp
                    exact hK _ _ rfl (Below.refl _ _)
                  · obtain ⟨_, sg, hg⟩ := hdep 4 129 (by kernel_rfl) rfl
                    subst hg
                    have s14 : a.tmps[14]? = some _ := hfr 14 (by kernel_rfl)
                    refine Rg.wpOp_go rfl rfl rfl sg ?_
                    go_simp
                    exact hK _ _ rfl (Below.refl _ _)
                  · obtain ⟨_, sg, hg⟩ := hdep 4 129 (by kernel_rfl) rfl
                    subst hg
                    obtain ⟨_, s130, rfl⟩ := hdep 5 130 (by kernel_rfl) rfl
                    obtain ⟨_, s131, rfl⟩ := hdep 6 131 (by kernel_rfl) rfl
                    refine Rg.wpOp_go rfl rfl rfl sg ?_
                    go_simp
                    exact hK _ _ rfl (Below.refl _ _)
                  · obtain ⟨_, s129, rfl⟩ := hdep 4 129 (by kernel_rfl) rfl
                    obtain ⟨_, s132, rfl⟩ := hdep 7 132 (by kernel_rfl) rfl
                    refine Rg.wpOp_wp rfl rfl ?_
                    go_simp
                    exact hK _ _ rfl (Below.refl _ _)
                  · obtain ⟨_, s133, rfl⟩ := hdep 8 133 (by kernel_rfl) rfl
                    refine Rg.wpOp_wp rfl rfl ?_
                    go_simp
                    exact hK _ _ rfl (Below.refl _ _)
                  · obtain ⟨_, sg, hg⟩ := hdep 9 134 (by kernel_rfl) rfl
                    subst hg
                    have s7 : a.tmps[7]? = some _ := hfr 7 (by kernel_rfl)
                    refine Rg.wpOp_go rfl rfl rfl sg ?_
                    go_simp
                    exact hK _ _ rfl (Below.refl _ _)
                  · obtain ⟨_, sg, hg⟩ := hdep 9 134 (by kernel_rfl) rfl
                    subst hg
                    obtain ⟨_, s135, rfl⟩ := hdep 10 135 (by kernel_rfl) rfl
                    refine Rg.wpOp_go rfl rfl rfl sg ?_
                    go_simp
                    refine ((HTT.out.1.step hbl).ticks_).mono ?_
                    rintro e w8 ⟨rfl, rfl⟩
                    exact hK _ _ rfl (Below.refl _ _)
                  · obtain ⟨_, sg, hg⟩ := hdep 9 134 (by kernel_rfl) rfl
                    subst hg
                    have s8 : a.tmps[8]? = some _ := hfr 8 (by kernel_rfl)
                    refine Rg.wpOp_go rfl rfl rfl sg ?_
                    go_simp
                    exact hK _ _ rfl (Below.refl _ _)
                  · obtain ⟨_, sg, hg⟩ := hdep 9 134 (by kernel_rfl) rfl
                    subst hg
                    obtain ⟨_, s137, rfl⟩ := hdep 12 137 (by kernel_rfl) rfl
                    obtain ⟨q0, q1, q2, _⟩ := box3 (at_bel HTT.out.2.2.1 hbl)
                    refine Rg.wpOp_go rfl rfl rfl sg ?_
                    go_simp
                    exact hK _ _ rfl (Below.refl _ _)
                  · obtain ⟨_, sg, hg⟩ := hdep 9 134 (by kernel_rfl) rfl
                    subst hg
                    obtain ⟨_, s136, rfl⟩ := hdep 11 136 (by kernel_rfl) rfl
                    obtain ⟨_, s138, rfl⟩ := hdep 13 138 (by kernel_rfl) rfl
                    refine Rg.wpOp_go rfl rfl rfl sg ?_
                    go_simp
                    exact hK _ _ rfl (Below.refl _ _)
                  · obtain ⟨_, s134, rfl⟩ := hdep 9 134 (by kernel_rfl) rfl
                    obtain ⟨_, s139, rfl⟩ := hdep 14 139 (by kernel_rfl) rfl
                    refine Rg.wpOp_wp rfl rfl ?_
                    go_simp
                    exact hK _ _ rfl (Below.refl _ _)
                · intro vv W hvv hbl
                  have e15 : vv 15 = .bool false := hvv 15 (by decide)
                  have HFN : RowKit.Hid (BothS w W (k + 1) g bw s') := ⟨HTT.out.1.step hbl, LA5, Lm5, Lc5, at_bel HTT.out.2.2.1 hbl, HTT.out.2.1.below hbl⟩
                  clear hvv hbl
                  refine Rg.of_fakes_all [Rg.fake (some 125) (vv 0), Rg.fake (some 126) (vv 1), Rg.fake (some 127) (vv 2), Rg.fake (some 128) (vv 3), Rg.fake (some 129) (vv 4), Rg.fake (some 130) (vv 5), Rg.fake (some 131) (vv 6), Rg.fake (some 132) (vv 7), Rg.fake (some 133) (vv 8), Rg.fake (some 134) (vv 9), Rg.fake (some 135) (vv 10), Rg.fake (some 136) (vv 11), Rg.fake (some 137) (vv 12), Rg.fake (some 138) (vv 13), Rg.fake (some 139) (vv 14), Rg.fake (some 140) (vv 15)] rfl ?_
                  simp only [Rg.fake, e15]
                  go_wp2_with fail
                  go_roundw
                  case rel => exact ⟨k + 1, by omega, by go_num, s', HFN.out⟩
                  case measure => simp [intOf]; omega
              · have e3 : (xd == 3) = false := by simpa using d3
                clear d0 d1 d2 d3
                obtain ⟨cc, s', HG, HP⟩ := store_both s xt xb HXT.out (by have := HC8.out.2; unfold maxLen at this; omega) HBV.out
                have q0 := fun o1 o2 o3 => (box3 (al_old (o := o1) (al_old (o := o2) (al_old (o := o3) HBR.out)))).1
                have q1 := fun o1 o2 o3 => (box3 (al_old (o := o1) (al_old (o := o2) (al_old (o := o3) HBR.out)))).2.1
                have q2 := fun o1 o2 o3 => (box3 (al_old (o := o1) (al_old (o := o2) (al_old (o := o3) HBR.out)))).2.2.1
                have HGG := Lib.hid HG
                have HPP := Lib.hid HP
                clear HG HP
                obtain ⟨S, hS⟩ : ∃ S, strOfNums xb = S := ⟨_, rfl⟩
                have HCV := Lib.hid (fun (W : World) (hb : Below w.heap.size w W) => lst_string HB0.out hb xb.length xc rfl)
                rw [hS] at HGG HCV
                clear hS
                have hcv := HCV.out _ HST.out.below
                go_wp2_with fail
                obtain ⟨N, hN⟩ : ∃ N, wr.heap.size = N := ⟨_, rfl⟩
                have hne1 : ¬ bw = N := by omega
                have hne2 : ¬ N = bw := by omega
                have hne3 : ¬ bw = N + 1 := by omega
                have hne4 : ¬ N + 1 = bw := by omega
                have hne5 : ¬ bw = N + 1 + 1 := by omega
                have hne6 : ¬ N + 1 + 1 = bw := by omega
                have hne7 : ¬ N + 1 + 1 = N := by omega
                have hne8 : ¬ N + 1 + 1 = N + 1 := by omega
                have hne9 : ¬ N + 1 = N + 1 + 1 := by omega
                rw [hN] at HAX HHX HMX HNW ⊢
                clear hN hbw3 c0 c1 c2 c3 c4 c5 c6 c7 hcv q0 q1 q2
                generalize ((wr.alloc (.cells #[.int .u8 xd, .int .i64 xp, .int .i64 y1, .int .i64 y2, .int .u64 y3, .int .u64 y4, .int .u64 xt, .slice xA xb.length xc] 84)).alloc (.cells #[.int .i64 0, .int .i64 0, .int .u64 0, .int .u64 0] 82)).alloc (.cells #[.int .i64 0, .int .i64 0, .int .u64 0, .int .u64 0] 85) = W3 at *
                refine (HGG.out _ k _ _ HRS.out (by omega) (by have h1 := HNW.out; have h2 := (Array.getElem?_eq_some_iff.1 HAX.out).1; omega)).mono ?_
                rintro e w5 ⟨v', rfl, hr5, hb5⟩
                obtain ⟨LA5, Lm5, Lc5, rfl⟩ := refS_form hr5
                have eb5 := at_bel HBX.out hb5
                have ea5 := at_bel HAX.out hb5
                have eh5 := at_bel HHX.out hb5
                have em5 := at_bel HMX.out hb5
                obtain ⟨p0, p1, p2, p3, p4, p5, p6, p7⟩ := box8 ea5
                obtain ⟨m0, m1, m2, n1, n2, n0⟩ := box3 eb5
                have HS5 := Lib.hid ((HST.out.step hb5).set_box3 (x' := .int .i64 (s'.pages : Int)) (y' := .slice LA5 Lm5 Lc5) (z' := .int .i64 s'.ticks) eb5 (by decide) (by decide) HBW.out)
                have HR5 := Lib.hid (refS_set3 (x := .int .i64 (s'.pages : Int)) (y := .slice LA5 Lm5 Lc5) (z := .int .i64 s'.ticks) hr5 eb5 (by decide))
                have HE5 := Lib.hid (box3_set (x' := .int .i64 (s'.pages : Int)) (y' := .slice LA5 Lm5 Lc5) (z' := .int .i64 s'.ticks) eb5)
                have HA5 := Lib.hid (box3_other (x := .int .i64 (s'.pages : Int)) (y := .slice LA5 Lm5 Lc5) (z := .int .i64 s'.ticks) ea5 hne1)
                have HH5 := Lib.hid (box3_other (x := .int .i64 (s'.pages : Int)) (y := .slice LA5 Lm5 Lc5) (z := .int .i64 s'.ticks) eh5 hne3)
                have HM5 := Lib.hid (box3_other (x := .int .i64 (s'.pages : Int)) (y := .slice LA5 Lm5 Lc5) (z := .int .i64 s'.ticks) em5 hne5)
                clear hr5 hb5 eb5 ea5 eh5 em5
                obtain ⟨p0', p1', p2', p3', p4', p5', p6', p7'⟩ := box8 HA5.out
                go_wp2_with fail
                clear p0' p1' p2' p3' p4' p5' p6' p7'
                refine (HPP.out _ _ _ xA xc HC8.out.1 (lst_srcW HB0.out HS5.out.below HV1.out.2.2.2.2) HS5.out).mono ?_
                rintro e wT ⟨rfl, hs6, hk6⟩
                have eb6 := hk6.2 _ _ _ _ HE5.out (by decide) (by decide)
                have eh6 := hk6.2 _ _ _ _ HH5.out (by decide) (by decide)
                have em6 := hk6.2 _ _ _ _ HM5.out (by decide) (by decide)
                have hr6 := HR5.out.kp hk6
                have HTT := Lib.hid (And.intro hs6 (And.intro hr6 (And.intro eb6 (And.intro eh6 em6))))
                clear m0 m1 m2 n0 n1 n2 p0 p1 p2 p3 p4 p5 p6 p7
                clear hs6 hk6 eb6 eh6 em6 hr6
                clear hne1 hne2 hne3 hne4 hne5 hne6 hne7 hne8 hne9
                go_wp2_with fail
                refine Rg.wp_region_grow 16 16 rfl (by kernel_rfl) (fun ix W vv => match ix with
                  | 0 => vv = .agg #[.int .i64 0, .int .i64 0, .int .u64 0, .int .u64 0]
                  | 1 => vv = .agg #[.int .i64 0, .int .i64 0, .int .u64 0, .int .u64 0]
                  | 2 => vv = .agg #[.int .i64 0, .int .i64 0, .int .u64 0, .int .u64 0]
                  | 3 => vv = .bool false
                  | 4 => vv = .bool false
                  | 5 => vv = .int .i64 cc
                  | 6 => vv = .int .i64 cc
                  | 7 => vv = .bool false
                  | 8 => vv = .bool false
                  | 9 => vv = .bool false
                  | 10 => vv = .pointer (some ⟨g, 0, none⟩)
                  | 11 => vv = .int .i64 s'.ticks
                  | 12 => vv = .pointer (some ⟨bw, 2, none⟩)
                  | 13 => vv = .int .i64 s'.ticks
                  | 14 => vv = .bool false
                  | 15 => vv = .bool false
                  | _ => True) ?_ ?_ ?_
                · intro ix W W' vv hix h hb
                  have hj2 : ix = 0 ∨ ix = 1 ∨ ix = 2 ∨ ix = 3 ∨ ix = 4 ∨ ix = 5 ∨ ix = 6 ∨ ix = 7 ∨ ix = 8 ∨ ix = 9 ∨ ix = 10 ∨ ix = 11 ∨ ix = 12 ∨ ix = 13 ∨ ix = 14 ∨ ix = 15 := by omega
                  rcases hj2 with rfl | rfl | rfl | rfl | rfl | rfl | rfl | rfl | rfl | rfl | rfl | rfl | rfl | rfl | rfl | rfl
                  all_goals first
                    | exact h
                · intro ix a W K hix hbl hfr hdep hK
                  have hj2 : ix = 0 ∨ ix = 1 ∨ ix = 2 ∨ ix = 3 ∨ ix = 4 ∨ ix = 5 ∨ ix = 6 ∨ ix = 7 ∨ ix = 8 ∨ ix = 9 ∨ ix = 10 ∨ ix = 11 ∨ ix = 12 ∨ ix = 13 ∨ ix = 14 ∨ ix = 15 := by omega
                  rcases hj2 with rfl | rfl | rfl | rfl | rfl | rfl | rfl | rfl | rfl | rfl | rfl | rfl | rfl | rfl | rfl | rfl
                  · have s11 : a.tmps[11]? = some _ := hfr 11 (by kernel_rfl)
                    obtain ⟨q0, q1, q2, q3⟩ := box4 (at_bel HTT.out.2.2.2.1 hbl)
                    refine Rg.wpOp_wp rfl rfl ?_
                    go_simp
                    exact hK _ _ rfl (Below.refl _ _)
                  · obtain ⟨_, s125, rfl⟩ := hdep 0 125 (by kernel_rfl) rfl
                    refine Rg.wpOp_wp rfl rfl ?_
                    go_simp
                    refine (model8_any ⟨0, 0, 0, 0⟩ W).mono ?_
                    rintro e w8 ⟨rfl, hb8⟩
                    exact hK _ _ rfl hb8
                  · have s12 : a.tmps[12]? = some _ := hfr 12 (by kernel_rfl)
                    obtain ⟨q0, q1, q2, q3⟩ := box4 (at_bel HTT.out.2.2.2.2 hbl)
                    refine Rg.wpOp_wp rfl rfl ?_
                    go_simp
                    exact hK _ _ rfl (Below.refl _ _)
                  · obtain ⟨_, s126, rfl⟩ := hdep 1 126 (by kernel_rfl) rfl
                    obtain ⟨_, s127, rfl⟩ := hdep 2 127 (by kernel_rfl) rfl
                    refine Rg.wpOp_wp rfl rfl ?_
                    go_simp
                    exact hK _ _ rfl (Below.refl _ _)
                  · obtain ⟨_, s128, rfl⟩ := hdep 3 128 (by kernel_rfl) rfl
                    refine Rg.wpOp_wp rfl rfl ?_
                    go_simp
                    exact hK _ _ rfl (Below.refl _ _)
                  · obtain ⟨_, sg, hg⟩ := hdep 4 129 (by kernel_rfl) rfl
                    subst hg
                    have s13 : a.tmps[13]? = some _ := hfr 13 (by kernel_rfl)
                    refine Rg.wpOp_go rfl rfl rfl sg ?_
                    go_simp
                    exact hK _ _ rfl (Below.refl _ _)
                  · obtain ⟨_, sg, hg⟩ := hdep 4 129 (by kernel_rfl) rfl
                    subst hg
                    have s14 : a.tmps[14]? = some _ := hfr 14 (by kernel_rfl)
                    refine Rg.wpOp_go rfl rfl rfl sg ?_
                    go_simp
                    exact hK _ _ rfl (Below.refl _ _)
                  · obtain ⟨_, sg, hg⟩ := hdep 4 129 (by kernel_rfl) rfl
                    subst hg
                    obtain ⟨_, s130, rfl⟩ := hdep 5 130 (by kernel_rfl) rfl
                    obtain ⟨_, s131, rfl⟩ := hdep 6 131 (by kernel_rfl) rfl
                    refine Rg.wpOp_go rfl rfl rfl sg ?_
                    go_simp
                    exact hK _ _ rfl (Below.refl _ _)
                  · obtain ⟨_, s129, rfl⟩ := hdep 4 129 (by kernel_rfl) rfl
                    obtain ⟨_, s132, rfl⟩ := hdep 7 132 (by kernel_rfl) rfl
                    refine Rg.wpOp_wp rfl rfl ?_
                    go_simp
                    exact hK _ _ rfl (Below.refl _ _)
                  · obtain ⟨_, s133, rfl⟩ := hdep 8 133 (by kernel_rfl) rfl
                    refine Rg.wpOp_wp rfl rfl ?_
                    go_simp
                    exact hK _ _ rfl (Below.refl _ _)
                  · obtain ⟨_, sg, hg⟩ := hdep 9 134 (by kernel_rfl) rfl
                    subst hg
                    have s7 : a.tmps[7]? = some _ := hfr 7 (by kernel_rfl)
                    refine Rg.wpOp_go rfl rfl rfl sg ?_
                    go_simp
                    exact hK _ _ rfl (Below.refl _ _)
                  · obtain ⟨_, sg, hg⟩ := hdep 9 134 (by kernel_rfl) rfl
                    subst hg
                    obtain ⟨_, s135, rfl⟩ := hdep 10 135 (by kernel_rfl) rfl
                    refine Rg.wpOp_go rfl rfl rfl sg ?_
                    go_simp
                    refine ((HTT.out.1.step hbl).ticks_).mono ?_
                    rintro e w8 ⟨rfl, rfl⟩
                    exact hK _ _ rfl (Below.refl _ _)
                  · obtain ⟨_, sg, hg⟩ := hdep 9 134 (by kernel_rfl) rfl
                    subst hg
                    have s8 : a.tmps[8]? = some _ := hfr 8 (by kernel_rfl)
                    refine Rg.wpOp_go rfl rfl rfl sg ?_
                    go_simp
                    exact hK _ _ rfl (Below.refl _ _)
                  · obtain ⟨_, sg, hg⟩ := hdep 9 134 (by kernel_rfl) rfl
                    subst hg
                    obtain ⟨_, s137, rfl⟩ := hdep 12 137 (by kernel_rfl) rfl
                    obtain ⟨q0, q1, q2, _⟩ := box3 (at_bel HTT.out.2.2.1 hbl)
                    refine Rg.wpOp_go rfl rfl rfl sg ?_
                    go_simp
                    exact hK _ _ rfl (Below.refl _ _)
                  · obtain ⟨_, sg, hg⟩ := hdep 9 134 (by kernel_rfl) rfl
                    subst hg
                    obtain ⟨_, s136, rfl⟩ := hdep 11 136 (by kernel_rfl) rfl
                    obtain ⟨_, s138, rfl⟩ := hdep 13 138 (by kernel_rfl) rfl
                    refine Rg.wpOp_go rfl rfl rfl sg ?_
                    go_simp
                    exact hK _ _ rfl (Below.refl _ _)
                  · obtain ⟨_, s134, rfl⟩ := hdep 9 134 (by kernel_rfl) rfl
                    obtain ⟨_, s139, rfl⟩ := hdep 14 139 (by kernel_rfl) rfl
                    refine Rg.wpOp_wp rfl rfl ?_
                    go_simp
                    exact hK _ _ rfl (Below.refl _ _)
                · intro vv W hvv hbl
                  have e15 : vv 15 = .bool false := hvv 15 (by decide)
                  have HFN : RowKit.Hid (BothS w W (k + 1) g bw s') := ⟨HTT.out.1.step hbl, LA5, Lm5, Lc5, at_bel HTT.out.2.2.1 hbl, HTT.out.2.1.below hbl⟩
                  clear hvv hbl
                  refine Rg.of_fakes_all [Rg.fake (some 125) (vv 0), Rg.fake (some 126) (vv 1), Rg.fake (some 127) (vv 2), Rg.fake (some 128) (vv 3), Rg.fake (some 129) (vv 4), Rg.fake (some 130) (vv 5), Rg.fake (some 131) (vv 6), Rg.fake (some 132) (vv 7), Rg.fake (some 133) (vv 8), Rg.fake (some 134) (vv 9), Rg.fake (some 135) (vv 10), Rg.fake (some 136) (vv 11), Rg.fake (some 137) (vv 12), Rg.fake (some 138) (vv 13), Rg.fake (some 139) (vv 14), Rg.fake (some 140) (vv 15)] rfl ?_
                  simp only [Rg.fake, e15]
                  go_wp2_with fail
                  go_roundw
                  case rel => exact ⟨k + 1, by omega, by go_num, s', HFN.out⟩
                  case measure => simp [intOf]; omega
      · have hlti : ¬ (k : Int) < (n : Int) := by omega
        have HBE := Lib.hid hst.below
        clear hst hbox hrs HI0 HS4 HR4
        go_wp2_with fail
        refine (hRead_nil 0 wr).mono ?_
        rintro e w5 ⟨rfl, hb5⟩
        have HB5 := Lib.hid (HBE.out.trans (hb5.mono HBE.out.size))
        clear hb5
        go_wp2_with fail
        refine (hWrite_arg none 0 ⟨0, 0, 0, 0⟩ _ (by decide)).mono ?_
        rintro e w6 ⟨rfl, hb6⟩
        have HB6 := Lib.hid ((HB5.out.alloc HB5.out.size _).trans (hb6.mono (HB5.out.alloc HB5.out.size _).size))
        clear hb6
        go_wp2_with fail
        refine (hWrite_gen none 0 3 0 ⟨1, 0, 0, 0⟩ w6 (fun w' => Below w6.heap.size w6 w') (by decide) (by decide) (by decide) (fun W1 _ => hat_nil 0 W1) (fun r w1 _ hb => (Store_nil 0 32 32 _ w1 (by decide)).mono fun e w' h => ⟨h.1, h.2 ▸ hb⟩)).mono ?_
        rintro e w7 ⟨rfl, hb7⟩
        have HB7 := Lib.hid (HB6.out.trans (hb7.mono HB6.out.size))
        clear hb7
        go_wp2_with fail
        refine (hLink_err none 0 1 3 w7 rfl (fun W1 _ => hRead_nil 0 W1)).mono ?_
        rintro e w8 ⟨rfl, hb8⟩
        have HB8 := Lib.hid (HB7.out.trans (hb8.mono HB7.out.size))
        clear hb8
        go_wp2_with fail
        refine (hClear_err none 0 3 w8 rfl (fun W1 _ => hRead_nil 0 W1)).mono ?_
        rintro e w9 ⟨rfl, hb9⟩
        have HB9 := Lib.hid (HB8.out.trans (hb9.mono HB8.out.size))
        clear hb9
        go_wp2_with fail
        go_ret
        exact ⟨rfl, HB9.out⟩

theorem HeaderPlays_walk (a0 : Int) (A1 : Option Addr) (n1 c1 : Nat) (l1 : List Act8) (w : World) (h0 : (Lit.int .i64 a0).wf = true)
    (h1 : l1.length = n1 ∧ n1 ≤ c1 ∧ n1 ≤ maxLen ∧ Lst KAct8 8 w A1 l1 ∧ ∀ p ∈ l1, wfAct8 p) (y1 : n1 * 80 ≤ 140737488351232) :
    Calls Try.prog 10 #[.int .i64 a0, .slice A1 n1 c1] w fun e w' => e = .returned (.bool true) ∧ Below w.heap.size w w' :=
  HeaderPlays_any w a0 A1 n1 c1 l1 h1.1 (by omega) h1.2.2.2.1 h1.2.2.2.2
end Go.Proofs.Ytfdhjeeaigfmfaa.Sp
