/- CellsPlays: whatever numbers are put, added, filled and got, at any places, each answer, and what ticks, are the document's, step by step. -/
import Derived.Test.YtfdhjeeaigfmfaaCellsBoth
import Derived.Test.YtfdhjeeaigfmfaaIn4
import Derived.BigQuiet
namespace Go.Proofs.Ytfdhjeeaigfmfaa.Sp
open Go.RowKit Go.WideMaps Go.Proofs.Ytfdhjeeaigfmfaa.In Go.Proofs.Ytfdhjeeaigfmfaa.Plain
set_option linter.unusedVariables false
set_option linter.unusedSimpArgs false

theorem lst_acts4 {w w' : World} {A : Option Addr} {l : List Act4} (h : Lst KAct4 5 w A l) (hb : Below w.heap.size w w') : Lst KAct4 5 w' A l := lst_below h (fun _ _ h => h) hb
theorem act4_cells {w : World} {A : Option Addr} {l : List Act4} (h : Lst KAct4 5 w A l) {k : Nat} (hk : k < l.length) :
    ∃ ad, A = some ad ∧ w.cell? (ad.add (k * 5)) = some (.int .u8 l[k].do_) ∧ w.cell? ⟨(ad.add (k * 5)).block, (ad.add (k * 5)).off + 1, none⟩ = some (.int .u64 l[k].at_) ∧ w.cell? ⟨(ad.add (k * 5)).block, (ad.add (k * 5)).off + 2, none⟩ = some (.int .i64 l[k].width) ∧
      w.cell? ⟨(ad.add (k * 5)).block, (ad.add (k * 5)).off + 3, none⟩ = some (.int .u64 l[k].n) ∧ w.cell? ⟨(ad.add (k * 5)).block, (ad.add (k * 5)).off + 4, none⟩ = some (.int .i64 l[k].times) := by
  obtain ⟨ad, c, hA, hc, rfl, hcell⟩ := h k _ (List.getElem?_eq_getElem hk)
  refine ⟨ad, hA, hcell 0 _ rfl, ?_, ?_, ?_, ?_⟩
  · rw [← add_fld _ _ 1 (by omega)]; exact hcell 1 _ rfl
  · rw [← add_fld _ _ 2 (by omega)]; exact hcell 2 _ rfl
  · rw [← add_fld _ _ 3 (by omega)]; exact hcell 3 _ rfl
  · rw [← add_fld _ _ 4 (by omega)]; exact hcell 4 _ rfl

/-- No act fills too much; acts are few. -/
def Few4 (l : List Act4) : Prop := l.length ≤ 30 ∧ ∀ x ∈ l, ¬ (900 < x.times ∧ x.times ≤ 1048576)

def ABool30 (n : Nat) (w : World) (e : Ending) (w' : World) : Prop := (∃ b : Bool, e = .returned (.bool b) ∧ (b = true → n ≤ 30)) ∧ w = w'

set_option maxRecDepth 100000 in
set_option maxHeartbeats 4000000 in
theorem few4_any (A : Option Addr) (n c : Nat) (l : List Act4) (w : World) (hl : l.length = n) (hn : n ≤ 9223372036854775807) (h : Lst KAct4 5 w A l) :
    Calls Try.prog 40 #[.slice A n c] w (ABool30 n w) := by
  have HL := Lib.hid hl
  have H := Lib.hid h
  clear hl h
  go_enter Try.func40, Try.ntmps40
  go_wp2
  go_loop [3] (fun i => ∃ k : Nat, k ≤ n ∧ i = .int .i64 (k : Int)) (fun i => n - (intOf i).toNat)
  case atStart => exact ⟨0, Nat.zero_le _, rfl⟩
  case round =>
    obtain ⟨k, hk, rfl⟩ := hrel
    by_cases hlt : k < n
    · have hlti : (k : Int) < (n : Int) := by omega
      obtain ⟨ad, rfl, c0, c1, c2, c3, c4⟩ := act4_cells H.out (k := k) (by rw [HL.out]; exact hlt)
      go_wp2
      all_goals first
        | (go_ret; exact ⟨⟨false, rfl, fun h => by cases h⟩, rfl⟩)
        | (go_round
           case rel => exact ⟨k + 1, by omega, by go_num⟩
           case measure => simp [intOf]; omega)
    · have hlti : ¬ (k : Int) < (n : Int) := by omega
      go_wp2
      go_ret
      exact ⟨⟨_, rfl, fun h => by simp at h; omega⟩, rfl⟩

theorem refS_base {b b' q : Nat} {w : World} {v : Value} {s : SpS} (h : RefS b q w v s) (hb : b' ≤ b) : RefS b' q w v s := by
  obtain ⟨lv, log, h1, h2, h3⟩ := h
  exact ⟨lv, log, h1, owns_base h2 hb, h3⟩

/-- A store into a box beside a space. -/
theorem St.set_box {w0 W : World} {g b t o : Nat} {s : SpS} {cs : Array Value} {fr : Nat × Nat} {v : Value} (hs : St w0 W g s) (hb : W.heap[b]? = some (.cells cs t fr)) (h1 : t ≠ 107) (h2 : t ≠ 120) (h0 : w0.heap.size ≤ b) : St w0 (W.setCell ⟨b, o, none⟩ v) g s := by
  obtain ⟨m, pg, k1, k2, k3⟩ := hs
  have hc : Chg W (W.setCell ⟨b, o, none⟩ v) (fun k => k = b) := (Chg.refl W (fun k => k = b)).set (p := ⟨b, o, none⟩) (.inl rfl) v
  exact ⟨m, pg, k1.chg hc (fun i hi ho => by subst hi; exact k1.not_row hb h1 h2 ho), k2, hc.below k3 k3.size (fun i hi => by rw [hi]; exact h0)⟩
/-- A box of three, stored anew. -/
theorem box3_set {W : World} {b t : Nat} {x y z x' y' z' : Value} (h : W.heap[b]? = some (.cells #[x, y, z] t (0, 0))) : (((W.setCell ⟨b, 0, none⟩ x').setCell ⟨b, 1, none⟩ y').setCell ⟨b, 2, none⟩ z').heap[b]? = some (.cells #[x', y', z'] t (0, 0)) := by
  simp [World.setCell, Array.getElem?_modify, h]
theorem St.set_box3 {w0 W : World} {g b t : Nat} {s : SpS} {x y z x' y' z' : Value} (hs : St w0 W g s) (h : W.heap[b]? = some (.cells #[x, y, z] t (0, 0))) (h1 : t ≠ 107) (h2 : t ≠ 120) (h0 : w0.heap.size ≤ b) : St w0 (((W.setCell ⟨b, 0, none⟩ x').setCell ⟨b, 1, none⟩ y').setCell ⟨b, 2, none⟩ z') g s := by
  have e1 : (W.setCell ⟨b, 0, none⟩ x').heap[b]? = some (.cells #[x', y, z] t (0, 0)) := by simp [World.setCell, Array.getElem?_modify, h]
  have e2 : ((W.setCell ⟨b, 0, none⟩ x').setCell ⟨b, 1, none⟩ y').heap[b]? = some (.cells #[x', y', z] t (0, 0)) := by simp [World.setCell, Array.getElem?_modify, h]
  exact ((hs.set_box h h1 h2 h0).set_box e1 h1 h2 h0).set_box e2 h1 h2 h0
theorem box5 {w : World} {b t : Nat} {x y z u v : Value} (h : w.heap[b]? = some (.cells #[x, y, z, u, v] t (0, 0))) :
    w.cell? ⟨b, 0, none⟩ = some x ∧ w.cell? ⟨b, 1, none⟩ = some y ∧ w.cell? ⟨b, 2, none⟩ = some z ∧ w.cell? ⟨b, 3, none⟩ = some u ∧ w.cell? ⟨b, 4, none⟩ = some v := by
  simp [World.cell?, h]
def boxV (s : SpS) (A : Option Addr) (m c : Nat) : Array Value := #[.int .i64 (s.pages : Int), .slice A m c, .int .i64 s.ticks]
/-- Both spaces, the reference's in a box. -/
def BothS (w0 W : World) (q g b : Nat) (s : SpS) : Prop :=
  St w0 W g s ∧ ∃ A m c, W.heap[b]? = some (.cells (boxV s A m c) 29 (0, 0)) ∧ RefS w0.heap.size q W (.agg (boxV s A m c)) s

set_option maxRecDepth 100000 in
set_option maxHeartbeats 4000000 in
theorem CellsPlays_any (w : World) (a0 : Int) (A : Option Addr) (n c : Nat) (l : List Act4) (hl : l.length = n) (hn : n ≤ 9223372036854775807) (hA : Lst KAct4 5 w A l) (hv : ∀ p ∈ l, wfAct4 p) :
    Calls Try.prog 7 #[.int .i64 a0, .slice A n c] w fun e w' => e = .returned (.bool true) ∧ Below w.heap.size w w' := by
  have HA := Lib.hid (awake4_any w)
  have HF := Lib.hid (fun W (hb : Below w.heap.size w W) => few4_any A n c l W hl hn (lst_acts4 hA hb))
  have HL := Lib.hid hl
  have HLA := Lib.hid hA
  have HV := Lib.hid hv
  clear hl hA hv
  go_enter Try.func7, Try.ntmps7
  go_wp2_with fail
  refine HA.out.mono ?_
  rintro e w1 ⟨rfl, hb1⟩
  go_wp2_with fail
  refine (HF.out w1 hb1).mono ?_
  rintro e w2 ⟨⟨b, rfl, hb30⟩, rfl⟩
  cases b with
  | false =>
    go_wp2
    go_ret
    exact ⟨rfl, hb1⟩
  | true =>
    have hn30 : n ≤ 30 := hb30 rfl
    clear hb30
    go_wp2_with fail
    refine (St.new a0 (hb1 : Below w.heap.size w w1)).mono ?_
    rintro e w3 ⟨g, rfl, hg, hs3, hb3⟩
    go_wp2_with fail
    refine (ref03New_any a0 w3).mono ?_
    rintro e w4 ⟨v, rfl, hr4, hb4⟩
    have hs4 := hs3.step hb4
    obtain ⟨LA, Lm, Lc, rfl⟩ := refS_form hr4
    have HS4 := Lib.hid hs4
    have HR4 := Lib.hid (refS_base hr4 (show w.heap.size ≤ w3.heap.size from hs3.below.size))
    clear hs3 hs4 hr4 hb4 hg hb3 hb1
    have HI0 : RowKit.Hid (BothS w (w4.alloc (.cells #[.int .i64 ((newS a0).pages : Int), .slice LA Lm Lc, .int .i64 (newS a0).ticks] 29)) 0 g w4.heap.size (newS a0)) := ⟨HS4.out.al _, LA, Lm, Lc, al_new rfl, HR4.out.below ((Below.refl _ _).alloc (Nat.le_refl _) _)⟩
    have HBW := Lib.hid (show w.heap.size ≤ w4.heap.size from HS4.out.below.size)
    go_wp2
    generalize w4.heap.size = bw at *
    go_loopw [9] (fun i wr => ∃ k : Nat, k ≤ n ∧ i = .int .i64 (k : Int) ∧ ∃ s : SpS, BothS w wr k g bw s) (fun i _ => n - (intOf i).toNat)
    case atStart => exact ⟨0, Nat.zero_le _, rfl, newS a0, HI0.out⟩
    case round =>
      obtain ⟨k, hk, rfl, s, hst, RA, Rm, Rc, hbox, hrs⟩ := hrel
      have q0 := fun o => (box3 (al_old (o := o) hbox)).1
      have q1 := fun o => (box3 (al_old (o := o) hbox)).2.1
      have q2 := fun o => (box3 (al_old (o := o) hbox)).2.2.1
      have HST := Lib.hid hst
      have HRS := Lib.hid hrs
      have HBX := Lib.hid hbox
      have hne1 : ¬ bw = wr.heap.size := by have := (Array.getElem?_eq_some_iff.1 hbox).1; omega
      have hne2 : ¬ wr.heap.size = bw := fun e => hne1 e.symm
      clear hst hrs hbox HI0 HS4 HR4
      by_cases hlt : k < n
      · have hlti : (k : Int) < (n : Int) := by omega
        have hkl : k < l.length := by rw [HL.out]; exact hlt
        have HV1 := Lib.hid (HV.out _ (List.getElem_mem hkl))
        obtain ⟨ad, rfl, c0, c1, c2, c3, c4⟩ := act4_cells (lst_acts4 HLA.out HST.out.below) hkl
        generalize l[k] = x at *
        obtain ⟨xd, xt, xk, xn, xm⟩ := x
        simp only at c0 c1 c2 c3 c4
        have ht := u64_of HV1.out.2.1
        have hxn := u64_of HV1.out.2.2.2.1
        simp only at ht hxn
        have HBB := Lib.hid (show w.heap.size ≤ (wr.alloc (.cells #[.int .u8 xd, .int .u64 xt, .int .i64 xk, .int .u64 xn, .int .i64 xm] 69)).heap.size by have := HST.out.below.size; simp; omega)
        by_cases d0 : xd = 0
        · have e0 : (xd == 0) = true := by simpa using d0
          clear d0
          obtain ⟨x, cc, s', HG, HP⟩ := get_both s xt xk ht HST.out.range
          have HGG := Lib.hid HG
          have HPP := Lib.hid HP
          clear HG HP
          go_wp2_with fail
          refine (HGG.out _ k _ _ (HRS.out.below ((Below.refl _ _).alloc (Nat.le_refl _) _)) (by omega)).mono ?_
          rintro e w5 ⟨v', rfl, hr5, hb5⟩
          obtain ⟨LA5, Lm5, Lc5, rfl⟩ := refS_form hr5
          obtain ⟨ea5, hbb5⟩ := boxes1 hb5
          have eb5 := (hbb5.block _ (Array.getElem?_eq_some_iff.1 HBX.out).1).trans HBX.out
          obtain ⟨p0, p1, p2, p3, p4⟩ := box5 ea5
          obtain ⟨m0, m1, m2, n1, n2, n0⟩ := box3 eb5
          have HS5 := Lib.hid ((HST.out.step hbb5).set_box3 (x' := .int .i64 (s'.pages : Int)) (y' := .slice LA5 Lm5 Lc5) (z' := .int .i64 s'.ticks) eb5 (by decide) (by decide) HBW.out)
          have HR5 := Lib.hid (refS_set3 (x := .int .i64 (s'.pages : Int)) (y := .slice LA5 Lm5 Lc5) (z := .int .i64 s'.ticks) hr5 eb5 (by decide))
          have HE5 := Lib.hid (box3_set (x' := .int .i64 (s'.pages : Int)) (y' := .slice LA5 Lm5 Lc5) (z' := .int .i64 s'.ticks) eb5)
          clear hr5 hb5 ea5 hbb5 eb5
          go_wp2_with fail
          refine (HPP.out _ _ _ HS5.out).mono ?_
          rintro e w6 ⟨rfl, hs6, hk6⟩
          have eb6 := hk6.2 _ _ _ _ HE5.out (by decide) (by decide)
          have r2 := (box3 eb6).2.2.1
          have HTK := Lib.hid (fun q => ((hs6.dn q).ticks_).mono (fun e w' h => (⟨h.1, h.2.symm⟩ : e = .returned (.int .i64 s'.ticks) ∧ w' = w6.drewN q)))
          have HN6 : RowKit.Hid (∀ q, BothS w (w6.drewN q) (k + 1) g bw s') := fun q => ⟨hs6.dn q, LA5, Lm5, Lc5, eb6, (HR5.out.kp hk6).below ⟨rfl, rfl, rfl, Nat.le_refl _, fun _ _ => rfl⟩⟩
          clear hs6 hk6 eb6 m0 m1 m2 n0 n1 n2 p0 p1 p2 p3 p4 q0 q1 q2 c0 c1 c2 c3 c4 ht hxn hne1 hne2
          go_wp2_with fail
          go_quiet ((go_at_call 27; exact Calls.quiet_of_same (HTK.out _)))
          go_wp2
          go_roundw
          case rel => exact ⟨k + 1, by omega, by go_num, s', HN6.out _⟩
          case measure => simp [intOf]; omega
        · have e0 : (xd == 0) = false := by simpa using d0
          by_cases d1 : xd = 1
          · have e1 : (xd == 1) = true := by simpa using d1
            clear d0 d1
            obtain ⟨cc, s', HG, HP⟩ := put_both s xt xk xn ht hxn
            have HGG := Lib.hid HG
            have HPP := Lib.hid HP
            clear HG HP
            go_wp2_with fail
            refine (HGG.out _ k _ _ (HRS.out.below ((Below.refl _ _).alloc (Nat.le_refl _) _)) (by omega) HBB.out).mono ?_
            rintro e w5 ⟨v', rfl, hr5, hb5⟩
            obtain ⟨LA5, Lm5, Lc5, rfl⟩ := refS_form hr5
            obtain ⟨ea5, hbb5⟩ := boxes1 hb5
            have eb5 := (hbb5.block _ (Array.getElem?_eq_some_iff.1 HBX.out).1).trans HBX.out
            obtain ⟨p0, p1, p2, p3, p4⟩ := box5 ea5
            obtain ⟨m0, m1, m2, n1, n2, n0⟩ := box3 eb5
            have HS5 := Lib.hid ((HST.out.step hbb5).set_box3 (x' := .int .i64 (s'.pages : Int)) (y' := .slice LA5 Lm5 Lc5) (z' := .int .i64 s'.ticks) eb5 (by decide) (by decide) HBW.out)
            have HR5 := Lib.hid (refS_set3 (x := .int .i64 (s'.pages : Int)) (y := .slice LA5 Lm5 Lc5) (z := .int .i64 s'.ticks) hr5 eb5 (by decide))
            have HE5 := Lib.hid (box3_set (x' := .int .i64 (s'.pages : Int)) (y' := .slice LA5 Lm5 Lc5) (z' := .int .i64 s'.ticks) eb5)
            clear hr5 hb5 ea5 hbb5 eb5
            go_wp2_with fail
            refine (HPP.out _ _ _ HS5.out).mono ?_
            rintro e w6 ⟨rfl, hs6, hk6⟩
            have eb6 := hk6.2 _ _ _ _ HE5.out (by decide) (by decide)
            have r2 := (box3 eb6).2.2.1
            have HTK := Lib.hid (fun q => ((hs6.dn q).ticks_).mono (fun e w' h => (⟨h.1, h.2.symm⟩ : e = .returned (.int .i64 s'.ticks) ∧ w' = w6.drewN q)))
            have HN6 : RowKit.Hid (∀ q, BothS w (w6.drewN q) (k + 1) g bw s') := fun q => ⟨hs6.dn q, LA5, Lm5, Lc5, eb6, (HR5.out.kp hk6).below ⟨rfl, rfl, rfl, Nat.le_refl _, fun _ _ => rfl⟩⟩
            clear hs6 hk6 eb6 m0 m1 m2 n0 n1 n2 p0 p1 p2 p3 p4 q0 q1 q2 c0 c1 c2 c3 c4 ht hxn hne1 hne2
            go_wp2_with fail
            go_quiet ((go_at_call 27; exact Calls.quiet_of_same (HTK.out _)))
            go_wp2
            go_roundw
            case rel => exact ⟨k + 1, by omega, by go_num, s', HN6.out _⟩
            case measure => simp [intOf]; omega
          · have e1 : (xd == 1) = false := by simpa using d1
            by_cases d2 : xd = 2
            · have e2 : (xd == 2) = true := by simpa using d2
              clear d0 d1 d2
              obtain ⟨x, cc, s', HG, HP⟩ := add_both s xt xk xn ht HST.out.range
              have HGG := Lib.hid HG
              have HPP := Lib.hid HP
              clear HG HP
              go_wp2_with fail
              refine (HGG.out _ k _ _ (HRS.out.below ((Below.refl _ _).alloc (Nat.le_refl _) _)) (by omega) HBB.out).mono ?_
              rintro e w5 ⟨v', rfl, hr5, hb5⟩
              obtain ⟨LA5, Lm5, Lc5, rfl⟩ := refS_form hr5
              obtain ⟨ea5, hbb5⟩ := boxes1 hb5
              have eb5 := (hbb5.block _ (Array.getElem?_eq_some_iff.1 HBX.out).1).trans HBX.out
              obtain ⟨p0, p1, p2, p3, p4⟩ := box5 ea5
              obtain ⟨m0, m1, m2, n1, n2, n0⟩ := box3 eb5
              have HS5 := Lib.hid ((HST.out.step hbb5).set_box3 (x' := .int .i64 (s'.pages : Int)) (y' := .slice LA5 Lm5 Lc5) (z' := .int .i64 s'.ticks) eb5 (by decide) (by decide) HBW.out)
              have HR5 := Lib.hid (refS_set3 (x := .int .i64 (s'.pages : Int)) (y := .slice LA5 Lm5 Lc5) (z := .int .i64 s'.ticks) hr5 eb5 (by decide))
              have HE5 := Lib.hid (box3_set (x' := .int .i64 (s'.pages : Int)) (y' := .slice LA5 Lm5 Lc5) (z' := .int .i64 s'.ticks) eb5)
              clear hr5 hb5 ea5 hbb5 eb5
              go_wp2_with fail
              refine (HPP.out _ _ _ HS5.out).mono ?_
              rintro e w6 ⟨rfl, hs6, hk6⟩
              have eb6 := hk6.2 _ _ _ _ HE5.out (by decide) (by decide)
              have r2 := (box3 eb6).2.2.1
              have HTK := Lib.hid (fun q => ((hs6.dn q).ticks_).mono (fun e w' h => (⟨h.1, h.2.symm⟩ : e = .returned (.int .i64 s'.ticks) ∧ w' = w6.drewN q)))
              have HN6 : RowKit.Hid (∀ q, BothS w (w6.drewN q) (k + 1) g bw s') := fun q => ⟨hs6.dn q, LA5, Lm5, Lc5, eb6, (HR5.out.kp hk6).below ⟨rfl, rfl, rfl, Nat.le_refl _, fun _ _ => rfl⟩⟩
              clear hs6 hk6 eb6 m0 m1 m2 n0 n1 n2 p0 p1 p2 p3 p4 q0 q1 q2 c0 c1 c2 c3 c4 ht hxn hne1 hne2
              go_wp2_with fail
              go_quiet ((go_at_call 27; exact Calls.quiet_of_same (HTK.out _)))
              go_wp2
              go_roundw
              case rel => exact ⟨k + 1, by omega, by go_num, s', HN6.out _⟩
              case measure => simp [intOf]; omega
            · have e2 : (xd == 2) = false := by simpa using d2
              clear d0 d1 d2
              obtain ⟨cc, s', HG, HP⟩ := fill_both s xt xk xn xm ht hxn HST.out.pages.2
              have HGG := Lib.hid HG
              have HPP := Lib.hid HP
              clear HG HP
              go_wp2_with fail
              refine (HGG.out _ k _ _ (HRS.out.below ((Below.refl _ _).alloc (Nat.le_refl _) _)) (by omega) HBB.out).mono ?_
              rintro e w5 ⟨v', rfl, hr5, hb5⟩
              obtain ⟨LA5, Lm5, Lc5, rfl⟩ := refS_form hr5
              obtain ⟨ea5, hbb5⟩ := boxes1 hb5
              have eb5 := (hbb5.block _ (Array.getElem?_eq_some_iff.1 HBX.out).1).trans HBX.out
              obtain ⟨p0, p1, p2, p3, p4⟩ := box5 ea5
              obtain ⟨m0, m1, m2, n1, n2, n0⟩ := box3 eb5
              have HS5 := Lib.hid ((HST.out.step hbb5).set_box3 (x' := .int .i64 (s'.pages : Int)) (y' := .slice LA5 Lm5 Lc5) (z' := .int .i64 s'.ticks) eb5 (by decide) (by decide) HBW.out)
              have HR5 := Lib.hid (refS_set3 (x := .int .i64 (s'.pages : Int)) (y := .slice LA5 Lm5 Lc5) (z := .int .i64 s'.ticks) hr5 eb5 (by decide))
              have HE5 := Lib.hid (box3_set (x' := .int .i64 (s'.pages : Int)) (y' := .slice LA5 Lm5 Lc5) (z' := .int .i64 s'.ticks) eb5)
              clear hr5 hb5 ea5 hbb5 eb5
              go_wp2_with fail
              refine (HPP.out _ _ _ HS5.out).mono ?_
              rintro e w6 ⟨rfl, hs6, hk6⟩
              have eb6 := hk6.2 _ _ _ _ HE5.out (by decide) (by decide)
              have r2 := (box3 eb6).2.2.1
              have HTK := Lib.hid (fun q => ((hs6.dn q).ticks_).mono (fun e w' h => (⟨h.1, h.2.symm⟩ : e = .returned (.int .i64 s'.ticks) ∧ w' = w6.drewN q)))
              have HN6 : RowKit.Hid (∀ q, BothS w (w6.drewN q) (k + 1) g bw s') := fun q => ⟨hs6.dn q, LA5, Lm5, Lc5, eb6, (HR5.out.kp hk6).below ⟨rfl, rfl, rfl, Nat.le_refl _, fun _ _ => rfl⟩⟩
              clear hs6 hk6 eb6 m0 m1 m2 n0 n1 n2 p0 p1 p2 p3 p4 q0 q1 q2 c0 c1 c2 c3 c4 ht hxn hne1 hne2
              go_wp2_with fail
              go_quiet ((go_at_call 27; exact Calls.quiet_of_same (HTK.out _)))
              go_wp2
              go_roundw
              case rel => exact ⟨k + 1, by omega, by go_num, s', HN6.out _⟩
              case measure => simp [intOf]; omega
      · have hlti : ¬ (k : Int) < (n : Int) := by omega
        have HBE := Lib.hid HST.out.below
        clear q0 q1 q2 hne1 hne2 HST HRS HBX
        go_wp2_with fail
        refine (cGet_arg none 0 3 wr (by omega) (by decide)).mono ?_
        rintro e w5 ⟨rfl, rfl⟩
        go_wp2_with fail
        refine (cGet_range none 0 1 wr (by omega) (by decide) (Load_nil 0 1 wr)).mono ?_
        rintro e w5 ⟨rfl, rfl⟩
        go_wp2_with (go_at_call 34; refine (cPut_range none 8 8 1 wr (by omega) (by decide) (by omega) (fun r w1 _ => Store_nil 8 8 8 _ w1 (by omega))).mono ?_; rintro e w6 ⟨rfl, hb6⟩)
        go_ret
        exact ⟨rfl, HBE.out.trans (hb6.mono HBE.out.size)⟩

theorem CellsPlays_walk (a0 : Int) (A1 : Option Addr) (n1 c1 : Nat) (l1 : List Act4) (w : World) (h0 : (Lit.int .i64 a0).wf = true)
    (h1 : l1.length = n1 ∧ n1 ≤ c1 ∧ n1 ≤ maxLen ∧ Lst KAct4 5 w A1 l1 ∧ ∀ p ∈ l1, wfAct4 p) (y1 : n1 * 40 ≤ 140737488351232) :
    Calls Try.prog 7 #[.int .i64 a0, .slice A1 n1 c1] w fun e w' => e = .returned (.bool true) ∧ Below w.heap.size w w' :=
  CellsPlays_any w a0 A1 n1 c1 l1 h1.1 (by omega) h1.2.2.2.1 h1.2.2.2.2
end Go.Proofs.Ytfdhjeeaigfmfaa.Sp
