/- What the cache's functions do: contracts by hand. -/
import Derived.Test.YtbbhfbpkopocgaaProg
import Derived.WalkKit
import Derived.WalkSpells
import Derived.WalkLawsBesides
import Derived.KernelRfl
import Derived.Below
import Derived.Deep.QuietTactic
import Derived.BigQuiet
import Derived.BigRegion
import Derived.Lib.Hide
import Derived.OwnWalk
namespace Go.Proofs.Ytbbhfbpkopocgaa.Hand
open Go.RowKit
set_option linter.unusedVariables false

abbrev Stacks := Nat → List Int
def cellsOf (F : Nat → Int) : Array Value := ((List.range 35).map fun i => Value.int .i64 (F i)).toArray
def Blk (w : World) (c : Nat) (F : Nat → Int) : Prop := w.heap[c]? = some (.cells (cellsOf F) 47 (0, 0))
theorem Blk.cell {w : World} {c i : Nat} {F : Nat → Int} (h : Blk w c F) (hi : i < 35) : w.cell? ⟨c, i, none⟩ = some (.int .i64 (F i)) := by
  unfold Blk at h
  simp [World.cell?, h, cellsOf, hi]
theorem Blk.frozen {w : World} {c i : Nat} {F : Nat → Int} (h : Blk w c F) : w.frozen? ⟨c, i, none⟩ = false := by
  unfold Blk at h
  simp [World.frozen?, h]
def upd (F : Nat → Int) (i : Nat) (x : Int) : Nat → Int := fun j => if j = i then x else F j
theorem Blk.set {w : World} {c i : Nat} {F : Nat → Int} (h : Blk w c F) (hi : i < 35) (x : Int) : Blk (w.setCell ⟨c, i, none⟩ (.int .i64 x)) c (upd F i x) := by
  have hlt : c < w.heap.size := by unfold Blk at h; exact (Array.getElem?_eq_some_iff.1 h).1
  unfold Blk at h ⊢
  have e : (cellsOf F).set! i (.int .i64 x) = cellsOf (upd F i x) := by
    apply Array.ext'
    simp only [cellsOf, Array.set!_eq_setIfInBounds, Array.toList_setIfInBounds]
    apply List.ext_getElem
    · simp
    · intro j h1 h2
      simp [List.getElem_set, upd]
      by_cases hj : i = j
      · simp [hj]
      · simp [hj, Ne.symm hj]
  rw [← e]
  simp only [World.setCell, Array.getElem?_modify, h, if_true, Option.map_some, Array.set!_eq_setIfInBounds]
  rfl

def pg (k : Int) : Int := if 0 ≤ k ∧ k < 7 then 2 ^ k.toNat else 0
theorem pg_in {k : Nat} (h : k < 7) : pg k = 2 ^ k := by unfold pg; rw [if_pos (by omega)]; simp
theorem pg_out {k : Int} (h : ¬ (0 ≤ k ∧ k < 7)) : pg k = 0 := if_neg h

set_option maxHeartbeats 400000 in
theorem pages_any (k : Int) (w : World) : Calls Try.prog 22 #[.int .i64 k] w fun e w' => e = .returned (.int .i64 (pg k)) ∧ w = w' := by
  by_cases h : 0 ≤ k ∧ k < 7
  · obtain ⟨h0, h7⟩ := h
    have hc : k = 0 ∨ k = 1 ∨ k = 2 ∨ k = 3 ∨ k = 4 ∨ k = 5 ∨ k = 6 := by omega
    rcases hc with rfl | rfl | rfl | rfl | rfl | rfl | rfl <;>
    · go_enter Try.func22, Try.ntmps22
      go_wp2
      go_ret
      exact ⟨rfl, rfl⟩
  · rw [pg_out h]
    by_cases h0 : k < 0
    · clear h
      go_enter Try.func22, Try.ntmps22
      go_wp2
      go_ret
      exact ⟨rfl, rfl⟩
    · have h7 : 7 ≤ k := by omega
      clear h
      go_enter Try.func22, Try.ntmps22
      go_wp2
      go_ret
      exact ⟨rfl, rfl⟩

def ofV (c : Nat) (k : Int) : Value := if 0 ≤ k ∧ k < 7 then .pointer (some ⟨c, 5 * k.toNat, none⟩) else .pointer none
theorem pg_zero (k : Int) : (pg k == 0) = decide (¬ (0 ≤ k ∧ k < 7)) := by
  unfold pg
  split
  · rename_i h
    have : (2 : Int) ^ k.toNat ≠ 0 := Int.pow_ne_zero (by decide)
    simp [h, this]
  · rename_i h
    simp [h]
set_option maxHeartbeats 800000 in
theorem of_any (c : Nat) (k : Int) (w : World) : Calls Try.prog 49 #[.pointer (some ⟨c, 0, none⟩), .int .i64 k] w fun e w' => e = .returned (ofV c k) ∧ w = w' := by
  by_cases h : 0 ≤ k ∧ k < 7
  · obtain ⟨h0, h7⟩ := h
    have hc : k = 0 ∨ k = 1 ∨ k = 2 ∨ k = 3 ∨ k = 4 ∨ k = 5 ∨ k = 6 := by omega
    rcases hc with rfl | rfl | rfl | rfl | rfl | rfl | rfl <;>
    · go_enter Try.func49, Try.ntmps49
      go_wp2_with (go_at_call 22; refine (pages_any _ _).mono ?_; rintro e w' ⟨rfl, rfl⟩)
      go_ret
      exact ⟨rfl, rfl⟩
  · have H := Lib.hid (show ofV c k = .pointer none from if_neg h)
    have hp := pg_out h
    have HP := Lib.hid hp
    clear hp h
    go_enter Try.func49, Try.ntmps49
    go_wp2_with (go_at_call 22; refine (pages_any _ _).mono ?_; rw [HP.out]; rintro e w' ⟨rfl, rfl⟩)
    go_ret
    exact ⟨by rw [H.out]; rfl, rfl⟩

/-- the stacks of a block -/
structure Stk (S : Nat → List Int) (F : Nat → Int) : Prop where
  len : ∀ k, k < 7 → F (5 * k + 4) = (S k).length
  le : ∀ k, k < 7 → (S k).length ≤ 4
  at_ : ∀ k, k < 7 → ∀ i (h : i < (S k).length), F (5 * k + i) = (S k)[i]
def put (S : Nat → List Int) (k : Nat) (l : List Int) : Nat → List Int := fun j => if j = k then l else S j
def Cch (w : World) (c : Nat) (S : Nat → List Int) : Prop := ∃ F, Blk w c F ∧ Stk S F

def inB (k : Int) : Bool := decide (0 ≤ k ∧ k < 7)
def pushF (S : Nat → List Int) (k p : Int) : Bool × (Nat → List Int) :=
  if (0 ≤ k ∧ k < 7) ∧ 0 ≤ p ∧ (S k.toNat).length < 4 then (true, put S k.toNat (S k.toNat ++ [p])) else (false, S)
def popF (S : Nat → List Int) (k : Int) : Int × Bool × (Nat → List Int) :=
  if (0 ≤ k ∧ k < 7) ∧ 0 < (S k.toNat).length then ((S k.toNat).getLastD 0, true, put S k.toNat (S k.toNat).dropLast) else (0, false, S)
def lenF (S : Nat → List Int) (k : Int) : Int := if 0 ≤ k ∧ k < 7 then ((S k.toNat).length : Int) else 0

theorem Stk.push {S : Nat → List Int} {F : Nat → Int} (h : Stk S F) {k : Nat} (hk : k < 7) (hl : (S k).length < 4) (p : Int) :
    Stk (put S k (S k ++ [p])) (upd (upd F (5 * k + (S k).length) p) (5 * k + 4) ((S k).length + 1)) := by
  refine ⟨fun j hj => ?_, fun j hj => ?_, fun j hj i hi => ?_⟩
  · unfold upd put
    by_cases e : j = k
    · subst e; simp
    · rw [if_neg (by omega), if_neg (by omega), if_neg e, h.len j hj]
  · unfold put
    by_cases e : j = k
    · subst e; simp; omega
    · rw [if_neg e]; exact h.le j hj
  · by_cases e : j = k
    · subst e
      have hp : put S j (S j ++ [p]) j = S j ++ [p] := by unfold put; simp
      have hi' : i < (S j ++ [p]).length := hp ▸ hi
      have hq : (put S j (S j ++ [p]) j)[i] = (S j ++ [p])[i] := by congr 1
      rw [hq]
      simp at hi'
      unfold upd
      rw [if_neg (by omega)]
      by_cases e2 : i = (S j).length
      · subst e2; simp
      · rw [if_neg (by omega), h.at_ j hj i (by omega), List.getElem_append_left (by omega)]
    · have hp : put S k (S k ++ [p]) j = S j := by unfold put; rw [if_neg e]
      have hi' : i < (S j).length := hp ▸ hi
      have hq : (put S k (S k ++ [p]) j)[i] = (S j)[i] := by congr 1
      rw [hq]
      have := h.le j hj
      unfold upd
      rw [if_neg (by omega), if_neg (by omega), h.at_ j hj i hi']
theorem Stk.pop {S : Nat → List Int} {F : Nat → Int} (h : Stk S F) {k : Nat} (hk : k < 7) (hl : 0 < (S k).length) :
    Stk (put S k (S k).dropLast) (upd F (5 * k + 4) ((S k).length - 1)) := by
  refine ⟨fun j hj => ?_, fun j hj => ?_, fun j hj i hi => ?_⟩
  · unfold upd put
    by_cases e : j = k
    · subst e; simp; omega
    · rw [if_neg (by omega), if_neg e, h.len j hj]
  · unfold put
    by_cases e : j = k
    · subst e; simp; have := h.le j hj; omega
    · rw [if_neg e]; exact h.le j hj
  · by_cases e : j = k
    · subst e
      have hp : put S j (S j).dropLast j = (S j).dropLast := by unfold put; simp
      have hi' : i < (S j).dropLast.length := hp ▸ hi
      have hq : (put S j (S j).dropLast j)[i] = (S j).dropLast[i] := by congr 1
      rw [hq]
      simp at hi'
      have := h.le j hj
      unfold upd
      rw [if_neg (by omega), h.at_ j hj i (by omega), List.getElem_dropLast]
    · have hp : put S k (S k).dropLast j = S j := by unfold put; rw [if_neg e]
      have hi' : i < (S j).length := hp ▸ hi
      have hq : (put S k (S k).dropLast j)[i] = (S j)[i] := by congr 1
      rw [hq]
      have := h.le j hj
      unfold upd
      rw [if_neg (by omega), h.at_ j hj i hi']

set_option maxHeartbeats 800000 in
theorem len_any (c : Nat) (k : Int) (S : Nat → List Int) (w : World) (h : Cch w c S) : Calls Try.prog 19 #[.pointer (some ⟨c, 0, none⟩), .int .i64 k] w fun e w' => e = .returned (.int .i64 (lenF S k)) ∧ w = w' := by
  obtain ⟨F, hb, hs⟩ := h
  by_cases hk : 0 ≤ k ∧ k < 7
  · obtain ⟨m, rfl⟩ := Int.eq_ofNat_of_zero_le hk.1
    have hm : m < 7 := by omega
    have hc := hb.cell (i := 5 * m + 4) (by omega)
    rw [hs.len m hm] at hc
    have H := Lib.hid (show ofV c (m : Int) = .pointer (some ⟨c, 5 * m, none⟩) from if_pos hk)
    have HL := Lib.hid (show lenF S (m : Int) = (S m).length from if_pos hk)
    clear hk
    go_enter Try.func19, Try.ntmps19
    go_wp2_with (go_at_call 49; refine (of_any _ _ _).mono ?_; rw [H.out]; rintro e w' ⟨rfl, rfl⟩)
    go_ret
    exact ⟨by rw [HL.out]; rfl, rfl⟩
  · have H := Lib.hid (show ofV c k = .pointer none from if_neg hk)
    have HL := Lib.hid (show lenF S k = 0 from if_neg hk)
    clear hk
    go_enter Try.func19, Try.ntmps19
    go_wp2_with (go_at_call 49; refine (of_any _ _ _).mono ?_; rw [H.out]; rintro e w' ⟨rfl, rfl⟩)
    go_ret
    exact ⟨by rw [HL.out]; rfl, rfl⟩

theorem grown_refl (w : World) (r : Option Nat) : w.grownBy w r := ⟨rfl, rfl, rfl, Nat.le_refl _, fun _ _ _ => rfl⟩
theorem grown_set {w w1 : World} {c : Nat} (h : w.grownBy w1 (some c)) (i : Nat) (u : Value) : w.grownBy (w1.setCell ⟨c, i, none⟩ u) (some c) :=
  ⟨h.os, h.tape, h.output, by simpa [World.setCell] using h.size, fun k hk hne => by
    rw [Below.heap_setCell w1 ⟨c, i, none⟩ u k (fun e => hne (by rw [e]))]; exact h.block k hk hne⟩
theorem grown_drew {w w1 : World} {r : Option Nat} (h : w.grownBy w1 r) : w.grownBy w1.drew r := ⟨h.os, h.tape, h.output, h.size, h.block⟩
theorem grown_two (w : World) (c i j : Nat) (u v : Value) : w.grownBy ((w.setCell ⟨c, i, none⟩ u).setCell ⟨c, j, none⟩ v).drew (some c) := grown_drew (grown_set (grown_set (grown_refl w _) i u) j v)
theorem Cch.keep_push {w : World} {c m : Nat} {S : Nat → List Int} {F : Nat → Int} (hb : Blk w c F) (hs : Stk S F) (hm : m < 7) (hl : (S m).length < 4) (p : Int) (d : Nat) :
    Cch (((w.setCell ⟨c, 5 * m + (S m).length, none⟩ (.int .i64 p)).drewN d).setCell ⟨c, 5 * m + 4, none⟩ (.int .i64 ((S m).length + 1))) c (put S m (S m ++ [p])) :=
  ⟨_, Blk.set (Blk.set hb (by omega) p) (by omega) _, hs.push hm hl p⟩

set_option maxHeartbeats 1600000 in
theorem push_any (c : Nat) (k p : Int) (S : Nat → List Int) (w : World) (h : Cch w c S) : Calls Try.prog 17 #[.pointer (some ⟨c, 0, none⟩), .int .i64 k, .int .i64 p] w fun e w' => e = .returned (.bool (pushF S k p).1) ∧ Cch w' c (pushF S k p).2 ∧ w.grownBy w' (some c) := by
  obtain ⟨F, hb, hs⟩ := h
  by_cases hk : 0 ≤ k ∧ k < 7
  · obtain ⟨m, rfl⟩ := Int.eq_ofNat_of_zero_le hk.1
    have hm : m < 7 := by omega
    have hc := hb.cell (i := 5 * m + 4) (by omega)
    rw [hs.len m hm] at hc
    have H := Lib.hid (show ofV c (m : Int) = .pointer (some ⟨c, 5 * m, none⟩) from if_pos hk)
    by_cases hp : 0 ≤ p
    · by_cases hl : (S m).length < 4
      · have HL := Lib.hid (show pushF S m p = (true, put S m (S m ++ [p])) from if_pos ⟨hk, hp, hl⟩)
        have HB := Lib.hid hb
        have HS := Lib.hid hs
        have hbd : Blk w.drew c F := hb
        have hz := hbd.frozen (i := 5 * m + (S m).length)
        have hz1 := hb.frozen (i := 5 * m + 4)
        have hc1 := hbd.cell (i := 5 * m + (S m).length) (by omega)
        have hc2 := (hbd.set (i := 5 * m + (S m).length) (by omega) p).cell (i := 5 * m + 4) (by omega)
        have hq : (((S m).length : Int) == 4) = false := by rw [beq_eq_false_iff_ne]; omega
        have eu : upd F (5 * m + (S m).length) p (5 * m + 4) = ((S m).length : Int) := by unfold upd; rw [if_neg (by omega)]; exact hs.len m hm
        rw [eu] at hc2
        clear eu
        clear hk hb hs hbd
        go_enter Try.func17, Try.ntmps17
        go_wp2_with (go_at_call 49; refine (of_any _ _ _).mono ?_; rw [H.out]; rintro e w' ⟨rfl, rfl⟩)
        go_region
        go_wp2
        go_ret
        rw [HL.out]
        exact ⟨rfl, Cch.keep_push HB.out HS.out hm hl p 0, grown_two _ _ _ _ _ _⟩
      · have HL := Lib.hid (show pushF S m p = (false, S) from if_neg (by rw [Int.toNat_natCast]; omega))
        have e4 : ((S m).length : Int) = 4 := by have := hs.le m hm; omega
        rw [e4] at hc
        have HB := Lib.hid (show Cch w c S from ⟨F, hb, hs⟩)
        clear hk hb hs hl e4
        go_enter Try.func17, Try.ntmps17
        go_wp2_with (go_at_call 49; refine (of_any _ _ _).mono ?_; rw [H.out]; rintro e w' ⟨rfl, rfl⟩)
        go_ret
        rw [HL.out]
        exact ⟨rfl, HB.out, grown_refl _ _⟩
    · have HL := Lib.hid (show pushF S m p = (false, S) from if_neg (by omega))
      have HB := Lib.hid (show Cch w c S from ⟨F, hb, hs⟩)
      clear hk hb hs
      go_enter Try.func17, Try.ntmps17
      go_wp2_with (go_at_call 49; refine (of_any _ _ _).mono ?_; rw [H.out]; rintro e w' ⟨rfl, rfl⟩)
      go_ret
      rw [HL.out]
      exact ⟨rfl, HB.out, grown_refl _ _⟩
  · have H := Lib.hid (show ofV c k = .pointer none from if_neg hk)
    have HL := Lib.hid (show pushF S k p = (false, S) from if_neg (by omega))
    have HB := Lib.hid (show Cch w c S from ⟨F, hb, hs⟩)
    clear hk hb hs
    go_enter Try.func17, Try.ntmps17
    go_wp2_with (go_at_call 49; refine (of_any _ _ _).mono ?_; rw [H.out]; rintro e w' ⟨rfl, rfl⟩)
    go_ret
    rw [HL.out]
    exact ⟨rfl, HB.out, grown_refl _ _⟩

theorem getLastD_at (l : List Int) (h : 0 < l.length) : l.getLastD 0 = l[l.length - 1]'(by omega) := by
  cases l with
  | nil => simp at h
  | cons a t => simp [List.getLastD_eq_getLast?, List.getLast?_eq_getElem?]
theorem put_same (S : Nat → List Int) (k : Nat) (l : List Int) : put S k l k = l := by unfold put; simp

set_option maxHeartbeats 1600000 in
theorem pop_any (c : Nat) (k : Int) (S : Nat → List Int) (w : World) (h : Cch w c S) : Calls Try.prog 18 #[.pointer (some ⟨c, 0, none⟩), .int .i64 k] w fun e w' => e = .returned (.tuple #[.int .i64 (popF S k).1, .bool (popF S k).2.1]) ∧ Cch w' c (popF S k).2.2 ∧ w.grownBy w' (some c) := by
  obtain ⟨F, hb, hs⟩ := h
  by_cases hk : 0 ≤ k ∧ k < 7
  · obtain ⟨m, rfl⟩ := Int.eq_ofNat_of_zero_le hk.1
    have hm : m < 7 := by omega
    have hc := hb.cell (i := 5 * m + 4) (by omega)
    rw [hs.len m hm] at hc
    have H := Lib.hid (show ofV c (m : Int) = .pointer (some ⟨c, 5 * m, none⟩) from if_pos hk)
    by_cases hl : 0 < (S m).length
    · have HL := Lib.hid (show popF S m = ((S m).getLastD 0, true, put S m (S m).dropLast) from if_pos ⟨hk, hl⟩)
      have hle := hs.le m hm
      have hb1 := hb.set (i := 5 * m + 4) (by omega) ((S m).length - 1)
      have hs1 := hs.pop hm hl
      have hbd : Blk (w.setCell ⟨c, 5 * m + 4, none⟩ (.int .i64 ((S m).length - 1))).drew c _ := hb1
      have hc4 := hbd.cell (i := 5 * m + 4) (by omega)
      have hcl := hbd.cell (i := 5 * m + ((S m).length - 1)) (by omega)
      have e1 : upd F (5 * m + 4) (((S m).length : Int) - 1) (5 * m + ((S m).length - 1)) = (S m).getLastD 0 := by
        unfold upd; rw [if_neg (by omega), hs.at_ m hm _ (by omega), getLastD_at _ hl]
      have e2 : upd F (5 * m + 4) (((S m).length : Int) - 1) (5 * m + 4) = (((S m).length - 1 : Nat) : Int) := by
        unfold upd; rw [if_pos rfl]; omega
      have e3 : (((S m).length : Int) - 1) = (((S m).length - 1 : Nat) : Int) := by omega
      rw [e1] at hcl
      rw [e2] at hc4
      have hz1 := hb.frozen (i := 5 * m + 4)
      have HC := Lib.hid (show Cch (w.setCell ⟨c, 5 * m + 4, none⟩ (.int .i64 ((S m).length - 1))) c (put S m (S m).dropLast) from ⟨_, hb1, hs1⟩)
      have hq : (((S m).length : Int) == 0) = false := by rw [beq_eq_false_iff_ne]; omega
      generalize hg : (S m).length - 1 = q at *
      have hq4 : q < 4 := by omega
      have hG := grown_set (grown_refl w (some c)) (5 * m + 4) (.int .i64 ((S m).length - 1))
      clear hk hb hs hb1 hs1 e1 e2 hbd
      have HC4 := Lib.hid hc4
      have HCL := Lib.hid hcl
      have HG := Lib.hid hG
      clear hc4 hcl hG
      have E3 := Lib.hid e3
      clear e3 hg hl
      go_enter Try.func18, Try.ntmps18
      go_wp2_with (go_at_call 49; refine (of_any _ _ _).mono ?_; rw [H.out]; rintro e w' ⟨rfl, rfl⟩)
      generalize w.setCell ⟨c, 5 * m + 4, none⟩ (.int .i64 ((S m).length - 1)) = W at *
      have hc4 := HC4.out
      have hcl := HCL.out
      go_region
      go_wp2
      refine bodyPost_ret (v := .tuple #[.int .i64 ((S m).getLastD 0), .bool true]) ?_ rfl ?_
      · simp [results, Try.results18, go_sem]
      · rw [HL.out]
        exact ⟨rfl, HC.out, grown_drew HG.out⟩
    · have HL := Lib.hid (show popF S m = (0, false, S) from if_neg (by rw [Int.toNat_natCast]; omega))
      have e0 : ((S m).length : Int) = 0 := by omega
      rw [e0] at hc
      have HB := Lib.hid (show Cch w c S from ⟨F, hb, hs⟩)
      clear hk hb hs hl e0
      go_enter Try.func18, Try.ntmps18
      go_wp2_with (go_at_call 49; refine (of_any _ _ _).mono ?_; rw [H.out]; rintro e w' ⟨rfl, rfl⟩)
      refine bodyPost_ret (v := .tuple #[.int .i64 0, .bool false]) ?_ rfl ?_
      · simp [results, Try.results18, go_sem]
      · rw [HL.out]
        exact ⟨rfl, HB.out, grown_refl _ _⟩
  · have H := Lib.hid (show ofV c k = .pointer none from if_neg hk)
    have HL := Lib.hid (show popF S k = (0, false, S) from if_neg (by omega))
    have HB := Lib.hid (show Cch w c S from ⟨F, hb, hs⟩)
    clear hk hb hs
    go_enter Try.func18, Try.ntmps18
    go_wp2_with (go_at_call 49; refine (of_any _ _ _).mono ?_; rw [H.out]; rintro e w' ⟨rfl, rfl⟩)
    refine bodyPost_ret (v := .tuple #[.int .i64 0, .bool false]) ?_ rfl ?_
    · simp [results, Try.results18, go_sem]
    · rw [HL.out]
      exact ⟨rfl, HB.out, grown_refl _ _⟩

theorem lenF_in (S : Nat → List Int) {k : Nat} (h : k < 7) : lenF S (k : Int) = (S k).length := if_pos ⟨by omega, by omega⟩
def none7 : Nat → List Int := fun _ => []
theorem stk_none : Stk none7 (fun _ => 0) := ⟨fun _ _ => rfl, fun _ _ => by simp [none7], fun k _ i h => by simp [none7] at h⟩
theorem cells_zero : cellsOf (fun _ => 0) = Array.replicate 35 (.int .i64 0) := by unfold cellsOf; rfl
theorem zero_made (w : World) : Cch (w.alloc (.cells (Array.replicate 35 (.int .i64 0)) 47)) w.heap.size none7 := by
  refine ⟨fun _ => 0, ?_, stk_none⟩
  unfold Blk
  rw [cells_zero]
  show (w.heap.push _)[w.heap.size]? = _
  simp

set_option maxHeartbeats 1600000 in
theorem new_any (w : World) : Calls Try.prog 16 #[] w fun e w' => e = .returned (.pointer (some ⟨w.heap.size, 0, none⟩)) ∧ Cch w' w.heap.size none7 ∧ Below w.heap.size w w' := by
  have HZ := Lib.hid (zero_made w)
  go_enter Try.func16, Try.ntmps16
  go_wp2
  go_ret
  exact ⟨rfl, HZ.out, (Below.refl _ _).alloc (Nat.le_refl _) _⟩

def sumP (S : Nat → List Int) : Nat → Int
  | 0 => 0
  | k + 1 => sumP S k + (S k).length * 2 ^ k
theorem sumP_le {S : Nat → List Int} (hl : ∀ k, k < 7 → (S k).length ≤ 4) : ∀ k, k ≤ 7 → 0 ≤ sumP S k ∧ sumP S k ≤ 4 * (2 ^ k - 1)
  | 0, _ => by simp [sumP]
  | k + 1, h => by
    obtain ⟨h0, h1⟩ := sumP_le hl k (by omega)
    have h2 := hl k (by omega)
    have h3 : (0 : Int) < 2 ^ k := Int.pow_pos (by decide)
    have h4 : (((S k).length : Int)) * 2 ^ k ≤ 4 * 2 ^ k := Int.mul_le_mul_of_nonneg_right (by omega) (by omega)
    have h5 : 0 ≤ (((S k).length : Int)) * 2 ^ k := Int.mul_nonneg (by omega) (by omega)
    have h6 : (2 : Int) ^ (k + 1) = 2 * 2 ^ k := by rw [Int.pow_succ]; omega
    unfold sumP
    omega
def pagesF (S : Nat → List Int) : Int := sumP S 7
set_option maxHeartbeats 1600000 in
theorem pages_all (c : Nat) (S : Nat → List Int) (w : World) (h : Cch w c S) : Calls Try.prog 21 #[.pointer (some ⟨c, 0, none⟩)] w fun e w' => e = .returned (.int .i64 (pagesF S)) ∧ w = w' := by
  have hl : ∀ k, k < 7 → (S k).length ≤ 4 := by obtain ⟨F, hb, hs⟩ := h; exact hs.le
  have HL := Lib.hid hl
  have H := Lib.hid h
  clear h hl
  go_enter Try.func21, Try.ntmps21
  go_wp2
  go_loop [3, 5] (fun n i => ∃ k : Nat, k ≤ 7 ∧ i = .int .i64 k ∧ n = .int .i64 (sumP S k)) (fun _ i => 7 - (intOf i).toNat)
  case atStart => exact ⟨0, by omega, rfl, rfl⟩
  case round =>
    obtain ⟨k, hk, rfl, rfl⟩ := hrel
    by_cases h7 : k < 7
    · have e1 := lenF_in S h7
      have e2 := pg_in h7
      obtain ⟨b0, b1⟩ := sumP_le HL.out k hk
      obtain ⟨b2, b3⟩ := sumP_le HL.out (k + 1) (by omega)
      have e3 : sumP S (k + 1) = sumP S k + (S k).length * 2 ^ k := rfl
      have p7 : (2 : Int) ^ (k + 1) ≤ 2 ^ 7 := by have h := Nat.pow_le_pow_right (n := 2) (by decide) (show k + 1 ≤ 7 by omega); exact_mod_cast h
      have p0 : (0 : Int) < 2 ^ k := Int.pow_pos (by decide)
      have p1 : (0 : Int) ≤ (S k).length * 2 ^ k := Int.mul_nonneg (by omega) (by omega)
      have p2 : ((S k).length : Int) * 2 ^ k ≤ 508 := by have : (2 : Int) ^ 7 = 128 := by decide
                                                         omega
      have p3 : sumP S k + (S k).length * 2 ^ k ≤ 508 := by have : (2 : Int) ^ 7 = 128 := by decide
                                                            omega
      have E1 := Lib.hid e1
      have E2 := Lib.hid e2
      have E3 := Lib.hid e3
      clear e1 e2 e3 b2 b3 p7
      go_wp2_with (first | (go_at_call 19; refine (len_any _ _ _ _ H.out).mono ?_; rw [E1.out]; rintro e w' ⟨rfl, rfl⟩) | (go_at_call 22; refine (pages_any _ _).mono ?_; rw [E2.out]; rintro e w' ⟨rfl, rfl⟩))
      go_round
      case rel => exact ⟨k + 1, by omega, by go_num, by rw [E3.out]⟩
      case measure => simp [intOf]; omega
    · have e7 : k = 7 := by omega
      subst e7
      go_wp2
      go_ret
      exact ⟨rfl, rfl⟩

theorem grown_row {w : World} {c : Nat} (cs : Array Value) : w.grownBy (w.setRow c cs) (some c) :=
  ⟨rfl, rfl, rfl, by simp [World.setRow], fun k hk hne => by
    have : k ≠ c := fun e => hne (by rw [e])
    simp [World.setRow, Array.getElem?_modify, Ne.symm this]⟩
theorem row_zero {w : World} {c : Nat} {F : Nat → Int} (hb : Blk w c F) : Cch (w.setRow c (Array.replicate 35 (.int .i64 0))) c none7 := by
  refine ⟨fun _ => 0, ?_, stk_none⟩
  unfold Blk at hb ⊢
  rw [cells_zero]
  simp [World.setRow, Array.getElem?_modify, hb]
theorem ones : (Array.replicate 35 (Value.int .i64 0)).all (·.oneCell') = true := by kernel_rfl
theorem cells_size (F : Nat → Int) : (cellsOf F).size = 35 := by simp [cellsOf]
set_option maxHeartbeats 1600000 in
theorem clear_any (c : Nat) (S : Nat → List Int) (w : World) (h : Cch w c S) : Calls Try.prog 25 #[.pointer (some ⟨c, 0, none⟩)] w fun e w' => e = .returned (.tuple #[]) ∧ Cch w' c none7 ∧ w.grownBy w' (some c) := by
  obtain ⟨F, hb, hs⟩ := h
  have HB := Lib.hid hb
  have HR := Lib.hid (row_zero hb)
  clear hb hs
  go_enter Try.func25, Try.ntmps25
  go_wp2_with (refine wpList_store_row rfl 47 _ _ rfl c (Array.replicate 35 (.int .i64 0)) rfl rfl 47 _ HB.out (by kernel_rfl) (cells_size F) ones ?_)
  go_end0
  exact ⟨rfl, HR.out, grown_row _⟩

end Go.Proofs.Ytbbhfbpkopocgaa.Hand
