/- The reference's space: all that was stored, one behind the other; its byte at a place. -/
import Derived.Test.YtfdhjeeaigfmfaaCellsAwake
import Derived.Laws.AppendOwn
import Derived.Laws.AppendOwnNone
namespace Go.Proofs.Ytfdhjeeaigfmfaa.Sp
open Go.RowKit Go.WideMaps Go.Proofs.Ytfdhjeeaigfmfaa.In Go.Proofs.Ytfdhjeeaigfmfaa.Plain
set_option linter.unusedVariables false

/-- What was stored once: a place, how many, the bytes; or noughts. -/
structure LW where
  t : Nat
  n : Nat
  d : List Int
  z : Bool
def LW.cells (x : LW) : List Value := [.int .u64 (x.t : Int), .int .u64 (x.n : Int), .string (strOfNums x.d), .bool x.z]
def LW.wf (x : LW) : Prop := (x.z = false → x.d.length = x.n) ∧ Bs x.d ∧ x.t + x.n ≤ 4294967296
def LW.app (mem : Nat → Int) (x : LW) : Nat → Int := if x.z then blank mem x.t x.n else lay mem x.t x.d
def memOf (log : List LW) : Nat → Int := log.foldl LW.app (fun _ => 0)
theorem memOf_snoc (log : List LW) (x : LW) : memOf (log ++ [x]) = LW.app (memOf log) x := by simp [memOf]
def encL (log : List LW) : List Value := log.flatMap LW.cells
theorem encL_length (log : List LW) : (encL log).length = log.length * 4 := by
  induction log with
  | nil => rfl
  | cons x l ih => rw [encL, List.flatMap_cons, List.length_append, List.length_cons]; rw [encL] at ih; rw [ih]; simp [LW.cells]; omega
theorem encL_snoc (log : List LW) (x : LW) : encL (log ++ [x]) = encL log ++ LW.cells x := by simp [encL]
theorem encL_at (log : List LW) (i : Nat) (h : i < log.length) (j : Nat) (hj : j < 4) : (encL log)[i * 4 + j]? = (LW.cells log[i])[j]? := by
  induction log generalizing i with
  | nil => simp at h
  | cons x l ih =>
    have hc : encL (x :: l) = LW.cells x ++ encL l := by simp [encL]
    rw [hc]
    cases i with
    | zero =>
      rw [Nat.zero_mul, Nat.zero_add, List.getElem?_append_left (by simp [LW.cells]; omega)]
      rfl
    | succ i =>
      rw [List.getElem?_append_right (by simp [LW.cells]; omega), show (i + 1) * 4 + j - (LW.cells x).length = i * 4 + j by simp [LW.cells]; omega, ih i (by simpa using h)]
      rfl
/-- What a place holds behind a part of it all. -/
theorem memOf_take (log : List LW) (i : Nat) (h : i < log.length) : memOf (log.take (i + 1)) = LW.app (memOf (log.take i)) log[i] := by
  rw [List.take_add_one, List.getElem?_eq_getElem h]
  exact memOf_snoc _ _

/-- The reference's space, as it is told: at most q were stored. -/
def RefS (base q : Nat) (w : World) (v : Value) (s : SpS) : Prop :=
  ∃ lv log, v = .agg #[.int .i64 (s.pages : Int), lv, .int .i64 s.ticks] ∧ w.ownsRow base 113 4 lv log.length (encL log) ∧ (∀ x ∈ log, LW.wf x) ∧ memOf log = s.mem ∧ log.length ≤ q ∧ 1 ≤ s.pages ∧ s.pages ≤ 1048576
theorem RefS.kp {base q : Nat} {w w' : World} {v : Value} {s : SpS} (h : RefS base q w v s) (hk : KpT w w') : RefS base q w' v s := by
  obtain ⟨lv, log, h1, ⟨h2, h3⟩, h4, h5, h6, h7⟩ := h
  refine ⟨lv, log, h1, ⟨h2, ?_⟩, h4, h5, h6, h7⟩
  rcases h3 with h3 | ⟨g, cap, cur, e1, e2, e3, e4⟩
  · exact .inl h3
  · exact .inr ⟨g, cap, cur, e1, e2, hk.2 _ _ _ _ e3 (by decide) (by decide), e4⟩
theorem RefS.below {base q : Nat} {w w' : World} {v : Value} {s : SpS} (h : RefS base q w v s) (hb : Below w.heap.size w w') : RefS base q w' v s := h.kp (KpT.of_below hb)
theorem RefS.mono {base q q' : Nat} {w : World} {v : Value} {s : SpS} (h : RefS base q w v s) (hq : q ≤ q') : RefS base q' w v s := by
  obtain ⟨lv, log, h1, h2, h4, h5, h6, h7⟩ := h
  exact ⟨lv, log, h1, h2, h4, h5, Nat.le_trans h6 hq, h7⟩
/-- The cells of one that was stored. -/
theorem owns_form {w : World} {base n : Nat} {lv : Value} {log : List LW} (h : w.ownsRow base 113 4 lv n (encL log)) (hn : log.length = n) :
    ∃ A c, lv = .slice A n c ∧ n ≤ c ∧ (0 < n → ∃ g, A = some ⟨g, 0, none⟩ ∧ base ≤ g ∧ ∀ i (hi : i < log.length), w.cell? ⟨g, i * 4, none⟩ = some (.int .u64 (log[i].t : Int)) ∧ w.cell? ⟨g, i * 4 + 1, none⟩ = some (.int .u64 (log[i].n : Int)) ∧ w.cell? ⟨g, i * 4 + 2, none⟩ = some (.string (strOfNums log[i].d)) ∧ w.cell? ⟨g, i * 4 + 3, none⟩ = some (.bool log[i].z)) := by
  subst hn
  rcases h.2 with ⟨e1, h1⟩ | ⟨g, cap, cur, rfl, hbg, hg, hn, _, hcs, htake⟩
  · exact ⟨none, 0, by rw [e1, h1], by omega, fun h => by omega⟩
  · have key : ∀ i (hi : i < log.length) j, j < 4 → w.cell? ⟨g, i * 4 + j, none⟩ = (LW.cells log[i])[j]? := by
      intro i hi j hj
      rw [← encL_at log i hi j hj, ← htake, List.getElem?_take_of_lt (by omega)]
      simp [World.cell?, hg]
    exact ⟨_, cap, rfl, hn, fun _ => ⟨g, rfl, hbg, fun i hi => ⟨key i hi 0 (by omega), key i hi 1 (by omega), key i hi 2 (by omega), key i hi 3 (by omega)⟩⟩⟩

theorem str_at {l : List Int} (hl : Bs l) {q : Nat} (h : q < (strOfNums l).size) : (((strOfNums l)[q]'h).toNat : Int) = l.getD q 0 := by
  have hq : q < l.length := by rw [strOfNums_size] at h; exact h
  have e1 : (strOfNums l)[q]'h = (strOfNums l).data.toList[q]'(by rw [strOfNums_data, List.length_map]; exact hq) := by
    rw [Array.getElem_toList]; rfl
  rw [e1]
  simp only [strOfNums_data, List.getElem_map]
  have hb := hl _ (List.getElem_mem hq)
  rw [List.getD_eq_getElem?_getD, List.getElem?_eq_getElem hq]
  show ((UInt8.ofNat (l[q]).toNat).toNat : Int) = l[q]
  rw [UInt8.toNat_ofNat']
  omega

set_option maxRecDepth 100000 in
set_option maxHeartbeats 4000000 in
theorem ref03Byte_any (base : Nat) (pg tk : Int) (lv : Value) (log : List LW) (t : Nat) (W : World) (ht : t ≤ 4294967296) (hl : log.length ≤ 100000) (hwf : ∀ x ∈ log, LW.wf x) (h : W.ownsRow base 113 4 lv log.length (encL log)) :
    Calls Try.prog 65 #[.agg #[.int .i64 pg, lv, .int .i64 tk], .int .u64 (t : Int)] W fun e w' => e = .returned (.int .u8 (memOf log t)) ∧ Below W.heap.size W w' := by
  have HWF := Lib.hid hwf
  obtain ⟨n, hn⟩ : ∃ n, log.length = n := ⟨_, rfl⟩
  rw [hn] at h hl
  obtain ⟨A, c, rfl, hnc, hol⟩ := owns_form h hn
  have HOL := Lib.hid hol
  have HN := Lib.hid hn
  obtain ⟨r, hr⟩ : ∃ r, memOf log t = r := ⟨_, rfl⟩
  rw [hr]
  have HR := Lib.hid hr
  clear h hn hr hwf hol
  have hbox : ∀ wr, Below (W.alloc (.cells #[.int .i64 pg, .slice A n c, .int .i64 tk] 29)).heap.size (W.alloc (.cells #[.int .i64 pg, .slice A n c, .int .i64 tk] 29)) wr → wr.heap[W.heap.size]? = some (.cells #[.int .i64 pg, .slice A n c, .int .i64 tk] 29 (0, 0)) ∧ Below W.heap.size W wr := by
    intro wr hb
    have e1 : (W.alloc (.cells #[.int .i64 pg, .slice A n c, .int .i64 tk] 29)).heap[W.heap.size]? = some (.cells #[.int .i64 pg, .slice A n c, .int .i64 tk] 29 (0, 0)) := al_new rfl
    have hb0 : Below W.heap.size W (W.alloc (.cells #[.int .i64 pg, .slice A n c, .int .i64 tk] 29)) := (Below.refl _ _).alloc (Nat.le_refl _) _
    exact ⟨(hb.block _ (Array.getElem?_eq_some_iff.1 e1).1).trans e1, hb0.trans (hb.mono hb0.size)⟩
  have HBOX := Lib.hid hbox
  clear hbox
  go_enter Try.func65, Try.ntmps65
  go_wp2
  generalize hW1 : W.alloc (.cells #[.int .i64 pg, .slice A n c, .int .i64 tk] 29) = W1 at *
  go_loopw [5] (fun i wr => ∃ z : Int, i = .int .i64 z ∧ -1 ≤ z ∧ z < n ∧ Below W1.heap.size W1 wr ∧ memOf (log.take (z + 1).toNat) t = r) (fun i _ => (intOf i + 1).toNat)
  case atStart => exact ⟨(n : Int) - 1, rfl, by omega, by omega, Below.refl _ _, by rw [List.take_of_length_le (by rw [HN.out]; omega)]; exact HR.out⟩
  case round =>
    obtain ⟨z, rfl, hz0, hzn, hbr, hmr⟩ := hrel
    have HBR := Lib.hid hbr
    have HMR := Lib.hid hmr
    obtain ⟨hb1, hb2⟩ := HBOX.out wr hbr
    have hc1 : wr.cell? ⟨W.heap.size, 1, none⟩ = some (.slice A n c) := by simp [World.cell?, hb1]
    have HB2 := Lib.hid hb2
    clear hbr hmr hb1 hb2
    by_cases hz : 0 ≤ z
    · obtain ⟨j, rfl⟩ := Int.eq_ofNat_of_zero_le hz
      have hjn : j < n := by omega
      obtain ⟨g, rfl, hbg, e4⟩ := HOL.out (by omega)
      obtain ⟨c0, c1, c2, c3⟩ := e4 j (by rw [HN.out]; exact hjn)
      have hwf := HWF.out _ (List.getElem_mem (show j < log.length by rw [HN.out]; exact hjn))
      have hmt := memOf_take log j (by rw [HN.out]; exact hjn)
      have d0 := (Chg.of_below (S := fun _ => False) HB2.out).cell c0 (fun h => h)
      have d1 := (Chg.of_below (S := fun _ => False) HB2.out).cell c1 (fun h => h)
      have d2 := (Chg.of_below (S := fun _ => False) HB2.out).cell c2 (fun h => h)
      have d3 := (Chg.of_below (S := fun _ => False) HB2.out).cell c3 (fun h => h)
      clear c0 c1 c2 c3
      have hjl : j < log.length := by rw [HN.out]; exact hjn
      generalize log[j]'hjl = x at *
      clear hjl
      clear e4
      have HWFX := Lib.hid hwf
      have HMT := Lib.hid hmt
      obtain ⟨xt, xn, xd, xz⟩ := x
      simp only at d0 d1 d2 d3
      clear hwf hmt
      by_cases hcov : xt ≤ t ∧ t < xt + xn
      · have k1 : (xt : Int) ≤ (t : Int) := by omega
        have k2 : (t : Int) - (xt : Int) < (xn : Int) := by omega
        cases xz with
        | true =>
          have hrv : r = 0 := by
            have := HMR.out
            rw [show ((j : Int) + 1).toNat = j + 1 by omega, HMT.out] at this
            simp only [LW.app, if_true] at this
            unfold blank at this
            rw [if_pos hcov] at this
            exact this.symm
          have HRV := Lib.hid hrv
          clear hrv hcov
          go_wp2
          go_ret
          exact ⟨by rw [HRV.out]; rfl, HB2.out.alloc HB2.out.size _⟩
        | false =>
          obtain ⟨q, hq⟩ : ∃ q : Nat, (t : Int) - (xt : Int) = (q : Int) := ⟨t - xt, by omega⟩
          have hqx : q < xd.length := by rw [HWFX.out.1 rfl]; show q < xn; omega
          have hrv : r = xd.getD q 0 := by
            have := HMR.out
            rw [show ((j : Int) + 1).toNat = j + 1 by omega, HMT.out] at this
            simp only [LW.app] at this
            rw [← this]
            show lay _ xt xd t = _
            unfold lay
            have e1 := HWFX.out.1 rfl
            simp only at e1
            rw [if_pos (by omega), show t - xt = q by omega]
          have hsz : ((strOfNums xd).size : Int) = (xd.length : Int) := by rw [strOfNums_size]
          have hqi : (q : Int) < ((strOfNums xd).size : Int) := by rw [hsz]; omega
          have HRV := Lib.hid hrv
          clear hrv hcov hsz
          have HBX := Lib.hid HWFX.out.2.1
          go_wp2
          go_ret
          refine ⟨?_, HB2.out.alloc HB2.out.size _⟩
          rw [HRV.out, ← str_at HBX.out (by rw [strOfNums_size]; exact hqx)]
          rfl
      · have hmr2 : memOf (log.take j) t = r := by
          have := HMR.out
          rw [show ((j : Int) + 1).toNat = j + 1 by omega, HMT.out] at this
          cases xz with
          | true =>
            simp only [LW.app, if_true] at this
            unfold blank at this
            rw [if_neg hcov] at this
            exact this
          | false =>
            have e1 := HWFX.out.1 rfl
            simp only at e1
            simp only [LW.app] at this
            rw [← this]
            show _ = lay _ xt xd t
            unfold lay
            rw [if_neg (by omega)]
        have HM2 := Lib.hid hmr2
        clear hmr2
        by_cases k1 : xt ≤ t
        · have k1i : (xt : Int) ≤ (t : Int) := by omega
          have k2 : ¬ (t : Int) - (xt : Int) < (xn : Int) := by omega
          clear hcov
          go_wp2
          go_roundw
          case rel => exact ⟨(j : Int) - 1, rfl, by omega, by omega, HBR.out.alloc HBR.out.size _, by rw [show ((j : Int) - 1 + 1).toNat = j by omega]; exact HM2.out⟩
          case measure => simp [intOf] <;> omega
        · have k1i : ¬ (xt : Int) ≤ (t : Int) := by omega
          clear hcov
          go_wp2
          go_roundw
          case rel => exact ⟨(j : Int) - 1, rfl, by omega, by omega, HBR.out.alloc HBR.out.size _, by rw [show ((j : Int) - 1 + 1).toNat = j by omega]; exact HM2.out⟩
          case measure => simp [intOf] <;> omega
    · have hzi : z < 0 := by omega
      have hz1 : z = -1 := by omega
      have hrv : r = 0 := by
        have := HMR.out
        rw [hz1] at this
        exact this.symm
      have HRV := Lib.hid hrv
      clear hrv hz1
      go_wp2
      go_ret
      exact ⟨by rw [HRV.out]; rfl, HB2.out⟩
end Go.Proofs.Ytfdhjeeaigfmfaa.Sp
