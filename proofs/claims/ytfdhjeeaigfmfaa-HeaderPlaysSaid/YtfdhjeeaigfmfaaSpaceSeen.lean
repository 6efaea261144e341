/- Cells of a row that was loaded, ahead of a store and behind it. -/
import Derived.Test.YtfdhjeeaigfmfaaSpaceCuts
namespace Go.Proofs.Ytfdhjeeaigfmfaa.Sp
open Go.RowKit Go.WideMaps Go.Proofs.Ytfdhjeeaigfmfaa.In
set_option linter.unusedVariables false
set_option linter.unusedSimpArgs false

theorem seen_take (mem : Nat → Int) (t n k : Nat) (h : k ≤ n) : (seen mem t n).take k = seen mem t k := by
  unfold seen
  rw [← List.map_take, List.take_range, Nat.min_eq_left h]
theorem seen_drop (mem : Nat → Int) (t n k : Nat) : (seen mem t n).drop k = seen mem (t + k) (n - k) := by
  apply List.ext_getElem?
  intro j
  rw [List.getElem?_drop]
  unfold seen
  simp only [List.getElem?_map, List.getElem?_range]
  by_cases h : k + j < n
  · rw [List.getElem?_range h, List.getElem?_range (by omega)]
    simp [Nat.add_assoc]
  · rw [List.getElem?_eq_none (by simp; omega), List.getElem?_eq_none (by simp; omega)]
    rfl
theorem seen_lay_same (mem : Nat → Int) (t : Nat) (l : List Int) : seen (lay mem t l) t l.length = l := by
  apply List.ext_getElem?
  intro j
  unfold seen
  simp only [List.getElem?_map]
  by_cases h : j < l.length
  · rw [List.getElem?_range h]
    simp only [Option.map_some]
    unfold lay
    rw [if_pos (by omega), Nat.add_sub_cancel_left, List.getD_eq_getElem?_getD, List.getElem?_eq_getElem h]
    rfl
  · rw [List.getElem?_eq_none (by simp; omega), List.getElem?_eq_none (by omega)]
    rfl
theorem seen_congr {mem mem' : Nat → Int} {t n : Nat} (h : ∀ i, i < n → mem (t + i) = mem' (t + i)) : seen mem t n = seen mem' t n := by
  unfold seen
  exact List.map_congr_left fun i hi => h i (List.mem_range.1 hi)
theorem seen_lay_off (mem : Nat → Int) (t : Nat) (l : List Int) (a n : Nat) (h : a + n ≤ t ∨ t + l.length ≤ a) : seen (lay mem t l) a n = seen mem a n :=
  seen_congr fun i hi => by unfold lay; rw [if_neg (by omega)]

theorem u8_of {a : Int} (h : wfInt .u8 a) : 0 ≤ a ∧ a ≤ 255 := by
  unfold wfInt at h
  simp [Lit.wf, IntKind.min, IntKind.max, IntKind.signed, IntKind.bits] at h
  omega

/-- What the last region reads. -/
theorem back_fin (w W : World) (r1 r2 : Nat) (A3 : Option Addr) (mem : Nat → Int) (t lo i d n3 c3 : Nat) (l3 : List Int) (m : Nat) (hm : i + n3 = m) (ht : lo + i = t) (hd : i + n3 ≤ d) (h3 : l3.length = n3) (h3c : Lst (KInt .u8) 1 w A3 l3) (hb : Below w.heap.size w W)
    (R1 : Row W r1 (seen mem lo d)) (R2 : Row W r2 (seen (lay mem t l3) lo d)) :
    ∃ X Y Z : ByteArray, (∀ q, (convert 32 9 (.slice (some ⟨r2, 0, none⟩) i d)).run Try.prog (W.drewN q) = .ok (.string X) (W.drewN q)) ∧ (∀ q, (convert 32 9 (.slice (some ⟨r1, 0, none⟩) i d)).run Try.prog (W.drewN q) = .ok (.string X) (W.drewN q)) ∧ (∀ V, (Instr.sliceAt 32 (.slice (some ⟨r2, 0, none⟩) d d) none (some (.int .i64 (i : Int))) none).run Try.prog V = .ok (.slice (some ⟨r2, 0, none⟩) i d) V) ∧ (∀ V, (Instr.sliceAt 32 (.slice (some ⟨r1, 0, none⟩) d d) none (some (.int .i64 (i : Int))) none).run Try.prog V = .ok (.slice (some ⟨r1, 0, none⟩) i d) V) ∧
      ∃ A5 A6 A7 : Addr, (∀ V, (Instr.sliceAt 32 (.slice (some ⟨r2, 0, none⟩) d d) (some (.int .i64 (i : Int))) (some (.int .i64 (m : Int))) none).run Try.prog V = .ok (.slice (some A5) n3 (d - i)) V) ∧
      (∀ V, (Instr.sliceAt 32 (.slice (some ⟨r2, 0, none⟩) d d) (some (.int .i64 (m : Int))) none none).run Try.prog V = .ok (.slice (some A6) (d - m) (d - m)) V) ∧ (∀ V, (Instr.sliceAt 32 (.slice (some ⟨r1, 0, none⟩) d d) (some (.int .i64 (m : Int))) none none).run Try.prog V = .ok (.slice (some A7) (d - m) (d - m)) V) ∧
      (∀ q, (convert 32 9 (.slice (some A5) n3 (d - i))).run Try.prog (W.drewN q) = .ok (.string Y) (W.drewN q)) ∧ (∀ q, (convert 32 9 (.slice A3 n3 c3)).run Try.prog (W.drewN q) = .ok (.string Y) (W.drewN q)) ∧
      (∀ q, (convert 32 9 (.slice (some A6) (d - m) (d - m))).run Try.prog (W.drewN q) = .ok (.string Z) (W.drewN q)) ∧ (∀ q, (convert 32 9 (.slice (some A7) (d - m) (d - m))).run Try.prog (W.drewN q) = .ok (.string Z) (W.drewN q)) ∧ True := by
  subst hm; subst h3
  obtain ⟨A5, p5, g5⟩ := cut_lh r2 d i l3.length hd ((i + l3.length : Nat) : Int) (by omega)
  obtain ⟨A6, p6, g6⟩ := cut_l r2 d (i + l3.length) (by omega) ((i + l3.length : Nat) : Int) rfl
  obtain ⟨A7, p7, g7⟩ := cut_l r1 d (i + l3.length) (by omega) ((i + l3.length : Nat) : Int) rfl
  have n1 : (seen mem lo d).length = d := by unfold seen; simp
  have n2 : (seen (lay mem t l3) lo d).length = d := by unfold seen; simp
  have q1 : ((seen (lay mem t l3) lo d).drop 0).take i = ((seen mem lo d).drop 0).take i := by
    rw [List.drop_zero, List.drop_zero, seen_take _ _ _ _ (by omega), seen_take _ _ _ _ (by omega), seen_lay_off _ _ _ _ _ (by omega)]
  have q2 : ((seen (lay mem t l3) lo d).drop i).take l3.length = l3 := by
    rw [seen_drop, seen_take _ _ _ _ (by omega), ht, seen_lay_same]
  have q3 : ((seen (lay mem t l3) lo d).drop (i + l3.length)).take (d - (i + l3.length)) = ((seen mem lo d).drop (i + l3.length)).take (d - (i + l3.length)) := by
    rw [seen_drop, seen_drop, seen_lay_off _ _ _ _ _ (by omega)]
  refine ⟨_, _, _, fun q => (R2.dn q).string 0 i d (by omega), fun q => ?_, cut_h r2 d i (by omega), cut_h r1 d i (by omega), A5, A6, A7, g5, g6, g7, fun q => p5.string (R2.dn q) n2 _, fun q => ?_, fun q => p6.string (R2.dn q) n2 _, fun q => ?_, trivial⟩
  · rw [q1]; exact (R1.dn q).string 0 i d (by omega)
  · rw [q2]; exact lst_string h3c ((⟨hb.os, hb.tape, hb.output, hb.size, hb.block⟩ : Below w.heap.size w (W.drewN q))) _ c3 rfl
  · rw [q3]; exact p7.string (R1.dn q) n1 _

end Go.Proofs.Ytfdhjeeaigfmfaa.Sp
