/- header.join: pieces of bytes, one behind the other. -/
import Derived.Test.YtfdhjeeaigfmfaaHeader
import Derived.Test.YtfdhjeeaigfmfaaRefPut
import Derived.Test.YtfdhjeeaigfmfaaSpaceTwo
namespace Go.Proofs.Ytfdhjeeaigfmfaa.Sp
open Go.RowKit Go.WideMaps Go.Proofs.Ytfdhjeeaigfmfaa.In Go.Proofs.Ytfdhjeeaigfmfaa.Plain
set_option linter.unusedVariables false
set_option linter.unusedSimpArgs false

def padL (l : List Int) : List Int := l ++ List.replicate (32 - l.length) 0
theorem padL_length {l : List Int} (h : l.length ≤ 32) : (padL l).length = 32 := by simp [padL]; omega
theorem padL_copy {p l : List Int} (h : p.length + l.length ≤ 32) : (padL p).take p.length ++ l ++ (padL p).drop (p.length + l.length) = padL (p ++ l) := by
  unfold padL
  rw [List.take_left, List.drop_append, List.drop_of_length_le (by omega), List.nil_append, List.drop_replicate, List.length_append]
  congr 2
  omega

set_option maxRecDepth 100000 in
set_option maxHeartbeats 4000000 in
theorem hjoin_gen (W : World) (rl m : Nat) (pre : Nat → List Int) (hm : m ≤ 1000) (h0 : pre 0 = []) (hp : ∀ k, k < m → ∃ r l n c, W.cell? ⟨rl, k, none⟩ = some (.slice (some ⟨r, 0, none⟩) n c) ∧ Row W r l ∧ l.length = n ∧ 0 < n ∧ pre (k + 1) = pre k ++ l ∧ (pre (k + 1)).length ≤ 32) :
    Calls Try.prog 80 #[.slice (some ⟨rl, 0, none⟩) m m] W fun e w' => ∃ r : Nat, e = .returned (.slice (some ⟨r, 0, none⟩) 32 32) ∧ W.heap.size ≤ r ∧ RowZ w' r (padL (pre m)) ∧ Below W.heap.size W w' := by
  have hmk : ∀ W, (Instr.makeSlice 32 (.int .i64 32) (.int .i64 32)).run Try.prog W = .ok (.slice (some ⟨W.heap.size, 0, none⟩) 32 32) (W.alloc (.cells (madeCells #[.int .u8 0] 32) 5)) := run_make_bytes64 32 (by omega)
  have HP := Lib.hid hp
  have HZ0 : RowKit.Hid (RowZ (W.alloc (.cells (madeCells #[.int .u8 0] 32) 5)) W.heap.size (padL (pre 0))) := by
    rw [made_bytes, h0]
    exact al_new rfl
  have HL0 := Lib.hid (show (pre 0).length = 0 by rw [h0]; rfl)
  clear hp h0
  go_enter Try.func80, Try.ntmps80
  go_wp2
  go_loopw [4, 10] (fun v i wr => ∃ k : Nat, k ≤ m ∧ i = .int .i64 (k : Int) ∧ v = .int .i64 ((pre k).length : Int) ∧ RowZ wr W.heap.size (padL (pre k)) ∧ Below W.heap.size W wr) (fun _ i _ => m - (intOf i).toNat)
  case atStart => exact ⟨0, Nat.zero_le _, rfl, by rw [HL0.out]; rfl, HZ0.out, (Below.refl _ _).alloc (Nat.le_refl _) _⟩
  case round =>
    obtain ⟨k, hk, rfl, rfl, hrow, hb⟩ := hrel
    have HROW := Lib.hid hrow
    have HB := Lib.hid hb
    clear hrow hb
    by_cases hlt : k < m
    · have hlti : (k : Int) < (m : Int) := by omega
      obtain ⟨r, l, n, c, hc, hr, hln, hn0, hpre, hp32⟩ := HP.out k hlt
      have hcell := (Chg.of_below (S := fun _ => False) HB.out).cell hc (fun h => h)
      have hr1 : Row wr r l := hr.kp (KpT.of_below HB.out)
      obtain ⟨t, ht⟩ : ∃ t, (pre k).length = t := ⟨_, rfl⟩
      rw [hpre, List.length_append, ht, hln] at hp32
      have htn : t + n ≤ 32 := hp32
      have hrow := HROW.out
      have hpl := padL_length (l := pre k) (by omega)
      have hsl : (Instr.sliceAt 32 (.slice (some ⟨W.heap.size, 0, none⟩) 32 32) (some (.int .i64 (t : Int))) none none).run Try.prog wr = .ok (.slice (some ⟨W.heap.size, t, none⟩) (32 - t) (32 - t)) wr := by
        have := arg_l (some ⟨W.heap.size, 0, none⟩) 32 32 t (by omega) wr
        rw [if_neg (by omega)] at this
        rw [this]
        simp [Addr.add_lit]
      have hcp := run_copy_row (P := Try.prog) wr 32 32 3 5 W.heap.size t (32 - t) (32 - t) ⟨r, 0, none⟩ n c ((padL (pre k)).map (Value.int .u8)).toArray 5 (l.map (Value.int .u8)) (by kernel_rfl) (by kernel_rfl) hrow
        (by rw [List.length_map, hln]; show n = min n (32 - t); omega) (by
          intro j v hj
          rw [Addr.add_lit, Nat.zero_add]
          have hjl : j < l.length := by
            rcases Nat.lt_or_ge j l.length with h | h
            · exact h
            · rw [List.getElem?_eq_none (by rw [List.length_map]; exact h)] at hj; cases hj
          rw [hr1.cell hjl, List.getD_eq_getElem?_getD, List.getElem?_eq_getElem hjl]
          rw [List.getElem?_map, List.getElem?_eq_getElem hjl] at hj
          exact hj) (by simp only [List.size_toArray, List.length_map]; rw [hpl, hln]; exact htn) (by
          intro v hv
          obtain ⟨x, _, rfl⟩ := List.mem_map.1 hv
          rfl)
      have hcs : ((((padL (pre k)).map (Value.int .u8)).toArray.toList.take t ++ l.map (Value.int .u8) ++ ((padL (pre k)).map (Value.int .u8)).toArray.toList.drop (t + (l.map (Value.int .u8)).length)).toArray : Array Value) = ((padL (pre (k + 1))).map (Value.int .u8)).toArray := by
        rw [hpre, ← padL_copy (by omega), ht, List.length_map]
        simp only [List.map_append, List.map_take, List.map_drop]
      rw [hcs, List.length_map, hln] at hcp
      have hgo : goInt n = .int .i64 (n : Int) := rfl
      rw [hgo] at hcp
      have HNEW : RowKit.Hid (RowZ (wr.setRow W.heap.size ((padL (pre (k + 1))).map (Value.int .u8)).toArray) W.heap.size (padL (pre (k + 1)))) := setRow_heap _ _ _ _ _ _ hrow
      have HB2 : RowKit.Hid (Below W.heap.size W (wr.setRow W.heap.size ((padL (pre (k + 1))).map (Value.int .u8)).toArray)) := (Chg.row (r := W.heap.size) (cs := ((padL (pre (k + 1))).map (Value.int .u8)).toArray) (Chg.refl wr _)).below HB.out HB.out.size (fun i hi => by rw [hi]; exact Nat.le_refl _)
      have HT := Lib.hid (show (pre (k + 1)).length = t + n by rw [hpre, List.length_append, ht, hln])
      rw [ht]
      clear hc hr hpre hp32 hr1 hrow hpl hcs hgo ht hln
      go_wp2
      go_roundw
      case rel => exact ⟨k + 1, by omega, by go_num, by rw [HT.out]; go_num, HNEW.out, HB2.out⟩
      case measure => simp [intOf]; omega
    · have hlti : ¬ (k : Int) < (m : Int) := by omega
      obtain rfl : k = m := by omega
      go_wp2
      go_ret
      exact ⟨_, rfl, Nat.le_refl _, HROW.out, HB.out⟩
end Go.Proofs.Ytfdhjeeaigfmfaa.Sp
