/- cells: a number that cannot be put; one that is added to what is there. -/
import Derived.Test.YtfdhjeeaigfmfaaCellsGet
namespace Go.Proofs.Ytfdhjeeaigfmfaa.Sp
open Go.RowKit Go.WideMaps Go.Proofs.Ytfdhjeeaigfmfaa.In Go.Proofs.Ytfdhjeeaigfmfaa.Plain
set_option linter.unusedVariables false

set_option maxRecDepth 100000 in
set_option maxHeartbeats 4000000 in
theorem cPut_range (p : Option Addr) (t : Int) (k : Nat) (n : Int) (W : World) (ht : 0 ≤ t ∧ t ≤ 18446744073709551615) (h : rightC t (k : Int)) (hn : 0 ≤ n ∧ n ≤ 18446744073709551615)
    (hS : ∀ (r : Nat) (w1 : World), Below W.heap.size W w1 → Calls Try.prog 22 #[.pointer p, .int .u64 t, .slice (some ⟨r, 0, none⟩) k k] w1 fun e w' => e = .returned (.int .i64 3) ∧ w1 = w') :
    Calls Try.prog 34 #[.pointer p, .int .u64 t, .int .i64 (k : Int), .int .u64 n] W fun e w' => e = .returned (.int .i64 3) ∧ Below W.heap.size W w' := by
  have hk := h.1.bd
  have HR := Lib.hid (cright_any t (k : Int) W (by omega))
  have hd : decide (rightC t (k : Int)) = true := decide_eq_true h
  have HB := Lib.hid (wBytes_ok k 1 1 (some ⟨W.heap.size, 0, none⟩) [n] (W.alloc (.cells #[.int .u64 n] 31)) rfl h.1 (by omega) (fun v hv => by rw [List.mem_singleton.1 hv]; exact hn) (fun _ => ⟨_, _, rfl, fun j hj => by
    obtain rfl : j = 0 := by omega
    exact cell_one (al_new rfl)⟩))
  have HS := Lib.hid hS
  clear h hS
  go_enter Try.func34, Try.ntmps34
  go_wp2_with (go_at_call 66; (with_reducible refine HR.out.mono ?_); rintro e' w' ⟨rfl, rfl⟩)
  refine HB.out.mono ?_
  rintro e' w1 ⟨r, rfl, hr, hz, hb1⟩
  rw [Nat.mul_one]
  have hbb : Below W.heap.size W w1 := ((Below.refl _ _).alloc (Nat.le_refl _) (.cells #[.int .u64 n] 31)).trans (hb1.mono ((Below.refl _ _).alloc (Nat.le_refl _) (.cells #[.int .u64 n] 31)).size)
  have HC := Lib.hid (HS.out r w1 hbb)
  have HBB := Lib.hid hbb
  clear hz hb1 hbb hr
  go_wp2_with fail
  refine HC.out.mono ?_
  rintro e' w2 ⟨rfl, rfl⟩
  go_wp2
  go_ret
  exact ⟨rfl, HBB.out⟩

set_option maxRecDepth 100000 in
set_option maxHeartbeats 4000000 in
theorem cAddF_any (was n : Int) (bx : Nat) (fr : Nat × Nat) (W : World) (h : W.heap[bx]? = some (.cells #[.int .u64 n] 31 fr)) :
    Calls Try.prog 69 #[.int .u64 was, .pointer (some ⟨bx, 0, none⟩)] W fun e w' => e = .returned (.int .u64 (IntKind.u64.wrap (was + n))) ∧ W = w' := by
  have hc := cell_one h
  go_enter Try.func69, Try.ntmps69
  go_wp2
  go_ret
  exact ⟨rfl, rfl⟩
theorem wrap_u64_range (x : Int) : 0 ≤ IntKind.u64.wrap x ∧ IntKind.u64.wrap x ≤ 18446744073709551615 := by
  show 0 ≤ x % 18446744073709551616 ∧ x % 18446744073709551616 ≤ 18446744073709551615
  omega
set_option maxRecDepth 100000 in
theorem enter_cAddF : ∀ (args : Array Value) (w : World), (callFunc 69 args).run Try.prog w = .ok (.enter 69 args) w := fun _ _ => rfl

set_option maxRecDepth 100000 in
set_option maxHeartbeats 4000000 in
theorem turn_err (p : Option Addr) (t k c : Int) (f : Value) (W : World) (hc : c ≠ 0) (hG : Calls Try.prog 35 #[.pointer p, .int .u64 t, .int .i64 k] W fun e w' => e = .returned (.tuple #[.int .u64 0, .int .i64 c]) ∧ W = w') :
    Calls Try.prog 68 #[.pointer p, .int .u64 t, .int .i64 k, f] W fun e w' => e = .returned (.tuple #[.int .u64 0, .int .i64 c]) ∧ W = w' := by
  have HG := Lib.hid hG
  have hc2 : (c != 0) = true := by simpa using hc
  have hc1 : (c == 0) = false := by simpa using hc
  clear hG hc
  go_enter Try.func68, Try.ntmps68
  go_wp2_with (go_at_call 35; (with_reducible refine HG.out.mono ?_); rintro e' w' ⟨rfl, rfl⟩)
  go_ret2
  exact ⟨rfl, rfl⟩
set_option maxRecDepth 100000 in
set_option maxHeartbeats 4000000 in
theorem cAdd_err (p : Option Addr) (t k n c : Int) (W : World) (hc : c ≠ 0) (hG : ∀ W1, Below W.heap.size W W1 → Calls Try.prog 35 #[.pointer p, .int .u64 t, .int .i64 k] W1 fun e w' => e = .returned (.tuple #[.int .u64 0, .int .i64 c]) ∧ W1 = w') :
    Calls Try.prog 37 #[.pointer p, .int .u64 t, .int .i64 k, .int .u64 n] W fun e w' => e = .returned (.tuple #[.int .u64 0, .int .i64 c]) ∧ Below W.heap.size W w' := by
  have HG := Lib.hid (fun f => turn_err p t k c f _ hc (hG (W.alloc (.cells #[.int .u64 n] 31)) ((Below.refl _ _).alloc (Nat.le_refl _) _)))
  clear hG hc
  go_enter Try.func37, Try.ntmps37
  go_wp2_with fail
  refine (HG.out _).mono ?_
  rintro e w' ⟨rfl, rfl⟩
  go_wp2
  go_ret2
  exact ⟨rfl, (Below.refl _ _).alloc (Nat.le_refl _) _⟩

set_option maxRecDepth 100000 in
set_option maxHeartbeats 4000000 in
theorem St.turn {w0 W : World} {g : Nat} {s : SpS} (hs : St w0 W g s) (t k : Nat) (n : Int) (bx : Nat) (fr : Nat × Nat) (h : rightC (t : Int) (k : Int)) (hb : t + k ≤ s.pages * 4096) (hx : W.heap[bx]? = some (.cells #[.int .u64 n] 31 fr)) :
    Calls Try.prog 68 #[.pointer (some ⟨g, 0, none⟩), .int .u64 (t : Int), .int .i64 (k : Int), .func (.func 69) #[] #[.pointer (some ⟨bx, 0, none⟩)]] W fun e w' => e = .returned (.tuple #[.int .u64 (num (seen s.mem t k)), .int .i64 0]) ∧
      St w0 w' g (tick { (tick s (touchedI t k)) with mem := lay s.mem t (le k (IntKind.u64.wrap (num (seen s.mem t k) + n))) } (touchedI t k)) ∧ KpT W w' := by
  have HG := Lib.hid (hs.get t k h hb)
  have HX := Lib.hid hx
  have HR := Lib.hid h
  have HB := Lib.hid hb
  obtain ⟨x, hxx⟩ : ∃ x, num (seen s.mem t k) = x := ⟨_, rfl⟩
  rw [hxx] at HG ⊢
  obtain ⟨y, hy⟩ : ∃ y, IntKind.u64.wrap (x + n) = y := ⟨_, rfl⟩
  have hyr := wrap_u64_range (x + n)
  rw [hy] at hyr ⊢
  have HY := Lib.hid hy
  have EA := Lib.hid enter_cAddF
  clear hs hx h hb hxx hy
  go_enter Try.func68, Try.ntmps68
  go_wp2_with fail
  refine HG.out.mono ?_
  rintro e w1 ⟨rfl, hs1, hk1⟩
  have HC := Lib.hid (cAddF_any x n bx fr w1 (hk1.2 _ _ _ _ HX.out (by decide) (by decide)))
  rw [HY.out] at HC
  have HP := Lib.hid (hs1.put t k y HR.out hyr HB.out)
  have HK := Lib.hid hk1
  clear hs1 hk1
  go_wp2_with (first | (go_at_call 34; (with_reducible refine HP.out.mono ?_); rintro e' w' ⟨rfl, hs2, hk2⟩) | (with_reducible refine HC.out.mono ?_; rintro e' w' ⟨rfl, rfl⟩))
  go_ret2
  exact ⟨rfl, hs2, HK.out.trans hk2⟩

set_option maxRecDepth 100000 in
set_option maxHeartbeats 4000000 in
theorem St.add {w0 W : World} {g : Nat} {s : SpS} (hs : St w0 W g s) (t k : Nat) (n : Int) (h : rightC (t : Int) (k : Int)) (hb : t + k ≤ s.pages * 4096) :
    Calls Try.prog 37 #[.pointer (some ⟨g, 0, none⟩), .int .u64 (t : Int), .int .i64 (k : Int), .int .u64 n] W fun e w' => e = .returned (.tuple #[.int .u64 (num (seen s.mem t k)), .int .i64 0]) ∧
      St w0 w' g (tick { (tick s (touchedI t k)) with mem := lay s.mem t (le k (IntKind.u64.wrap (num (seen s.mem t k) + n))) } (touchedI t k)) ∧ KpT W w' := by
  have HT := Lib.hid ((hs.al (.cells #[.int .u64 n] 31)).turn t k n W.heap.size (0, 0) h hb (al_new rfl))
  clear hs h hb
  go_enter Try.func37, Try.ntmps37
  go_wp2_with fail
  refine HT.out.mono ?_
  rintro e w' ⟨rfl, hs2, hk2⟩
  have H2 := Lib.hid (And.intro hs2 (((KpT.refl W).al (.cells #[.int .u64 n] 31)).trans hk2))
  clear hs2 hk2
  go_wp2
  go_ret2
  exact ⟨rfl, H2.out⟩
end Go.Proofs.Ytfdhjeeaigfmfaa.Sp
