/- What bump.Fit does: by contracts of bits.Pow, bits.Add and bits.Up. -/
import Derived.Test.YtaodlkpknipkmaaBitsWalks
import Derived.Test.YtaodlkpknipkmaaBitsFacts
import Derived.RegionTactic
import Derived.ChangeAlike
namespace Go.Proofs.Ytaodlkpknipkmaa.Hand
open Go.RowKit Plain
set_option linter.unusedVariables false

set_option maxHeartbeats 400000 in
theorem pow_any (a : Int) (w : World) (h0 : 0 ≤ a) (h1 : a ≤ 18446744073709551615) :
    Calls Try.prog 16 #[.int .u64 a] w fun e w' => e = .returned (.bool (powB a)) ∧ w = w' := by
  by_cases c : a = 0
  · subst c
    go_enter Try.func16, Try.ntmps16
    go_wp2
    go_ret
    exact ⟨by simp [powB, ones_zero], rfl⟩
  · have c1 : (a != 0) = true := bne_iff_ne.2 c
    have h2 : 1 ≤ a := by omega
    have hp : ((bits .and .u64 a (a - 1)) == 0) = powB a := by
      have := pow_raw h0 h1
      rw [if_neg c, u64w (by omega) (by omega)] at this
      exact Option.some.inj this
    go_enter Try.func16, Try.ntmps16
    go_wp2
    go_ret
    exact ⟨by simp, rfl⟩

set_option maxHeartbeats 400000 in
theorem add_any (a b : Int) (w : World) (a0 : 0 ≤ a) (a1 : a ≤ 18446744073709551615) (b0 : 0 ≤ b) (b1 : b ≤ 18446744073709551615) :
    Calls Try.prog 24 #[.int .u64 a, .int .u64 b] w fun e w' => e = .returned (.tuple #[.int .u64 (addV a b), .bool (addB a b)]) ∧ w = w' := by
  by_cases c : a + b ≤ 18446744073709551615
  · have hv : addV a b = a + b := if_pos c
    have hb : addB a b = true := decide_eq_true c
    rw [hv, hb]
    clear hv hb
    go_enter Try.func24, Try.ntmps24
    go_wp2
    go_ret2
    exact ⟨rfl, rfl⟩
  · have hv : addV a b = 0 := if_neg c
    have hb : addB a b = false := decide_eq_false c
    rw [hv, hb]
    clear hv hb
    have hd : decide (a ≤ IntKind.u64.wrap (a + b)) = false := by rw [u64w_over (by omega) (by omega)]; simp; omega
    go_enter Try.func24, Try.ntmps24
    go_wp2
    go_ret2
    exact ⟨rfl, rfl⟩

set_option maxHeartbeats 400000 in
theorem up_any (n a : Int) (w : World) (n0 : 0 ≤ n) (n1 : n ≤ 18446744073709551615) (a0 : 0 ≤ a) (a1 : a ≤ 18446744073709551615) :
    Calls Try.prog 22 #[.int .u64 n, .int .u64 a] w fun e w' => e = .returned (.tuple #[.int .u64 (upV n a), .bool (upB n a)]) ∧ w = w' := by
  have hpw := fun w => pow_any a w a0 a1
  by_cases hp : powB a = true
  · obtain ⟨r0, r1⟩ := low_range n0 n1 a1 hp a0
    obtain ⟨e1, e2⟩ := up_raw n0 n1 a1 hp a0
    have had := fun w => add_any n _ w n0 n1 r0 r1
    rw [e1, e2] at had
    rw [hp] at hpw
    have HW := Lib.hid hpw
    have HD := Lib.hid had
    clear hpw had e1 e2 hp r0 r1
    go_enter Try.func22, Try.ntmps22
    go_wp2_with fail
    refine (HW.out _).mono ?_
    rintro e w' ⟨rfl, rfl⟩
    go_wp2_with fail
    refine (HD.out _).mono ?_
    rintro e w' ⟨rfl, rfl⟩
    go_wp2_with fail
    go_ret2
    exact ⟨rfl, rfl⟩
  · have hf : powB a = false := by simpa using hp
    have hv : upV n a = 0 := if_neg hp
    have hb : upB n a = false := if_neg hp
    rw [hv, hb]
    rw [hf] at hpw
    have HW := Lib.hid hpw
    clear hpw hv hb hp hf
    go_enter Try.func22, Try.ntmps22
    go_wp2_with fail
    refine (HW.out _).mono ?_
    rintro e w' ⟨rfl, rfl⟩
    go_wp2_with fail
    go_ret2
    exact ⟨rfl, rfl⟩

/-- do some bytes fit, and where -/
def fitB (t e s a : Int) : Bool := decide (upB t a = true ∧ upV t a + s ≤ 18446744073709551615 ∧ s ≠ 0 ∧ upV t a + s ≤ e)
def fitS (t e s a : Int) : Int := if fitB t e s a = true then upV t a else 0
def fitN (t e s a : Int) : Int := if fitB t e s a = true then upV t a + s else 0
def fitE (t e s a : Int) : Int := if fitB t e s a = true then e else 0
def fitP (t e s a : Int) : Int := if fitB t e s a = true then upV t a - t else 0

theorem box_cells (w : World) (x y : Value) (o : Obj) (t : TypeId) : ((w.alloc (.cells #[x, y] t)).alloc o).cell? ⟨w.heap.size, 0, none⟩ = some x ∧ ((w.alloc (.cells #[x, y] t)).alloc o).cell? ⟨w.heap.size, 1, none⟩ = some y := by
  constructor
  · rw [World.cell?_alloc_past _ _ _ (by simp), World.cell?_alloc_at _ _ _ _ rfl]; rfl
  · rw [World.cell?_alloc_past _ _ _ (by simp), World.cell?_alloc_at _ _ _ _ rfl]; rfl

def FitEq (t e s a v n x p : Int) (b : Bool) : Prop := fitS t e s a = v ∧ fitN t e s a = n ∧ fitE t e s a = x ∧ fitP t e s a = p ∧ fitB t e s a = b
theorem fit_no {t e s a : Int} (h : ¬ (upB t a = true ∧ upV t a + s ≤ 18446744073709551615 ∧ s ≠ 0 ∧ upV t a + s ≤ e)) : FitEq t e s a 0 0 0 0 false := by
  have hb : fitB t e s a = false := decide_eq_false h
  have hn : ¬ fitB t e s a = true := by rw [hb]; decide
  exact ⟨if_neg hn, if_neg hn, if_neg hn, if_neg hn, hb⟩
theorem fit_yes {t e s a : Int} (h : upB t a = true ∧ upV t a + s ≤ 18446744073709551615 ∧ s ≠ 0 ∧ upV t a + s ≤ e) : FitEq t e s a (upV t a) (upV t a + s) e (upV t a - t) true := by
  have hb : fitB t e s a = true := decide_eq_true h
  exact ⟨if_pos hb, if_pos hb, if_pos hb, if_pos hb, hb⟩
theorem up_above {t a : Int} (t0 : 0 ≤ t) (a0 : 0 ≤ a) (h : upB t a = true) : t ≤ upV t a := by
  by_cases hp : powB a = true
  · by_cases ha : a = 0
    · rw [ha, powB_zero] at hp; exact absurd hp (by decide)
    · exact (up_spec t0 (by omega) hp h).2.1
  · unfold upB at h; rw [if_neg hp] at h; exact absurd h (by decide)

set_option maxHeartbeats 2000000 in
theorem fit_any (t e s a : Int) (w : World) (t0 : 0 ≤ t) (t1 : t ≤ 18446744073709551615) (e0 : 0 ≤ e) (e1 : e ≤ 18446744073709551615) (s0 : 0 ≤ s) (s1 : s ≤ 18446744073709551615)
    (a0 : 0 ≤ a) (a1 : a ≤ 18446744073709551615) :
    Calls Try.prog 31 #[.agg #[.int .u64 t, .int .u64 e], .int .u64 s, .int .u64 a] w fun r w' =>
      r = .returned (.tuple #[.int .u64 (fitS t e s a), .agg #[.int .u64 (fitN t e s a), .int .u64 (fitE t e s a)], .int .u64 (fitP t e s a), .bool (fitB t e s a)]) ∧ Below w.heap.size w w' := by
  have hup := fun w => up_any t a w t0 t1 a0 a1
  obtain ⟨u0, u1⟩ := up_range t0 t1 a0
  have had := fun w => add_any (upV t a) s w u0 u1 s0 s1
  by_cases c1 : upB t a = true
  · by_cases c2 : upV t a + s ≤ 18446744073709551615
    · by_cases c3 : s = 0
      · have HR : Hid (FitEq t e s a 0 0 0 0 false) := fit_no (fun h => h.2.2.1 c3)
        rw [show addV (upV t a) s = upV t a + s from if_pos c2, show addB (upV t a) s = true from decide_eq_true c2] at had
        rw [c1] at hup
        have hs0 : (s == 0) = true := by simpa using c3
        clear c1 c3
        generalize upV t a = u at *
        have HU := Lib.hid hup
        have HD := Lib.hid had
        clear hup had
        go_enter Try.func31, Try.ntmps31
        go_wp2_with fail
        refine (HU.out _).mono ?_
        rintro r w' ⟨rfl, rfl⟩
        go_wp2_with fail
        refine (HD.out _).mono ?_
        rintro r w' ⟨rfl, rfl⟩
        go_wp2_with fail
        refine bodyPost_ret (v := .tuple #[.int .u64 0, .agg #[.int .u64 0, .int .u64 0], .int .u64 0, .bool false]) ?_ rfl ?_
        · simp [results, Try.results31, go_sem]
        · exact ⟨by rw [HR.out.1, HR.out.2.1, HR.out.2.2.1, HR.out.2.2.2.1, HR.out.2.2.2.2], by repeat (first | exact Below.refl _ _ | refine Below.setCell ?_ (by simp) _ | refine Below.alloc ?_ (by simp) _ | refine Below.drew ?_)⟩
      · by_cases c4 : upV t a + s ≤ e
        · have HR : Hid (FitEq t e s a (upV t a) (upV t a + s) e (upV t a - t) true) := fit_yes ⟨c1, c2, c3, c4⟩
          rw [show addV (upV t a) s = upV t a + s from if_pos c2, show addB (upV t a) s = true from decide_eq_true c2] at had
          have hle := up_above t0 a0 c1
          rw [c1] at hup
          have hs0 : (s == 0) = false := by simpa using c3
          have hd4 : ¬ e < upV t a + s := by omega
          clear c1 c3 c4
          generalize upV t a = u at *
          have HU := Lib.hid hup
          have HD := Lib.hid had
          clear hup had
          go_enter Try.func31, Try.ntmps31
          go_wp2_with fail
          refine (HU.out _).mono ?_
          rintro r w' ⟨rfl, rfl⟩
          go_wp2_with fail
          refine (HD.out _).mono ?_
          rintro r w' ⟨rfl, rfl⟩
          go_wp2_with fail
          go_region
          all_goals (try go_wp2)
          all_goals refine bodyPost_ret (v := .tuple #[.int .u64 u, .agg #[.int .u64 (u + s), .int .u64 e], .int .u64 (u - t), .bool true]) ?_ rfl ?_
          · simp [results, Try.results31, go_sem]
          · exact ⟨by rw [HR.out.1, HR.out.2.1, HR.out.2.2.1, HR.out.2.2.2.1, HR.out.2.2.2.2], by repeat (first | exact Below.refl _ _ | refine Below.setCell ?_ (by simp) _ | refine Below.alloc ?_ (by simp) _ | refine Below.drew ?_)⟩
        · have HR : Hid (FitEq t e s a 0 0 0 0 false) := fit_no (fun h => c4 h.2.2.2)
          rw [show addV (upV t a) s = upV t a + s from if_pos c2, show addB (upV t a) s = true from decide_eq_true c2] at had
          rw [c1] at hup
          have hs0 : (s == 0) = false := by simpa using c3
          have hd4 : e < upV t a + s := by omega
          clear c1 c3 c4
          generalize upV t a = u at *
          have HU := Lib.hid hup
          have HD := Lib.hid had
          clear hup had
          go_enter Try.func31, Try.ntmps31
          go_wp2_with fail
          refine (HU.out _).mono ?_
          rintro r w' ⟨rfl, rfl⟩
          go_wp2_with fail
          refine (HD.out _).mono ?_
          rintro r w' ⟨rfl, rfl⟩
          go_wp2_with fail
          refine bodyPost_ret (v := .tuple #[.int .u64 0, .agg #[.int .u64 0, .int .u64 0], .int .u64 0, .bool false]) ?_ rfl ?_
          · simp [results, Try.results31, go_sem]
          · exact ⟨by rw [HR.out.1, HR.out.2.1, HR.out.2.2.1, HR.out.2.2.2.1, HR.out.2.2.2.2], by repeat (first | exact Below.refl _ _ | refine Below.setCell ?_ (by simp) _ | refine Below.alloc ?_ (by simp) _ | refine Below.drew ?_)⟩
    · have HR : Hid (FitEq t e s a 0 0 0 0 false) := fit_no (fun h => c2 h.2.1)
      rw [show addV (upV t a) s = 0 from if_neg c2, show addB (upV t a) s = false from decide_eq_false c2] at had
      rw [c1] at hup
      clear c1
      generalize upV t a = u at *
      have HU := Lib.hid hup
      have HD := Lib.hid had
      clear hup had
      go_enter Try.func31, Try.ntmps31
      go_wp2_with fail
      refine (HU.out _).mono ?_
      rintro r w' ⟨rfl, rfl⟩
      go_wp2_with fail
      refine (HD.out _).mono ?_
      rintro r w' ⟨rfl, rfl⟩
      go_wp2_with fail
      refine bodyPost_ret (v := .tuple #[.int .u64 0, .agg #[.int .u64 0, .int .u64 0], .int .u64 0, .bool false]) ?_ rfl ?_
      · simp [results, Try.results31, go_sem]
      · exact ⟨by rw [HR.out.1, HR.out.2.1, HR.out.2.2.1, HR.out.2.2.2.1, HR.out.2.2.2.2], by repeat (first | exact Below.refl _ _ | refine Below.setCell ?_ (by simp) _ | refine Below.alloc ?_ (by simp) _ | refine Below.drew ?_)⟩
  · have HR : Hid (FitEq t e s a 0 0 0 0 false) := fit_no (fun h => c1 h.1)
    have c1' : upB t a = false := by simpa using c1
    rw [c1'] at hup
    clear c1 c1'
    generalize upV t a = u at *
    generalize addV u s = v at *
    generalize addB u s = b at *
    have HU := Lib.hid hup
    have HD := Lib.hid had
    clear hup had
    go_enter Try.func31, Try.ntmps31
    go_wp2_with fail
    refine (HU.out _).mono ?_
    rintro r w' ⟨rfl, rfl⟩
    go_wp2_with fail
    refine (HD.out _).mono ?_
    rintro r w' ⟨rfl, rfl⟩
    go_wp2_with fail
    refine bodyPost_ret (v := .tuple #[.int .u64 0, .agg #[.int .u64 0, .int .u64 0], .int .u64 0, .bool false]) ?_ rfl ?_
    · simp [results, Try.results31, go_sem]
    · exact ⟨by rw [HR.out.1, HR.out.2.1, HR.out.2.2.1, HR.out.2.2.2.1, HR.out.2.2.2.2], by repeat (first | exact Below.refl _ _ | refine Below.setCell ?_ (by simp) _ | refine Below.alloc ?_ (by simp) _ | refine Below.drew ?_)⟩

end Go.Proofs.Ytaodlkpknipkmaa.Hand
