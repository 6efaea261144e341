/- Acts on a space, in a row: whether they are few, and that they leave a space of as many pages. -/
import Derived.Test.YtfdhjeeaigfmfaaSpaceAwake
import Derived.Test.YtfdhjeeaigfmfaaIn3
import Derived.DataElems
namespace Go.Proofs.Ytfdhjeeaigfmfaa.Sp
open Go.RowKit Go.WideMaps Go.Proofs.Ytfdhjeeaigfmfaa.In
set_option linter.unusedVariables false

theorem add_fld (ad : Addr) (m i : Nat) (h : 0 < i) : ad.add (m + i) = ⟨(ad.add m).block, (ad.add m).off + i, none⟩ := by
  unfold Addr.add
  rw [if_neg (by omega)]
  by_cases hm : m = 0
  · rw [if_pos hm]; subst hm; simp
  · rw [if_neg hm]; simp; omega

theorem act3_cells {w : World} {A : Option Addr} {l : List Act3} (h : Lst KAct3 5 w A l) {k : Nat} (hk : k < l.length) :
    ∃ ad, A = some ad ∧ w.cell? (ad.add (k * 5)) = some (.int .u8 l[k].do_) ∧ w.cell? ⟨(ad.add (k * 5)).block, (ad.add (k * 5)).off + 1, none⟩ = some (.int .u64 l[k].at_) ∧ w.cell? ⟨(ad.add (k * 5)).block, (ad.add (k * 5)).off + 2, none⟩ = some (.int .u64 l[k].from_) ∧
      w.cell? ⟨(ad.add (k * 5)).block, (ad.add (k * 5)).off + 3, none⟩ = some (.int .u64 l[k].n) ∧ w.cell? ⟨(ad.add (k * 5)).block, (ad.add (k * 5)).off + 4, none⟩ = some (.slice l[k].A l[k].b.length l[k].c) ∧ l[k].b.length ≤ l[k].c ∧ l[k].b.length ≤ maxLen ∧ Lst (KInt .u8) 1 w l[k].A l[k].b := by
  obtain ⟨ad, c, hA, hc, ⟨rfl, h1, h2, h3⟩, hcell⟩ := h k _ (List.getElem?_eq_getElem hk)
  refine ⟨ad, hA, hcell 0 _ rfl, ?_, ?_, ?_, ?_, h1, h2, h3⟩
  · rw [← add_fld _ _ 1 (by omega)]; exact hcell 1 _ rfl
  · rw [← add_fld _ _ 2 (by omega)]; exact hcell 2 _ rfl
  · rw [← add_fld _ _ 3 (by omega)]; exact hcell 3 _ rfl
  · rw [← add_fld _ _ 4 (by omega)]; exact hcell 4 _ rfl

def ABool (w : World) (e : Ending) (w' : World) : Prop := (∃ b : Bool, e = .returned (.bool b)) ∧ w = w'

set_option maxRecDepth 100000 in
set_option maxHeartbeats 4000000 in
theorem few3_any (A : Option Addr) (n c : Nat) (l : List Act3) (w : World) (hl : l.length = n) (hn : n ≤ 9223372036854775807) (h : Lst KAct3 5 w A l) :
    Calls Try.prog 16 #[.slice A n c] w (ABool w) := by
  have HL := Lib.hid hl
  have H := Lib.hid h
  clear hl h
  go_enter Try.func16, Try.ntmps16
  go_wp2
  go_loop [3] (fun i => ∃ k : Nat, k ≤ n ∧ i = .int .i64 (k : Int)) (fun i => n - (intOf i).toNat)
  case atStart => exact ⟨0, Nat.zero_le _, rfl⟩
  case round =>
    obtain ⟨k, hk, rfl⟩ := hrel
    by_cases hlt : k < n
    · have hlti : (k : Int) < (n : Int) := by omega
      obtain ⟨ad, rfl, c0, c1, c2, c3, c4, c5, c6, c7⟩ := act3_cells H.out (k := k) (by rw [HL.out]; exact hlt)
      unfold maxLen at c6
      clear c7
      go_wp2
      all_goals first
        | (go_ret; exact ⟨⟨_, rfl⟩, rfl⟩)
        | (go_round
           case rel => exact ⟨k + 1, by omega, by go_num⟩
           case measure => simp [intOf]; omega)
    · have hlti : ¬ (k : Int) < (n : Int) := by omega
      go_wp2
      go_ret
      exact ⟨⟨_, rfl⟩, rfl⟩

/-- What came in is as it was. -/
theorem lst_below {α : Type} {K : World → α → List Value → Prop} {sz : Nat} {w w' : World} {A : Option Addr} {l : List α} (h : Lst K sz w A l) (hK : ∀ x cs, K w x cs → K w' x cs) (hb : Below w.heap.size w w') : Lst K sz w' A l := by
  intro j p hj
  obtain ⟨ad, c, h1, h2, h3, h4⟩ := h j p hj
  exact ⟨ad, c, h1, h2, hK _ _ h3, fun i u hu => (Chg.of_below (S := fun _ => False) hb).cell (h4 i u hu) (fun h => h)⟩
theorem lst_ints {k : IntKind} {w w' : World} {A : Option Addr} {l : List Int} (h : Lst (KInt k) 1 w A l) (hb : Below w.heap.size w w') : Lst (KInt k) 1 w' A l := lst_below h (fun _ _ h => h) hb
theorem lst_acts {w w' : World} {A : Option Addr} {l : List Act3} (h : Lst KAct3 5 w A l) (hb : Below w.heap.size w w') : Lst KAct3 5 w' A l :=
  lst_below h (fun x cs hx => ⟨hx.1, hx.2.1, hx.2.2.1, lst_ints hx.2.2.2 hb⟩) hb
/-- Bytes that came in may be stored. -/
theorem lst_srcW {w0 W : World} {A : Option Addr} {l : List Int} (h : Lst (KInt .u8) 1 w0 A l) (hb : Below w0.heap.size w0 W) (hv : ∀ v ∈ l, wfInt .u8 v) : SrcW w0 W A l := by
  refine ⟨fun h0 => ?_, fun v hv2 => ?_⟩
  · obtain ⟨ad, c, rfl, _, hk, hc⟩ := h 0 _ (List.getElem?_eq_getElem h0)
    have hcell : ∀ j, j < l.length → w0.cell? (ad.add j) = some (.int .u8 (l.getD j 0)) := by
      intro j hj
      obtain ⟨ad2, c2, e2, _, hk2, hc2⟩ := h j _ (List.getElem?_eq_getElem hj)
      obtain rfl := Option.some.inj e2
      have hk3 : c2 = [.int .u8 l[j]] := hk2
      subst hk3
      have := hc2 0 _ rfl
      rw [Nat.mul_one, Nat.add_zero] at this
      rw [this, List.getD_eq_getElem?_getD, List.getElem?_eq_getElem hj]
      rfl
    have hlt : ∀ j, (ad.add j).block = ad.block := fun j => by unfold Addr.add; split <;> rfl
    have hbk : ad.block < w0.heap.size := by
      have := World.block_lt_of_cell? w0 _ (hcell 0 h0)
      rwa [hlt] at this
    exact ⟨ad, rfl, fun j hj => (Chg.of_below (S := fun _ => False) hb).cell (hcell j hj) (fun h => h), .inl hbk⟩
  · have := hv v hv2
    unfold wfInt at this
    simp [Lit.wf, IntKind.min, IntKind.max, IntKind.signed, IntKind.bits] at this
    omega

/-- Some call of a method: the space has as many pages behind it. -/
def Did (w0 W : World) (g : Nat) (s : SpS) (e : Ending) (w' : World) : Prop := (∃ v, e = .returned v) ∧ ∃ s', s'.pages = s.pages ∧ St w0 w' g s' ∧ KpT W w'
theorem Did.of {w0 W : World} {g : Nat} {s s' : SpS} {e : Ending} {w' : World} {v : Value} (he : e = .returned v) (hp : s'.pages = s.pages) (h : St w0 w' g s') (hk : KpT W w') : Did w0 W g s e w' := ⟨⟨v, he⟩, s', hp, h, hk⟩
theorem fits_cases (size t n most : Int) : (fitsI size t n most = 0 ∧ t + n ≤ size ∧ n ≤ most) ∨ fitsI size t n most ≠ 0 := by
  unfold fitsI
  by_cases c : t + n ≤ size
  · by_cases d : most < n
    · right; rw [if_pos c, if_pos d]; decide
    · left; rw [if_pos c, if_neg d]; omega
  · right; rw [if_neg c]; decide
theorem St.load_any {w0 W : World} {g : Nat} {s : SpS} (hs : St w0 W g s) (t n : Int) (t0 : 0 ≤ t) (n0 : 0 ≤ n) : Calls Try.prog 20 #[.pointer (some ⟨g, 0, none⟩), .int .u64 t, .int .u64 n] W (Did w0 W g s) := by
  rcases fits_cases ((s.pages : Int) * 4096) t n 1048576 with ⟨_, h1, h2⟩ | h
  · refine (hs.load t n t0 n0 h1 h2).mono ?_
    rintro e w' ⟨r, he, hr, hrow, hs', hk⟩
    exact by refine ⟨⟨_, he⟩, _, ?_, hs', hk⟩; rfl
  · refine (hs.load_err t n _ t0 n0 rfl h).mono ?_
    rintro e w' ⟨he, rfl⟩
    exact ⟨⟨_, he⟩, _, rfl, hs, KpT.refl _⟩
theorem St.store_any {w0 W : World} {g : Nat} {s : SpS} (hs : St w0 W g s) (t : Int) (Ao : Option Addr) (c : Nat) (l : List Int) (hnc : l.length ≤ c) (hr : SrcW w0 W Ao l) (t0 : 0 ≤ t) (hn : l.length ≤ 9223372036854775807) : Calls Try.prog 22 #[.pointer (some ⟨g, 0, none⟩), .int .u64 t, .slice Ao l.length c] W (Did w0 W g s) := by
  rcases fits_cases ((s.pages : Int) * 4096) t l.length 1048576 with ⟨_, h1, h2⟩ | h
  · refine (hs.store t Ao l.length c l rfl hnc hr t0 h1 (by omega)).mono ?_
    rintro e w' ⟨he, hs', hk⟩
    exact by refine ⟨⟨_, he⟩, _, ?_, hs', hk⟩; rfl
  · refine (hs.store_err t _ Ao l.length c t0 hn rfl h).mono ?_
    rintro e w' ⟨he, rfl⟩
    exact ⟨⟨_, he⟩, _, rfl, hs, KpT.refl _⟩
theorem St.zero_any {w0 W : World} {g : Nat} {s : SpS} (hs : St w0 W g s) (t n : Int) (t0 : 0 ≤ t) (n0 : 0 ≤ n) : Calls Try.prog 24 #[.pointer (some ⟨g, 0, none⟩), .int .u64 t, .int .u64 n] W (Did w0 W g s) := by
  rcases fits_cases ((s.pages : Int) * 4096) t n n with ⟨_, h1, h2⟩ | h
  · refine (hs.zero t n t0 n0 h1).mono ?_
    rintro e w' ⟨he, hs', hk⟩
    exact by refine ⟨⟨_, he⟩, _, ?_, hs', hk⟩; rfl
  · refine (hs.zero_err t n _ t0 n0 rfl h).mono ?_
    rintro e w' ⟨he, rfl⟩
    exact ⟨⟨_, he⟩, _, rfl, hs, KpT.refl _⟩
theorem St.copy_any {w0 W : World} {g : Nat} {s : SpS} (hs : St w0 W g s) (t f n : Int) (t0 : 0 ≤ t) (f0 : 0 ≤ f) (n0 : 0 ≤ n) : Calls Try.prog 26 #[.pointer (some ⟨g, 0, none⟩), .int .u64 t, .int .u64 f, .int .u64 n] W (Did w0 W g s) := by
  rcases fits_cases ((s.pages : Int) * 4096) t n n with ⟨h0, h1, h2⟩ | h
  · rcases fits_cases ((s.pages : Int) * 4096) f n 1048576 with ⟨_, h3, h4⟩ | h'
    · refine (hs.copy t f n t0 f0 n0 h1 h3 h4).mono ?_
      rintro e w' ⟨he, hs', hk⟩
      exact by refine ⟨⟨_, he⟩, _, ?_, hs', hk⟩; rfl
    · refine (hs.copy_err2 t f n _ t0 f0 n0 h0 rfl h').mono ?_
      rintro e w' ⟨he, rfl⟩
      exact ⟨⟨_, he⟩, _, rfl, hs, KpT.refl _⟩
  · refine (hs.copy_err1 t f n _ t0 n0 rfl h).mono ?_
    rintro e w' ⟨he, rfl⟩
    exact ⟨⟨_, he⟩, _, rfl, hs, KpT.refl _⟩

def Played (w0 W : World) (g : Nat) (s : SpS) (e : Ending) (w' : World) : Prop := e = .returned (.tuple #[]) ∧ ∃ s', s'.pages = s.pages ∧ St w0 w' g s' ∧ KpT W w'

theorem u64_of {a : Int} (h : wfInt .u64 a) : 0 ≤ a ∧ a ≤ 18446744073709551615 := by
  unfold wfInt at h
  simp [Lit.wf, IntKind.min, IntKind.max, IntKind.signed, IntKind.bits] at h
  omega

end Go.Proofs.Ytfdhjeeaigfmfaa.Sp
