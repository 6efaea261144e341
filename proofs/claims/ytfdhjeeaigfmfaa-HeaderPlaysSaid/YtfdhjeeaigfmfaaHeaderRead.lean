/- header.Read. -/
import Derived.Test.YtfdhjeeaigfmfaaHeaderWrite
namespace Go.Proofs.Ytfdhjeeaigfmfaa.Sp
open Go.RowKit Go.WideMaps Go.Proofs.Ytfdhjeeaigfmfaa.In Go.Proofs.Ytfdhjeeaigfmfaa.Plain
set_option linter.unusedVariables false
set_option linter.unusedSimpArgs false

/-- What bytes tell. -/
def ofL (l : List Int) : Hd := ⟨num ((l.drop 8).take 4), num ((l.drop 12).take 4), num ((l.drop 16).take 8), num ((l.drop 24).take 8)⟩
def isHd (l : List Int) : Prop := l.take 8 = magicL ∧ hRight (ofL l)

set_option maxRecDepth 100000 in
set_option maxHeartbeats 4000000 in
theorem hReadC_any (W : World) (bx r : Nat) (l : List Int) (t k : Nat) (hbx : W.heap[bx]? = some (.cells #[.slice (some ⟨r, 0, none⟩) 32 32] 32 (0, 0))) (hr : Row W r l) (hl : l.length = 32) (hb : Bs l) (hk : wideP (k : Int)) (ht : t + k ≤ 32) :
    Calls Try.prog 82 #[.int .i64 (t : Int), .int .i64 (k : Int), .pointer (some ⟨bx, 0, none⟩)] W fun e w' => e = .returned (.int .u64 (num ((l.drop t).take k))) ∧ W = w' := by
  have hc := cell_one hbx
  have HG := Lib.hid (wGet_ok r 0 32 32 t k l W hl hk ht (by decide) hb (fun j hj => by rw [Nat.zero_add]; exact hr.cell (by omega)))
  clear hbx hr hl hb hk ht
  go_enter Try.func82, Try.ntmps82
  go_wp2_with fail
  refine HG.out.mono ?_
  rintro e w1 ⟨rfl, rfl⟩
  go_wp2_with fail
  go_ret
  exact ⟨rfl, rfl⟩

theorem strOfNums_inj : ∀ (a b : List Int), Bs a → Bs b → strOfNums a = strOfNums b → a = b := by
  intro a b ha hb h
  have h1 : a.map (fun v => UInt8.ofNat v.toNat) = b.map (fun v => UInt8.ofNat v.toNat) := by
    have := congrArg (fun s => s.data.toList) h
    simpa [strOfNums_data] using this
  apply List.ext_getElem
  · have := congrArg List.length h1; simpa using this
  · intro i h2 h3
    have h4 : (a.map (fun v => UInt8.ofNat v.toNat))[i]'(by simpa using h2) = (b.map (fun v => UInt8.ofNat v.toNat))[i]'(by simpa using h3) := by simp only [h1]
    simp only [List.getElem_map] at h4
    have h5 := ha _ (List.getElem_mem h2)
    have h6 := hb _ (List.getElem_mem h3)
    have h7 := congrArg UInt8.toNat h4
    rw [UInt8.toNat_ofNat', UInt8.toNat_ofNat'] at h7
    omega
theorem str_ne {S T : ByteArray} (h : S ≠ T) : (S == T) = false := by
  cases S with
  | mk a =>
    cases T with
    | mk b =>
      show (a == b) = false
      rw [beq_eq_false_iff_ne]
      exact fun e => h (by rw [e])
theorem str_ne_list {S : ByteArray} (h : S ≠ ⟨#[115, 116, 101, 97, 100, 105, 110, 103]⟩) : ¬ S.toList = [115, 116, 101, 97, 100, 105, 110, 103] := by
  rw [ByteArray.toList_eq]
  intro e
  apply h
  cases S with
  | mk a =>
    have : a = #[115, 116, 101, 97, 100, 105, 110, 103] := Array.toList_inj.1 e
    rw [this]
theorem box4f {w : World} {b t : Nat} {x y z u : Value} (h : w.heap[b]? = some (.cells #[x, y, z, u] t (0, 0))) :
    (w.cell? ⟨b, 0, none⟩ = some x ∧ w.cell? ⟨b, 1, none⟩ = some y ∧ w.cell? ⟨b, 2, none⟩ = some z ∧ w.cell? ⟨b, 3, none⟩ = some u) ∧ ∀ i, w.frozen? ⟨b, i, none⟩ = false := by
  refine ⟨by simp [World.cell?, h], fun i => by simp [World.frozen?, h]⟩
theorem box4_set {W : World} {b t : Nat} {x y z u x' y' z' u' : Value} (h : W.heap[b]? = some (.cells #[x, y, z, u] t (0, 0))) : ((((W.setCell ⟨b, 0, none⟩ x').setCell ⟨b, 1, none⟩ y').setCell ⟨b, 2, none⟩ z').setCell ⟨b, 3, none⟩ u').heap[b]? = some (.cells #[x', y', z', u'] t (0, 0)) := by
  simp [World.setCell, Array.getElem?_modify, h]
theorem magic_str : strOfNums magicL = ⟨#[115, 116, 101, 97, 100, 105, 110, 103]⟩ := rfl

set_option maxRecDepth 100000 in
set_option maxHeartbeats 4000000 in
theorem hRead_ok (p : Option Addr) (page ad : Int) (l : List Int) (W : World) (Q : World → Prop) (hl : l.length = 32) (hbs : Bs l)
    (hA : ∀ W1, Below W.heap.size W W1 → Calls Try.prog 79 #[.pointer p, .int .i64 page] W1 fun e w' => e = .returned (.int .u64 ad) ∧ W1 = w')
    (hL : ∀ W1, Below W.heap.size W W1 → Calls Try.prog 20 #[.pointer p, .int .u64 ad, .int .u64 32] W1 fun e w' => ∃ r : Nat, KpT W1 w' ∧ W1.heap.size ≤ w'.heap.size ∧ e = .returned (.tuple #[.slice (some ⟨r, 0, none⟩) 32 32, .int .i64 0]) ∧ Row w' r l ∧ Q w')
    (hQ : ∀ w w', Q w → Below w.heap.size w w' → Q w') (hQ2 : ∀ (w : World) (b o : Nat) (x : Value) (cs : Array Value), Q w → w.heap[b]? = some (.cells cs 82 (0, 0)) → W.heap.size ≤ b → Q (w.setCell ⟨b, o, none⟩ x)) (v : Value) (c : Int) (hd : (isHd l ∧ v = hdV (ofL l) ∧ c = 0) ∨ (¬ isHd l ∧ v = hdV ⟨0, 0, 0, 0⟩ ∧ c = 5)) :
    Calls Try.prog 52 #[.pointer p, .int .i64 page] W fun e w' => e = .returned (.tuple #[v, .int .i64 c]) ∧ Q w' := by
  have HD := Lib.hid hd
  clear hd
  have HA := Lib.hid hA
  have HL := Lib.hid hL
  clear hA hL
  go_enter Try.func52, Try.ntmps52
  go_wp2_with fail
  refine (HA.out _ ((Below.refl _ _).alloc (Nat.le_refl _) _)).mono ?_
  rintro e w1 ⟨rfl, rfl⟩
  go_wp2_with fail
  refine (HL.out _ ((Below.refl _ _).alloc (Nat.le_refl _) _)).mono ?_
  rintro e w1 ⟨r, hk1, hsz1, rfl, hrow, hq⟩
  have e1 := hk1.2 _ _ _ _ (al_new rfl) (by decide) (by decide)
  go_wp2_with fail
  have HC := Lib.hid (fun (t k : Nat) (hk : wideP (k : Int)) (ht : t + k ≤ 32) => hReadC_any (w1.alloc (.cells #[.slice (some ⟨r, 0, none⟩) 32 32] 32)) w1.heap.size r l t k (al_new rfl) (hrow.al _) hl hbs hk ht)
  have hrg : ∀ t k : Nat, t + k ≤ 32 → k ≤ 8 → 0 ≤ num ((l.drop t).take k) ∧ num ((l.drop t).take k) < 256 ^ k := fun t k h1 h2 => by
    have h3 := num_range (bs_take (bs_drop hbs t) k)
    have h4 : ((l.drop t).take k).length = k := by rw [List.length_take, List.length_drop, hl]; omega
    rwa [h4] at h3
  obtain ⟨m1, m2⟩ := hrg 8 4 (by decide) (by decide)
  obtain ⟨m3, m4⟩ := hrg 12 4 (by decide) (by decide)
  clear hrg
  have HF : ofL l = ⟨num ((l.drop 8).take 4), num ((l.drop 12).take 4), num ((l.drop 16).take 8), num ((l.drop 24).take 8)⟩ := rfl
  have C1 := Lib.hid (HC.out 8 4 (by unfold wideP; omega) (by decide))
  have C2 := Lib.hid (HC.out 12 4 (by unfold wideP; omega) (by decide))
  have C3 := Lib.hid (HC.out 16 8 (by unfold wideP; omega) (by decide))
  have C4 := Lib.hid (HC.out 24 8 (by unfold wideP; omega) (by decide))
  obtain ⟨n1, g1⟩ : ∃ n, num ((l.drop 8).take 4) = n := ⟨_, rfl⟩
  obtain ⟨n2, g2⟩ : ∃ n, num ((l.drop 12).take 4) = n := ⟨_, rfl⟩
  obtain ⟨n3, g3⟩ : ∃ n, num ((l.drop 16).take 8) = n := ⟨_, rfl⟩
  obtain ⟨n4, g4⟩ : ∃ n, num ((l.drop 24).take 8) = n := ⟨_, rfl⟩
  rw [g1] at C1 m1 m2 HF
  rw [g2] at C2 m3 m4 HF
  rw [g3] at C3 HF
  rw [g4] at C4 HF
  have hw1 : wrap64 n1 = n1 := wrap_in (by omega) (by omega)
  have hw2 : wrap64 n2 = n2 := wrap_in (by omega) (by omega)
  have HFH := Lib.hid HF
  have HRW := Lib.hid (And.intro hrow hl)
  have HQ1 := Lib.hid hq
  have HLH := Lib.hid (Array.getElem?_eq_some_iff.1 e1).1
  clear g1 g2 g3 g4 m1 m2 m3 m4 HF HC hk1 hrow hq
  refine C1.out.mono ?_
  rintro e w2 ⟨rfl, rfl⟩
  go_wp2_with fail
  refine C2.out.mono ?_
  rintro e w2 ⟨rfl, rfl⟩
  go_wp2_with fail
  refine C3.out.mono ?_
  rintro e w2 ⟨rfl, rfl⟩
  go_wp2_with fail
  refine C4.out.mono ?_
  rintro e w2 ⟨rfl, rfl⟩
  obtain ⟨S, hS⟩ : ∃ S, strOfNums (l.take 8) = S := ⟨_, rfl⟩
  have hcv : ∀ o1 o2 : Obj, (convert 32 9 (.slice (some ⟨r, 0, none⟩) 8 32)).run Try.prog ((w1.alloc o1).alloc o2) = .ok (.string S) ((w1.alloc o1).alloc o2) := fun o1 o2 => by
    have := ((HRW.out.1.al o1).al o2).string 0 8 32 (by rw [HRW.out.2]; decide)
    rw [List.drop_zero, hS] at this
    exact this
  have HBE : RowKit.Hid (∀ o1 o2 : Obj, Below w1.heap.size w1 ((w1.alloc o1).alloc o2)) := fun o1 o2 => ((Below.refl _ _).alloc (Nat.le_refl _) o1).alloc (by simp) o2
  clear C1 C2 C3 C4
  have HE1 := Lib.hid e1
  have HFIN : RowKit.Hid (∀ (w9 : World), Below w1.heap.size w1 w9 → ∀ x y z u : Value, Q ((((w9.setCell ⟨W.heap.size, 0, none⟩ x).setCell ⟨W.heap.size, 1, none⟩ y).setCell ⟨W.heap.size, 2, none⟩ z).setCell ⟨W.heap.size, 3, none⟩ u)) := fun w9 hb x y z u => by
    have k0 := (hb.block _ (Array.getElem?_eq_some_iff.1 HE1.out).1).trans HE1.out
    have g0 := hQ w1 w9 HQ1.out hb
    have g1 := hQ2 _ _ 0 x _ g0 k0 (Nat.le_refl _)
    have k1 : (w9.setCell ⟨W.heap.size, 0, none⟩ x).heap[W.heap.size]? = some (.cells #[x, .int .i64 0, .int .u64 0, .int .u64 0] 82 (0, 0)) := by simp [World.setCell, Array.getElem?_modify, k0]
    have g2 := hQ2 _ _ 1 y _ g1 k1 (Nat.le_refl _)
    have k2 : ((w9.setCell ⟨W.heap.size, 0, none⟩ x).setCell ⟨W.heap.size, 1, none⟩ y).heap[W.heap.size]? = some (.cells #[x, y, .int .u64 0, .int .u64 0] 82 (0, 0)) := by simp [World.setCell, Array.getElem?_modify, k0]
    have g3 := hQ2 _ _ 2 z _ g2 k2 (Nat.le_refl _)
    have k3 : (((w9.setCell ⟨W.heap.size, 0, none⟩ x).setCell ⟨W.heap.size, 1, none⟩ y).setCell ⟨W.heap.size, 2, none⟩ z).heap[W.heap.size]? = some (.cells #[x, y, z, .int .u64 0] 82 (0, 0)) := by simp [World.setCell, Array.getElem?_modify, k0]
    exact hQ2 _ _ 3 u _ g3 k3 (Nat.le_refl _)
  obtain ⟨mn, hmn⟩ : ∃ mn : Nat, w1.heap.size = mn := ⟨_, rfl⟩
  have hbl : W.heap.size < mn := by rw [← hmn]; exact HLH.out
  by_cases hm : l.take 8 = magicL
  · rw [hm, magic_str] at hS
    subst hS
    have HM := Lib.hid hm
    clear hm hmn hbl
    go_wp2_with fail
    refine (hright_any ⟨n1, n2, n3, n4⟩ _).mono ?_
    by_cases hr : hRight ⟨n1, n2, n3, n4⟩
    · rw [decide_eq_true hr]
      rintro e w3 ⟨rfl, hb3⟩
      have hd := HD.out
      have hi : isHd l := ⟨HM.out, by rw [HFH.out]; exact hr⟩
      rcases hd with ⟨_, rfl, rfl⟩ | ⟨hn, _⟩
      case inr => exact absurd hi hn
      clear hi hr
      have hb4 := (HBE.out _ _).trans (hb3.mono (HBE.out _ _).size)
      have k0 := (hb4.block _ HLH.out).trans HE1.out
      obtain ⟨⟨a0, a1, a2, a3⟩, af⟩ := box4f k0
      have af0 := af 0
      have af1 := af 1
      have af2 := af 2
      have af3 := af 3
      have kh := (hb3.block (w1.heap.size + 1) (by simp)).trans (al_new (by simp))
      obtain ⟨d0, d1, d2, d3⟩ := box4 kh
      have k4 := box4_set (x' := .int .i64 n1) (y' := .int .i64 n2) (z' := .int .u64 n3) (u' := .int .u64 n4) k0
      obtain ⟨m0, m1, m2, m3⟩ := box4 k4
      have HB4 := Lib.hid hb4
      clear hb3 hb4 k0 kh k4 af
      go_wp2_with fail
      refine bodyPost_ret (v := .tuple #[.agg #[.int .i64 n1, .int .i64 n2, .int .u64 n3, .int .u64 n4], .int .i64 0]) ?_ rfl ?_
      · simp [results, Try.results52, go_sem, m0, m1, m2, m3]
      · exact ⟨by rw [HFH.out]; rfl, HFIN.out _ HB4.out _ _ _ _⟩
    · rw [decide_eq_false hr]
      rintro e w3 ⟨rfl, hb3⟩
      have hd := HD.out
      have hi : ¬ isHd l := fun h => hr (by have := h.2; rwa [HFH.out] at this)
      rcases hd with ⟨hn, _⟩ | ⟨_, rfl, rfl⟩
      case inl => exact absurd hn hi
      clear hi hr
      have hb4 := (HBE.out _ _).trans (hb3.mono (HBE.out _ _).size)
      have k0 := (hb4.block _ HLH.out).trans HE1.out
      obtain ⟨⟨a0, a1, a2, a3⟩, af⟩ := box4f k0
      have af0 := af 0
      have af1 := af 1
      have af2 := af 2
      have af3 := af 3
      have k4 := box4_set (x' := .int .i64 0) (y' := .int .i64 0) (z' := .int .u64 0) (u' := .int .u64 0) k0
      obtain ⟨m0, m1, m2, m3⟩ := box4 k4
      have HB4 := Lib.hid hb4
      clear hb3 hb4 k0 k4 af
      go_wp2_with fail
      refine bodyPost_ret (v := .tuple #[.agg #[.int .i64 0, .int .i64 0, .int .u64 0, .int .u64 0], .int .i64 5]) ?_ rfl ?_
      · simp [results, Try.results52, go_sem, m0, m1, m2, m3]
      · exact ⟨rfl, HFIN.out _ HB4.out _ _ _ _⟩
  · have hne : (S == (⟨#[115, 116, 101, 97, 100, 105, 110, 103]⟩ : ByteArray)) = false := by
      rw [← hS, ← magic_str]
      exact str_ne (fun e => hm (strOfNums_inj _ _ (bs_take hbs 8) (by unfold Bs; decide) e))
    have hnl := str_ne_list (fun e => hm (strOfNums_inj _ _ (bs_take hbs 8) (by unfold Bs; decide) (hS.trans (e.trans magic_str.symm))))
    have HM := Lib.hid hm
    have hd := HD.out
    rcases hd with ⟨hi, _⟩ | ⟨_, rfl, rfl⟩
    case inl => exact absurd hi.1 HM.out
    have hb4 := HBE.out (.cells #[.slice (some ⟨r, 0, none⟩) 32 32] 32) (.cells #[.int .i64 n1, .int .i64 n2, .int .u64 n3, .int .u64 n4] 82)
    have k0 := (hb4.block _ HLH.out).trans HE1.out
    obtain ⟨⟨a0, a1, a2, a3⟩, af⟩ := box4f k0
    have af0 := af 0
    have af1 := af 1
    have af2 := af 2
    have af3 := af 3
    have k4 := box4_set (x' := .int .i64 0) (y' := .int .i64 0) (z' := .int .u64 0) (u' := .int .u64 0) k0
    obtain ⟨m0, m1, m2, m3⟩ := box4 k4
    have HB4 := Lib.hid hb4
    clear hm hS hmn hbl hb4 k0 k4 af hne
    go_wp2_with fail
    refine bodyPost_ret (v := .tuple #[.agg #[.int .i64 0, .int .i64 0, .int .u64 0, .int .u64 0], .int .i64 5]) ?_ rfl ?_
    · simp [results, Try.results52, go_sem, m0, m1, m2, m3]
    · exact ⟨rfl, HFIN.out _ HB4.out _ _ _ _⟩
end Go.Proofs.Ytfdhjeeaigfmfaa.Sp
