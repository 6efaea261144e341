/- The reference's space in which something more was stored. -/
import Derived.Test.YtfdhjeeaigfmfaaRefBytes
import Derived.OwnWalk
import Derived.Deep.AppendLies
namespace Go.Proofs.Ytfdhjeeaigfmfaa.Sp
open Go.RowKit Go.WideMaps Go.Proofs.Ytfdhjeeaigfmfaa.In Go.Proofs.Ytfdhjeeaigfmfaa.Plain
set_option linter.unusedVariables false

theorem infoW : (Try.prog.info? 113).map (fun i => (i.zero, i.size, i.bytes)) = some (some (.agg #[.int .u64 0, .int .u64 0, .string ⟨#[]⟩, .bool false]), 4, 40) := by kernel_rfl
theorem LW.one (x : LW) : ∀ u ∈ LW.cells x, u.oneCell' = true := by
  intro u hu
  simp [LW.cells] at hu
  rcases hu with rfl | rfl | rfl | rfl <;> rfl

theorem encL_one (log : List LW) : ∀ u ∈ encL log, u.oneCell' = true := by
  intro u hu
  obtain ⟨x, _, hx⟩ := List.mem_flatMap.1 hu
  exact LW.one x u hx
theorem box3 {w : World} {b t : Nat} {x y z : Value} (h : w.heap[b]? = some (.cells #[x, y, z] t (0, 0))) :
    w.cell? ⟨b, 0, none⟩ = some x ∧ w.cell? ⟨b, 1, none⟩ = some y ∧ w.cell? ⟨b, 2, none⟩ = some z ∧ w.frozen? ⟨b, 1, none⟩ = false ∧ w.frozen? ⟨b, 2, none⟩ = false ∧ w.frozen? ⟨b, 0, none⟩ = false := by
  simp [World.cell?, World.frozen?, h]
theorem box4 {w : World} {b t : Nat} {x y z u : Value} (h : w.heap[b]? = some (.cells #[x, y, z, u] t (0, 0))) :
    w.cell? ⟨b, 0, none⟩ = some x ∧ w.cell? ⟨b, 1, none⟩ = some y ∧ w.cell? ⟨b, 2, none⟩ = some z ∧ w.cell? ⟨b, 3, none⟩ = some u := by
  simp [World.cell?, h]
theorem lit_news (w : World) (x : LW) : ∀ j u, (LW.cells x)[j]? = some u → (w.alloc (.cells #[.int .u64 (x.t : Int), .int .u64 (x.n : Int), .string (strOfNums x.d), .bool x.z] 113)).cell? ((⟨w.heap.size, 0, none⟩ : Addr).add j) = some u := by
  exact World.news_of_block (cs := (LW.cells x).toArray) (t := 113) (fr := (0, 0)) (heap_alloc_new w (.cells (LW.cells x).toArray 113))
theorem lit_news' (w : World) (x : LW) (b : Nat) (h : b = w.heap.size) : ∀ j u, (LW.cells x)[j]? = some u → (w.alloc (.cells #[.int .u64 (x.t : Int), .int .u64 (x.n : Int), .string (strOfNums x.d), .bool x.z] 113)).cell? ((⟨b, 0, none⟩ : Addr).add j) = some u := by
  subst h
  exact lit_news w x
theorem owns_slice {w : World} {b n : Nat} {e : TypeId} {size : Nat} {v : Value} {xs : List Value} (h : w.ownsRow b e size v n xs) : ∃ A c, v = .slice A n c := by
  rcases h.2 with ⟨e1, e2⟩ | ⟨g, cap, cur, e1, _⟩
  · exact ⟨none, 0, by rw [e1, e2]⟩
  · exact ⟨_, _, e1⟩
theorem boxes1 {W w1 : World} {o1 : Obj} (h : Below (W.alloc o1).heap.size (W.alloc o1) w1) : w1.heap[W.heap.size]? = some o1 ∧ Below W.heap.size W w1 := by
  have h0 : Below W.heap.size W (W.alloc o1) := (Below.refl _ _).alloc (Nat.le_refl _) _
  exact ⟨(h.block _ (by simp)).trans (al_new rfl), h0.trans (h.mono h0.size)⟩
theorem boxes2 {W w1 : World} {o1 o2 : Obj} (h : Below ((W.alloc o1).alloc o2).heap.size ((W.alloc o1).alloc o2) w1) : w1.heap[W.heap.size]? = some o1 ∧ w1.heap[W.heap.size + 1]? = some o2 ∧ Below W.heap.size W w1 := by
  have h1 := boxes1 h
  have h0 : Below W.heap.size W (W.alloc o1) := (Below.refl _ _).alloc (Nat.le_refl _) _
  refine ⟨(h.block _ (by simp; omega)).trans (al_old (al_new rfl)), ?_, h0.trans (h1.2.mono h0.size)⟩
  have := h1.1
  simpa using this

theorem owns_base {w : World} {b b' n : Nat} {e : TypeId} {size : Nat} {v : Value} {xs : List Value} (h : w.ownsRow b e size v n xs) (hb : b' ≤ b) : w.ownsRow b' e size v n xs := by
  refine ⟨h.1, ?_⟩
  rcases h.2 with h2 | ⟨g, cap, cur, e1, e2, e3⟩
  · exact .inl h2
  · exact .inr ⟨g, cap, cur, e1, Nat.le_trans hb e2, e3⟩
/-- What stands behind both appends. -/
theorem put_fin {base q B : Nat} {w' : World} {s : SpS} {log : List LW} {x : LW} {k : Int} {v2 : Value} (hB : base ≤ B) (hown : w'.ownsRow B 113 4 v2 (log.length + 1) (encL log ++ LW.cells x)) (hwf : ∀ x ∈ log, LW.wf x) (hx : LW.wf x) (hmem : memOf log = s.mem) (hlq : log.length ≤ q) (hp1 : 1 ≤ s.pages) (hp2 : s.pages ≤ 1048576) :
    RefS base (q + 1) w' (.agg #[.int .i64 (s.pages : Int), v2, .int .i64 (wrap64 (s.ticks + k))]) (tick { s with mem := LW.app s.mem x } k) := by
  refine ⟨v2, log ++ [x], rfl, ?_, ?_, by rw [memOf_snoc, hmem]; rfl, by rw [List.length_append, List.length_singleton]; omega, hp1, hp2⟩
  · rw [List.length_append, List.length_singleton, encL_snoc]
    exact owns_base hown hB
  · intro y hy
    rcases List.mem_append.1 hy with h | h
    · exact hwf y h
    · rw [List.mem_singleton.1 h]; exact hx

theorem below_grown {B : Nat} {W w w' : World} {row : Option Nat} (h : Below B W w) (hg : w.grownBy w' row) (hB : B ≤ w.heap.size) (hr : ∀ k, row = some k → B ≤ k) : Below B W w' :=
  ⟨hg.os.trans h.os, hg.tape.trans h.tape, hg.output.trans h.output, Nat.le_trans h.size hg.size, fun k hk => (hg.block k (by omega) (fun e => by have := hr k e.symm; omega)).trans (h.block k hk)⟩
theorem owns_set {w : World} {B n : Nat} {e : TypeId} {size : Nat} {v u : Value} {xs : List Value} {p : Addr} (h : w.ownsRow B e size v n xs) (hp : p.block < B) : (w.setCell p u).ownsRow B e size v n xs := by
  refine ⟨h.1, ?_⟩
  rcases h.2 with h2 | ⟨g, cap, cur, e1, e2, e3, e4⟩
  · exact .inl h2
  · exact .inr ⟨g, cap, cur, e1, e2, ((Chg.refl w (fun k => k = p.block)).set (p := p) (.inl rfl) u).at e3 (by omega), e4⟩

set_option maxRecDepth 100000 in
set_option maxHeartbeats 4000000 in
theorem ref03put_any {base q : Nat} {v : Value} {s : SpS} (x : LW) (k : Int) (W : World) (hs : RefS base q W v s) (hx : LW.wf x) (hq : q ≤ 100000) (hb : base ≤ W.heap.size) :
    Calls Try.prog 62 #[v, .agg #[.int .u64 (x.t : Int), .int .u64 (x.n : Int), .string (strOfNums x.d), .bool x.z], .int .i64 k] W fun e w' => ∃ v', e = .returned v' ∧ RefS base (q + 1) w' v' (tick { s with mem := LW.app s.mem x } k) ∧ Below W.heap.size W w' := by
  obtain ⟨lv, log, rfl, hown, hwf, hmem, hlq, hp1, hp2⟩ := hs
  obtain ⟨i0, hi0, hzz⟩ := Option.map_eq_some_iff.1 infoW
  simp only [Prod.mk.injEq] at hzz
  obtain ⟨hz0, hz1, hz2⟩ := hzz
  have HFIN := Lib.hid (fun (w' : World) (v2 : Value) (h : w'.ownsRow (W.heap.size + 1 + 1 + 1) 113 4 v2 (log.length + 1) (encL log ++ LW.cells x)) => put_fin (w' := w') (v2 := v2) (s := s) (x := x) (log := log) (base := base) (q := q) (k := k) (show base ≤ W.heap.size + 1 + 1 + 1 by omega) h hwf hx hmem hlq hp1 hp2)
  have hone := LW.one x
  have hn1 : log.length ≤ 100000 := by omega
  obtain ⟨pg, hpg⟩ : ∃ pg : Int, (s.pages : Int) = pg := ⟨_, rfl⟩
  obtain ⟨tk, htk⟩ : ∃ tk : Int, s.ticks = tk := ⟨_, rfl⟩
  obtain ⟨S2, hS2⟩ : ∃ S2, tick { s with mem := LW.app s.mem x } k = S2 := ⟨_, rfl⟩
  rw [hS2, hpg, htk] at HFIN
  rw [hS2, hpg, htk]
  have HI0 := Lib.hid hi0
  have HZ := Lib.hid (And.intro hz0 (And.intro hz1 hz2))
  have HONE := Lib.hid hone
  have hec := encL_length log
  have hcx : LW.cells x = [.int .u64 (x.t : Int), .int .u64 (x.n : Int), .string (strOfNums x.d), .bool x.z] := rfl
  have HCX := Lib.hid hcx
  rcases hown.2 with ⟨rfl, hl0⟩ | ⟨g, cap, cur, rfl, hbg, hg, hnc, _, hcs, htake⟩
  · obtain rfl : log = [] := List.eq_nil_of_length_eq_zero hl0
    clear hwf hx hmem hlq hp1 hp2 hpg htk hS2 hi0 hz0 hz1 hz2 hone hec hn1 hcx hown hl0
    go_enter Try.func62, Try.ntmps62
    go_wp2_with (first
      | (at_builtin
         refine wpList_append_own_none rfl _ _ _ rfl (W.heap.size + 1 + 1 + 1) 113 i0 4 Try.underlying27 HI0.out (.slice none 0 0) 0 [] rfl (World.ownsRow_nil _ _ _ _) rfl ?_)
      | (at_builtin
         refine wpList_append_own _ rfl _ _ _ rfl (W.heap.size + 1 + 1 + 1) 113 i0 _ 4 40 Try.underlying27 HI0.out HZ.out.1 HZ.out.2.1 HZ.out.2.2 rfl (by decide) (.slice none 0 0) 0 [] rfl (World.ownsRow_nil _ _ _ _) ⟨W.heap.size + 1 + 1 + 1, 0, none⟩ 1 1 (LW.cells x) rfl rfl (lit_news' _ x _ (by simp)) HONE.out (by simp only [maxLen]; omega) (by omega) (by simp <;> omega) ?_
         intro v2 w2 hown2 hg2 hat2
         obtain ⟨A2, c2, rfl⟩ := owns_slice hown2
         have e0 := (hg2.block W.heap.size (by simp <;> omega) (by simp [Value.ownBlock])).trans (al_old (al_old (al_old (al_new rfl))))
         have e2 := (hg2.block (W.heap.size + 1 + 1) (by simp <;> omega) (by simp [Value.ownBlock])).trans (al_old (al_new (by simp)))
         obtain ⟨k0, k1, k2, k3, k4, k5⟩ := box3 e0
         obtain ⟨m0, m1, m2, m3, m4, m5⟩ := box3 e2
         have HOW2 := Lib.hid hown2
         have HG2 := Lib.hid hg2
         clear hown2 hg2 hat2 e0 e2))
    refine bodyPost_ret (v := .agg #[.int .i64 pg, .slice A2 (0 + 1) c2, .int .i64 (wrap64 (tk + k))]) ?_ rfl ?_
    · simp [results, Try.results62, go_sem, m0, m1, m2]
    · refine ⟨_, rfl, HFIN.out _ _ (owns_set (owns_set (owns_set (owns_set (owns_set HOW2.out (by show W.heap.size < _; omega)) (by show W.heap.size < _; omega)) (by show W.heap.size + 1 + 1 < _; omega)) (by show W.heap.size + 1 + 1 < _; omega)) (by show W.heap.size + 1 + 1 < _; omega)), ?_⟩
      have hb3 : Below W.heap.size W (((W.alloc (.cells #[.int .i64 pg, .slice none 0 0, .int .i64 tk] 29)).alloc (.cells #[.int .u64 (x.t : Int), .int .u64 (x.n : Int), .string (strOfNums x.d), .bool x.z] 113)).alloc (.cells #[.int .i64 0, .slice none 0 0, .int .i64 0] 29)) := (((Below.refl _ _).alloc (Nat.le_refl _) _).alloc (by simp) _).alloc (by simp <;> omega) _
      have hb5 := hb3.alloc (o := .cells #[.int .u64 (x.t : Int), .int .u64 (x.n : Int), .string (strOfNums x.d), .bool x.z] 113) hb3.size
      have hb6 := below_grown hb5 HG2.out (by simp <;> omega) (fun j hj => by simp [Value.ownBlock] at hj)
      exact ((((hb6.setCell (Nat.le_refl _) _).setCell (Nat.le_refl _) _).setCell (by show W.heap.size ≤ W.heap.size + 1 + 1; omega) _).setCell (by show W.heap.size ≤ W.heap.size + 1 + 1; omega) _).setCell (by show W.heap.size ≤ W.heap.size + 1 + 1; omega) _
  · have HCEL := Lib.hid (fun (W2 : World) (hb : Below W.heap.size W W2) (j : Nat) (u : Value) (hu : (encL log)[j]? = some u) => show W2.cell? ((⟨g, 0, none⟩ : Addr).add j) = some u by
      have h1 := hown.cells (g := g) rfl j u hu
      rw [Addr.add_lit] at h1 ⊢
      exact (Chg.of_below (S := fun _ => False) hb).cell h1 (fun h => h))
    have HLEN := Lib.hid (And.intro hec hn1)
    clear hwf hx hmem hlq hp1 hp2 hpg htk hS2 hi0 hz0 hz1 hz2 hone hec hn1 hcx hown hg hcs htake
    go_enter Try.func62, Try.ntmps62
    go_wp2_with (first
      | (at_builtin
         refine wpList_append_own _ rfl _ _ _ rfl (W.heap.size + 1 + 1 + 1) 113 i0 _ 4 40 Try.underlying27 HI0.out HZ.out.1 HZ.out.2.1 HZ.out.2.2 rfl (by decide) (.slice none 0 0) 0 [] rfl (World.ownsRow_nil _ _ _ _) ⟨g, 0, none⟩ log.length cap (encL log) rfl HLEN.out.1 (HCEL.out _ (by repeat (first | exact Below.refl _ _ | refine Below.alloc ?_ (by simp <;> omega) _))) (encL_one log) (by simp only [maxLen]; have := HLEN.out.2; omega) (by have := HLEN.out.2; omega) (by simp) ?_
         intro v1 w1 hown1 hg1 hat1
         rw [Nat.zero_add, List.nil_append] at hown1
         have e0 := (hg1.block W.heap.size (by simp <;> omega) (by simp [Value.ownBlock])).trans (al_old (al_old (al_new rfl)))
         have e1 := (hg1.block (W.heap.size + 1) (by simp <;> omega) (by simp [Value.ownBlock])).trans (al_old (al_new (by simp)))
         have e2 := (hg1.block (W.heap.size + 1 + 1) (by simp <;> omega) (by simp [Value.ownBlock])).trans (al_new (by simp))
         obtain ⟨a0, a1, a2, f1, f2, f0⟩ := box3 e0
         obtain ⟨b0, b1, b2, b3⟩ := box4 e1
         have HE0 := Lib.hid e0
         have HE2 := Lib.hid e2
         have HOW1 := Lib.hid hown1
         have HG1 := Lib.hid hg1
         have HS1 := Lib.hid hg1.size
         clear hown1 hg1 hat1 e0 e1 e2)
      | (at_builtin
         refine wpList_append_own _ rfl _ _ _ rfl (W.heap.size + 1 + 1 + 1) 113 i0 _ 4 40 Try.underlying27 HI0.out HZ.out.1 HZ.out.2.1 HZ.out.2.2 rfl (by decide) v1 log.length (encL log) rfl (HOW1.out.alloc _) ⟨w1.heap.size, 0, none⟩ 1 1 (LW.cells x) rfl rfl (lit_news w1 x) HONE.out (by simp only [maxLen]; have := HLEN.out.2; omega) (by have := HLEN.out.2; omega) (by have := HS1.out; simp at this ⊢; omega) ?_
         intro v2 w2 hown2 hg2 hat2
         obtain ⟨A2, c2, rfl⟩ := owns_slice hown2
         have hlt1 := HOW1.out.lt
         have hne : ∀ j, j < W.heap.size + 1 + 1 + 1 → some j ≠ v1.ownBlock := fun j hj e => by have := (hlt1 j e.symm).1; omega
         have e0 := (hg2.block W.heap.size (by have := HS1.out; simp at this ⊢; omega) (hne _ (by omega))).trans (al_old HE0.out)
         have e2 := (hg2.block (W.heap.size + 1 + 1) (by have := HS1.out; simp at this ⊢; omega) (hne _ (by omega))).trans (al_old HE2.out)
         obtain ⟨k0, k1, k2, k3, k4, k5⟩ := box3 e0
         obtain ⟨m0, m1, m2, m3, m4, m5⟩ := box3 e2
         have HK0 := Lib.hid e0
         have HOW2 := Lib.hid hown2
         have HG2 := Lib.hid hg2
         clear hown2 hg2 hat2 hlt1 hne e0 e2))
    refine bodyPost_ret (v := .agg #[.int .i64 pg, .slice A2 (log.length + 1) c2, .int .i64 (wrap64 (tk + k))]) ?_ rfl ?_
    · simp [results, Try.results62, go_sem, m0, m1, m2]
    · refine ⟨_, rfl, HFIN.out _ _ (owns_set (owns_set (owns_set (owns_set (owns_set HOW2.out (by show W.heap.size < _; omega)) (by show W.heap.size < _; omega)) (by show W.heap.size + 1 + 1 < _; omega)) (by show W.heap.size + 1 + 1 < _; omega)) (by show W.heap.size + 1 + 1 < _; omega)), ?_⟩
      have hb3 : Below W.heap.size W (((W.alloc (.cells #[.int .i64 pg, .slice (some ⟨g, 0, none⟩) log.length cap, .int .i64 tk] 29)).alloc (.cells #[.int .u64 (x.t : Int), .int .u64 (x.n : Int), .string (strOfNums x.d), .bool x.z] 113)).alloc (.cells #[.int .i64 0, .slice none 0 0, .int .i64 0] 29)) := (((Below.refl _ _).alloc (Nat.le_refl _) _).alloc (by simp) _).alloc (by simp <;> omega) _
      have hb4 := below_grown hb3 HG1.out (by simp <;> omega) (fun j hj => by simp [Value.ownBlock] at hj)
      have hb5 := hb4.alloc (o := .cells #[.int .u64 (x.t : Int), .int .u64 (x.n : Int), .string (strOfNums x.d), .bool x.z] 113) hb4.size
      have hb6 := below_grown hb5 HG2.out (by have := hb4.size; simp; omega) (fun j hj => by have := (HOW1.out.lt j hj).1; omega)
      exact ((((hb6.setCell (Nat.le_refl _) _).setCell (Nat.le_refl _) _).setCell (by show W.heap.size ≤ W.heap.size + 1 + 1; omega) _).setCell (by show W.heap.size ≤ W.heap.size + 1 + 1; omega) _).setCell (by show W.heap.size ≤ W.heap.size + 1 + 1; omega) _
end Go.Proofs.Ytfdhjeeaigfmfaa.Sp
