/- An append to a row of one's own: what is owned then, and that nothing else is changed. -/
import Derived.Test.YtbbhfbpkopocgaaCacheWalks
import Derived.Maps.AppendAt
import Derived.Laws.CopyRow
import Derived.Laws.OwnMore
import Derived.Deep.DeepCutAuto
namespace Go.Proofs.Ytbbhfbpkopocgaa.Hand
open Go.RowKit
set_option linter.unusedVariables false

theorem cell_of {w : World} {b t j : Nat} {cs : Array Value} {fr : Nat × Nat} {u : Value} (h : w.heap[b]? = some (.cells cs t fr)) (hu : cs[j]? = some u) : w.cell? ⟨b, j, none⟩ = some u := by simp [World.cell?, h, hu]
theorem own_lo {w : World} {base : Nat} {e : TypeId} {size n : Nat} {v : Value} {xs : List Value} (h : w.ownsRow base e size v n xs) : ∀ k, v.ownBlock = some k → base ≤ k := fun k hk => (h.lt k hk).1

theorem app_new {ops : Array Oper} {rest : List Oper} {o : Oper} {a : Act} {Q : Exit → Act → World → Prop} {w0 w : World} (base : Nat) (hgd : o.guard = none) (s x : Operand) (t e : TypeId)
    (ho : o.op = .call { callee := .builtin .append, args := #[s, x], argTypes := #[t, t] }) (ht : Try.prog.underlying t = some (.slice e)) (z : Value) (size bytes : Nat)
    (hinfo : (Try.prog.info? e).map (fun i => (i.zero, i.size, i.bytes)) = some (some z, size, bytes)) (hz : z.cells.size = size) (hs0 : 0 < size) (hb0 : bytes ≤ 1000)
    (v : Value) (n : Nat) (xs : List Value) (hs : a.eval s = v) (HO : w.ownsRow base e size v n xs) (ad : Addr) (m c : Nat) (news : List Value) (hx : a.eval x = .slice (some ad) m c) (hl : news.length = m * size)
    (hnews : ∀ j u, news[j]? = some u → w.cell? (ad.add j) = some u) (h1 : ∀ u ∈ news, u.oneCell' = true) (HB : Below base w0 w) (hbase : base ≤ w.heap.size) (hn : n + m ≤ 100000)
    (h : ∀ v1 w1, w1.ownsRow base e size v1 (n + m) (xs ++ news) → Below base w0 w1 → w.grownBy w1 v.ownBlock → (v1.ownBlock = v.ownBlock ∨ v1.ownBlock = some w.heap.size) → wpList Try.prog ops Q rest (a.put o.dst v1) w1) :
    wpList Try.prog ops Q (o :: rest) a w := by
  obtain ⟨i0, hi, hzz⟩ := Option.map_eq_some_iff.1 hinfo
  simp only [Prod.mk.injEq] at hzz
  obtain ⟨hz0, hz1, hz2⟩ := hzz
  refine wpList_append_own_at w hgd s x t ho base e i0 z size bytes ht hi hz0 hz1 hz2 hz hs0 v n xs hs HO ad m c news hx hl hnews h1 (by simp only [maxLen]; omega) (Nat.le_trans (Nat.mul_le_mul hn hb0) (by decide)) hbase ?_
  intro v1 w1 hown hg _ hat
  exact h v1 w1 hown (HB.grown hg hbase (own_lo HO)) hg hat
/-- One element, out of a literal. -/
theorem app_one {ops : Array Oper} {rest : List Oper} {o : Oper} {a : Act} {Q : Exit → Act → World → Prop} {w0 w : World} (base : Nat) (hgd : o.guard = none) (s x : Operand) (t e : TypeId)
    (ho : o.op = .call { callee := .builtin .append, args := #[s, x], argTypes := #[t, t] }) (ht : Try.prog.underlying t = some (.slice e)) (z : Value) (size bytes : Nat)
    (hinfo : (Try.prog.info? e).map (fun i => (i.zero, i.size, i.bytes)) = some (some z, size, bytes)) (hz : z.cells.size = size) (hs0 : 0 < size) (hb0 : bytes ≤ 1000)
    (v : Value) (n : Nat) (xs ys : List Value) (hs : a.eval s = v) (HO : w.ownsRow base e size v n xs) (hx : a.eval x = .slice (some ⟨w.heap.size, 0, none⟩) 1 1) (hys : ys.length = size)
    (h1 : ∀ u ∈ ys, u.oneCell' = true) (HB : Below base w0 w) (hbase : base ≤ w.heap.size) (hn : n + 1 ≤ 100000)
    (h : ∀ v1 w1, w1.ownsRow base e size v1 (n + 1) (xs ++ ys) → Below base w0 w1 → w.grownBy w1 v.ownBlock → wpList Try.prog ops Q rest (a.put o.dst v1) w1) :
    wpList Try.prog ops Q (o :: rest) a (w.alloc (.cells ys.toArray e)) := by
  refine app_new (w0 := w0) base hgd s x t e ho ht z size bytes hinfo hz hs0 hb0 v n xs hs (HO.alloc _) ⟨w.heap.size, 0, none⟩ 1 1 ys hx (by rw [hys]; simp)
    (fun j u hu => by
      have := heap_alloc_new w (.cells ys.toArray e)
      rw [Addr.add_lit, Nat.zero_add]
      exact cell_of this (by simpa using hu)) h1 (HB.alloc hbase _) (by simp; omega) hn ?_
  intro v1 w1 hown hb hg _
  exact h v1 w1 hown hb (World.grownBy.trans (World.grownBy_alloc w _ _) hg)
/-- As an operation. -/
theorem wp_own {o : Oper} {a : Act} {K : Act → World → Prop} {Q : Exit → Act → World → Prop} {w0 w : World} (base : Nat) (hgd : o.guard = none) (s x : Operand) (t e : TypeId)
    (ho : o.op = .call { callee := .builtin .append, args := #[s, x], argTypes := #[t, t] }) (ht : Try.prog.underlying t = some (.slice e)) (z : Value) (size bytes : Nat)
    (hinfo : (Try.prog.info? e).map (fun i => (i.zero, i.size, i.bytes)) = some (some z, size, bytes)) (hz : z.cells.size = size) (hs0 : 0 < size) (hb0 : bytes ≤ 1000)
    (v : Value) (n : Nat) (xs : List Value) (hs : a.eval s = v) (HO : w.ownsRow base e size v n xs) (ad : Addr) (m c : Nat) (news : List Value) (hx : a.eval x = .slice (some ad) m c) (hl : news.length = m * size)
    (hnews : ∀ j u, news[j]? = some u → w.cell? (ad.add j) = some u) (h1 : ∀ u ∈ news, u.oneCell' = true) (HB : Below base w0 w) (hbase : base ≤ w.heap.size) (hn : n + m ≤ 100000)
    (h : ∀ v1 w1, w1.ownsRow base e size v1 (n + m) (xs ++ news) → Below base w0 w1 → w.grownBy w1 v.ownBlock → K (a.put o.dst v1) w1) :
    Oper.wp Try.prog o a w K Q := by
  obtain ⟨i0, hi, hzz⟩ := Option.map_eq_some_iff.1 hinfo
  simp only [Prod.mk.injEq] at hzz
  obtain ⟨hz0, hz1, hz2⟩ := hzz
  exact wp_append_own w s x t ho base e i0 z size bytes ht hi hz0 hz1 hz2 hz hs0 v n xs hs HO ad m c news hx hl hnews h1 (by simp only [maxLen]; omega) (Nat.le_trans (Nat.mul_le_mul hn hb0) (by decide)) hbase fun v' w' h2 h3 _ => h v' w' h2 (HB.grown h3 hbase (own_lo HO)) h3
end Go.Proofs.Ytbbhfbpkopocgaa.Hand
