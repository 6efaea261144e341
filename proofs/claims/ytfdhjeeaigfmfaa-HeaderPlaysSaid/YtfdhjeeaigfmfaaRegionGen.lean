/- A region that draws its order, by facts: operations that write memory are in the table too. -/
import Derived.Test.YtfdhjeeaigfmfaaRegionFacts
namespace Go.Proofs.Ytfdhjeeaigfmfaa.Rg
open Go Go.RowKit
set_option linter.unusedVariables false
set_option linter.unusedSimpArgs false

/-- Slots are written once each. -/
def singleN (ops : Array Oper) : Bool := (List.range ops.size).all fun i => match dstAt ops i with
  | none => true
  | some d => (List.range ops.size).all fun j => j == i || dstAt ops j != some d
section
variable {P : Program} {ops : Array Oper} {Q : Exit → Act → World → Prop}
theorem putAll_getN (hs : ∀ i j d, i < ops.size → j < ops.size → dstAt ops i = some d → dstAt ops j = some d → i = j) (v : Nat → Value) (a : Act) (hb : ∀ i d, i < ops.size → dstAt ops i = some d → d < a.tmps.size) :
    ∀ n, n ≤ ops.size → (∀ i d, i < n → dstAt ops i = some d → (putAll ops v n a).tmps[d]? = some (v i)) ∧ (∀ k, (∀ i, i < n → dstAt ops i ≠ some k) → (putAll ops v n a).tmps[k]? = a.tmps[k]?)
  | 0, _ => ⟨fun i d h => by omega, fun k _ => rfl⟩
  | n + 1, hn => by
    obtain ⟨h1, h2⟩ := putAll_getN hs v a hb n (by omega)
    have hsz := (putAll_keep (ops := ops) v a n).2
    cases hdn : dstAt ops n with
    | none =>
      refine ⟨fun i d hi hid => ?_, fun k hk => ?_⟩
      · show ((putAll ops v n a).put (dstAt ops n) (v n)).tmps[d]? = _
        rw [hdn]
        refine h1 i d ?_ hid
        rcases Nat.lt_or_ge i n with h | h
        · exact h
        · have : i = n := by omega
          subst this
          rw [hdn] at hid
          cases hid
      · show ((putAll ops v n a).put (dstAt ops n) (v n)).tmps[k]? = _
        rw [hdn]
        exact h2 k (fun i hi => hk i (by omega))
    | some dn =>
      have hbn := hb n dn (by omega) hdn
      refine ⟨fun i d hi hid => ?_, fun k hk => ?_⟩
      · show ((putAll ops v n a).put (dstAt ops n) (v n)).tmps[d]? = _
        rw [hdn, put_get _ _ _ _ (by rw [hsz]; exact hbn)]
        by_cases e : dn = d
        · subst e
          rw [if_pos rfl, hs i n dn (by omega) (by omega) hid hdn]
        · rw [if_neg e]
          refine h1 i d ?_ hid
          rcases Nat.lt_or_ge i n with h | h
          · exact h
          · have : i = n := by omega
            subst this
            rw [hdn] at hid
            injection hid with hid
            exact absurd hid e
      · show ((putAll ops v n a).put (dstAt ops n) (v n)).tmps[k]? = _
        rw [hdn, put_get _ _ _ _ (by rw [hsz]; exact hbn), if_neg (fun e => hk n (by omega) (by rw [hdn, e]))]
        exact h2 k (fun i hi => hk i (by omega))
/-- How things stand within the region. -/
def MidN (ops : Array Oper) (F : Nat → World → Value → Prop) (G : World → Prop) (Pd : Nat → World → Prop) (a0 : Act) (listed : Array Bool) (a : Act) (w : World) : Prop :=
  listed.size = ops.size ∧ closed ops listed ∧ a.defers = a0.defers ∧ a.tmps.size = a0.tmps.size ∧ G w ∧ (∀ i, i < ops.size → listed.getD i false = false → Pd i w) ∧ (∀ k, (∀ i, i < ops.size → dstAt ops i = some k → listed.getD i false = false) → a.tmps[k]? = a0.tmps[k]?) ∧
    ∀ i, i < ops.size → listed.getD i false = true → ∃ v, (∀ d, dstAt ops i = some d → a.tmps[d]? = some v) ∧ F i w v
theorem wp_region_gen {id : Nat} {a0 : Act} {w0 : World} (D : Nat) (hm : P.follows .mixedOrders = true) (hord : ordered ops = true) (hsing : singleN ops = true)
    (hslot : ((List.range ops.size).all fun i => ((dstAt ops i).map (fun d => decide (d < a0.tmps.size))).getD true) = true)
    (F : Nat → World → Value → Prop) (Rel : Nat → World → World → Prop) (G : World → Prop) (hG : G w0.drew) (Pd : Nat → World → Prop) (hP0 : ∀ i, i < ops.size → Pd i w0.drew)
    (hPS : ∀ i j w w', i < ops.size → j < ops.size → i ≠ j → (behind ops D (depsAt ops j)).contains i = false → Pd i w → Rel j w w' → Pd i w')
    (hF : ∀ i j w w' v, i < ops.size → j < ops.size → i ≠ j → (behind ops D (depsAt ops i)).contains j = false → F i w v → Rel j w w' → F i w' v)
    (hstep : ∀ (i : Nat) (a : Act) (w : World) (K : Act → World → Prop), i < ops.size → G w → Pd i w → (∀ k, (∀ j, j < ops.size → dstAt ops j = some k → (behind ops D (depsAt ops j)).contains i = true) → a.tmps[k]? = a0.tmps[k]?) →
      (∀ j ∈ depsAt ops i, ∃ v, (∀ d, dstAt ops j = some d → a.tmps[d]? = some v) ∧ F j w v) → (∀ v w', F i w' v → Rel i w w' → G w' → K (a.put (dstAt ops i) v) w') → wpOp P ops Q i K a w)
    (hend : ∀ (v : Nat → Value) (w : World), (∀ i, i < ops.size → F i w (v i)) → G w → Q .normal (putAll ops v ops.size a0) w) :
    (Code.region id ops true).wp P Q a0 w0 := by
  have hs : ∀ i j d, i < ops.size → j < ops.size → dstAt ops i = some d → dstAt ops j = some d → i = j := by
    intro i j d hi hj h1 h2
    have := List.all_eq_true.1 hsing i (List.mem_range.2 hi)
    rw [h1] at this
    have := List.all_eq_true.1 this j (List.mem_range.2 hj)
    rw [h2] at this
    have h3 : j = i := by simpa using this
    exact h3.symm
  have hb : ∀ i d, i < ops.size → dstAt ops i = some d → d < a0.tmps.size := by
    intro i d hi h1
    have := List.all_eq_true.1 hslot i (List.mem_range.2 hi)
    rw [h1] at this
    simpa using this
  refine wp_region_any hm ?_
  refine wpAny_inv hord (MidN ops F G Pd a0) (fun _ _ _ h => h.1) ?_ ?_ _ _ _ _ ?_ ?_
  · intro listed a w i o hI ho h1 h2
    obtain ⟨hi, hif⟩ := getD_false h1
    obtain ⟨hsz, hc, hdf, hts, hbl, hpd, hfr, hfa⟩ := hI
    have hin : i < ops.size := by omega
    rw [← depsAt_of ho] at h2
    have pend : ∀ j, listed.getD j false = true → (behind ops D (depsAt ops j)).contains i = false := fun j hjl => by
      cases hq : (behind ops D (depsAt ops j)).contains i with
      | false => rfl
      | true =>
        have h3 := behind_listed hc D _ (fun q hq => hc j hjl q hq) i (by simpa using hq)
        rw [hif] at h3
        cases h3
    refine hstep i a w _ hin hbl (hpd i hin hif) (fun k hk => hfr k (fun j hj hjk => (by
      apply Classical.byContradiction
      intro hn
      have hjl : listed.getD j false = true := by simpa using hn
      have h3 := pend j hjl
      rw [hk j hj hjk] at h3
      cases h3))) (fun j hj => hfa j (by have := deps_lt hord hin j hj; omega) (h2 j hj)) ?_
    intro v w' hv hw hg
    refine ⟨by simpa using hsz, ?_, ?_, ?_, hg, ?_, ?_, ?_⟩
    · intro j hj q hq
      rw [getD_set hi] at hj ⊢
      by_cases e : i = j
      · subst e
        have := h2 q hq
        split
        · rfl
        · exact this
      · rw [if_neg e] at hj
        have := hc j hj q hq
        split
        · rfl
        · exact this
    · rw [put_defers]; exact hdf
    · rw [put_size]; exact hts
    · intro q hq hql
      rw [getD_set hi] at hql
      by_cases e : i = q
      · subst e; simp at hql
      · rw [if_neg e] at hql
        refine hPS q i w w' hq hin (fun e2 => e e2.symm) ?_ (hpd q hq hql) hw
        cases hq2 : (behind ops D (depsAt ops i)).contains q with
        | false => rfl
        | true =>
          have h3 := behind_listed hc D _ h2 q (by simpa using hq2)
          rw [hql] at h3
          cases h3
    · intro q hq
      have base : a.tmps[q]? = a0.tmps[q]? := by
        refine hfr q (fun j hj hjq => ?_)
        have h3 := hq j hj hjq
        rw [getD_set hi] at h3
        by_cases e : i = j
        · rw [if_pos e] at h3; cases h3
        · rwa [if_neg e] at h3
      cases hdi : dstAt ops i with
      | none => exact base
      | some di =>
        have hne : ¬ di = q := fun e => by
          have h3 := hq i hin (by rw [hdi, e])
          rw [getD_set hi, if_pos rfl] at h3
          cases h3
        rw [put_get a di q v (by rw [hts]; exact hb i di hin hdi), if_neg hne]
        exact base
    · intro j hj hjl
      by_cases e : i = j
      · subst e
        refine ⟨v, fun d hd => ?_, hv⟩
        rw [hd, put_get a d d v (by rw [hts]; exact hb i d hin hd), if_pos rfl]
      · rw [getD_set hi, if_neg e] at hjl
        obtain ⟨u, hu1, hu2⟩ := hfa j hj hjl
        refine ⟨u, fun d hd => ?_, hF j i w w' u hj hin (fun e2 => e e2.symm) (pend j hjl) hu2 hw⟩
        cases hdi : dstAt ops i with
        | none => exact hu1 d hd
        | some di =>
          have hne : ¬ di = d := fun e2 => e (hs i j d hin hj (by rw [hdi, e2]) hd)
          rw [put_get a di d v (by rw [hts]; exact hb i di hin hdi), if_neg hne]
          exact hu1 d hd
  · intro listed a w hI hall
    obtain ⟨hsz, hc, hdf, hts, hbl, hpd, hfr, hfa⟩ := hI
    have hall2 : ∀ i, i < ops.size → listed.getD i false = true := by
      intro i hi
      have := hall i hi
      have hil : i < listed.size := by omega
      simpa [Array.getD, hil] using this
    have hch : ∀ j, ∃ v, j < ops.size → (∀ d, dstAt ops j = some d → a.tmps[d]? = some v) ∧ F j w v := by
      intro j
      by_cases hj : j < ops.size
      · obtain ⟨v, hv⟩ := hfa j hj (hall2 j hj)
        exact ⟨v, fun _ => hv⟩
      · exact ⟨undef, fun h => absurd h hj⟩
    obtain ⟨v, hv⟩ := Classical.axiomOfChoice hch
    have hpa : a = putAll ops v ops.size a0 := by
      obtain ⟨g1, g2⟩ := putAll_getN hs v a0 hb ops.size (Nat.le_refl _)
      obtain ⟨g3, g4⟩ := putAll_keep (ops := ops) v a0 ops.size
      have e1 : a.tmps = (putAll ops v ops.size a0).tmps := by
        apply Array.ext_getElem?
        intro q
        by_cases hq : ∃ j, j < ops.size ∧ dstAt ops j = some q
        · obtain ⟨j, hj, hjq⟩ := hq
          rw [(hv j hj).1 q hjq, g1 j q hj hjq]
        · have hq2 : ∀ j, j < ops.size → dstAt ops j ≠ some q := fun j hj e => hq ⟨j, hj, e⟩
          rw [hfr q (fun j hj e => absurd e (hq2 j hj)), g2 q hq2]
      have e2 : a.defers = (putAll ops v ops.size a0).defers := hdf.trans g3.symm
      cases a
      cases h : putAll ops v ops.size a0
      rw [h] at e1 e2
      simp only at e1 e2
      rw [e1, e2]
    rw [hpa]
    exact hend v w (fun j hj => (hv j hj).2) hbl
  · have hz : ∀ i, (Array.replicate ops.size false).getD i false = false := by
      intro i
      rw [Array.getD_eq_getD_getElem?, Array.getElem?_replicate]
      split <;> rfl
    refine ⟨by simp, fun i hi => (by rw [hz] at hi; cases hi), rfl, rfl, hG, fun i hi _ => hP0 i hi, fun _ _ => rfl, fun i _ hi => (by rw [hz] at hi; cases hi)⟩
  · unfold left
    simp
def notDstN (ops : Array Oper) (D i k : Nat) : Bool := (List.range ops.size).all fun j => dstAt ops j != some k || (behind ops D (depsAt ops j)).contains i
/-- .. as it is used. -/
theorem wp_region_use {id : Nat} {a0 : Act} {w0 : World} (D n : Nat) (hn : ops.size = n) (hchk : (P.follows .mixedOrders && (ordered ops && (singleN ops && ((List.range ops.size).all fun i => ((dstAt ops i).map (fun d => decide (d < a0.tmps.size))).getD true)))) = true)
    (F : Nat → World → Value → Prop) (Rel : Nat → World → World → Prop) (G : World → Prop) (hG : G w0.drew) (Pd : Nat → World → Prop) (hP0 : ∀ i, i < n → Pd i w0.drew)
    (hPS : ∀ i j w w', i < n → j < n → i ≠ j → (behind ops D (depsAt ops j)).contains i = false → Pd i w → Rel j w w' → Pd i w')
    (hF : ∀ i j w w' v, i < n → j < n → i ≠ j → (behind ops D (depsAt ops i)).contains j = false → F i w v → Rel j w w' → F i w' v)
    (hstep : ∀ (i : Nat) (a : Act) (w : World) (K : Act → World → Prop), i < n → G w → Pd i w → (∀ k, notDstN ops D i k = true → a.tmps[k]? = a0.tmps[k]?) →
      (∀ j, (depsAt ops i).contains j = true → ∃ v, (∀ d, dstAt ops j = some d → a.tmps[d]? = some v) ∧ F j w v) → (∀ v w', F i w' v → Rel i w w' → G w' → K (a.put (dstAt ops i) v) w') → wpOp P ops Q i K a w)
    (hend : ∀ (v : Nat → Value) (w : World), (∀ i, i < n → F i w (v i)) → G w → Q .normal (putAll ops v n a0) w) :
    (Code.region id ops true).wp P Q a0 w0 := by
  subst hn
  simp only [Bool.and_eq_true] at hchk
  obtain ⟨h1, h2, h3, h4⟩ := hchk
  refine wp_region_gen D h1 h2 h3 h4 F Rel G hG Pd hP0 hPS hF ?_ hend
  intro i a w K hi hb hpd hfr hdep hK
  refine hstep i a w K hi hb hpd (fun k hk => hfr k (fun j hj hjk => ?_)) (fun j hj => hdep j (by simpa using hj)) hK
  have := List.all_eq_true.1 hk j (List.mem_range.2 hj)
  rw [hjk] at this
  simpa using this
theorem wpOp_none {i : Nat} {o : Oper} {K : Act → World → Prop} {a : Act} {w : World} (ho : ops[i]? = some o) (hg : o.guard = none) (h : o.wp P a w K Q) : wpOp P ops Q i K a w := by
  unfold wpOp
  rw [ho]
  simp only
  rw [if_pos (by simp [Region.wanted, hg])]
  exact .inl h
end
end Go.Proofs.Ytfdhjeeaigfmfaa.Rg
