/- A region that draws its order, by facts: each operation is shown once, whatever came up before it; facts stand while the world only grows. -/
import Derived.WalkKit
namespace Go.Proofs.Ytfdhjeeaigfmfaa.Rg
open Go Go.RowKit
set_option linter.unusedVariables false
set_option linter.unusedSimpArgs false

/-- The operations behind which one comes, in whatever order. -/
def deps (o : Oper) : List Nat := (o.after.toList.filter (Region.binds .any ·)).map (·.on)
def depsAt (ops : Array Oper) (i : Nat) : List Nat := ((ops[i]?).map deps).getD []
/-- What an operation comes behind stands ahead of it; slots are written once each. -/
def ordered (ops : Array Oper) : Bool := (List.range ops.size).all fun i => (depsAt ops i).all (· < i)
def dstAt (ops : Array Oper) (i : Nat) : Option Tmp := (ops[i]?).bind (·.dst)
def single (ops : Array Oper) (L : Nat) : Bool := (List.range L).all fun i => match dstAt ops i with
  | none => false
  | some d => (List.range L).all fun j => j == i || dstAt ops j != some d
/-- All that one comes behind, directly or not. -/
def behind (ops : Array Oper) : Nat → List Nat → List Nat
  | 0, l => l
  | n + 1, l => behind ops n (l ++ l.flatMap (depsAt ops))
/-- From L on each comes behind all that stand ahead of it. -/
def tailed (ops : Array Oper) (L : Nat) : Bool := (List.range ops.size).all fun k => k < L || (List.range k).all fun i => (behind ops 40 (depsAt ops k)).contains i

section
variable {P : Program} {ops : Array Oper} {Q : Exit → Act → World → Prop}

theorem mem_ready {listed : Array Bool} {i : Nat} (h : i ∈ Region.ready .any ops listed) : ∃ o, ops[i]? = some o ∧ listed.getD i true = false ∧ ∀ j ∈ deps o, listed.getD j false = true := by
  unfold Region.ready at h
  rw [List.mem_filter] at h
  obtain ⟨hr, h⟩ := h
  rw [Bool.and_eq_true] at h
  obtain ⟨h1, h2⟩ := h
  cases ho : ops[i]? with
  | none => rw [ho] at h2; cases h2
  | some o =>
    rw [ho] at h2
    refine ⟨o, rfl, by simpa using h1, fun j hj => ?_⟩
    simp only [Option.map_some, Option.getD_some, Array.all_eq_true] at h2
    unfold deps at hj
    obtain ⟨e, he, rfl⟩ := List.mem_map.1 hj
    obtain ⟨he1, he2⟩ := List.mem_filter.1 he
    obtain ⟨k, hk, rfl⟩ := Array.mem_iff_getElem.1 (Array.mem_toList_iff.1 he1)
    have := h2 k hk
    rw [he2] at this
    simpa using this
theorem ready_of {listed : Array Bool} {i : Nat} {o : Oper} (ho : ops[i]? = some o) (h1 : listed.getD i true = false) (h2 : ∀ j ∈ deps o, listed.getD j false = true) : i ∈ Region.ready .any ops listed := by
  unfold Region.ready
  rw [List.mem_filter]
  refine ⟨List.mem_range.2 (Array.getElem?_eq_some_iff.1 ho).1, ?_⟩
  rw [h1, ho]
  simp only [Bool.not_false, Bool.true_and, Option.map_some, Option.getD_some, Array.all_eq_true]
  intro k hk
  by_cases hb : Region.binds .any o.after[k] = true
  · rw [hb]
    have := h2 o.after[k].on (List.mem_map.2 ⟨_, List.mem_filter.2 ⟨Array.mem_toList_iff.2 (Array.getElem_mem hk), hb⟩, rfl⟩)
    simpa using this
  · simp [Bool.eq_false_iff.2 hb]

/-- While anything has not come up, something may. -/
theorem all_listed (hord : ordered ops = true) {listed : Array Bool} (hs : listed.size = ops.size) (h : Region.ready .any ops listed = []) : ∀ i, i < ops.size → listed.getD i true = true := by
  intro i
  induction i using Nat.strongRecOn with
  | _ i ih =>
    intro hi
    apply Classical.byContradiction
    intro hf
    have hf : listed.getD i true = false := by simpa using hf
    have ho : ops[i]? = some ops[i] := Array.getElem?_eq_getElem hi
    have : i ∈ Region.ready .any ops listed := ready_of ho hf (fun j hj => by
      have hd : (depsAt ops i).all (· < i) = true := by
        unfold ordered at hord
        rw [List.all_eq_true] at hord
        exact hord i (List.mem_range.2 hi)
      unfold depsAt at hd
      rw [ho] at hd
      have hji : j < i := by
        have := List.all_eq_true.1 hd j hj
        simpa using this
      have := ih j hji (by omega)
      have hjs : j < listed.size := by omega
      simp only [Array.getD, hjs, dif_pos] at this ⊢
      exact this)
    rw [h] at this
    cases this

def left (listed : Array Bool) : Nat := listed.toList.count false
theorem left_set {listed : Array Bool} {i : Nat} (h : listed.getD i true = false) : left (listed.setIfInBounds i true) + 1 = left listed := by
  have hi : i < listed.size := by
    apply Classical.byContradiction
    intro hi
    simp [Array.getD, hi] at h
  have hv : listed.toList[i]'(by simpa using hi) = false := by simpa [Array.getD, hi] using h
  unfold left
  rw [Array.toList_setIfInBounds, List.count_set (by simpa using hi), hv]
  have : 0 < List.count false listed.toList := List.count_pos_iff.2 (by rw [← hv]; exact List.getElem_mem _)
  rw [if_pos (by rfl), if_neg (by decide)]
  omega

theorem wpAny_inv (hord : ordered ops = true) (Inv : Array Bool → Act → World → Prop) (hsz : ∀ listed a w, Inv listed a w → listed.size = ops.size)
    (hstep : ∀ listed a w i o, Inv listed a w → ops[i]? = some o → listed.getD i true = false → (∀ j ∈ deps o, listed.getD j false = true) → wpOp P ops Q i (fun a' w' => Inv (listed.setIfInBounds i true) a' w') a w)
    (hend : ∀ listed a w, Inv listed a w → (∀ i, i < ops.size → listed.getD i true = true) → Q .normal a w) :
    ∀ fuel listed a w, Inv listed a w → left listed ≤ fuel → wpAny P .any ops Q fuel listed a w := by
  intro fuel
  induction fuel with
  | zero =>
    intro listed a w hI hl
    have hr : Region.ready .any ops listed = [] := by
      apply List.eq_nil_iff_forall_not_mem.2
      intro i hi
      obtain ⟨o, ho, h1, h2⟩ := mem_ready hi
      have := left_set h1
      omega
    exact ⟨hr, hend listed a w hI (all_listed hord (hsz _ _ _ hI) hr)⟩
  | succ fuel ih =>
    intro listed a w hI hl
    refine ⟨fun hr => hend listed a w hI (all_listed hord (hsz _ _ _ hI) hr), fun i hi => ?_⟩
    obtain ⟨o, ho, h1, h2⟩ := mem_ready hi
    refine wpOp_mono (fun a' w' hI' => ih _ a' w' hI' ?_) (hstep listed a w i o hI ho h1 h2)
    have := left_set h1
    omega

def closed (ops : Array Oper) (listed : Array Bool) : Prop := ∀ i, listed.getD i false = true → ∀ j ∈ depsAt ops i, listed.getD j false = true
theorem behind_listed {listed : Array Bool} (hc : closed ops listed) : ∀ n l, (∀ j ∈ l, listed.getD j false = true) → ∀ j ∈ behind ops n l, listed.getD j false = true
  | 0, l, h => h
  | n + 1, l, h => behind_listed hc n _ (fun j hj => by
      rcases List.mem_append.1 hj with h1 | h1
      · exact h j h1
      · obtain ⟨i, hi, hij⟩ := List.mem_flatMap.1 h1
        exact hc i (h i hi) j hij)
theorem depsAt_of {i : Nat} {o : Oper} (ho : ops[i]? = some o) : depsAt ops i = deps o := by unfold depsAt; rw [ho]; rfl
theorem deps_lt (hord : ordered ops = true) {i : Nat} (hi : i < ops.size) : ∀ j ∈ depsAt ops i, j < i := by
  intro j hj
  have := List.all_eq_true.1 (List.all_eq_true.1 hord i (List.mem_range.2 hi)) j hj
  simpa using this
theorem tail_behind {L : Nat} (ht : tailed ops L = true) {k : Nat} (hk : k < ops.size) (hL : L ≤ k) {listed : Array Bool} (hc : closed ops listed) (hd : ∀ j ∈ depsAt ops k, listed.getD j false = true) : ∀ i, i < k → listed.getD i false = true := by
  intro i hi
  have h1 := List.all_eq_true.1 ht k (List.mem_range.2 hk)
  rw [decide_eq_false (by omega), Bool.false_or] at h1
  have h2 := List.all_eq_true.1 h1 i (List.mem_range.2 hi)
  exact behind_listed hc 40 _ hd i (by simpa using h2)

/-- All that came up, put. -/
def putAll (ops : Array Oper) (v : Nat → Value) : Nat → Act → Act
  | 0, a => a
  | n + 1, a => (putAll ops v n a).put (dstAt ops n) (v n)
theorem put_defers (a : Act) (d : Option Tmp) (v : Value) : (a.put d v).defers = a.defers := by cases d <;> rfl
theorem put_size (a : Act) (d : Option Tmp) (v : Value) : (a.put d v).tmps.size = a.tmps.size := by cases d <;> simp [Act.put]
theorem put_get (a : Act) (d k : Tmp) (v : Value) (hd : d < a.tmps.size) : (a.put (some d) v).tmps[k]? = if d = k then some v else a.tmps[k]? := by
  simp only [Act.put, Array.getElem?_setIfInBounds]
  by_cases h : d = k
  · subst h; simp [hd]
  · simp [h]
theorem putAll_keep (v : Nat → Value) (a : Act) : ∀ n, (putAll ops v n a).defers = a.defers ∧ (putAll ops v n a).tmps.size = a.tmps.size
  | 0 => ⟨rfl, rfl⟩
  | n + 1 => by
    obtain ⟨h1, h2⟩ := putAll_keep v a n
    exact ⟨(put_defers _ _ _).trans h1, (put_size _ _ _).trans h2⟩
theorem putAll_get {L : Nat} (hs : ∀ i j d, i < L → j < L → dstAt ops i = some d → dstAt ops j = some d → i = j) (hd : ∀ i, i < L → ∃ d, dstAt ops i = some d) (v : Nat → Value) (a : Act) (hb : ∀ i d, i < L → dstAt ops i = some d → d < a.tmps.size) :
    ∀ n, n ≤ L → (∀ i d, i < n → dstAt ops i = some d → (putAll ops v n a).tmps[d]? = some (v i)) ∧ (∀ k, (∀ i, i < n → dstAt ops i ≠ some k) → (putAll ops v n a).tmps[k]? = a.tmps[k]?)
  | 0, _ => ⟨fun i d h => by omega, fun k _ => rfl⟩
  | n + 1, hn => by
    obtain ⟨h1, h2⟩ := putAll_get hs hd v a hb n (by omega)
    obtain ⟨dn, hdn⟩ := hd n (by omega)
    have hsz := (putAll_keep (ops := ops) v a n).2
    have hbn := hb n dn (by omega) hdn
    refine ⟨fun i d hi hid => ?_, fun k hk => ?_⟩
    · show ((putAll ops v n a).put (dstAt ops n) (v n)).tmps[d]? = _
      rw [hdn, put_get _ _ _ _ (by rw [hsz]; exact hbn)]
      by_cases e : dn = d
      · subst e
        rw [if_pos rfl, hs i n dn (by omega) (by omega) hid hdn]
      · rw [if_neg e]
        refine h1 i d ?_ hid
        rcases Nat.lt_or_ge i n with h | h
        · exact h
        · have : i = n := by omega
          subst this
          rw [hdn] at hid
          injection hid with hid
          exact absurd hid e
    · show ((putAll ops v n a).put (dstAt ops n) (v n)).tmps[k]? = _
      rw [hdn, put_get _ _ _ _ (by rw [hsz]; exact hbn), if_neg (fun e => hk n (by omega) (by rw [hdn, e]))]
      exact h2 k (fun i hi => hk i (by omega))

/-- How things stand within the region. -/
def Mid (P : Program) (ops : Array Oper) (Q : Exit → Act → World → Prop) (L : Nat) (F : Nat → World → Value → Prop) (G : World → Prop) (Pd : Nat → World → Prop) (a0 : Act) (listed : Array Bool) (a : Act) (w : World) : Prop :=
  listed.size = ops.size ∧
  ((closed ops listed ∧ (∀ k, L ≤ k → listed.getD k false = false) ∧ a.defers = a0.defers ∧ a.tmps.size = a0.tmps.size ∧ G w ∧ (∀ i, i < L → listed.getD i false = false → Pd i w) ∧ (∀ k, (∀ i, i < L → dstAt ops i = some k → listed.getD i false = false) → a.tmps[k]? = a0.tmps[k]?) ∧
      ∀ i d, i < L → dstAt ops i = some d → listed.getD i false = true → ∃ v, a.tmps[d]? = some v ∧ F i w v) ∨
    ∃ k, L < k ∧ k ≤ ops.size ∧ (∀ i, i < k → listed.getD i false = true) ∧ (∀ i, k ≤ i → listed.getD i false = false) ∧ wpOps P ops Q (List.range' k (ops.size - k)) a w)

theorem getD_false {listed : Array Bool} {i : Nat} (h : listed.getD i true = false) : i < listed.size ∧ listed.getD i false = false := by
  have hi : i < listed.size := by
    apply Classical.byContradiction
    intro hi
    simp [Array.getD, hi] at h
  exact ⟨hi, by simpa [Array.getD, hi] using h⟩
theorem getD_set {listed : Array Bool} {i j : Nat} (hi : i < listed.size) : (listed.setIfInBounds i true).getD j false = if i = j then true else listed.getD j false := by
  simp only [Array.getD_eq_getD_getElem?, Array.getElem?_setIfInBounds]
  by_cases h : i = j
  · subst h; simp [hi]
  · simp [h]

theorem wp_region_facts {id : Nat} {a0 : Act} {w0 : World} (hm : P.follows .mixedOrders = true) (L : Nat) (hL : L ≤ ops.size) (hord : ordered ops = true) (hsing : single ops L = true) (htail : tailed ops L = true)
    (hslot : ((List.range L).all fun i => ((dstAt ops i).map (fun d => decide (d < a0.tmps.size))).getD false) = true)
    (F : Nat → World → Value → Prop) (Rel : Nat → World → World → Prop) (G : World → Prop) (hG : G w0.drew) (Pd : Nat → World → Prop) (hP0 : ∀ i, i < L → Pd i w0.drew) (hPS : ∀ i j w w', i < L → j < L → i ≠ j → Pd i w → Rel j w w' → Pd i w')
    (hF : ∀ i j w w' v, i < L → j < L → i ≠ j → (behind ops 40 (depsAt ops i)).contains j = false → F i w v → Rel j w w' → F i w' v)
    (hstep : ∀ (i : Nat) (a : Act) (w : World) (K : Act → World → Prop), i < L → G w → Pd i w → (∀ k, (∀ j, j < L → dstAt ops j = some k → (behind ops 40 (depsAt ops j)).contains i = true) → a.tmps[k]? = a0.tmps[k]?) →
      (∀ j ∈ depsAt ops i, ∀ d, dstAt ops j = some d → ∃ v, a.tmps[d]? = some v ∧ F j w v) → (∀ v w', F i w' v → Rel i w w' → G w' → K (a.put (dstAt ops i) v) w') → wpOp P ops Q i K a w)
    (hend : ∀ (v : Nat → Value) (w : World), (∀ i, i < L → F i w (v i)) → G w → wpOps P ops Q (List.range' L (ops.size - L)) (putAll ops v L a0) w) :
    (Code.region id ops true).wp P Q a0 w0 := by
  have hd : ∀ i, i < L → ∃ d, dstAt ops i = some d := by
    intro i hi
    have := List.all_eq_true.1 hsing i (List.mem_range.2 hi)
    cases h : dstAt ops i with
    | none => simp [h] at this
    | some d => exact ⟨d, rfl⟩
  have hs : ∀ i j d, i < L → j < L → dstAt ops i = some d → dstAt ops j = some d → i = j := by
    intro i j d hi hj h1 h2
    have := List.all_eq_true.1 hsing i (List.mem_range.2 hi)
    rw [h1] at this
    have := List.all_eq_true.1 this j (List.mem_range.2 hj)
    rw [h2] at this
    have h3 : j = i := by simpa using this
    exact h3.symm
  have hb : ∀ i d, i < L → dstAt ops i = some d → d < a0.tmps.size := by
    intro i d hi h1
    have := List.all_eq_true.1 hslot i (List.mem_range.2 hi)
    rw [h1] at this
    simpa using this
  refine wp_region_any hm ?_
  refine wpAny_inv hord (Mid P ops Q L F G Pd a0) (fun _ _ _ h => h.1) ?_ ?_ _ _ _ _ ?_ ?_
  · intro listed a w i o hI ho h1 h2
    obtain ⟨hi, hif⟩ := getD_false h1
    obtain ⟨hsz, hI⟩ := hI
    have hin : i < ops.size := by omega
    rw [← depsAt_of ho] at h2
    rcases hI with ⟨hc, hge, hdf, hts, hbl, hpd, hfr, hfa⟩ | ⟨k, hLk, hkn, hlt, hge, hwp⟩
    · by_cases hiL : i < L
      · refine hstep i a w _ hiL hbl (hpd i hiL hif) (fun k hk => hfr k (fun j hj hjk => (by
        apply Classical.byContradiction
        intro hn
        have hjl : listed.getD j false = true := by simpa using hn
        have h3 := behind_listed hc 40 _ (fun q hq => hc j hjl q hq) i (by simpa using hk j hj hjk)
        rw [hif] at h3
        cases h3))) (fun j hj d hjd => hfa j d (by have := deps_lt hord hin j hj; omega) hjd (h2 j hj)) ?_
        intro v w' hv hw hg
        obtain ⟨di, hdi⟩ := hd i hiL
        have hdb := hb i di hiL hdi
        refine ⟨by simpa using hsz, .inl ⟨?_, ?_, ?_, ?_, hg, ?_, ?_, ?_⟩⟩
        · intro j hj q hq
          rw [getD_set hi] at hj ⊢
          by_cases e : i = j
          · subst e
            have := h2 q hq
            split
            · rfl
            · exact this
          · rw [if_neg e] at hj
            have := hc j hj q hq
            split
            · rfl
            · exact this
        · intro j hj
          rw [getD_set hi, if_neg (by omega)]
          exact hge j hj
        · rw [put_defers]; exact hdf
        · rw [put_size]; exact hts
        · intro q hq hql
          rw [getD_set hi] at hql
          by_cases e : i = q
          · subst e; simp at hql
          · rw [if_neg e] at hql
            exact hPS q i w w' hq hiL (fun e2 => e e2.symm) (hpd q hq hql) hw
        · intro q hq
          have hne : ¬ di = q := fun e => by
            have h3 := hq i hiL (by rw [hdi, e])
            rw [getD_set hi, if_pos rfl] at h3
            cases h3
          rw [hdi, put_get a di q v (by rw [hts]; exact hdb), if_neg hne]
          refine hfr q (fun j hj hjq => ?_)
          have h3 := hq j hj hjq
          rw [getD_set hi] at h3
          by_cases e : i = j
          · rw [if_pos e] at h3; cases h3
          · rwa [if_neg e] at h3
        · intro j d hj hjd hjl
          rw [hdi, put_get a di d v (by rw [hts]; exact hdb)]
          by_cases e : di = d
          · subst e
            rw [if_pos rfl]
            have := hs j i di hj hiL hjd hdi
            subst this
            exact ⟨v, rfl, hv⟩
          · rw [if_neg e]
            rw [getD_set hi, if_neg (fun e2 => by subst e2; rw [hdi] at hjd; injection hjd with hjd; exact e hjd)] at hjl
            obtain ⟨u, hu1, hu2⟩ := hfa j d hj hjd hjl
            refine ⟨u, hu1, hF j i w w' u hj hiL (fun e2 => by subst e2; rw [hdi] at hjd; injection hjd with hjd; exact e hjd) ?_ hu2 hw⟩
            apply Classical.byContradiction
            intro hn
            have h3 := behind_listed hc 40 _ (fun q hq => hc j hjl q hq) i (by simpa using hn)
            rw [hif] at h3
            cases h3
      · have hall := tail_behind htail hin (by omega) hc h2
        have hiL2 : i = L := by
          apply Classical.byContradiction
          intro hne
          have h3 := hall L (by omega)
          rw [hge L (Nat.le_refl _)] at h3
          cases h3
        subst hiL2
        have hch : ∀ j, ∃ v, j < i → ∀ d, dstAt ops j = some d → a.tmps[d]? = some v ∧ F j w v := by
          intro j
          by_cases hj : j < i
          · obtain ⟨d, hjd⟩ := hd j hj
            obtain ⟨v, hv1, hv2⟩ := hfa j d hj hjd (hall j hj)
            exact ⟨v, fun _ d' hd' => by rw [hjd] at hd'; injection hd' with hd'; subst hd'; exact ⟨hv1, hv2⟩⟩
          · exact ⟨undef, fun h => absurd h hj⟩
        obtain ⟨v, hv⟩ := Classical.axiomOfChoice hch
        have hpa : a = putAll ops v i a0 := by
          obtain ⟨g1, g2⟩ := putAll_get hs hd v a0 hb i (Nat.le_refl _)
          obtain ⟨g3, g4⟩ := putAll_keep (ops := ops) v a0 i
          have e1 : a.tmps = (putAll ops v i a0).tmps := by
            apply Array.ext_getElem?
            intro q
            by_cases hq : ∃ j, j < i ∧ dstAt ops j = some q
            · obtain ⟨j, hj, hjq⟩ := hq
              rw [(hv j hj q hjq).1, g1 j q hj hjq]
            · have hq2 : ∀ j, j < i → dstAt ops j ≠ some q := fun j hj e => hq ⟨j, hj, e⟩
              rw [hfr q (fun j hj e => absurd e (hq2 j hj)), g2 q hq2]
          have e2 : a.defers = (putAll ops v i a0).defers := hdf.trans g3.symm
          cases a
          cases h : putAll ops v i a0
          rw [h] at e1 e2
          simp only at e1 e2
          rw [e1, e2]
        have he := hend v w (fun j hj => by
          obtain ⟨d, hjd⟩ := hd j hj
          exact (hv j hj d hjd).2) hbl
        rw [← hpa, show ops.size - i = (ops.size - (i + 1)) + 1 by omega, List.range'_succ, wpOps_cons] at he
        refine wpOp_mono (fun a' w' h' => ?_) he
        refine ⟨by simpa using hsz, .inr ⟨i + 1, by omega, by omega, fun j hj => ?_, fun j hj => ?_, h'⟩⟩
        · rw [getD_set hi]
          split
          · rfl
          · exact hall j (by omega)
        · rw [getD_set hi, if_neg (by omega)]
          exact hge j (by omega)
    · have hik : i = k := by
        rcases Nat.lt_trichotomy i k with h | h | h
        · rw [hlt i h] at hif; cases hif
        · exact h
        · have hc : closed ops listed := by
            intro j hj q hq
            have hjk : j < k := by
              apply Classical.byContradiction
              intro hn
              rw [hge j (by omega)] at hj
              cases hj
            exact hlt q (by have := deps_lt hord (show j < ops.size by omega) q hq; omega)
          have h3 := tail_behind htail hin (by omega) hc h2 k h
          rw [hge k (Nat.le_refl _)] at h3
          cases h3
      subst hik
      rw [show ops.size - i = (ops.size - (i + 1)) + 1 by omega, List.range'_succ, wpOps_cons] at hwp
      refine wpOp_mono (fun a' w' h' => ?_) hwp
      refine ⟨by simpa using hsz, .inr ⟨i + 1, by omega, by omega, fun j hj => ?_, fun j hj => ?_, h'⟩⟩
      · rw [getD_set hi]
        split
        · rfl
        · exact hlt j (by omega)
      · rw [getD_set hi, if_neg (by omega)]
        exact hge j (by omega)
  · intro listed a w hI hall
    obtain ⟨hsz, hI⟩ := hI
    have hall2 : ∀ i, i < ops.size → listed.getD i false = true := by
      intro i hi
      have := hall i hi
      have hil : i < listed.size := by omega
      simpa [Array.getD, hil] using this
    rcases hI with ⟨hc, hge, hdf, hts, hbl, hpd, hfr, hfa⟩ | ⟨k, hLk, hkn, hlt, hge, hwp⟩
    · have hLn : L = ops.size := by
        apply Classical.byContradiction
        intro hne
        have h3 := hall2 L (by omega)
        rw [hge L (Nat.le_refl _)] at h3
        cases h3
      have hch : ∀ j, ∃ v, j < L → ∀ d, dstAt ops j = some d → a.tmps[d]? = some v ∧ F j w v := by
        intro j
        by_cases hj : j < L
        · obtain ⟨d, hjd⟩ := hd j hj
          obtain ⟨v, hv1, hv2⟩ := hfa j d hj hjd (hall2 j (by omega))
          exact ⟨v, fun _ d' hd' => by rw [hjd] at hd'; injection hd' with hd'; subst hd'; exact ⟨hv1, hv2⟩⟩
        · exact ⟨undef, fun h => absurd h hj⟩
      obtain ⟨v, hv⟩ := Classical.axiomOfChoice hch
      have hpa : a = putAll ops v L a0 := by
        obtain ⟨g1, g2⟩ := putAll_get hs hd v a0 hb L (Nat.le_refl _)
        obtain ⟨g3, g4⟩ := putAll_keep (ops := ops) v a0 L
        have e1 : a.tmps = (putAll ops v L a0).tmps := by
          apply Array.ext_getElem?
          intro q
          by_cases hq : ∃ j, j < L ∧ dstAt ops j = some q
          · obtain ⟨j, hj, hjq⟩ := hq
            rw [(hv j hj q hjq).1, g1 j q hj hjq]
          · have hq2 : ∀ j, j < L → dstAt ops j ≠ some q := fun j hj e => hq ⟨j, hj, e⟩
            rw [hfr q (fun j hj e => absurd e (hq2 j hj)), g2 q hq2]
        have e2 : a.defers = (putAll ops v L a0).defers := hdf.trans g3.symm
        cases a
        cases h : putAll ops v L a0
        rw [h] at e1 e2
        simp only at e1 e2
        rw [e1, e2]
      have he := hend v w (fun j hj => by
        obtain ⟨d, hjd⟩ := hd j hj
        exact (hv j hj d hjd).2) hbl
      rw [← hpa, hLn, Nat.sub_self] at he
      exact he
    · have hkn2 : k = ops.size := by
        apply Classical.byContradiction
        intro hne
        have h3 := hall2 k (by omega)
        rw [hge k (Nat.le_refl _)] at h3
        cases h3
      subst hkn2
      rw [Nat.sub_self] at hwp
      exact hwp
  · have hz : ∀ i, (Array.replicate ops.size false).getD i false = false := by
      intro i
      rw [Array.getD_eq_getD_getElem?, Array.getElem?_replicate]
      split <;> rfl
    refine ⟨by simp, .inl ⟨fun i hi => (by rw [hz] at hi; cases hi), fun k _ => hz k, rfl, rfl, hG, fun i hi _ => hP0 i hi, fun _ _ => rfl, fun i d _ _ hi => (by rw [hz] at hi; cases hi)⟩⟩
  · unfold left
    simp

theorem wpOp_wp {i : Nat} {o : Oper} {a : Act} {w : World} {K : Act → World → Prop} (ho : ops[i]? = some o) (hg : o.guard = none) (h : o.wp P a w K Q) : wpOp P ops Q i K a w := by
  unfold wpOp
  rw [ho]
  simp only [Region.wanted, hg, if_true]
  exact .inl h
/-- An operation behind a guard that lets it be. -/
theorem wpOp_go {i k d : Nat} {b : Bool} {o : Oper} {a : Act} {w : World} {K : Act → World → Prop} (ho : ops[i]? = some o) (hg : o.guard = some (k, b)) (hd : dstAt ops k = some d) (hs : a.tmps[d]? = some (.bool b)) (h : o.wp P a w K Q) : wpOp P ops Q i K a w := by
  have hy : yielded ops a.tmps k = some b := by
    unfold yielded
    unfold dstAt at hd
    rw [hd, Option.bind_some, hs]
  unfold wpOp
  rw [ho]
  simp only [Region.wanted, hg, hy, beq_self_eq_true, if_true]
  exact .inl h
/-- .. and one that does not. -/
theorem wpOp_no {i k d : Nat} {b : Bool} {o : Oper} {a : Act} {w : World} {K : Act → World → Prop} (ho : ops[i]? = some o) (hg : o.guard = some (k, b)) (hd : dstAt ops k = some d) (hs : a.tmps[d]? = some (.bool !b)) (h : K (a.put o.dst undef) w) : wpOp P ops Q i K a w := by
  have hy : yielded ops a.tmps k = some !b := by
    unfold yielded
    unfold dstAt at hd
    rw [hd, Option.bind_some, hs]
  unfold wpOp
  rw [ho]
  have : (some (!b) == some b) = false := by cases b <;> rfl
  simp only [Region.wanted, hg, hy, this]
  exact h
/-- A slot that none of the first L operations writes before number i comes up. -/
def notDst (ops : Array Oper) (L i : Nat) (k : Tmp) : Bool := (List.range L).all fun j => dstAt ops j != some k || (behind ops 40 (depsAt ops j)).contains i
theorem eval_of {a : Act} {k : Tmp} {v : Value} (h : a.tmps[k]? = some v) : a.eval (.tmp k) = v := by
  show a.tmps.getD k undef = v
  rw [Array.getD_eq_getD_getElem?, h]
  rfl
theorem eval_same {a b : Act} {k : Tmp} (h : a.tmps[k]? = b.tmps[k]?) : a.eval (.tmp k) = b.eval (.tmp k) := by
  show a.tmps.getD k undef = b.tmps.getD k undef
  rw [Array.getD_eq_getD_getElem?, Array.getD_eq_getD_getElem?, h]

/-- A region of n operations, the first L in whatever order that they may come up in, then the others. -/
theorem wp_region_by {id : Nat} {a0 : Act} {w0 : World} (L n : Nat) (hn : ops.size = n) (hchk : (P.follows .mixedOrders && (decide (L ≤ ops.size) && (ordered ops && (single ops L && (tailed ops L && ((List.range L).all fun i => ((dstAt ops i).map (fun d => decide (d < a0.tmps.size))).getD false)))))) = true)
    (F : Nat → World → Value → Prop) (Rel : Nat → World → World → Prop) (G : World → Prop) (hG : G w0.drew) (Pd : Nat → World → Prop) (hP0 : ∀ i, i < L → Pd i w0.drew) (hPS : ∀ i j w w', i < L → j < L → i ≠ j → Pd i w → Rel j w w' → Pd i w')
    (hF : ∀ i j w w' v, i < L → j < L → i ≠ j → (behind ops 40 (depsAt ops i)).contains j = false → F i w v → Rel j w w' → F i w' v)
    (hstep : ∀ (i : Nat) (a : Act) (w : World) (K : Act → World → Prop), i < L → G w → Pd i w → (∀ k, notDst ops L i k = true → a.tmps[k]? = a0.tmps[k]?) →
      (∀ j d, (depsAt ops i).contains j = true → dstAt ops j = some d → ∃ v, a.tmps[d]? = some v ∧ F j w v) → (∀ v w', F i w' v → Rel i w w' → G w' → K (a.put (dstAt ops i) v) w') → wpOp P ops Q i K a w)
    (hend : ∀ (v : Nat → Value) (w : World), (∀ i, i < L → F i w (v i)) → G w → wpOps P ops Q (List.range' L (n - L)) (putAll ops v L a0) w) :
    (Code.region id ops true).wp P Q a0 w0 := by
  subst hn
  simp only [Bool.and_eq_true, decide_eq_true_eq] at hchk
  obtain ⟨h1, h2, h3, h4, h5, h6⟩ := hchk
  refine wp_region_facts h1 L h2 h3 h4 h5 h6 F Rel G hG Pd hP0 hPS hF ?_ hend
  intro i a w K hi hb hpd hfr hdep hK
  refine hstep i a w K hi hb hpd (fun k hk => hfr k (fun j hj hjk => ?_)) (fun j d hj hd => hdep j (by simpa using hj) d hd) hK
  have := List.all_eq_true.1 hk j (List.mem_range.2 hj)
  rw [hjk] at this
  simpa using this
/-- .. where memory only grows. -/
theorem wp_region_grow {id : Nat} {a0 : Act} {w0 : World} (L n : Nat) (hn : ops.size = n) (hchk : (P.follows .mixedOrders && (decide (L ≤ ops.size) && (ordered ops && (single ops L && (tailed ops L && ((List.range L).all fun i => ((dstAt ops i).map (fun d => decide (d < a0.tmps.size))).getD false)))))) = true)
    (F : Nat → World → Value → Prop) (hF : ∀ i w w' v, i < L → F i w v → Below w.heap.size w w' → F i w' v)
    (hstep : ∀ (i : Nat) (a : Act) (w : World) (K : Act → World → Prop), i < L → Below w0.heap.size w0 w → (∀ k, notDst ops L i k = true → a.tmps[k]? = a0.tmps[k]?) →
      (∀ j d, (depsAt ops i).contains j = true → dstAt ops j = some d → ∃ v, a.tmps[d]? = some v ∧ F j w v) → (∀ v w', F i w' v → Below w.heap.size w w' → K (a.put (dstAt ops i) v) w') → wpOp P ops Q i K a w)
    (hend : ∀ (v : Nat → Value) (w : World), (∀ i, i < L → F i w (v i)) → Below w0.heap.size w0 w → wpOps P ops Q (List.range' L (n - L)) (putAll ops v L a0) w) :
    (Code.region id ops true).wp P Q a0 w0 :=
  wp_region_by L n hn hchk F (fun _ w w' => Below w.heap.size w w') (fun w => Below w0.heap.size w0 w) (Below.refl _ _).drew (fun _ _ => True) (fun _ _ => trivial) (fun _ _ _ _ _ _ _ _ _ => trivial) (fun i j w w' v hi _ _ _ h hb => hF i w w' v hi h hb)
    (fun i a w K hi hb _ hfr hdep hK => hstep i a w K hi hb hfr hdep (fun v w' h1 h2 => hK v w' h1 h2 (hb.trans (h2.mono hb.size)))) hend
/-- What came up, as moves: the walk goes on from there by its own steps. -/
def fake (d : Option Tmp) (v : Value) : Oper := { dst := d, op := .move (.const v), type := 0, pos := "", after := #[], guard := none }
theorem wpList_fake {P : Program} {Q : Exit → Act → World → Prop} {w : World} (d : Option Tmp) (v : Value) (rest : List Oper) (a : Act) : wpList P #[] Q (fake d v :: rest) a w → wpList P #[] Q rest (a.put d v) w := by
  intro h
  unfold wpList at h
  rw [if_pos (by simp [Region.wanted, fake])] at h
  rcases h with h | h
  · exact h
  · have h1 : noRoomEvent ∈ ((execOp a.eval (fake d v)).runT P w #[]).2 := h.1.1
    have h2 : ((execOp a.eval (fake d v)).runT P w #[]).2 = #[] := rfl
    rw [h2] at h1
    simp at h1
theorem of_fakes {P : Program} {ops : Array Oper} {Q : Exit → Act → World → Prop} {w : World} {vv : Nat → Value} {L : Nat} {a0 : Act} (l : List Oper) (hl : l = (List.range L).map fun i => fake (dstAt ops i) (vv i)) (h : wpList P #[] Q l a0 w) : Q .normal (putAll ops vv L a0) w := by
  subst hl
  have key : ∀ n r a, wpList P #[] Q ((List.range n).map (fun i => fake (dstAt ops i) (vv i)) ++ r) a w → wpList P #[] Q r (putAll ops vv n a) w := by
    intro n
    induction n with
    | zero => intro r a h; exact h
    | succ n ih =>
      intro r a h
      rw [List.range_succ, List.map_append, List.append_assoc] at h
      exact wpList_fake _ _ _ _ (ih _ a h)
  have := key L [] a0 (by rw [List.append_nil]; exact h)
  exact this
theorem of_fakes_all {P : Program} {ops : Array Oper} {Q : Exit → Act → World → Prop} {w : World} {vv : Nat → Value} {L : Nat} {a0 : Act} (l : List Oper) (hl : l = (List.range L).map fun i => fake (dstAt ops i) (vv i)) (h : wpList P #[] Q l a0 w) : wpOps P ops Q (List.range' L (L - L)) (putAll ops vv L a0) w := by
  rw [Nat.sub_self]
  exact of_fakes l hl h
theorem wpList_ops {P : Program} {o1 o2 : Array Oper} {Q : Exit → Act → World → Prop} : ∀ (l : List Oper), (∀ o ∈ l, o.guard = none) → ∀ a w, wpList P o1 Q l a w → wpList P o2 Q l a w
  | [], _, a, w, h => h
  | o :: rest, hg, a, w, h => by
    have h0 := hg o (List.mem_cons_self)
    have ih := wpList_ops (P := P) (o1 := o1) (o2 := o2) (Q := Q) rest (fun x hx => hg x (List.mem_cons_of_mem _ hx))
    unfold wpList at h ⊢
    simp only [Region.wanted, h0, if_true] at h ⊢
    rcases h with h | h
    · exact .inl (Oper.wp_mono ih h)
    · exact .inr h
/-- .. and behind them the operations that stand last. -/
theorem of_fakes_tail {P : Program} {ops : Array Oper} {Q : Exit → Act → World → Prop} {w : World} {vv : Nat → Value} {L n : Nat} {a0 : Act} (l : List Oper) (hn : n = ops.size) (hL : L ≤ n) (hl : l = (List.range L).map fun i => fake (dstAt ops i) (vv i)) (hg : ((ops.toList.drop L).all fun o => o.guard.isNone) = true)
    (h : wpList P #[] Q (l ++ ops.toList.drop L) a0 w) : wpOps P ops Q (List.range' L (n - L)) (putAll ops vv L a0) w := by
  subst hl hn
  have key : ∀ n r a, wpList P #[] Q ((List.range n).map (fun i => fake (dstAt ops i) (vv i)) ++ r) a w → wpList P #[] Q r (putAll ops vv n a) w := by
    intro n
    induction n with
    | zero => intro r a h; exact h
    | succ n ih =>
      intro r a h
      rw [List.range_succ, List.map_append, List.append_assoc] at h
      exact wpList_fake _ _ _ _ (ih _ a h)
  have h1 := wpList_ops (o2 := ops) _ (fun o ho => by
    have := List.all_eq_true.1 hg o ho
    simpa using this) _ _ (key L _ a0 h)
  have h2 := wpOps_eq_wpList (P := P) (ops := ops) (Q := Q) (ops.toList.drop L) L (fun j => by rw [List.getElem?_drop]; simp)
  rw [List.length_drop, Array.length_toList] at h2
  rw [h2]
  exact h1
end
end Go.Proofs.Ytfdhjeeaigfmfaa.Rg
