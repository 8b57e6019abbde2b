/- A region that draws its order, with guards whose answers are told: as the rule before, but an operation may stand behind a guard. -/
import Derived.Test.YtpoelchjpnbgpaaR
namespace Go.Proofs.Ytpoelchjpnbgpaa
open Go.RowKit

/-- What is checked of the region, by the kernel. -/
def plainG (ops : Array Oper) (size : Nat) : Bool :=
  (List.range ops.size).all fun i => match ops[i]? with
    | some o => (match o.dst with | some d => decide (d < size) | none => false) && o.after.all (fun e => decide (e.on < i)) &&
        (List.range ops.size).all (fun j => decide (i = j) || decide (dstOf ops i ≠ dstOf ops j))
    | none => false
/-- What holds in whatever state of the region. -/
structure RInvG (ops : Array Oper) (V : Nat → Value → World → Prop) (a0 : Act) (w0 : World) (listed : Array Bool) (a : Act) (w : World) : Prop where
  size : a.tmps.size = a0.tmps.size
  defers : a.defers = a0.defers
  vals : ∀ i, i < ops.size → listed.getD i true = true → V i (a.tmps.getD (dstOf ops i) undef) w
  rest : ∀ t, (∀ i, i < ops.size → dstOf ops i ≠ t) → a.tmps.getD t undef = a0.tmps.getD t undef
  below : Below w0.heap.size w0 w
  lsize : listed.size = ops.size

theorem plainG_at {ops : Array Oper} {size : Nat} (h : plainG ops size = true) {i : Nat} (hi : i < ops.size) :
    ∃ o d, ops[i]? = some o ∧ o.dst = some d ∧ dstOf ops i = d ∧ d < size ∧ (∀ e ∈ o.after, e.on < i) ∧ ∀ j, j < ops.size → i ≠ j → d ≠ dstOf ops j := by
  have h1 := List.all_eq_true.1 h i (List.mem_range.2 hi)
  revert h1
  cases ho : ops[i]? with
  | none => intro h1; cases h1
  | some o =>
    intro h1
    simp only [Bool.and_eq_true] at h1
    obtain ⟨⟨h3, h4⟩, h5⟩ := h1
    revert h3
    cases hd : o.dst with
    | none => intro h3; cases h3
    | some d =>
      intro h3
      have hdo : dstOf ops i = d := by simp [dstOf, ho, hd]
      refine ⟨o, d, rfl, hd, hdo, of_decide_eq_true h3, ?_, ?_⟩
      · intro e he
        exact of_decide_eq_true (Array.all_eq_true_iff_forall_mem.1 h4 e he)
      · intro j hj hij
        have h6 := List.all_eq_true.1 h5 j (List.mem_range.2 hj)
        rw [Bool.or_eq_true] at h6
        rcases h6 with h6 | h6
        · exact absurd (of_decide_eq_true h6) hij
        · rw [← hdo]
          exact of_decide_eq_true h6

/-- What is told of the guards. -/
def Guards (ops : Array Oper) (live : Nat → Bool) (V : Nat → Value → World → Prop) : Prop :=
  (∀ i o j b, ops[i]? = some o → o.guard = some (j, b) → j < i ∧ j ∈ depsOf o ∧ ∀ v w, V j v w → v = .bool (if live i then b else !b)) ∧
  (∀ i o, ops[i]? = some o → o.guard = none → live i = true) ∧ ∀ i, live i = false → ∀ w, V i undef w

section
variable {P : Program} {ops : Array Oper} {V : Nat → Value → World → Prop} {a0 : Act} {w0 : World} {Q : Exit → Act → World → Prop}
theorem all_listedG (hB : plainG ops a0.tmps.size = true) {listed : Array Bool} (hz : listed.size = ops.size) (hr : Region.ready .any ops listed = []) : ∀ n i, i < n → i < ops.size → listed.getD i true = true
  | 0, i, hi, _ => absurd hi (Nat.not_lt_zero i)
  | n + 1, i, hi, hs => by
    cases hl : listed.getD i true with
    | true => rfl
    | false =>
      exfalso
      obtain ⟨o, d, ho, _, _, _, haf, _⟩ := plainG_at hB hs
      have hm : i ∈ Region.ready .any ops listed := by
        rw [Region.ready, List.mem_filter]
        refine ⟨List.mem_range.2 hs, ?_⟩
        rw [hl, ho]
        simp only [Bool.not_false, Bool.true_and, Option.map_some, Option.getD_some]
        rw [Array.all_eq_true_iff_forall_mem]
        intro e he
        have hlt := haf e he
        have h1 := all_listedG hB hz hr n e.on (by omega) (by omega)
        rw [Bool.or_eq_true]
        right
        have hsz : e.on < listed.size := by omega
        simpa [Array.getD, hsz] using h1
      rw [hr] at hm
      cases hm

theorem wpAny_relG {live : Nat → Bool} (hG : Guards ops live V) (hB : plainG ops a0.tmps.size = true) (hV : ∀ i v w w', Below w.heap.size w w' → V i v w → V i v w')
    (hop : ∀ i o, ops[i]? = some o → live i = true → RelOb P ops V a0 w0 i o) (hend : ∀ a w, RelEnd ops V a0 w0 a w → Q .normal a w) :
    ∀ (fuel : Nat) (listed : Array Bool) (a : Act) (w : World), RInvG ops V a0 w0 listed a w → (List.range ops.size).countP (fun i => !listed.getD i true) ≤ fuel → wpAny P .any ops Q fuel listed a w := by
  have hfin : ∀ (listed : Array Bool) (a : Act) (w : World), RInvG ops V a0 w0 listed a w → Region.ready .any ops listed = [] → Q .normal a w := fun listed a w h hr =>
    hend a w ⟨h.size, h.defers, fun i hi => h.vals i hi (all_listedG hB h.lsize hr _ i (Nat.lt_succ_self i) hi), h.rest, h.below⟩
  intro fuel
  induction fuel with
  | zero =>
    intro listed a w h hc
    have hr : Region.ready .any ops listed = [] := by
      rw [Region.ready, List.filter_eq_nil_iff]
      intro i hi hp
      have h0 := List.countP_eq_zero.1 (Nat.le_zero.1 hc) i hi
      rw [Bool.and_eq_true] at hp
      exact h0 hp.1
    exact ⟨hr, hfin listed a w h hr⟩
  | succ fuel ih =>
    intro listed a w h hc
    refine ⟨hfin listed a w h, fun i hi => ?_⟩
    rw [Region.ready, List.mem_filter, Bool.and_eq_true] at hi
    obtain ⟨h1, h2, h3⟩ := hi
    have hs : i < ops.size := List.mem_range.1 h1
    obtain ⟨o, d, ho, hd, hdo, hdl, haf, hne⟩ := plainG_at hB hs
    have hlf : listed.getD i true = false := by simpa using h2
    have hdeps : ∀ j ∈ depsOf o, V j (a.tmps.getD (dstOf ops j) undef) w := by
      intro j hj
      obtain ⟨e, he, rfl⟩ := List.mem_map.1 hj
      rw [List.mem_filter] at he
      have hlt := haf e (Array.mem_toList_iff.1 he.1)
      refine h.vals e.on (by omega) ?_
      rw [ho] at h3
      simp only [Option.map_some, Option.getD_some] at h3
      have h4 := Array.all_eq_true_iff_forall_mem.1 h3 e (Array.mem_toList_iff.1 he.1)
      rw [he.2] at h4
      have hsz : e.on < listed.size := by rw [h.lsize]; omega
      simpa [Array.getD, hsz] using h4
    have hgo : ∀ v w', Below w.heap.size w w' → V i v w' → wpAny P .any ops Q fuel (listed.setIfInBounds i true) (a.put o.dst v) w' := by
      intro v w' hb hv
      have hput : a.put o.dst v = { a with tmps := a.tmps.setIfInBounds d v } := by rw [hd]; rfl
      rw [hput]
      have hsz : d < a.tmps.size := by rw [h.size]; exact hdl
      have hset : ∀ t, (a.tmps.setIfInBounds d v).getD t undef = if t = d then v else a.tmps.getD t undef := fun t => by
        by_cases e : t = d
        · subst e
          simp [Array.getD, hsz]
        · by_cases ht : t < a.tmps.size
          · simp [Array.getD, ht, e, Ne.symm e]
          · simp [Array.getD, ht, e]
      refine ih _ _ _ ⟨?_, h.defers, ?_, ?_, ?_, ?_⟩ ?_
      · simpa using h.size
      · intro j hj hl
        show V j ((a.tmps.setIfInBounds d v).getD (dstOf ops j) undef) w'
        rw [hset]
        by_cases e : i = j
        · subst e
          rw [if_pos hdo]
          exact hv
        · rw [if_neg (Ne.symm (hne j hj e))]
          refine hV j _ w w' hb (h.vals j hj ?_)
          have hji : j < listed.size := by rw [h.lsize]; exact hj
          simpa [Array.getD, hji, e] using hl
      · intro t ht
        show (a.tmps.setIfInBounds d v).getD t undef = _
        rw [hset, if_neg (fun e => ht i hs (by rw [hdo, e]))]
        exact h.rest t ht
      · exact h.below.trans (hb.mono h.below.size)
      · simpa using h.lsize
      · have hil : i < listed.size := by rw [h.lsize]; exact hs
        refine Nat.le_of_lt_succ (Nat.lt_of_lt_of_le (countP_lt ?_ (i := i) ?_ ?_ _ h1) hc)
        · intro x hx
          by_cases e : i = x
          · subst e
            simpa using h2
          · by_cases hxl : x < listed.size
            · simpa [Array.getD, hxl, e] using hx
            · simp [Array.getD, hxl] at hx
        · simpa using h2
        · simp [Array.getD, hil]
    have hwant : Region.wanted o (yielded ops a.tmps) = live i := by
      unfold Region.wanted
      cases hg : o.guard with
      | none => exact (hG.2.1 i o ho hg).symm
      | some jb =>
        obtain ⟨j, b⟩ := jb
        obtain ⟨hji, hjd, hjv⟩ := hG.1 i o j b ho hg
        have hv := hjv _ _ (hdeps j hjd)
        obtain ⟨oj, dj, hoj, hdj, hdoj, hdlj, _⟩ := plainG_at hB (i := j) (by omega)
        have hsz : dj < a.tmps.size := by rw [h.size]; exact hdlj
        have hy : yielded ops a.tmps j = some (if live i then b else !b) := by
          unfold yielded
          rw [hoj]
          rw [hdoj] at hv
          simp [Array.getD, hsz] at hv
          simp [hdj, hsz, hv]
        show (yielded ops a.tmps j == some b) = live i
        rw [hy]
        cases live i <;> cases b <;> rfl
    unfold wpOp
    rw [ho]
    simp only [hwant]
    cases hl : live i with
    | true => exact .inl (wp_of_rel (V := V i) (hop i o ho hl a w h.below h.rest hdeps) hgo)
    | false => exact hgo undef w (Below.refl _ _) (hG.2.2 i hl w)

/-- THE RULE. -/
theorem wp_region_relG {id : Nat} (V : Nat → Value → World → Prop) (live : Nat → Bool) (hG : Guards ops live V) (hm : P.follows .mixedOrders = true) (hB : plainG ops a0.tmps.size = true) (hV : ∀ i v w w', Below w.heap.size w w' → V i v w → V i v w')
    (hop : ∀ i o, ops[i]? = some o → live i = true → RelOb P ops V a0 w0 i o) (hend : ∀ a w, RelEnd ops V a0 w0 a w → Q .normal a w) : (Code.region id ops true).wp P Q a0 w0 := by
  refine wp_region_any hm (wpAny_relG hG hB hV hop hend _ _ _ _ ⟨rfl, rfl, ?_, fun _ _ => rfl, (Below.refl _ w0).drew, by simp⟩ ?_)
  · intro i hi hl
    simp [Array.getD, hi] at hl
  · exact Nat.le_trans List.countP_le_length (by simp)

end

/-- The guards, where each of them says yes. -/
def allB (ops : Array Oper) (js : List Nat) : Bool :=
  (List.range ops.size).all fun i => match ops[i]? with
    | some o => (match o.guard with | none => true | some (j, b) => b && decide (j < i) && (depsOf o).contains j && js.contains j)
    | none => true
theorem Guards.all {ops : Array Oper} {V : Nat → Value → World → Prop} (js : List Nat) (h : allB ops js = true) (hv : ∀ j ∈ js, ∀ v w, V j v w → v = .bool true) : Guards ops (fun _ => true) V := by
  refine ⟨fun i o j b ho hg => ?_, fun _ _ _ _ => rfl, fun i hi => by cases hi⟩
  have hi : i < ops.size := (Array.getElem?_eq_some_iff.1 ho).1
  have h1 := List.all_eq_true.1 h i (List.mem_range.2 hi)
  rw [ho] at h1
  simp only [hg, Bool.and_eq_true] at h1
  obtain ⟨⟨⟨h2, h3⟩, h4⟩, h5⟩ := h1
  subst h2
  exact ⟨of_decide_eq_true h3, List.contains_iff_mem.1 h4, hv j (List.contains_iff_mem.1 h5)⟩

end Go.Proofs.Ytpoelchjpnbgpaa
