/- A region that draws its order, whose operations only make memory, and whose values are told by what holds of them, not outright: one obligation for each operation, in whatever order. -/
import Derived.Test.YtpoelchjpnbgpaaProg
import Derived.WalkKit
import Derived.Orders
import Derived.Deep.Quiet
namespace Go.Proofs.Ytpoelchjpnbgpaa
open Go.RowKit

/-- What is asked of an operation's run. -/
def relUpon (P : Program) (V : Value → World → Prop) (w : World) : Result Next → Prop
  | .ok (.value u) w' => Below w.heap.size w w' ∧ V u w'
  | .ok .skip w' => Below w.heap.size w w' ∧ V undef w'
  | .ok (.enter f args) w' => Calls P f args w' (fun e w'' => ∃ v, e = .returned v ∧ Below w.heap.size w w'' ∧ V v w'')
  | _ => False

theorem wp_of_rel {P : Program} {o : Oper} {a : Act} {V : Value → World → Prop} {K : Act → World → Prop} {Q : Exit → Act → World → Prop} {w : World}
    (h : relUpon P V w ((execOp a.eval o).run P w)) (hK : ∀ v w', Below w.heap.size w w' → V v w' → K (a.put o.dst v) w') : o.wp P a w K Q := by
  unfold Oper.wp
  revert h
  generalize (execOp a.eval o).run P w = r
  intro h
  match r, h with
  | .ok (.value u) w', h => exact hK _ _ h.1 h.2
  | .ok .skip w', h => exact hK _ _ h.1 h.2
  | .ok (.enter f args) w', h =>
    rw [Oper.upon_enter]
    refine Calls.mono h ?_
    rintro e w'' ⟨v, rfl, h1, h2⟩
    exact hK _ _ h1 h2

theorem countP_lt {p q : Nat → Bool} (h : ∀ x, q x = true → p x = true) {i : Nat} (hp : p i = true) (hq : q i = false) : ∀ l : List Nat, i ∈ l → l.countP q < l.countP p
  | [], hi => by cases hi
  | x :: l, hi => by
    have hm : l.countP q ≤ l.countP p := List.countP_mono_left fun x _ => h x
    rw [List.countP_cons, List.countP_cons]
    by_cases e : x = i
    · subst e
      rw [hp, hq]
      simp
      omega
    · have ih := countP_lt h hp hq l (by
        rcases List.mem_cons.1 hi with e2 | e2
        · exact absurd e2.symm e
        · exact e2)
      have hx := h x
      by_cases hqx : q x = true
      · rw [hx hqx, hqx]
        simp
        omega
      · rw [if_neg hqx]
        omega

def dstOf (ops : Array Oper) (i : Nat) : Nat := ((ops[i]?).bind (·.dst)).getD 0
/-- What is checked of the region, by the kernel. -/
def plainB (ops : Array Oper) (size : Nat) : Bool :=
  (List.range ops.size).all fun i => match ops[i]? with
    | some o => o.guard.isNone && (match o.dst with | some d => decide (d < size) | none => false) && o.after.all (fun e => decide (e.on < i)) &&
        (List.range ops.size).all (fun j => decide (i = j) || decide (dstOf ops i ≠ dstOf ops j))
    | none => false
/-- What holds in whatever state of the region. -/
structure RInv (ops : Array Oper) (V : Nat → Value → World → Prop) (a0 : Act) (w0 : World) (listed : Array Bool) (a : Act) (w : World) : Prop where
  size : a.tmps.size = a0.tmps.size
  defers : a.defers = a0.defers
  vals : ∀ i, i < ops.size → listed.getD i true = true → V i (a.tmps.getD (dstOf ops i) undef) w
  rest : ∀ t, (∀ i, i < ops.size → dstOf ops i ≠ t) → a.tmps.getD t undef = a0.tmps.getD t undef
  below : Below w0.heap.size w0 w
  lsize : listed.size = ops.size

theorem plainB_at {ops : Array Oper} {size : Nat} (h : plainB ops size = true) {i : Nat} (hi : i < ops.size) :
    ∃ o d, ops[i]? = some o ∧ o.guard = none ∧ o.dst = some d ∧ dstOf ops i = d ∧ d < size ∧ (∀ e ∈ o.after, e.on < i) ∧ ∀ j, j < ops.size → i ≠ j → d ≠ dstOf ops j := by
  have h1 := List.all_eq_true.1 h i (List.mem_range.2 hi)
  revert h1
  cases ho : ops[i]? with
  | none => intro h1; cases h1
  | some o =>
    intro h1
    simp only [Bool.and_eq_true] at h1
    obtain ⟨⟨⟨h2, h3⟩, h4⟩, h5⟩ := h1
    revert h3
    cases hd : o.dst with
    | none => intro h3; cases h3
    | some d =>
      intro h3
      have hdo : dstOf ops i = d := by simp [dstOf, ho, hd]
      refine ⟨o, d, rfl, by simpa using h2, hd, hdo, of_decide_eq_true h3, ?_, ?_⟩
      · intro e he
        exact of_decide_eq_true (Array.all_eq_true_iff_forall_mem.1 h4 e he)
      · intro j hj hij
        have h6 := List.all_eq_true.1 h5 j (List.mem_range.2 hj)
        rw [Bool.or_eq_true] at h6
        rcases h6 with h6 | h6
        · exact absurd (of_decide_eq_true h6) hij
        · rw [← hdo]
          exact of_decide_eq_true h6

/-- What an operation stands behind. -/
def depsOf (o : Oper) : List Nat := (o.after.toList.filter (Region.binds .any)).map (·.on)
/-- The obligation of one operation. -/
def RelOb (P : Program) (ops : Array Oper) (V : Nat → Value → World → Prop) (a0 : Act) (w0 : World) (i : Nat) (o : Oper) : Prop :=
  ∀ (a : Act) (w : World), Below w0.heap.size w0 w → (∀ t, (∀ i, i < ops.size → dstOf ops i ≠ t) → a.tmps.getD t undef = a0.tmps.getD t undef) →
    (∀ j ∈ depsOf o, V j (a.tmps.getD (dstOf ops j) undef) w) → relUpon P (V i) w ((execOp a.eval o).run P w)
def RelEnd (ops : Array Oper) (V : Nat → Value → World → Prop) (a0 : Act) (w0 : World) (a : Act) (w : World) : Prop :=
  a.tmps.size = a0.tmps.size ∧ a.defers = a0.defers ∧ (∀ i, i < ops.size → V i (a.tmps.getD (dstOf ops i) undef) w) ∧
    (∀ t, (∀ i, i < ops.size → dstOf ops i ≠ t) → a.tmps.getD t undef = a0.tmps.getD t undef) ∧ Below w0.heap.size w0 w

section
variable {P : Program} {ops : Array Oper} {V : Nat → Value → World → Prop} {a0 : Act} {w0 : World} {Q : Exit → Act → World → Prop}
theorem all_listed (hB : plainB ops a0.tmps.size = true) {listed : Array Bool} (hz : listed.size = ops.size) (hr : Region.ready .any ops listed = []) : ∀ n i, i < n → i < ops.size → listed.getD i true = true
  | 0, i, hi, _ => absurd hi (Nat.not_lt_zero i)
  | n + 1, i, hi, hs => by
    cases hl : listed.getD i true with
    | true => rfl
    | false =>
      exfalso
      obtain ⟨o, d, ho, _, _, _, _, haf, _⟩ := plainB_at hB hs
      have hm : i ∈ Region.ready .any ops listed := by
        rw [Region.ready, List.mem_filter]
        refine ⟨List.mem_range.2 hs, ?_⟩
        rw [hl, ho]
        simp only [Bool.not_false, Bool.true_and, Option.map_some, Option.getD_some]
        rw [Array.all_eq_true_iff_forall_mem]
        intro e he
        have hlt := haf e he
        have h1 := all_listed hB hz hr n e.on (by omega) (by omega)
        rw [Bool.or_eq_true]
        right
        have hsz : e.on < listed.size := by omega
        simpa [Array.getD, hsz] using h1
      rw [hr] at hm
      cases hm

theorem wpAny_rel (hB : plainB ops a0.tmps.size = true) (hV : ∀ i v w w', Below w.heap.size w w' → V i v w → V i v w')
    (hop : ∀ i o, ops[i]? = some o → RelOb P ops V a0 w0 i o) (hend : ∀ a w, RelEnd ops V a0 w0 a w → Q .normal a w) :
    ∀ (fuel : Nat) (listed : Array Bool) (a : Act) (w : World), RInv ops V a0 w0 listed a w → (List.range ops.size).countP (fun i => !listed.getD i true) ≤ fuel → wpAny P .any ops Q fuel listed a w := by
  have hfin : ∀ (listed : Array Bool) (a : Act) (w : World), RInv ops V a0 w0 listed a w → Region.ready .any ops listed = [] → Q .normal a w := fun listed a w h hr =>
    hend a w ⟨h.size, h.defers, fun i hi => h.vals i hi (all_listed hB h.lsize hr _ i (Nat.lt_succ_self i) hi), h.rest, h.below⟩
  intro fuel
  induction fuel with
  | zero =>
    intro listed a w h hc
    have hr : Region.ready .any ops listed = [] := by
      rw [Region.ready, List.filter_eq_nil_iff]
      intro i hi hp
      have h0 := List.countP_eq_zero.1 (Nat.le_zero.1 hc) i hi
      rw [Bool.and_eq_true] at hp
      exact h0 hp.1
    exact ⟨hr, hfin listed a w h hr⟩
  | succ fuel ih =>
    intro listed a w h hc
    refine ⟨hfin listed a w h, fun i hi => ?_⟩
    rw [Region.ready, List.mem_filter, Bool.and_eq_true] at hi
    obtain ⟨h1, h2, h3⟩ := hi
    have hs : i < ops.size := List.mem_range.1 h1
    obtain ⟨o, d, ho, hg, hd, hdo, hdl, haf, hne⟩ := plainB_at hB hs
    have hlf : listed.getD i true = false := by simpa using h2
    unfold wpOp
    rw [ho]
    have hw : Region.wanted o (yielded ops a.tmps) = true := by simp [Region.wanted, hg]
    simp only [hw, if_true]
    refine .inl (wp_of_rel (V := V i) (hop i o ho a w h.below h.rest ?_) ?_)
    · intro j hj
      obtain ⟨e, he, rfl⟩ := List.mem_map.1 hj
      rw [List.mem_filter] at he
      have hlt := haf e (Array.mem_toList_iff.1 he.1)
      refine h.vals e.on (by omega) ?_
      rw [ho] at h3
      simp only [Option.map_some, Option.getD_some] at h3
      have h4 := Array.all_eq_true_iff_forall_mem.1 h3 e (Array.mem_toList_iff.1 he.1)
      rw [he.2] at h4
      have hsz : e.on < listed.size := by rw [h.lsize]; omega
      simpa [Array.getD, hsz] using h4
    · intro v w' hb hv
      have hput : a.put o.dst v = { a with tmps := a.tmps.setIfInBounds d v } := by rw [hd]; rfl
      rw [hput]
      have hsz : d < a.tmps.size := by rw [h.size]; exact hdl
      have hset : ∀ t, (a.tmps.setIfInBounds d v).getD t undef = if t = d then v else a.tmps.getD t undef := fun t => by
        by_cases e : t = d
        · subst e
          simp [Array.getD, hsz]
        · by_cases ht : t < a.tmps.size
          · simp [Array.getD, ht, e, Ne.symm e]
          · simp [Array.getD, ht, e]
      refine ih _ _ _ ⟨?_, h.defers, ?_, ?_, ?_, ?_⟩ ?_
      · simpa using h.size
      · intro j hj hl
        show V j ((a.tmps.setIfInBounds d v).getD (dstOf ops j) undef) w'
        rw [hset]
        by_cases e : i = j
        · subst e
          rw [if_pos hdo]
          exact hv
        · rw [if_neg (Ne.symm (hne j hj e))]
          refine hV j _ w w' hb (h.vals j hj ?_)
          have hji : j < listed.size := by rw [h.lsize]; exact hj
          simpa [Array.getD, hji, e] using hl
      · intro t ht
        show (a.tmps.setIfInBounds d v).getD t undef = _
        rw [hset, if_neg (fun e => ht i hs (by rw [hdo, e]))]
        exact h.rest t ht
      · exact h.below.trans (hb.mono h.below.size)
      · simpa using h.lsize
      · have hil : i < listed.size := by rw [h.lsize]; exact hs
        refine Nat.le_of_lt_succ (Nat.lt_of_lt_of_le (countP_lt ?_ (i := i) ?_ ?_ _ h1) hc)
        · intro x hx
          by_cases e : i = x
          · subst e
            simpa using h2
          · by_cases hxl : x < listed.size
            · simpa [Array.getD, hxl, e] using hx
            · simp [Array.getD, hxl] at hx
        · simpa using h2
        · simp [Array.getD, hil]

/-- THE RULE. -/
theorem wp_region_rel {id : Nat} (V : Nat → Value → World → Prop) (hm : P.follows .mixedOrders = true) (hB : plainB ops a0.tmps.size = true) (hV : ∀ i v w w', Below w.heap.size w w' → V i v w → V i v w')
    (hop : ∀ i o, ops[i]? = some o → RelOb P ops V a0 w0 i o) (hend : ∀ a w, RelEnd ops V a0 w0 a w → Q .normal a w) : (Code.region id ops true).wp P Q a0 w0 := by
  refine wp_region_any hm (wpAny_rel hB hV hop hend _ _ _ _ ⟨rfl, rfl, ?_, fun _ _ => rfl, (Below.refl _ w0).drew, by simp⟩ ?_)
  · intro i hi hl
    simp [Array.getD, hi] at hl
  · exact Nat.le_trans List.countP_le_length (by simp)

end

end Go.Proofs.Ytpoelchjpnbgpaa
