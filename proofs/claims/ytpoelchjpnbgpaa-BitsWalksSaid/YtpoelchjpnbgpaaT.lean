/- A region that draws its order and whose calls may write: values told outright, the world told by an invariant that hangs on what has been done; the frame behind it is written out. -/
import Derived.Test.YtpoelchjpnbgpaaS
namespace Go.Proofs.Ytpoelchjpnbgpaa
open Go.RowKit

/-- One operation more is done. -/
def mark (done : Nat → Bool) (i : Nat) : Nat → Bool := fun k => if k = i then true else done k
/-- What is asked of an operation's run. -/
def jUpon (P : Program) (V : Value → Prop) (J : World → Prop) : Result Next → Prop
  | .ok (.value u) w' => V u ∧ J w'
  | .ok .skip w' => V undef ∧ J w'
  | .ok (.enter f args) w' => Calls P f args w' (fun e w'' => ∃ v, e = .returned v ∧ V v ∧ J w'')
  | _ => False
theorem wp_of_j {P : Program} {o : Oper} {a : Act} {V : Value → Prop} {J : World → Prop} {K : Act → World → Prop} {Q : Exit → Act → World → Prop} {w : World}
    (h : jUpon P V J ((execOp a.eval o).run P w)) (hK : ∀ v w', V v → J w' → K (a.put o.dst v) w') : o.wp P a w K Q := by
  unfold Oper.wp
  revert h
  generalize (execOp a.eval o).run P w = r
  intro h
  match r, h with
  | .ok (.value u) w', h => exact hK _ _ h.1 h.2
  | .ok .skip w', h => exact hK _ _ h.1 h.2
  | .ok (.enter f args) w', h =>
    rw [Oper.upon_enter]
    refine Calls.mono h ?_
    rintro e w'' ⟨v, rfl, h1, h2⟩
    exact hK _ _ h1 h2
/-- What holds in whatever state of the region. -/
structure RInvJ (ops : Array Oper) (V : Nat → Value → Prop) (J : (Nat → Bool) → World → Prop) (a0 : Act) (listed : Array Bool) (a : Act) (w : World) : Prop where
  size : a.tmps.size = a0.tmps.size
  defers : a.defers = a0.defers
  vals : ∀ i, i < ops.size → listed.getD i true = true → V i (a.tmps.getD (dstOf ops i) undef)
  rest : ∀ t, (∀ i, i < ops.size → dstOf ops i ≠ t) → a.tmps.getD t undef = a0.tmps.getD t undef
  inv : J (fun i => listed.getD i true) w
  lsize : listed.size = ops.size
/-- What is told of the guards. -/
def GuardsJ (ops : Array Oper) (live : Nat → Bool) (V : Nat → Value → Prop) (J : (Nat → Bool) → World → Prop) : Prop :=
  (∀ i o j b, ops[i]? = some o → o.guard = some (j, b) → j < i ∧ j ∈ depsOf o ∧ ∀ v, V j v → v = .bool (if live i then b else !b)) ∧
  (∀ i o, ops[i]? = some o → o.guard = none → live i = true) ∧ ∀ i, live i = false → V i undef ∧ ∀ done w, J done w → J (mark done i) w
/-- The obligation of one operation. -/
def JOb (P : Program) (ops : Array Oper) (V : Nat → Value → Prop) (J : (Nat → Bool) → World → Prop) (a0 : Act) (i : Nat) (o : Oper) : Prop :=
  ∀ (a : Act) (w : World) (done : Nat → Bool), J done w → done i = false → (∀ t, (∀ i, i < ops.size → dstOf ops i ≠ t) → a.tmps.getD t undef = a0.tmps.getD t undef) →
    (∀ j ∈ depsOf o, done j = true ∧ V j (a.tmps.getD (dstOf ops j) undef)) → jUpon P (V i) (J (mark done i)) ((execOp a.eval o).run P w)
def JEnd (ops : Array Oper) (V : Nat → Value → Prop) (J : (Nat → Bool) → World → Prop) (a0 : Act) (a : Act) (w : World) : Prop :=
  a.tmps.size = a0.tmps.size ∧ a.defers = a0.defers ∧ (∀ i, i < ops.size → V i (a.tmps.getD (dstOf ops i) undef)) ∧
    (∀ t, (∀ i, i < ops.size → dstOf ops i ≠ t) → a.tmps.getD t undef = a0.tmps.getD t undef) ∧ J (fun _ => true) w

section
variable {P : Program} {ops : Array Oper} {V : Nat → Value → Prop} {J : (Nat → Bool) → World → Prop} {a0 : Act} {w0 : World} {Q : Exit → Act → World → Prop}
theorem wpAny_inv {live : Nat → Bool} (hG : GuardsJ ops live V J) (hB : plainG ops a0.tmps.size = true)
    (hop : ∀ i o, ops[i]? = some o → live i = true → JOb P ops V J a0 i o) (hend : ∀ a w, JEnd ops V J a0 a w → Q .normal a w) :
    ∀ (fuel : Nat) (listed : Array Bool) (a : Act) (w : World), RInvJ ops V J a0 listed a w → (List.range ops.size).countP (fun i => !listed.getD i true) ≤ fuel → wpAny P .any ops Q fuel listed a w := by
  have hfin : ∀ (listed : Array Bool) (a : Act) (w : World), RInvJ ops V J a0 listed a w → Region.ready .any ops listed = [] → Q .normal a w := fun listed a w h hr =>
    hend a w ⟨h.size, h.defers, fun i hi => h.vals i hi (all_listedG hB h.lsize hr _ i (Nat.lt_succ_self i) hi), h.rest, by
      have e : (fun i => listed.getD i true) = fun _ => true := funext fun i => by
        by_cases hi : i < ops.size
        · exact all_listedG hB h.lsize hr _ i (Nat.lt_succ_self i) hi
        · have : ¬ i < listed.size := by rw [h.lsize]; exact hi
          simp [Array.getD, this]
      have hj := h.inv
      rw [e] at hj
      exact hj⟩
  intro fuel
  induction fuel with
  | zero =>
    intro listed a w h hc
    have hr : Region.ready .any ops listed = [] := by
      rw [Region.ready, List.filter_eq_nil_iff]
      intro i hi hp
      have h0 := List.countP_eq_zero.1 (Nat.le_zero.1 hc) i hi
      rw [Bool.and_eq_true] at hp
      exact h0 hp.1
    exact ⟨hr, hfin listed a w h hr⟩
  | succ fuel ih =>
    intro listed a w h hc
    refine ⟨hfin listed a w h, fun i hi => ?_⟩
    rw [Region.ready, List.mem_filter, Bool.and_eq_true] at hi
    obtain ⟨h1, h2, h3⟩ := hi
    have hs : i < ops.size := List.mem_range.1 h1
    obtain ⟨o, d, ho, hd, hdo, hdl, haf, hne⟩ := plainG_at hB hs
    have hlf : listed.getD i true = false := by simpa using h2
    have hdeps : ∀ j ∈ depsOf o, listed.getD j true = true ∧ V j (a.tmps.getD (dstOf ops j) undef) := by
      intro j hj
      obtain ⟨e, he, rfl⟩ := List.mem_map.1 hj
      rw [List.mem_filter] at he
      have hlt := haf e (Array.mem_toList_iff.1 he.1)
      have hl3 : listed.getD e.on true = true := by
       rw [ho] at h3
       simp only [Option.map_some, Option.getD_some] at h3
       have h4 := Array.all_eq_true_iff_forall_mem.1 h3 e (Array.mem_toList_iff.1 he.1)
       rw [he.2] at h4
       have hsz : e.on < listed.size := by rw [h.lsize]; omega
       simpa [Array.getD, hsz] using h4
      exact ⟨hl3, h.vals e.on (by omega) hl3⟩
    have hgo : ∀ v w', V i v → J (mark (fun k => listed.getD k true) i) w' → wpAny P .any ops Q fuel (listed.setIfInBounds i true) (a.put o.dst v) w' := by
      intro v w' hv hj
      have hput : a.put o.dst v = { a with tmps := a.tmps.setIfInBounds d v } := by rw [hd]; rfl
      rw [hput]
      have hsz : d < a.tmps.size := by rw [h.size]; exact hdl
      have hset : ∀ t, (a.tmps.setIfInBounds d v).getD t undef = if t = d then v else a.tmps.getD t undef := fun t => by
        by_cases e : t = d
        · subst e
          simp [Array.getD, hsz]
        · by_cases ht : t < a.tmps.size
          · simp [Array.getD, ht, e, Ne.symm e]
          · simp [Array.getD, ht, e]
      refine ih _ _ _ ⟨?_, h.defers, ?_, ?_, ?_, ?_⟩ ?_
      · simpa using h.size
      · intro j hj hl
        show V j ((a.tmps.setIfInBounds d v).getD (dstOf ops j) undef)
        rw [hset]
        by_cases e : i = j
        · subst e
          rw [if_pos hdo]
          exact hv
        · rw [if_neg (Ne.symm (hne j hj e))]
          refine h.vals j hj ?_
          have hji : j < listed.size := by rw [h.lsize]; exact hj
          simpa [Array.getD, hji, e] using hl
      · intro t ht
        show (a.tmps.setIfInBounds d v).getD t undef = _
        rw [hset, if_neg (fun e => ht i hs (by rw [hdo, e]))]
        exact h.rest t ht
      · have e : (fun k => (listed.setIfInBounds i true).getD k true) = mark (fun k => listed.getD k true) i := funext fun k => by
          unfold mark
          have hil : i < listed.size := by rw [h.lsize]; exact hs
          by_cases e : k = i
          · subst e
            simp [Array.getD, hil]
          · by_cases hk : k < listed.size
            · simp [Array.getD, hk, e, Ne.symm e]
            · simp [Array.getD, hk, e]
        rw [e]
        exact hj
      · simpa using h.lsize
      · have hil : i < listed.size := by rw [h.lsize]; exact hs
        refine Nat.le_of_lt_succ (Nat.lt_of_lt_of_le (countP_lt ?_ (i := i) ?_ ?_ _ h1) hc)
        · intro x hx
          by_cases e : i = x
          · subst e
            simpa using h2
          · by_cases hxl : x < listed.size
            · simpa [Array.getD, hxl, e] using hx
            · simp [Array.getD, hxl] at hx
        · simpa using h2
        · simp [Array.getD, hil]
    have hwant : Region.wanted o (yielded ops a.tmps) = live i := by
      unfold Region.wanted
      cases hg : o.guard with
      | none => exact (hG.2.1 i o ho hg).symm
      | some jb =>
        obtain ⟨j, b⟩ := jb
        obtain ⟨hji, hjd, hjv⟩ := hG.1 i o j b ho hg
        have hv := hjv _ (hdeps j hjd).2
        obtain ⟨oj, dj, hoj, hdj, hdoj, hdlj, _⟩ := plainG_at hB (i := j) (by omega)
        have hsz : dj < a.tmps.size := by rw [h.size]; exact hdlj
        have hy : yielded ops a.tmps j = some (if live i then b else !b) := by
          unfold yielded
          rw [hoj]
          rw [hdoj] at hv
          simp [Array.getD, hsz] at hv
          simp [hdj, hsz, hv]
        show (yielded ops a.tmps j == some b) = live i
        rw [hy]
        cases live i <;> cases b <;> rfl
    unfold wpOp
    rw [ho]
    simp only [hwant]
    cases hl : live i with
    | true => exact .inl (wp_of_j (V := V i) (J := J (mark (fun k => listed.getD k true) i)) (hop i o ho hl a w _ h.inv hlf h.rest hdeps) hgo)
    | false => exact hgo undef w (hG.2.2 i hl).1 ((hG.2.2 i hl).2 _ _ h.inv)


/-- The slots that a region writes, laid one by one. -/
def setF : List Nat → List Value → Array Value → Array Value
  | d :: ds, v :: vs, t => setF ds vs (t.setIfInBounds d v)
  | _, _, t => t
theorem setF_size : ∀ (ds : List Nat) (vs : List Value) (t : Array Value), (setF ds vs t).size = t.size
  | [], _, _ => rfl
  | _ :: _, [], _ => rfl
  | d :: ds, v :: vs, t => by rw [setF, setF_size ds vs]; simp
theorem setF_other : ∀ (ds : List Nat) (vs : List Value) (t : Array Value) (k : Nat), k ∉ ds → (setF ds vs t).getD k undef = t.getD k undef
  | [], _, _, _, _ => rfl
  | _ :: _, [], _, _, _ => rfl
  | d :: ds, v :: vs, t, k, h => by
    rw [setF, setF_other ds vs _ k (fun q => h (List.mem_cons_of_mem _ q))]
    have hne : d ≠ k := fun e => h (by rw [e]; exact List.mem_cons_self)
    by_cases hk : k < t.size
    · simp [Array.getD, hk, hne]
    · simp [Array.getD, hk]
theorem setF_at : ∀ (ds : List Nat) (vs : List Value) (t : Array Value) (i : Nat) (hi : i < ds.length) (hv : i < vs.length), ds.Nodup → ds[i] < t.size → (setF ds vs t).getD ds[i] undef = vs[i]
  | [], _, _, _, hi, _, _, _ => absurd hi (Nat.not_lt_zero _)
  | _ :: _, [], _, _, _, hv, _, _ => absurd hv (Nat.not_lt_zero _)
  | d :: ds, v :: vs, t, 0, _, _, hn, hlt => by
    have hd : d ∉ ds := (List.nodup_cons.1 hn).1
    show (setF ds vs (t.setIfInBounds d v)).getD d undef = v
    rw [setF_other ds vs _ d hd]
    have hlt' : d < t.size := hlt
    simp [Array.getD, hlt']
  | d :: ds, v :: vs, t, i + 1, hi, hv, hn, hlt => by
    have hlt' : ds[i]'(by simpa using hi) < t.size := hlt
    show (setF ds vs (t.setIfInBounds d v)).getD (ds[i]'(by simpa using hi)) undef = vs[i]'(by simpa using hv)
    exact setF_at ds vs _ i (by simpa using hi) (by simpa using hv) (List.nodup_cons.1 hn).2 (by simpa using hlt')
theorem getD_eq {t : Array Value} {k : Nat} (h : k < t.size) : t[k] = t.getD k undef := by simp [Array.getD, h]
/-- The frame behind the region, written out. -/
theorem frame_of {a : Act} {w : World} (dsts : List Nat) (hds : (List.range ops.size).map (dstOf ops) = dsts) (hnd : dsts.Nodup) (hb : ∀ d ∈ dsts, d < a0.tmps.size) (h : JEnd ops V J a0 a w) :
    ∃ vs : List Value, vs.length = dsts.length ∧ (∀ i (hi : i < vs.length), V i vs[i]) ∧ J (fun _ => true) w ∧ a = { tmps := setF dsts vs a0.tmps, defers := a0.defers } := by
  obtain ⟨hsz, hdf, hv, hrest, hj⟩ := h
  have hlen : dsts.length = ops.size := by rw [← hds, List.length_map, List.length_range]
  have hat : ∀ i (hi : i < dsts.length), dsts[i] = dstOf ops i := fun i hi => by
    subst hds
    simp
  refine ⟨dsts.map fun d => a.tmps.getD d undef, by simp, fun i hi => ?_, hj, ?_⟩
  · rw [List.length_map] at hi
    rw [List.getElem_map, hat i hi]
    exact hv i (by omega)
  · obtain ⟨tm, df⟩ := a
    have hdf' : df = a0.defers := hdf
    subst hdf'
    congr 1
    refine Array.ext (by rw [setF_size]; exact hsz) fun k h1 h2 => ?_
    have e1 : tm[k] = tm.getD k undef := getD_eq h1
    have e2 : (setF dsts (dsts.map fun d => tm.getD d undef) a0.tmps)[k] = (setF dsts (dsts.map fun d => tm.getD d undef) a0.tmps).getD k undef := getD_eq h2
    show tm[k] = (setF dsts (dsts.map fun d => tm.getD d undef) a0.tmps)[k]
    rw [e1, e2]
    by_cases hk : k ∈ dsts
    · obtain ⟨i, hi, rfl⟩ := List.mem_iff_getElem.1 hk
      rw [setF_at dsts _ a0.tmps i hi (by simpa using hi) hnd (hb _ hk), List.getElem_map]
    · rw [setF_other _ _ _ _ hk]
      refine hrest k fun i hi e => hk ?_
      rw [← e, ← hat i (by omega)]
      exact List.getElem_mem _

/-- THE RULE. -/
theorem wp_region_inv {id : Nat} (V : Nat → Value → Prop) (J : (Nat → Bool) → World → Prop) (live : Nat → Bool) (dsts : List Nat) (hG : GuardsJ ops live V J) (hm : P.follows .mixedOrders = true) (hB : plainG ops a0.tmps.size = true)
    (hds : (List.range ops.size).map (dstOf ops) = dsts) (hnd : dsts.Nodup) (hb : dsts.all (fun d => decide (d < a0.tmps.size)) = true) (h0 : J (fun i => decide (ops.size ≤ i)) w0.drew)
    (hop : ∀ i o, ops[i]? = some o → live i = true → JOb P ops V J a0 i o)
    (hend : ∀ (vs : List Value) w, vs.length = dsts.length → (∀ i (hi : i < vs.length), V i vs[i]) → J (fun _ => true) w → Q .normal { tmps := setF dsts vs a0.tmps, defers := a0.defers } w) :
    (Code.region id ops true).wp P Q a0 w0 := by
  refine wp_region_any hm (wpAny_inv hG hB hop (fun a w h => ?_) _ _ _ _ ⟨rfl, rfl, ?_, fun _ _ => rfl, ?_, by simp⟩ ?_)
  · obtain ⟨vs, h1, h2, h3, rfl⟩ := frame_of dsts hds hnd (fun d hd => of_decide_eq_true (List.all_eq_true.1 hb d hd)) h
    exact hend vs w h1 h2 h3
  · intro i hi hl
    simp [Array.getD, hi] at hl
  · have e : (fun i => (Array.replicate ops.size false).getD i true) = fun i => decide (ops.size ≤ i) := funext fun i => by
      by_cases hi : i < ops.size
      · simp [Array.getD, hi]
      · simp [Array.getD, hi]
        omega
    rw [e]
    exact h0
  · exact Nat.le_trans List.countP_le_length (by simp)
end

/-- The guards, where each says what it wants. -/
def tellJ (ops : Array Oper) (vals : List (Nat × Bool)) : Bool :=
  (List.range ops.size).all fun i => match ops[i]? with
    | some o => (match o.guard with | none => true | some (j, b) => decide (j < i) && (depsOf o).contains j && vals.contains (j, b))
    | none => true
theorem GuardsJ.tell {ops : Array Oper} {V : Nat → Value → Prop} {J : (Nat → Bool) → World → Prop} (vals : List (Nat × Bool)) (h : tellJ ops vals = true) (hv : ∀ p ∈ vals, ∀ v, V p.1 v → v = .bool p.2) : GuardsJ ops (fun _ => true) V J := by
  refine ⟨fun i o j b ho hg => ?_, fun _ _ _ _ => rfl, fun i hi => by cases hi⟩
  have hi : i < ops.size := (Array.getElem?_eq_some_iff.1 ho).1
  have h1 := List.all_eq_true.1 h i (List.mem_range.2 hi)
  rw [ho] at h1
  have h2 : (match o.guard with | none => true | some (j, b) => decide (j < i) && (depsOf o).contains j && vals.contains (j, b)) = true := h1
  rw [hg] at h2
  simp only [Bool.and_eq_true] at h2
  obtain ⟨⟨h3, h4⟩, h5⟩ := h2
  exact ⟨of_decide_eq_true h3, List.contains_iff_mem.1 h4, hv (j, b) (List.contains_iff_mem.1 h5)⟩

end Go.Proofs.Ytpoelchjpnbgpaa
