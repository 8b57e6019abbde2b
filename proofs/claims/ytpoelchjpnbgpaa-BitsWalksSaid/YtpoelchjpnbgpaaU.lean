/- A region that draws its order, whatever its operations do: values told outright, the world and the values told by an invariant that hangs on what has been done; operations without a slot too. -/
import Derived.Test.YtpoelchjpnbgpaaT
namespace Go.Proofs.Ytpoelchjpnbgpaa
open Go.RowKit

def dstO (ops : Array Oper) (i : Nat) : Option Nat := (ops[i]?).bind (·.dst)
/-- What is checked of the region, by the kernel. -/
def plainO (ops : Array Oper) (size : Nat) : Bool :=
  (List.range ops.size).all fun i => match ops[i]? with
    | some o => o.after.all (fun e => decide (e.on < i)) && (match o.dst with | some d => decide (d < size) && (List.range ops.size).all (fun j => decide (i = j) || decide (dstO ops j ≠ some d)) | none => true)
    | none => false
def valOf (ops : Array Oper) (tmps : Array Value) (i : Nat) : Value := match dstO ops i with | some d => tmps.getD d undef | none => undef
theorem valOf_some {ops : Array Oper} {t : Array Value} {i d : Nat} (h : dstO ops i = some d) : valOf ops t i = t.getD d undef := by simp [valOf, h]
theorem valOf_none {ops : Array Oper} {t : Array Value} {i : Nat} (h : dstO ops i = none) : valOf ops t i = undef := by simp [valOf, h]
def updO (ops : Array Oper) (vals : Nat → Value) (i : Nat) (v : Value) : Nat → Value := fun k => if k = i ∧ (dstO ops i).isSome = true then v else vals k
/-- What is asked of an operation's run. -/
def oUpon (P : Program) (V : Value → Prop) (J : Value → World → Prop) : Result Next → Prop
  | .ok (.value u) w' => V u ∧ J u w'
  | .ok .skip w' => V undef ∧ J undef w'
  | .ok (.enter f args) w' => Calls P f args w' (fun e w'' => ∃ v, e = .returned v ∧ V v ∧ J v w'')
  | _ => False
theorem wp_of_o {P : Program} {o : Oper} {a : Act} {V : Value → Prop} {J : Value → World → Prop} {K : Act → World → Prop} {Q : Exit → Act → World → Prop} {w : World}
    (h : oUpon P V J ((execOp a.eval o).run P w)) (hK : ∀ v w', V v → J v w' → K (a.put o.dst v) w') : o.wp P a w K Q := by
  unfold Oper.wp
  revert h
  generalize (execOp a.eval o).run P w = r
  intro h
  match r, h with
  | .ok (.value u) w', h => exact hK _ _ h.1 h.2
  | .ok .skip w', h => exact hK _ _ h.1 h.2
  | .ok (.enter f args) w', h =>
    rw [Oper.upon_enter]
    refine Calls.mono h ?_
    rintro e w'' ⟨v, rfl, h1, h2⟩
    exact hK _ _ h1 h2
abbrev Inv := (Nat → Bool) → (Nat → Value) → World → Prop
structure RInvO (ops : Array Oper) (V : Nat → Value → Prop) (J : Inv) (a0 : Act) (listed : Array Bool) (a : Act) (w : World) : Prop where
  size : a.tmps.size = a0.tmps.size
  defers : a.defers = a0.defers
  vals : ∀ i, i < ops.size → listed.getD i true = true → V i (valOf ops a.tmps i)
  rest : ∀ t, (∀ i, i < ops.size → dstO ops i ≠ some t) → a.tmps.getD t undef = a0.tmps.getD t undef
  inv : J (fun i => listed.getD i true) (valOf ops a.tmps) w
  closed : ∀ i o, ops[i]? = some o → listed.getD i true = true → ∀ j ∈ depsOf o, listed.getD j true = true
  lsize : listed.size = ops.size
theorem plainO_at {ops : Array Oper} {size : Nat} (h : plainO ops size = true) {i : Nat} (hi : i < ops.size) :
    ∃ o, ops[i]? = some o ∧ (∀ e ∈ o.after, e.on < i) ∧ ∀ d, o.dst = some d → d < size ∧ ∀ j, j < ops.size → i ≠ j → dstO ops j ≠ some d := by
  have h1 := List.all_eq_true.1 h i (List.mem_range.2 hi)
  revert h1
  cases ho : ops[i]? with
  | none => intro h1; cases h1
  | some o =>
    intro h1
    simp only [Bool.and_eq_true] at h1
    obtain ⟨h3, h4⟩ := h1
    refine ⟨o, rfl, fun e he => of_decide_eq_true (Array.all_eq_true_iff_forall_mem.1 h3 e he), fun d hd => ?_⟩
    rw [hd] at h4
    simp only [Bool.and_eq_true] at h4
    refine ⟨of_decide_eq_true h4.1, fun j hj hij => ?_⟩
    have h6 := List.all_eq_true.1 h4.2 j (List.mem_range.2 hj)
    rw [Bool.or_eq_true] at h6
    rcases h6 with h6 | h6
    · exact absurd (of_decide_eq_true h6) hij
    · exact of_decide_eq_true h6
/-- What is told of the guards. -/
def GuardsO (ops : Array Oper) (live : Nat → Bool) (V : Nat → Value → Prop) (J : Inv) : Prop :=
  (∀ i o j b, ops[i]? = some o → o.guard = some (j, b) → j < i ∧ j ∈ depsOf o ∧ (dstO ops j).isSome = true ∧ ∀ v, V j v → v = .bool (if live i then b else !b)) ∧
  (∀ i o, ops[i]? = some o → o.guard = none → live i = true) ∧ ∀ i, live i = false → V i undef ∧ ∀ done vals w, J done vals w → J (mark done i) (updO ops vals i undef) w
/-- The obligation of one operation. -/
def OOb (P : Program) (ops : Array Oper) (V : Nat → Value → Prop) (J : Inv) (a0 : Act) (i : Nat) (o : Oper) : Prop :=
  ∀ (a : Act) (w : World) (done : Nat → Bool), J done (valOf ops a.tmps) w → done i = false → (∀ i o, ops[i]? = some o → done i = true → ∀ j ∈ depsOf o, done j = true) →
    (∀ t, (∀ i, i < ops.size → dstO ops i ≠ some t) → a.tmps.getD t undef = a0.tmps.getD t undef) →
    (∀ j ∈ depsOf o, done j = true ∧ V j (valOf ops a.tmps j)) → oUpon P (V i) (fun v w' => J (mark done i) (updO ops (valOf ops a.tmps) i v) w') ((execOp a.eval o).run P w)
def OEnd (ops : Array Oper) (V : Nat → Value → Prop) (J : Inv) (a0 : Act) (a : Act) (w : World) : Prop :=
  a.tmps.size = a0.tmps.size ∧ a.defers = a0.defers ∧ (∀ i, i < ops.size → V i (valOf ops a.tmps i)) ∧
    (∀ t, (∀ i, i < ops.size → dstO ops i ≠ some t) → a.tmps.getD t undef = a0.tmps.getD t undef) ∧ J (fun _ => true) (valOf ops a.tmps) w

section
variable {P : Program} {ops : Array Oper} {V : Nat → Value → Prop} {J : Inv} {a0 : Act} {w0 : World} {Q : Exit → Act → World → Prop}
theorem all_listedO {size : Nat} (hB : plainO ops size = true) {listed : Array Bool} (hz : listed.size = ops.size) (hr : Region.ready .any ops listed = []) : ∀ n i, i < n → i < ops.size → listed.getD i true = true
  | 0, i, hi, _ => absurd hi (Nat.not_lt_zero i)
  | n + 1, i, hi, hs => by
    cases hl : listed.getD i true with
    | true => rfl
    | false =>
      exfalso
      obtain ⟨o, ho, haf, _⟩ := plainO_at hB hs
      have hm : i ∈ Region.ready .any ops listed := by
        rw [Region.ready, List.mem_filter]
        refine ⟨List.mem_range.2 hs, ?_⟩
        rw [hl, ho]
        simp only [Bool.not_false, Bool.true_and, Option.map_some, Option.getD_some]
        rw [Array.all_eq_true_iff_forall_mem]
        intro e he
        have hlt := haf e he
        have h1 := all_listedO hB hz hr n e.on (by omega) (by omega)
        rw [Bool.or_eq_true]
        right
        have hsz : e.on < listed.size := by omega
        simpa [Array.getD, hsz] using h1
      rw [hr] at hm
      cases hm

theorem wpAny_o {live : Nat → Bool} (hG : GuardsO ops live V J) (hB : plainO ops a0.tmps.size = true) (hN : ∀ i, i < ops.size → dstO ops i = none → V i undef)
    (hop : ∀ i o, ops[i]? = some o → live i = true → OOb P ops V J a0 i o) (hend : ∀ a w, OEnd ops V J a0 a w → Q .normal a w) :
    ∀ (fuel : Nat) (listed : Array Bool) (a : Act) (w : World), RInvO ops V J a0 listed a w → (List.range ops.size).countP (fun i => !listed.getD i true) ≤ fuel → wpAny P .any ops Q fuel listed a w := by
  have hfin : ∀ (listed : Array Bool) (a : Act) (w : World), RInvO ops V J a0 listed a w → Region.ready .any ops listed = [] → Q .normal a w := fun listed a w h hr =>
    hend a w ⟨h.size, h.defers, fun i hi => h.vals i hi (all_listedO hB h.lsize hr _ i (Nat.lt_succ_self i) hi), h.rest, by
      have e : (fun i => listed.getD i true) = fun _ => true := funext fun i => by
        by_cases hi : i < ops.size
        · exact all_listedO hB h.lsize hr _ i (Nat.lt_succ_self i) hi
        · have : ¬ i < listed.size := by rw [h.lsize]; exact hi
          simp [Array.getD, this]
      have hj := h.inv
      rw [e] at hj
      exact hj⟩
  intro fuel
  induction fuel with
  | zero =>
    intro listed a w h hc
    have hr : Region.ready .any ops listed = [] := by
      rw [Region.ready, List.filter_eq_nil_iff]
      intro i hi hp
      have h0 := List.countP_eq_zero.1 (Nat.le_zero.1 hc) i hi
      rw [Bool.and_eq_true] at hp
      exact h0 hp.1
    exact ⟨hr, hfin listed a w h hr⟩
  | succ fuel ih =>
    intro listed a w h hc
    refine ⟨hfin listed a w h, fun i hi => ?_⟩
    rw [Region.ready, List.mem_filter, Bool.and_eq_true] at hi
    obtain ⟨h1, h2, h3⟩ := hi
    have hs : i < ops.size := List.mem_range.1 h1
    obtain ⟨o, ho, haf, hdd⟩ := plainO_at hB hs
    have hil : i < listed.size := by rw [h.lsize]; exact hs
    have hlf : listed.getD i true = false := by simpa using h2
    have hdl : ∀ j ∈ depsOf o, j < i ∧ listed.getD j true = true := by
      intro j hj
      obtain ⟨e, he, rfl⟩ := List.mem_map.1 hj
      rw [List.mem_filter] at he
      have hlt := haf e (Array.mem_toList_iff.1 he.1)
      rw [ho] at h3
      simp only [Option.map_some, Option.getD_some] at h3
      have h4 := Array.all_eq_true_iff_forall_mem.1 h3 e (Array.mem_toList_iff.1 he.1)
      rw [he.2] at h4
      have hsz : e.on < listed.size := by rw [h.lsize]; omega
      exact ⟨hlt, by simpa [Array.getD, hsz] using h4⟩
    have hdeps : ∀ j ∈ depsOf o, listed.getD j true = true ∧ V j (valOf ops a.tmps j) := fun j hj => ⟨(hdl j hj).2, h.vals j (Nat.lt_trans (hdl j hj).1 hs) (hdl j hj).2⟩
    have hdo : dstO ops i = o.dst := by simp [dstO, ho]
    have hmark : (fun k => (listed.setIfInBounds i true).getD k true) = mark (fun k => listed.getD k true) i := funext fun k => by
      unfold mark
      by_cases e : k = i
      · subst e
        simp [Array.getD, hil]
      · by_cases hk : k < listed.size
        · simp [Array.getD, hk, e, Ne.symm e]
        · simp [Array.getD, hk, e]
    have hcl : ∀ k ob, ops[k]? = some ob → (listed.setIfInBounds i true).getD k true = true → ∀ j ∈ depsOf ob, (listed.setIfInBounds i true).getD j true = true := by
      intro k ob hk hlk j hj
      have hm : ∀ k, (listed.setIfInBounds i true).getD k true = mark (fun k => listed.getD k true) i k := fun k => congrFun hmark k
      rw [hm] at hlk ⊢
      unfold mark at hlk ⊢
      by_cases ej : j = i
      · rw [if_pos ej]
      · rw [if_neg ej]
        by_cases ek : k = i
        · subst ek
          rw [ho] at hk
          injection hk with hk
          subst hk
          exact (hdl j hj).2
        · rw [if_neg ek] at hlk
          exact h.closed k ob hk hlk j hj
    have hcnt : (List.range ops.size).countP (fun k => !(listed.setIfInBounds i true).getD k true) ≤ fuel := by
      refine Nat.le_of_lt_succ (Nat.lt_of_lt_of_le (countP_lt ?_ (i := i) ?_ ?_ _ h1) hc)
      · intro x hx
        by_cases e : i = x
        · subst e
          simpa using h2
        · by_cases hxl : x < listed.size
          · simpa [Array.getD, hxl, e] using hx
          · simp [Array.getD, hxl] at hx
      · simpa using h2
      · simp [Array.getD, hil]
    have hlz : (listed.setIfInBounds i true).size = ops.size := by simpa using h.lsize
    have hgo : ∀ v w', V i v → J (mark (fun k => listed.getD k true) i) (updO ops (valOf ops a.tmps) i v) w' → wpAny P .any ops Q fuel (listed.setIfInBounds i true) (a.put o.dst v) w' := by
      intro v w' hv hj
      have hm : ∀ k, (listed.setIfInBounds i true).getD k true = mark (fun k => listed.getD k true) i k := fun k => congrFun hmark k
      cases hd : o.dst with
      | none =>
        have hput : a.put none v = a := rfl
        rw [hput]
        have hu : updO ops (valOf ops a.tmps) i v = valOf ops a.tmps := funext fun k => by
          unfold updO
          rw [hdo, hd]
          simp
        rw [hu] at hj
        refine ih _ _ _ ⟨h.size, h.defers, ?_, h.rest, by rw [hmark]; exact hj, hcl, hlz⟩ hcnt
        intro k hk hl
        rw [hm] at hl
        unfold mark at hl
        by_cases e : k = i
        · subst e
          have hz : valOf ops a.tmps k = undef := valOf_none (hdo.trans hd)
          rw [hz]
          exact hN k hk (by rw [hdo, hd])
        · rw [if_neg e] at hl
          exact h.vals k hk hl
      | some d =>
        obtain ⟨hlt, hne⟩ := hdd d hd
        have hput : a.put (some d) v = { a with tmps := a.tmps.setIfInBounds d v } := rfl
        rw [hput]
        have hsz : d < a.tmps.size := by rw [h.size]; exact hlt
        have hset : ∀ t, (a.tmps.setIfInBounds d v).getD t undef = if t = d then v else a.tmps.getD t undef := fun t => by
          by_cases e : t = d
          · subst e
            simp [Array.getD, hsz]
          · by_cases ht : t < a.tmps.size
            · simp [Array.getD, ht, e, Ne.symm e]
            · simp [Array.getD, ht, e]
        have hval : ∀ k, k < ops.size → valOf ops (a.tmps.setIfInBounds d v) k = updO ops (valOf ops a.tmps) i v k := fun k hk => by
          unfold updO
          by_cases e : k = i
          · subst e
            rw [if_pos ⟨rfl, by rw [hdo, hd]; rfl⟩, valOf_some (hdo.trans hd), hset, if_pos rfl]
          · rw [if_neg (fun q => e q.1)]
            cases hk2 : dstO ops k with
            | none => rw [valOf_none hk2, valOf_none hk2]
            | some d2 =>
              have hn : d2 ≠ d := fun q => hne k hk (Ne.symm e) (by rw [hk2, q])
              rw [valOf_some hk2, valOf_some hk2, hset, if_neg hn]
        have hvf : valOf ops (a.tmps.setIfInBounds d v) = updO ops (valOf ops a.tmps) i v := funext fun k => by
          by_cases hk : k < ops.size
          · exact hval k hk
          · have hkn : dstO ops k = none := by
              have : ops[k]? = none := by simpa using hk
              simp [dstO, this]
            have e : k ≠ i := fun q => hk (by rw [q]; exact hs)
            unfold updO
            rw [if_neg (fun q => e q.1), valOf_none hkn, valOf_none hkn]
        refine ih _ _ _ ⟨by simpa using h.size, h.defers, ?_, ?_, by rw [hmark]; show J _ (valOf ops (a.tmps.setIfInBounds d v)) w'; rw [hvf]; exact hj, hcl, hlz⟩ hcnt
        · intro k hk hl
          rw [hm] at hl
          unfold mark at hl
          show V k (valOf ops (a.tmps.setIfInBounds d v) k)
          rw [hvf]
          unfold updO
          by_cases e : k = i
          · subst e
            rw [if_pos ⟨rfl, by rw [hdo, hd]; rfl⟩]
            exact hv
          · rw [if_neg (fun q => e q.1)]
            rw [if_neg e] at hl
            exact h.vals k hk hl
        · intro t ht
          show (a.tmps.setIfInBounds d v).getD t undef = _
          rw [hset, if_neg (fun e => ht i hs (by rw [hdo, hd, e]))]
          exact h.rest t ht
    have hwant : Region.wanted o (yielded ops a.tmps) = live i := by
      unfold Region.wanted
      cases hg : o.guard with
      | none => exact (hG.2.1 i o ho hg).symm
      | some jb =>
        obtain ⟨j, b⟩ := jb
        obtain ⟨hji, hjd, hjs, hjv⟩ := hG.1 i o j b ho hg
        have hv := hjv _ (hdeps j hjd).2
        obtain ⟨oj, hoj, _, hjdd⟩ := plainO_at hB (i := j) (by omega)
        have hdoj : dstO ops j = oj.dst := by simp [dstO, hoj]
        cases hdj : oj.dst with
        | none => rw [hdoj, hdj] at hjs; cases hjs
        | some dj =>
          have hsz : dj < a.tmps.size := by rw [h.size]; exact (hjdd dj hdj).1
          have hy : yielded ops a.tmps j = some (if live i then b else !b) := by
            rw [valOf_some (hdoj.trans hdj)] at hv
            unfold yielded
            rw [hoj]
            simp [Array.getD, hsz] at hv
            simp [hdj, hsz, hv]
          show (yielded ops a.tmps j == some b) = live i
          rw [hy]
          cases live i <;> cases b <;> rfl
    unfold wpOp
    rw [ho]
    simp only [hwant]
    cases hl : live i with
    | true => exact .inl (wp_of_o (V := V i) (J := fun v w' => J (mark (fun k => listed.getD k true) i) (updO ops (valOf ops a.tmps) i v) w') (hop i o ho hl a w _ h.inv hlf h.closed h.rest hdeps) hgo)
    | false => exact hgo undef w (hG.2.2 i hl).1 ((hG.2.2 i hl).2 _ _ _ h.inv)

/-- The slots that a region writes, laid one by one. -/
def setG : List (Nat × Nat) → (Nat → Value) → Array Value → Array Value
  | (i, d) :: ds, vals, t => setG ds vals (t.setIfInBounds d (vals i))
  | [], _, t => t
theorem setG_setF : ∀ (ps : List (Nat × Nat)) (vals : Nat → Value) (t : Array Value), setG ps vals t = setF (ps.map (·.2)) (ps.map fun p => vals p.1) t
  | [], _, _ => rfl
  | (i, d) :: ps, vals, t => by
    rw [setG, setG_setF ps, List.map_cons, List.map_cons, setF]
/-- THE RULE. -/
theorem wp_region_all {id : Nat} (V : Nat → Value → Prop) (J : Inv) (live : Nat → Bool) (ps : List (Nat × Nat)) (hG : GuardsO ops live V J) (hm : P.follows .mixedOrders = true) (hB : plainO ops a0.tmps.size = true)
    (hps : ((List.range ops.size).filterMap fun i => (dstO ops i).map fun d => (i, d)) = ps) (hnd : (ps.map (·.2)).Nodup) (hb : ps.all (fun p => decide (p.2 < a0.tmps.size)) = true)
    (hN : ∀ i, i < ops.size → dstO ops i = none → V i undef) (h0 : ∀ vals, J (fun i => decide (ops.size ≤ i)) vals w0.drew)
    (hop : ∀ i o, ops[i]? = some o → live i = true → OOb P ops V J a0 i o)
    (hend : ∀ (vals : Nat → Value) w, (∀ i, i < ops.size → V i (vals i)) → J (fun _ => true) vals w → Q .normal { tmps := setG ps vals a0.tmps, defers := a0.defers } w) :
    (Code.region id ops true).wp P Q a0 w0 := by
  refine wp_region_any hm (wpAny_o hG hB hN hop (fun a w h => ?_) _ _ _ _ ⟨rfl, rfl, ?_, fun _ _ => rfl, ?_, ?_, by simp⟩ ?_)
  · obtain ⟨hsz, hdf, hv, hrest, hj⟩ := h
    have hmem : ∀ i d, (i, d) ∈ ps → i < ops.size ∧ dstO ops i = some d := fun i d hp => by
      rw [← hps, List.mem_filterMap] at hp
      obtain ⟨k, hk, he⟩ := hp
      cases hd : dstO ops k with
      | none => rw [hd] at he; cases he
      | some d2 =>
        rw [hd] at he
        simp only [Option.map_some, Option.some.injEq, Prod.mk.injEq] at he
        obtain ⟨rfl, rfl⟩ := he
        exact ⟨List.mem_range.1 hk, hd⟩
    have hin : ∀ i d, i < ops.size → dstO ops i = some d → (i, d) ∈ ps := fun i d hi hd => by
      rw [← hps, List.mem_filterMap]
      exact ⟨i, List.mem_range.2 hi, by rw [hd]; rfl⟩
    have hfr : a = { tmps := setG ps (valOf ops a.tmps) a0.tmps, defers := a0.defers } := by
      obtain ⟨tm, df⟩ := a
      have hdf' : df = a0.defers := hdf
      subst hdf'
      congr 1
      rw [setG_setF]
      refine Array.ext (by rw [setF_size]; exact hsz) fun k h1 h2 => ?_
      have e1 : tm[k] = tm.getD k undef := getD_eq h1
      have e2 : (setF (ps.map (·.2)) (ps.map fun p => valOf ops tm p.1) a0.tmps)[k] = (setF (ps.map (·.2)) (ps.map fun p => valOf ops tm p.1) a0.tmps).getD k undef := getD_eq h2
      show tm[k] = (setF (ps.map (·.2)) (ps.map fun p => valOf ops tm p.1) a0.tmps)[k]
      rw [e1, e2]
      by_cases hk : k ∈ ps.map (·.2)
      · obtain ⟨i, hi, rfl⟩ := List.mem_iff_getElem.1 hk
        have hi' : i < ps.length := by simpa using hi
        have hlt : (ps.map (·.2))[i] < a0.tmps.size := by
          rw [List.getElem_map]
          exact of_decide_eq_true (List.all_eq_true.1 hb _ (List.getElem_mem hi'))
        rw [setF_at _ _ a0.tmps i hi (by simpa using hi') hnd hlt, List.getElem_map, List.getElem_map]
        have hq := (hmem ps[i].1 ps[i].2 (List.getElem_mem hi')).2
        exact (valOf_some hq).symm
      · rw [setF_other _ _ _ _ hk]
        refine hrest k fun i hi e => hk ?_
        exact List.mem_map.2 ⟨(i, k), hin i k hi e, rfl⟩
    rw [hfr]
    exact hend _ w hv hj
  · intro i hi hl
    simp [Array.getD, hi] at hl
  · have e : (fun i => (Array.replicate ops.size false).getD i true) = fun i => decide (ops.size ≤ i) := funext fun i => by
      by_cases hi : i < ops.size
      · simp [Array.getD, hi]
      · simp [Array.getD, hi]
        omega
    rw [e]
    exact h0 _
  · intro i o ho hl
    have hi : i < ops.size := (Array.getElem?_eq_some_iff.1 ho).1
    simp [Array.getD, hi] at hl
  · exact Nat.le_trans List.countP_le_length (by simp)
end

end Go.Proofs.Ytpoelchjpnbgpaa
