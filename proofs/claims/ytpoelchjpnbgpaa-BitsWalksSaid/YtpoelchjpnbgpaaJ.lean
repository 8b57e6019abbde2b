/- Small rules: the drawn regions' rules where one value matters behind them; appends onto slices of the call's own, in a region that draws. -/
import Derived.Maps.AppendAt
import Derived.Test.YtpoelchjpnbgpaaU
import Derived.Test.YtpoelchjpnbgpaaI
import Derived.Test.YtpoelchjpnbgpaaD
namespace Go.Proofs.Ytpoelchjpnbgpaa
open Go.RowKit Go.Sort

/-- The guards, where each says what it wants. -/
def tellO (ops : Array Oper) (vals : List (Nat × Bool)) : Bool :=
  (List.range ops.size).all fun i => match ops[i]? with
    | some o => (match o.guard with | none => true | some (j, b) => decide (j < i) && (depsOf o).contains j && (dstO ops j).isSome && vals.contains (j, b))
    | none => true
theorem GuardsO.tell {ops : Array Oper} {V : Nat → Value → Prop} {J : Inv} (vals : List (Nat × Bool)) (h : tellO ops vals = true) (hv : ∀ p ∈ vals, ∀ v, V p.1 v → v = .bool p.2) : GuardsO ops (fun _ => true) V J := by
  refine ⟨fun i o j b ho hg => ?_, fun _ _ _ _ => rfl, fun i hi => by cases hi⟩
  have hi : i < ops.size := (Array.getElem?_eq_some_iff.1 ho).1
  have h1 := List.all_eq_true.1 h i (List.mem_range.2 hi)
  rw [ho] at h1
  have h2 : (match o.guard with | none => true | some (j, b) => decide (j < i) && (depsOf o).contains j && (dstO ops j).isSome && vals.contains (j, b)) = true := h1
  rw [hg] at h2
  simp only [Bool.and_eq_true] at h2
  obtain ⟨⟨⟨h3, h4⟩, h6⟩, h5⟩ := h2
  exact ⟨of_decide_eq_true h3, List.contains_iff_mem.1 h4, h6, hv (j, b) (List.contains_iff_mem.1 h5)⟩

section
variable {P : Program} {ops : Array Oper} {a0 : Act} {w0 : World} {Q : Exit → Act → World → Prop} {id : Nat}
/-- Where one value alone matters behind the region, and the slots that it does not write. -/
theorem wp_region_keep (V : Nat → Value → Prop) (J : (Nat → Bool) → World → Prop) (live : Nat → Bool) (dsts : List Nat) (n : Nat) (hn : n < dsts.length) (hG : GuardsJ ops live V J) (hm : P.follows .mixedOrders = true) (hB : plainG ops a0.tmps.size = true)
    (hds : (List.range ops.size).map (dstOf ops) = dsts) (hnd : dsts.Nodup) (hb : dsts.all (fun d => decide (d < a0.tmps.size)) = true) (h0 : J (fun i => decide (ops.size ≤ i)) w0.drew)
    (hop : ∀ i o, ops[i]? = some o → live i = true → JOb P ops V J a0 i o)
    (hend : ∀ (tm : Array Value) w, tm.size = a0.tmps.size → (∀ t, t ∉ dsts → tm.getD t undef = a0.tmps.getD t undef) → V n (tm.getD dsts[n] undef) → J (fun _ => true) w → Q .normal { tmps := tm, defers := a0.defers } w) :
    (Code.region id ops true).wp P Q a0 w0 :=
  wp_region_inv V J live dsts hG hm hB hds hnd hb h0 hop fun vs w hl hv hj => hend _ w (setF_size _ _ _) (fun t ht => setF_other _ _ _ _ ht) (by
    have hlt : dsts[n] < a0.tmps.size := of_decide_eq_true (List.all_eq_true.1 hb _ (List.getElem_mem hn))
    rw [setF_at dsts vs a0.tmps n hn (by rw [hl]; exact hn) hnd hlt]
    exact hv n (by rw [hl]; exact hn)) hj
theorem wp_region_all_keep (V : Nat → Value → Prop) (J : Inv) (live : Nat → Bool) (ps : List (Nat × Nat)) (hG : GuardsO ops live V J) (hm : P.follows .mixedOrders = true) (hB : plainO ops a0.tmps.size = true)
    (hps : ((List.range ops.size).filterMap fun i => (dstO ops i).map fun d => (i, d)) = ps) (hnd : (ps.map (·.2)).Nodup) (hb : ps.all (fun p => decide (p.2 < a0.tmps.size)) = true)
    (hN : ∀ i, i < ops.size → dstO ops i = none → V i undef) (h0 : ∀ vals, J (fun i => decide (ops.size ≤ i)) vals w0.drew)
    (hop : ∀ i o, ops[i]? = some o → live i = true → OOb P ops V J a0 i o)
    (hend : ∀ (tm : Array Value) (vals : Nat → Value) w, tm.size = a0.tmps.size → (∀ t, t ∉ ps.map (·.2) → tm.getD t undef = a0.tmps.getD t undef) → (∀ p ∈ ps, tm.getD p.2 undef = vals p.1 ∧ V p.1 (vals p.1)) → J (fun _ => true) vals w → Q .normal { tmps := tm, defers := a0.defers } w) :
    (Code.region id ops true).wp P Q a0 w0 :=
  wp_region_all V J live ps hG hm hB hps hnd hb hN h0 hop fun vals w hv hj => by
    rw [setG_setF]
    refine hend _ vals w (setF_size _ _ _) (fun t ht => setF_other _ _ _ _ ht) (fun p hp => ?_) hj
    obtain ⟨i, hi, rfl⟩ := List.mem_iff_getElem.1 hp
    have hlt : ps[i].2 < a0.tmps.size := of_decide_eq_true (List.all_eq_true.1 hb _ (List.getElem_mem hi))
    have hsz : ps[i].1 < ops.size := by
      have h1 := List.getElem_mem hi
      generalize ps[i] = pi at h1
      rw [← hps, List.mem_filterMap] at h1
      obtain ⟨k, hk, he⟩ := h1
      cases hd : dstO ops k with
      | none => rw [hd] at he; cases he
      | some d2 =>
        rw [hd] at he
        simp only [Option.map_some, Option.some.injEq] at he
        subst he
        exact List.mem_range.1 hk
    refine ⟨?_, hv _ hsz⟩
    have h2 := setF_at (ps.map (·.2)) (ps.map fun p => vals p.1) a0.tmps i (by simpa using hi) (by simpa using hi) hnd (by simpa using hlt)
    simpa using h2
end

theorem jUpon.mono {P : Program} {V : Value → Prop} {J J' : World → Prop} {r : Result Next} (h : jUpon P V J r) (hJ : ∀ w, J w → J' w) : jUpon P V J' r := by
  match r, h with
  | .ok (.value u) w', h => exact ⟨h.1, hJ _ h.2⟩
  | .ok .skip w', h => exact ⟨h.1, hJ _ h.2⟩
  | .ok (.enter f args) w', h =>
    refine Calls.mono h ?_
    rintro e w'' ⟨v, rfl, h1, h2⟩
    exact ⟨v, rfl, h1, hJ _ h2⟩
theorem o_of_j {P : Program} {V : Value → Prop} {J : World → Prop} {J' : Value → World → Prop} {r : Result Next} (h : jUpon P V J r) (hJ : ∀ v w, V v → J w → J' v w) : oUpon P V J' r := by
  match r, h with
  | .ok (.value u) w', h => exact ⟨h.1, hJ _ _ h.1 h.2⟩
  | .ok .skip w', h => exact ⟨h.1, hJ _ _ h.1 h.2⟩
  | .ok (.enter f args) w', h =>
    refine Calls.mono h ?_
    rintro e w'' ⟨v, rfl, h1, h2⟩
    exact ⟨v, rfl, h1, hJ _ _ h1 h2⟩
/-- A call's own tail. -/
theorem j_call0 {f : Nat} {args : Array Value} {w : World} {v : Value} (hc : Calls Try.prog f args w fun e w' => e = .returned v ∧ Below w.heap.size w w') {V : Value → Prop} (hV : V v := by exact rfl) :
    jUpon Try.prog V (fun w' => Below w.heap.size w w') (.ok (.enter f args) w) := by
  refine hc.mono ?_
  rintro e w' ⟨rfl, hb⟩
  exact ⟨_, rfl, hV, hb⟩
theorem owns_below {w w' : World} {base : Nat} {e : TypeId} {size : Nat} {v : Value} {n : Nat} {xs : List Value} (h : w.ownsRow base e size v n xs) (hb : Below w.heap.size w w') : w'.ownsRow base e size v n xs := by
  refine ⟨h.1, ?_⟩
  rcases h.2 with h' | ⟨g, cap, cur, rfl, hbg, hg, r⟩
  · exact .inl h'
  · exact .inr ⟨g, cap, cur, rfl, hbg, (hb.block g (Array.getElem?_eq_some_iff.1 hg).1).trans hg, r⟩
/-- Numbers that came in, appended onto a slice of the call's own. -/
theorem append_came (w : World) (base : Nat) (v : Value) (n : Nat) (xs : List Value) (hown : w.ownsRow base 3 1 v n xs) (a : Option Addr) (b off cap : Nat) (zs : List Int) (hc : CameI w a b off zs) (h63 : n + zs.length ≤ 65536) (hbase : base ≤ w.heap.size) :
    ∃ v' w', (Builtin.append_ #[22, 22] 22 #[v, .slice a zs.length cap]).run Try.prog w = .ok v' w' ∧ w'.ownsRow base 3 1 v' (n + zs.length) (xs ++ zs.map (.int .i64)) ∧ w.grownBy w' v.ownBlock := by
  obtain ⟨i0, hi, hz0, hz1, hz2⟩ := info_parts Try.info3
  cases a with
  | none =>
    have h0 : zs.length = 0 := by
      rcases Nat.eq_zero_or_pos zs.length with h | h
      · exact h
      · have := hc.1 h
        cases this
    have hn : zs = [] := List.eq_nil_of_length_eq_zero h0
    subst hn
    refine ⟨v, w, ?_, by simpa using hown, ⟨rfl, rfl, rfl, Nat.le_refl _, fun _ _ _ => rfl⟩⟩
    rcases hown.2 with ⟨rfl, rfl⟩ | ⟨g, cap, cur, rfl, _, _, hnc, _⟩
    · simp [Builtin.append_, run_underlying Try.underlying22, sizeOf, typeInfo, hi, Builtin.lenOf, Builtin.firstCells]
    · simp [Builtin.append_, run_underlying Try.underlying22, sizeOf, typeInfo, hi, Builtin.lenOf, Builtin.firstCells, hnc, storeCells]
  | some ad =>
    have hcells : ∀ j u, (zs.map (Value.int .i64))[j]? = some u → w.cell? (ad.add j) = some u := by
      intro j u hu
      by_cases hj : j < zs.length
      · have he := hc.1 (by omega)
        injection he with he
        subst he
        have h2 := hc.2.2.2 j hj
        rw [Addr.add_lit, h2]
        rw [List.getElem?_map, List.getElem?_eq_getElem hj] at hu
        simp at hu
        rw [← hu]
        simp [iat, List.getD, hj]
      · rw [List.getElem?_eq_none (by simpa using hj)] at hu
        cases hu
    obtain ⟨v', w', hrun, h2, h3, _⟩ := run_append_own_at (P := Try.prog) w base 22 22 3 i0 (.int .i64 0) 1 8 Try.underlying22 hi hz0 hz1 hz2 rfl (by decide) v n xs hown ad zs.length cap (zs.map (.int .i64)) (by simp) hcells (by
      intro u hu
      obtain ⟨z, _, rfl⟩ := List.mem_map.1 hu
      rfl) (by simp only [maxLen]; omega) (by omega) hbase
    exact ⟨v', w', hrun, h2, h3⟩
theorem txt_inj {s t : B8} (h : txt s = txt t) : s = t := by
  have h1 : ∀ a b : Bool, dg a = dg b → a = b := by decide
  have h2 : txtL s = txtL t := by
    have := congrArg (fun x : ByteArray => x.data.toList) h
    simpa [txt] using this
  obtain ⟨s0, s1, s2, s3, s4, s5, s6, s7⟩ := s
  obtain ⟨t0, t1, t2, t3, t4, t5, t6, t7⟩ := t
  simp only [txtL, List.cons.injEq, and_true] at h2
  obtain ⟨a0, a1, a2, a3, a4, a5, a6, a7⟩ := h2
  rw [h1 _ _ a0, h1 _ _ a1, h1 _ _ a2, h1 _ _ a3, h1 _ _ a4, h1 _ _ a5, h1 _ _ a6, h1 _ _ a7]
theorem txt_eq (s t : B8) : txt s = txt t ↔ s = t := ⟨txt_inj, fun h => by rw [h]⟩
theorem CameI.rof {w : World} {a : Option Addr} {b off : Nat} {zs : List Int} (h : CameI w a b off zs) (cap : Nat) : Calls Try.prog 13 #[.slice a zs.length cap] w fun e w' => e = .returned (.string (txt (ofL zs))) ∧ Below w.heap.size w w' :=
  rof_any a b off cap zs w h.1 h.2.1 h.2.2.1 h.2.2.2
/-- Two lists laid one behind the other: both sets in one. -/
theorem ofL_append (zs ys : List Int) : ofL (zs ++ ys) = orS (ofL zs) (ofL ys) := B8.ext_get fun i => by
  rw [or_get, ofL_get, ofL_get, ofL_get]
  simp only [List.mem_append]
  by_cases h1 : i ∈ zs <;> by_cases h2 : i ∈ ys <;> by_cases h3 : 0 ≤ i ∧ i < 8 <;> simp [h1, h2, h3]
theorem or_comm' (s o : B8) : orS s o = orS o s := B8.ext_get fun i => by rw [or_get, or_get, Bool.or_comm]
theorem but_or (s o : B8) : orS (butS s o) o = orS s o := B8.ext_get fun i => by
  rw [or_get, or_get, but_get]
  cases s.get i <;> cases o.get i <;> rfl
theorem but_self (s : B8) : butS s s = B8.zero := B8.ext_get fun i => by
  rw [but_get, B8.zero_get]
  cases s.get i <;> rfl
end Go.Proofs.Ytpoelchjpnbgpaa
