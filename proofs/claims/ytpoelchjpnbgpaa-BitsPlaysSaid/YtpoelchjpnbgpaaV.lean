/- U's rule where the invariant sees the slots' first values; the invariant of BitsPlays' regions. -/
import Derived.Test.YtpoelchjpnbgpaaJ
import Derived.Test.YtpoelchjpnbgpaaP
namespace Go.Proofs.Ytpoelchjpnbgpaa
open Go.RowKit

section
variable {P : Program} {ops : Array Oper} {V : Nat → Value → Prop} {J : Inv} {a0 : Act} {w0 : World} {Q : Exit → Act → World → Prop}
/-- THE RULE. -/
theorem wp_region_all2 {id : Nat} (V : Nat → Value → Prop) (J : Inv) (live : Nat → Bool) (ps : List (Nat × Nat)) (hG : GuardsO ops live V J) (hm : P.follows .mixedOrders = true) (hB : plainO ops a0.tmps.size = true)
    (hps : ((List.range ops.size).filterMap fun i => (dstO ops i).map fun d => (i, d)) = ps) (hnd : (ps.map (·.2)).Nodup) (hb : ps.all (fun p => decide (p.2 < a0.tmps.size)) = true)
    (hN : ∀ i, i < ops.size → dstO ops i = none → V i undef) (h0 : J (fun i => decide (ops.size ≤ i)) (valOf ops a0.tmps) w0.drew)
    (hop : ∀ i o, ops[i]? = some o → live i = true → OOb P ops V J a0 i o)
    (hend : ∀ (vals : Nat → Value) w, (∀ i, i < ops.size → V i (vals i)) → J (fun _ => true) vals w → Q .normal { tmps := setG ps vals a0.tmps, defers := a0.defers } w) :
    (Code.region id ops true).wp P Q a0 w0 := by
  refine wp_region_any hm (wpAny_o hG hB hN hop (fun a w h => ?_) _ _ _ _ ⟨rfl, rfl, ?_, fun _ _ => rfl, ?_, ?_, by simp⟩ ?_)
  · obtain ⟨hsz, hdf, hv, hrest, hj⟩ := h
    have hmem : ∀ i d, (i, d) ∈ ps → i < ops.size ∧ dstO ops i = some d := fun i d hp => by
      rw [← hps, List.mem_filterMap] at hp
      obtain ⟨k, hk, he⟩ := hp
      cases hd : dstO ops k with
      | none => rw [hd] at he; cases he
      | some d2 =>
        rw [hd] at he
        simp only [Option.map_some, Option.some.injEq, Prod.mk.injEq] at he
        obtain ⟨rfl, rfl⟩ := he
        exact ⟨List.mem_range.1 hk, hd⟩
    have hin : ∀ i d, i < ops.size → dstO ops i = some d → (i, d) ∈ ps := fun i d hi hd => by
      rw [← hps, List.mem_filterMap]
      exact ⟨i, List.mem_range.2 hi, by rw [hd]; rfl⟩
    have hfr : a = { tmps := setG ps (valOf ops a.tmps) a0.tmps, defers := a0.defers } := by
      obtain ⟨tm, df⟩ := a
      have hdf' : df = a0.defers := hdf
      subst hdf'
      congr 1
      rw [setG_setF]
      refine Array.ext (by rw [setF_size]; exact hsz) fun k h1 h2 => ?_
      have e1 : tm[k] = tm.getD k undef := getD_eq h1
      have e2 : (setF (ps.map (·.2)) (ps.map fun p => valOf ops tm p.1) a0.tmps)[k] = (setF (ps.map (·.2)) (ps.map fun p => valOf ops tm p.1) a0.tmps).getD k undef := getD_eq h2
      show tm[k] = (setF (ps.map (·.2)) (ps.map fun p => valOf ops tm p.1) a0.tmps)[k]
      rw [e1, e2]
      by_cases hk : k ∈ ps.map (·.2)
      · obtain ⟨i, hi, rfl⟩ := List.mem_iff_getElem.1 hk
        have hi' : i < ps.length := by simpa using hi
        have hlt : (ps.map (·.2))[i] < a0.tmps.size := by
          rw [List.getElem_map]
          exact of_decide_eq_true (List.all_eq_true.1 hb _ (List.getElem_mem hi'))
        rw [setF_at _ _ a0.tmps i hi (by simpa using hi') hnd hlt, List.getElem_map, List.getElem_map]
        have hq := (hmem ps[i].1 ps[i].2 (List.getElem_mem hi')).2
        exact (valOf_some hq).symm
      · rw [setF_other _ _ _ _ hk]
        refine hrest k fun i hi e => hk ?_
        exact List.mem_map.2 ⟨(i, k), hin i k hi e, rfl⟩
    rw [hfr]
    exact hend _ w hv hj
  · intro i hi hl
    simp [Array.getD, hi] at hl
  · have e : (fun i => (Array.replicate ops.size false).getD i true) = fun i => decide (ops.size ≤ i) := funext fun i => by
      by_cases hi : i < ops.size
      · simp [Array.getD, hi]
      · simp [Array.getD, hi]
        omega
    rw [e]
    exact h0
  · intro i o ho hl
    have hi : i < ops.size := (Array.getElem?_eq_some_iff.1 ho).1
    simp [Array.getD, hi] at hl
  · exact Nat.le_trans List.countP_le_length (by simp)
end

/-- A change's box. -/
def BoxO (w : World) (b : Nat) (o : Wo) : Prop := w.heap[b]? = some (.cells #[.int .i64 o.k, .int .i64 o.x, .slice o.a o.zs.length o.cap] 42 (0, 0))
theorem BoxO.lt {w : World} {b : Nat} {o : Wo} (h : BoxO w b o) : b < w.heap.size := lt_of_block h
theorem BoxO.below {w w' : World} {b : Nat} {o : Wo} (h : BoxO w b o) (hB : Below w.heap.size w w') : BoxO w' b o := (hB.block b h.lt).trans h
theorem BoxO.cells {w : World} {b : Nat} {o : Wo} (h : BoxO w b o) : w.cell? ⟨b, 0, none⟩ = some (.int .i64 o.k) ∧ w.cell? ⟨b, 1, none⟩ = some (.int .i64 o.x) ∧ w.cell? ⟨b, 2, none⟩ = some (.slice o.a o.zs.length o.cap) := by
  unfold BoxO at h
  simp [World.cell?, h]
theorem BoxO.put_other {w : World} {b b' : Nat} {o : Wo} (h : BoxO w b o) (hb : b ≠ b') (t : B8) : BoxO (World.putS w b' t) b o := by
  unfold BoxO World.putS
  rw [Below.heap_setCell _ _ _ _ hb, Below.heap_setCell _ _ _ _ hb, Below.heap_setCell _ _ _ _ hb, Below.heap_setCell _ _ _ _ hb, Below.heap_setCell _ _ _ _ hb, Below.heap_setCell _ _ _ _ hb, Below.heap_setCell _ _ _ _ hb, Below.heap_setCell _ _ _ _ hb]
  exact h
/-- A region that turns the set in its box by operation 'n' and the text's slot by operation 'n + 1'. -/
structure JP (wE : World) (p q : Nat) (s s' : B8) (o : Wo) (n : Nat) (done : Nat → Bool) (vals : Nat → Value) (w : World) : Prop where
  ent : Below wE.heap.size wE w
  box : BoxS w p (if done n = true then s' else s)
  ob : BoxO w q o
  old : done (n + 1) = false → vals (n + 1) = .string (txt s)
  came : CameI w o.a o.b o.off o.zs
section
variable {wE : World} {p q n i : Nat} {s s' : B8} {o : Wo} {done : Nat → Bool} {vals : Nat → Value} {w w' : World} {ops : Array Oper} {v : Value}
theorem mark_ne {k : Nat} (h : i ≠ k) : mark done i k = done k := by unfold mark; rw [if_neg (Ne.symm h)]
theorem mark_at : mark done i i = true := by unfold mark; rw [if_pos rfl]
theorem updO_ne {k : Nat} (h : i ≠ k) : updO ops vals i v k = vals k := by unfold updO; rw [if_neg (fun q => h q.1.symm)]
theorem JP.skip (h : JP wE p q s s' o n done vals w) (hb : Below w.heap.size w w') (hi : i ≠ n ∧ i ≠ n + 1) : JP wE p q s s' o n (mark done i) (updO ops vals i v) w' := by
  obtain ⟨h1, h2⟩ := hi
  refine ⟨h.ent.trans (hb.mono h.ent.size), ?_, h.ob.below hb, ?_, h.came.below hb⟩
  · rw [mark_ne h1]
    exact h.box.below hb h.box.lt
  · rw [mark_ne h2, updO_ne h2]
    exact h.old
theorem JP.last (h : JP wE p q s s' o n done vals w) : JP wE p q s s' o n (mark done (n + 1)) (updO ops vals (n + 1) v) w := by
  refine ⟨h.ent, ?_, h.ob, ?_, h.came⟩
  · rw [mark_ne (by omega)]
    exact h.box
  · rw [mark_at]
    exact fun e => by cases e
theorem JP.store (hp : wE.heap.size ≤ p) (hpq : q ≠ p) (hc : 0 < o.zs.length → o.b < wE.heap.size) (h : JP wE p q s s' o n done vals w) : JP wE p q s s' o n (mark done n) (updO ops vals n v) (World.putS w p s') := by
  refine ⟨putS_below h.ent hp s', ?_, h.ob.put_other hpq s', ?_, ?_⟩
  · rw [mark_at, if_pos rfl]
    exact h.box.put s'
  · rw [mark_ne (by omega), updO_ne (by omega)]
    exact h.old
  · have hB : Below wE.heap.size w (World.putS w p s') := putS_below (Below.refl _ _) hp s'
    exact ⟨h.came.1, fun q => Nat.lt_of_lt_of_le (h.came.2.1 q) hB.size, h.came.2.2.1, h.came.2.2.2.below hB hc⟩
end
end Go.Proofs.Ytpoelchjpnbgpaa
