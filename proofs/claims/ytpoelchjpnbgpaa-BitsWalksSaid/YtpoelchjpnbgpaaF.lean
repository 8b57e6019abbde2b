/- Or and But, walked. -/
import Derived.Test.YtpoelchjpnbgpaaE
namespace Go.Proofs.Ytpoelchjpnbgpaa
open Go.RowKit Go.Sort Go.Shelf
attribute [local go_sem] Oper.semAt_some

def orF (s : B8) (pre : List Int) : B8 := pre.foldl (fun s b => s.set b true) s
def butF (s : B8) (pre : List Int) : B8 := pre.foldl (fun s b => s.set b false) s
/-- All blocks of two sets; those of one that aren't in the other. -/
def orS (s o : B8) : B8 := orF s (els o)
def butS (s o : B8) : B8 := butF s (els o)
theorem BoxS.kept {W W' : World} {row : Option Nat} {b : Nat} {s : B8} (h : BoxS W b s) (hg : W.grownBy W' row) (hr : ∀ r, row = some r → ∃ o : Obj, W.heap[r]? = some o ∧ o.isCells = false) : BoxS W' b s := by
  refine (hg.block b h.lt fun e => ?_).trans h
  obtain ⟨_, ho, hc⟩ := hr b e.symm
  rw [show W.heap[b]? = _ from h] at ho
  injection ho with ho
  subst ho
  cases hc
theorem keeps_below {W W' : World} (h : Below W.heap.size W W') : KeepsOthers W W' := ⟨h.size, fun k _ hk _ => (h.block k (Array.getElem?_eq_some_iff.1 hk).1).trans hk⟩
theorem keeps_putS (W : World) (b : Nat) (t : B8) : KeepsOthers W (World.putS W b t) := by
  unfold World.putS
  exact (((((((KeepsOthers.setCell _ _ _).trans (KeepsOthers.setCell _ _ _)).trans (KeepsOthers.setCell _ _ _)).trans (KeepsOthers.setCell _ _ _)).trans (KeepsOthers.setCell _ _ _)).trans (KeepsOthers.setCell _ _ _)).trans (KeepsOthers.setCell _ _ _)).trans (KeepsOthers.setCell _ _ _)

set_option maxRecDepth 100000 in
set_option maxHeartbeats 4000000 in
theorem or_in (s o : B8) (w : World) : CallsIn Fence.wide 3 Try.prog 14 #[.agg #[.bool s.b0, .bool s.b1, .bool s.b2, .bool s.b3, .bool s.b4, .bool s.b5, .bool s.b6, .bool s.b7], .agg #[.bool o.b0, .bool o.b1, .bool o.b2, .bool o.b3, .bool o.b4, .bool o.b5, .bool o.b6, .bool o.b7]] w fun e W' => e = .returned (.agg #[.bool (orS s o).b0, .bool (orS s o).b1, .bool (orS s o).b2, .bool (orS s o).b3, .bool (orS s o).b4, .bool (orS s o).b5, .bool (orS s o).b6, .bool (orS s o).b7]) ∧ Below w.heap.size w W' := by
  refine callsIn_of_wp_marks Try.func14 rfl trivial ?_ rfl
  simp only [Try.ntmps14, List.size_toArray, List.length_cons, List.length_nil, Nat.reduceAdd, Nat.reduceSub, Array.replicate_succ, Array.replicate_zero, List.push_toArray, List.append_toArray, List.nil_append, List.cons_append]
  gi_wp2_with (refine ⟨trivial, ?_⟩; gi_at_call 10; refine (callsIn_wide.2 (all_any o _)).mono ?_; rintro e w' ⟨rfl, rfl⟩)
  obtain ⟨W0, hW0⟩ : ∃ W0, W0 = ((w.alloc (.cells #[.bool s.b0, .bool s.b1, .bool s.b2, .bool s.b3, .bool s.b4, .bool s.b5, .bool s.b6, .bool s.b7] 27)).alloc (.cells #[.bool o.b0, .bool o.b1, .bool o.b2, .bool o.b3, .bool o.b4, .bool o.b5, .bool o.b6, .bool o.b7] 27)).alloc (.cells #[.bool false, .bool false, .bool false, .bool false, .bool false, .bool false, .bool false, .bool false] 27) := ⟨_, rfl⟩
  have hz0 : W0.heap.size = w.heap.size + 1 + 1 + 1 := by rw [hW0]; simp
  have hb0 : Below w.heap.size w W0 := by rw [hW0]; exact (((Below.refl _ w).alloc (Nat.le_refl _) _).alloc (by simp) _).alloc (by simp; omega) _
  have hs0 : BoxS W0 w.heap.size s := by rw [hW0]; exact ((BoxS.new w s).alloc _).alloc _
  have hr0 : BoxS W0 (w.heap.size + 1 + 1) B8.zero := by rw [hW0]; have h := BoxS.new ((w.alloc (.cells #[.bool s.b0, .bool s.b1, .bool s.b2, .bool s.b3, .bool s.b4, .bool s.b5, .bool s.b6, .bool s.b7] 27)).alloc (.cells #[.bool o.b0, .bool o.b1, .bool o.b2, .bool o.b3, .bool o.b4, .bool o.b5, .bool o.b6, .bool o.b7] 27)) B8.zero; simp only [World.size_alloc] at h; exact h
  rw [← hW0]
  have hbox := BoxS.new W0 o
  have hB1 : Below w.heap.size w (W0.alloc (.cells #[.bool o.b0, .bool o.b1, .bool o.b2, .bool o.b3, .bool o.b4, .bool o.b5, .bool o.b6, .bool o.b7] 27)) := hb0.alloc hb0.size _
  rw [← hz0]
  clear hW0
  refine wpIn_rangeFunc_ownF rfl (by decide) (gf := 26) (lb := #[.pointer (some ⟨W0.heap.size, 0, none⟩)]) rfl trivial (enters_of Try.func26 (by kernel_rfl) rfl)
    (all_stops (3 - 1) (by decide) W0.heap.size w.heap.size o _ hbox) belowK_t (belowK_b (by simp; omega)) (Below.refl _ _) (fun _ => rfl)
    (fun pre W => (BoxS W w.heap.size (orF s pre) ∧ BoxS W (w.heap.size + 1 + 1) B8.zero) ∧ Below w.heap.size w W)
    (fun _ _ _ => False)
    (OwnFrom.and (Own.from (fun s A B row hs hg hr => ⟨hs.1.kept hg hr, hs.2.kept hg hr⟩) _) (ownFrom_below (Nat.le_refl _) (by simp; omega)))
    (fun _ _ _ _ _ hs _ _ => hs)
    ⟨⟨hs0.alloc _, hr0.alloc _⟩, hB1⟩
    (fun x => { tmps := #[.agg #[.bool s.b0, .bool s.b1, .bool s.b2, .bool s.b3, .bool s.b4, .bool s.b5, .bool s.b6, .bool s.b7], .agg #[.bool o.b0, .bool o.b1, .bool o.b2, .bool o.b3, .bool o.b4, .bool o.b5, .bool o.b6, .bool o.b7], .pointer (some ⟨w.heap.size, 0, none⟩), .pointer (some ⟨w.heap.size + 1, 0, none⟩), .pointer (some ⟨w.heap.size + 1 + 1, 0, none⟩), .int .i64 x, .agg #[.bool o.b0, .bool o.b1, .bool o.b2, .bool o.b3, .bool o.b4, .bool o.b5, .bool o.b6, .bool o.b7], .func (.func 26) #[] #[.pointer (some ⟨W0.heap.size, 0, none⟩)], .int .i64 x, undef, undef, undef, undef], defers := [] }) ?assign ?body ?done ?stop
  case assign =>
    intro l x W K hK
    clear hz0
    gi_wp2
    first
      | exact hK
      | (refine cast (congrArg (fun t => K { tmps := t, defers := [] } W) ?_) hK
         first | kernel_rfl | simp)
  case body =>
    rintro l pre x W ⟨⟨hs, hr⟩, hB⟩ hlt
    have HS := Lib.hid hs
    have HR := Lib.hid hr
    have HB := Lib.hid hB
    obtain ⟨t0, t1, t2, t3, t4, t5, t6, t7, ff⟩ := hs.cells
    clear hs hr hB
    gi_wp2_with (refine ⟨trivial, ?_⟩; gi_at_call 17; refine (CallsIn.inRound l (callsIn_wide.2 (with_any (orF s pre) x W))).mono ?_; rintro e w1 ⟨rfl, hb1⟩; have HS1 := Lib.hid (HS.out.below hb1 HS.out.lt); have HK1 := Lib.hid hb1; clear t0 t1 t2 t3 t4 t5 t6 t7 ff hb1; obtain ⟨t0, t1, t2, t3, t4, t5, t6, t7, ff⟩ := HS1.out.cells)
    have HR1 := Lib.hid (HR.out.below HK1.out HR.out.lt)
    have e1 : orF s (pre ++ [x]) = (orF s pre).set x true := by simp [orF]
    refine ⟨KeepsOthers.trans (keeps_below HK1.out) (keeps_putS w1 _ _), putS_below (HK1.out.mono (by have := HB.out.size; omega)) (Nat.le_refl _) _, ⟨?_, HR1.out.put_other (by omega) _⟩, putS_below (HB.out.trans (HK1.out.mono HB.out.size)) (Nat.le_refl _) _⟩
    rw [e1]
    exact HS1.out.put _
  case done =>
    rintro D ys W hD rfl ⟨⟨hs, hr⟩, hB⟩ hK
    have HS := Lib.hid hs
    have HR := Lib.hid hr
    have HB := Lib.hid hB
    obtain ⟨t0, t1, t2, t3, t4, t5, t6, t7, ff⟩ := hs.cells
    obtain ⟨u0, u1, u2, u3, u4, u5, u6, u7, gg⟩ := hr.cells
    have HKD := Lib.hid hK
    clear hs hr hB hK
    gi_wp2
    have hK' := (keeps_putS W (w.heap.size + 1 + 1) (orF s (els o))).same D _ HKD.out rfl
    refine ⟨by simp, .inl ⟨_, _, rfl, run_takeDeferred hK', ?_⟩⟩
    have hx : BoxS ((World.putS W (w.heap.size + 1 + 1) (orF s (els o))).putObj D (.deferred none)) (w.heap.size + 1 + 1) (orF s (els o)) := (World.putObj_heap_other (by simp at hD; omega)).trans (HR.out.put _)
    obtain ⟨v0, v1, v2, v3, v4, v5, v6, v7, _⟩ := hx.cells
    refine ⟨.agg #[.bool (orS s o).b0, .bool (orS s o).b1, .bool (orS s o).b2, .bool (orS s o).b3, .bool (orS s o).b4, .bool (orS s o).b5, .bool (orS s o).b6, .bool (orS s o).b7], ?_, rfl, (putS_below HB.out (by omega) _).trans (belowK_b (w := w) (Nat.le_refl _) _ D _ _ (by simp at hD; omega) hK' rfl rfl)⟩
    simp only [World.putS] at v0 v1 v2 v3 v4 v5 v6 v7
    simp [results, Try.f14, go_sem, v0, v1, v2, v3, v4, v5, v6, v7, orS]
  case stop =>
    rintro D c pre W _ _ h _
    exact h.elim
theorem or_any (s o : B8) (w : World) : Calls Try.prog 14 #[.agg #[.bool s.b0, .bool s.b1, .bool s.b2, .bool s.b3, .bool s.b4, .bool s.b5, .bool s.b6, .bool s.b7], .agg #[.bool o.b0, .bool o.b1, .bool o.b2, .bool o.b3, .bool o.b4, .bool o.b5, .bool o.b6, .bool o.b7]] w fun e W' => e = .returned (.agg #[.bool (orS s o).b0, .bool (orS s o).b1, .bool (orS s o).b2, .bool (orS s o).b3, .bool (orS s o).b4, .bool (orS s o).b5, .bool (orS s o).b6, .bool (orS s o).b7]) ∧ Below w.heap.size w W' := callsIn_wide.1 (or_in s o w)

set_option maxRecDepth 100000 in
set_option maxHeartbeats 4000000 in
theorem but_in (s o : B8) (w : World) : CallsIn Fence.wide 3 Try.prog 15 #[.agg #[.bool s.b0, .bool s.b1, .bool s.b2, .bool s.b3, .bool s.b4, .bool s.b5, .bool s.b6, .bool s.b7], .agg #[.bool o.b0, .bool o.b1, .bool o.b2, .bool o.b3, .bool o.b4, .bool o.b5, .bool o.b6, .bool o.b7]] w fun e W' => e = .returned (.agg #[.bool (butS s o).b0, .bool (butS s o).b1, .bool (butS s o).b2, .bool (butS s o).b3, .bool (butS s o).b4, .bool (butS s o).b5, .bool (butS s o).b6, .bool (butS s o).b7]) ∧ Below w.heap.size w W' := by
  refine callsIn_of_wp_marks Try.func15 rfl trivial ?_ rfl
  simp only [Try.ntmps15, List.size_toArray, List.length_cons, List.length_nil, Nat.reduceAdd, Nat.reduceSub, Array.replicate_succ, Array.replicate_zero, List.push_toArray, List.append_toArray, List.nil_append, List.cons_append]
  gi_wp2_with (refine ⟨trivial, ?_⟩; gi_at_call 10; refine (callsIn_wide.2 (all_any o _)).mono ?_; rintro e w' ⟨rfl, rfl⟩)
  obtain ⟨W0, hW0⟩ : ∃ W0, W0 = ((w.alloc (.cells #[.bool s.b0, .bool s.b1, .bool s.b2, .bool s.b3, .bool s.b4, .bool s.b5, .bool s.b6, .bool s.b7] 27)).alloc (.cells #[.bool o.b0, .bool o.b1, .bool o.b2, .bool o.b3, .bool o.b4, .bool o.b5, .bool o.b6, .bool o.b7] 27)).alloc (.cells #[.bool false, .bool false, .bool false, .bool false, .bool false, .bool false, .bool false, .bool false] 27) := ⟨_, rfl⟩
  have hz0 : W0.heap.size = w.heap.size + 1 + 1 + 1 := by rw [hW0]; simp
  have hb0 : Below w.heap.size w W0 := by rw [hW0]; exact (((Below.refl _ w).alloc (Nat.le_refl _) _).alloc (by simp) _).alloc (by simp; omega) _
  have hs0 : BoxS W0 w.heap.size s := by rw [hW0]; exact ((BoxS.new w s).alloc _).alloc _
  have hr0 : BoxS W0 (w.heap.size + 1 + 1) B8.zero := by rw [hW0]; have h := BoxS.new ((w.alloc (.cells #[.bool s.b0, .bool s.b1, .bool s.b2, .bool s.b3, .bool s.b4, .bool s.b5, .bool s.b6, .bool s.b7] 27)).alloc (.cells #[.bool o.b0, .bool o.b1, .bool o.b2, .bool o.b3, .bool o.b4, .bool o.b5, .bool o.b6, .bool o.b7] 27)) B8.zero; simp only [World.size_alloc] at h; exact h
  rw [← hW0]
  have hbox := BoxS.new W0 o
  have hB1 : Below w.heap.size w (W0.alloc (.cells #[.bool o.b0, .bool o.b1, .bool o.b2, .bool o.b3, .bool o.b4, .bool o.b5, .bool o.b6, .bool o.b7] 27)) := hb0.alloc hb0.size _
  rw [← hz0]
  clear hW0
  refine wpIn_rangeFunc_ownF rfl (by decide) (gf := 26) (lb := #[.pointer (some ⟨W0.heap.size, 0, none⟩)]) rfl trivial (enters_of Try.func26 (by kernel_rfl) rfl)
    (all_stops (3 - 1) (by decide) W0.heap.size w.heap.size o _ hbox) belowK_t (belowK_b (by simp; omega)) (Below.refl _ _) (fun _ => rfl)
    (fun pre W => (BoxS W w.heap.size (butF s pre) ∧ BoxS W (w.heap.size + 1 + 1) B8.zero) ∧ Below w.heap.size w W)
    (fun _ _ _ => False)
    (OwnFrom.and (Own.from (fun s A B row hs hg hr => ⟨hs.1.kept hg hr, hs.2.kept hg hr⟩) _) (ownFrom_below (Nat.le_refl _) (by simp; omega)))
    (fun _ _ _ _ _ hs _ _ => hs)
    ⟨⟨hs0.alloc _, hr0.alloc _⟩, hB1⟩
    (fun x => { tmps := #[.agg #[.bool s.b0, .bool s.b1, .bool s.b2, .bool s.b3, .bool s.b4, .bool s.b5, .bool s.b6, .bool s.b7], .agg #[.bool o.b0, .bool o.b1, .bool o.b2, .bool o.b3, .bool o.b4, .bool o.b5, .bool o.b6, .bool o.b7], .pointer (some ⟨w.heap.size, 0, none⟩), .pointer (some ⟨w.heap.size + 1, 0, none⟩), .pointer (some ⟨w.heap.size + 1 + 1, 0, none⟩), .int .i64 x, .agg #[.bool o.b0, .bool o.b1, .bool o.b2, .bool o.b3, .bool o.b4, .bool o.b5, .bool o.b6, .bool o.b7], .func (.func 26) #[] #[.pointer (some ⟨W0.heap.size, 0, none⟩)], .int .i64 x, undef, undef, undef, undef], defers := [] }) ?assign ?body ?done ?stop
  case assign =>
    intro l x W K hK
    clear hz0
    gi_wp2
    first
      | exact hK
      | (refine cast (congrArg (fun t => K { tmps := t, defers := [] } W) ?_) hK
         first | kernel_rfl | simp)
  case body =>
    rintro l pre x W ⟨⟨hs, hr⟩, hB⟩ hlt
    have HS := Lib.hid hs
    have HR := Lib.hid hr
    have HB := Lib.hid hB
    obtain ⟨t0, t1, t2, t3, t4, t5, t6, t7, ff⟩ := hs.cells
    clear hs hr hB
    gi_wp2_with (refine ⟨trivial, ?_⟩; gi_at_call 19; refine (CallsIn.inRound l (callsIn_wide.2 (without_any (butF s pre) x W))).mono ?_; rintro e w1 ⟨rfl, hb1⟩; have HS1 := Lib.hid (HS.out.below hb1 HS.out.lt); have HK1 := Lib.hid hb1; clear t0 t1 t2 t3 t4 t5 t6 t7 ff hb1; obtain ⟨t0, t1, t2, t3, t4, t5, t6, t7, ff⟩ := HS1.out.cells)
    have HR1 := Lib.hid (HR.out.below HK1.out HR.out.lt)
    have e1 : butF s (pre ++ [x]) = (butF s pre).set x false := by simp [butF]
    refine ⟨KeepsOthers.trans (keeps_below HK1.out) (keeps_putS w1 _ _), putS_below (HK1.out.mono (by have := HB.out.size; omega)) (Nat.le_refl _) _, ⟨?_, HR1.out.put_other (by omega) _⟩, putS_below (HB.out.trans (HK1.out.mono HB.out.size)) (Nat.le_refl _) _⟩
    rw [e1]
    exact HS1.out.put _
  case done =>
    rintro D ys W hD rfl ⟨⟨hs, hr⟩, hB⟩ hK
    have HS := Lib.hid hs
    have HR := Lib.hid hr
    have HB := Lib.hid hB
    obtain ⟨t0, t1, t2, t3, t4, t5, t6, t7, ff⟩ := hs.cells
    obtain ⟨u0, u1, u2, u3, u4, u5, u6, u7, gg⟩ := hr.cells
    have HKD := Lib.hid hK
    clear hs hr hB hK
    gi_wp2
    have hK' := (keeps_putS W (w.heap.size + 1 + 1) (butF s (els o))).same D _ HKD.out rfl
    refine ⟨by simp, .inl ⟨_, _, rfl, run_takeDeferred hK', ?_⟩⟩
    have hx : BoxS ((World.putS W (w.heap.size + 1 + 1) (butF s (els o))).putObj D (.deferred none)) (w.heap.size + 1 + 1) (butF s (els o)) := (World.putObj_heap_other (by simp at hD; omega)).trans (HR.out.put _)
    obtain ⟨v0, v1, v2, v3, v4, v5, v6, v7, _⟩ := hx.cells
    refine ⟨.agg #[.bool (butS s o).b0, .bool (butS s o).b1, .bool (butS s o).b2, .bool (butS s o).b3, .bool (butS s o).b4, .bool (butS s o).b5, .bool (butS s o).b6, .bool (butS s o).b7], ?_, rfl, (putS_below HB.out (by omega) _).trans (belowK_b (w := w) (Nat.le_refl _) _ D _ _ (by simp at hD; omega) hK' rfl rfl)⟩
    simp only [World.putS] at v0 v1 v2 v3 v4 v5 v6 v7
    simp [results, Try.f15, go_sem, v0, v1, v2, v3, v4, v5, v6, v7, butS]
  case stop =>
    rintro D c pre W _ _ h _
    exact h.elim
theorem but_any (s o : B8) (w : World) : Calls Try.prog 15 #[.agg #[.bool s.b0, .bool s.b1, .bool s.b2, .bool s.b3, .bool s.b4, .bool s.b5, .bool s.b6, .bool s.b7], .agg #[.bool o.b0, .bool o.b1, .bool o.b2, .bool o.b3, .bool o.b4, .bool o.b5, .bool o.b6, .bool o.b7]] w fun e W' => e = .returned (.agg #[.bool (butS s o).b0, .bool (butS s o).b1, .bool (butS s o).b2, .bool (butS s o).b3, .bool (butS s o).b4, .bool (butS s o).b5, .bool (butS s o).b6, .bool (butS s o).b7]) ∧ Below w.heap.size w W' := callsIn_wide.1 (but_in s o w)

end Go.Proofs.Ytpoelchjpnbgpaa
