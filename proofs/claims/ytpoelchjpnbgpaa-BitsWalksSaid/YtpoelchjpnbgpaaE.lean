/- All: what it yields; Len, walked. -/
import Derived.RangeFuncNested
import Derived.RangeFuncBound
import Derived.RangeFuncCalls
import Derived.RangeFuncLeaves
import Derived.RangeFuncFrom
import Derived.Shelf.Abstract
import Derived.Shelf.RegionOpen
import Derived.OwnWalkIn
import Derived.TacticsInMore
import Derived.LoopNIn
import Derived.LoopIn
import Derived.Test.YtpoelchjpnbgpaaC
namespace Go.Proofs.Ytpoelchjpnbgpaa
open Go.RowKit Go.Sort Go.Shelf
attribute [local go_sem] Oper.semAt_some

/-- The blocks of a set below k, rising. -/
def elsTo (s : B8) : Nat → List Int
  | 0 => []
  | k + 1 => elsTo s k ++ (if s.get k then [(k : Int)] else [])
def els (s : B8) : List Int := elsTo s 8
theorem elsTo_length (s : B8) : ∀ k, (elsTo s k).length ≤ k
  | 0 => Nat.le_refl _
  | k + 1 => by
    have := elsTo_length s k
    rw [elsTo, List.length_append]
    split <;> simp <;> omega
theorem elsTo_prefix (s : B8) : ∀ k, k ≤ 8 → elsTo s k <+: els s := by
  have h : ∀ d k, k + d = 8 → elsTo s k <+: els s := by
    intro d
    induction d with
    | zero => intro k hk; rw [show k = 8 from hk]; exact List.prefix_refl _
    | succ d ih =>
      intro k hk
      refine List.IsPrefix.trans ?_ (ih (k + 1) (by omega))
      rw [elsTo]
      exact List.prefix_append _ _
  exact fun k hk => h (8 - k) k (by omega)

set_option maxRecDepth 100000 in
set_option maxHeartbeats 2000000 in
theorem all1_in (n : Nat) (hn : 1 ≤ n) (l Bs n₀ : Nat) (s : B8) (J Jx : List Int → World → Prop)
    (hY : ∀ pre x W, J pre W → pre.length < 8 → YieldAt Fence.wide (n - 1) Try.prog l #[.int .i64 x] W fun e W' =>
      (e = .returned (.bool true) ∧ J (pre ++ [x]) W' ∧ Below n₀ W W') ∨ (e = .returned (.bool false) ∧ Jx (pre ++ [x]) W'))
    (W : World) (hB : BoxS W Bs s) (h0 : J [] W) :
    CallsIn Fence.wide n Try.prog 26 #[.func (.yield l) #[] #[], .pointer (some ⟨Bs, 0, none⟩)] W fun e W' => (∃ v, e = .returned v) ∧
      ((∃ ys, ys = els s ∧ J ys W') ∨ (∃ pre, pre <+: els s ∧ Jx pre W')) := by
  obtain ⟨t0, t1, t2, t3, t4, t5, t6, t7, ff⟩ := hB.cells
  clear hB
  refine callsIn_of_wp Try.func26 rfl trivial ?_ rfl
  simp only [Try.ntmps26, List.size_toArray, List.length_cons, List.length_nil, Nat.reduceAdd, Nat.reduceSub, Array.replicate_succ, Array.replicate_zero, List.push_toArray, List.append_toArray, List.nil_append, List.cons_append]
  gi_wp2
  gi_loopw [7] (fun i wr => ∃ k : Nat, k ≤ 8 ∧ i = .int .i64 k ∧ J (elsTo s k) wr)
    (fun i _ => 8 - (intOf i).toNat)
  case atStart => exact ⟨0, Nat.zero_le _, rfl, h0⟩
  case round =>
    obtain ⟨k, hk, rfl, hJs⟩ := hrel
    by_cases hlt : k < 8
    · have hix := idx_any s k hlt
      cases hb : s.get k with
      | true =>
        rw [hb] at hix
        obtain ⟨fn, tmps, assign, body, hy, hR⟩ := hY _ (k : Int) wr hJs (by have := elsTo_length s k; omega)
        have HE := Lib.hid (show elsTo s (k + 1) = elsTo s k ++ [(k : Int)] from by rw [elsTo, if_pos hb])
        have HB := Lib.hid hb
        clear hb
        gi_wp2
        refine hR.mono ?_
        rintro e W3 (⟨rfl, hJ3, hk3⟩ | ⟨rfl, hJx3⟩)
        · gi_wp2
          go_roundw
          case rel => exact ⟨k + 1, by omega, by simp, by rw [HE.out]; exact hJ3⟩
          case measure => simp [intOf]; omega
        · gi_wp2
          refine bodyPost_ret (results_none rfl _ _ _) rfl ?_
          exact ⟨⟨_, rfl⟩, .inr ⟨_, by rw [← HE.out]; exact elsTo_prefix s (k + 1) (by omega), hJx3⟩⟩
      | false =>
        rw [hb] at hix
        have HE := Lib.hid (show elsTo s (k + 1) = elsTo s k from by rw [elsTo, if_neg (by rw [hb]; decide), List.append_nil])
        have HB := Lib.hid hb
        clear hb
        gi_wp2
        refine ⟨fun _ h => (by cases h), ?_⟩
        gi_wp2
        go_roundw
        case rel => exact ⟨k + 1, by omega, by simp, by rw [HE.out]; exact hJs⟩
        case measure => simp [intOf]; omega
    · obtain rfl : k = 8 := by omega
      gi_wp2
      go_end0
      exact ⟨⟨_, rfl⟩, .inl ⟨_, rfl, hJs⟩⟩

set_option maxHeartbeats 1000000 in
/-- All: the set is boxed; the function value captures the box. -/
theorem all_any (s : B8) (w : World) : Calls Try.prog 10 #[.agg #[.bool s.b0, .bool s.b1, .bool s.b2, .bool s.b3, .bool s.b4, .bool s.b5, .bool s.b6, .bool s.b7]] w fun e w' => e = .returned (.func (.func 26) #[] #[.pointer (some ⟨w.heap.size, 0, none⟩)]) ∧ w' = w.alloc (.cells #[.bool s.b0, .bool s.b1, .bool s.b2, .bool s.b3, .bool s.b4, .bool s.b5, .bool s.b6, .bool s.b7] 27) := by
  go_enter Try.func10, Try.ntmps10
  go_wp2
  go_ret
  exact ⟨rfl, rfl⟩
/-- What All's value yields. -/
theorem all_stops (n : Nat) (hn : 1 ≤ n) (Bs n₀ : Nat) (s : B8) (w : World) (hB : BoxS w Bs s) :
    SeqStopsK Fence.wide n Try.prog 26 #[.pointer (some ⟨Bs, 0, none⟩)] (fun x : Int => #[Value.int .i64 x]) (Below n₀) (fun ys => ys = els s) (fun pre => pre <+: els s) 8 w := fun l J Jx W hW _ _ hY h0 =>
  all1_in n hn l Bs n₀ s J Jx hY W (hB.below hW hB.lt) h0

theorem cell_of_box {W : World} {b : Nat} {v : Value} {t : TypeId} (h : W.heap[b]? = some (.cells #[v] t)) : W.cell? ⟨b, 0, none⟩ = some v ∧ W.frozen? ⟨b, 0, none⟩ = false := ⟨by simp [World.cell?, h], by simp [World.frozen?, h]⟩
theorem cell_new_l (W : World) (v : Value) (t : TypeId) : (W.alloc (.cells #[v] t)).cell? ⟨W.heap.size, 0, none⟩ = some v ∧ (W.alloc (.cells #[v] t)).frozen? ⟨W.heap.size, 0, none⟩ = false := by
  exact cell_of_box (World.alloc_heap_new W (.cells #[v] t))
theorem cell_alloc_l {W : World} {a : Addr} {v : Value} (o : Obj) (h : W.cell? a = some v) : (W.alloc o).cell? a = some v := cell_kept h (World.grownBy_alloc W o none) (fun r e => by cases e)
theorem frozen_alloc_l {W : World} {a : Addr} {v : Value} (o : Obj) (h : W.cell? a = some v) (hf : W.frozen? a = false) : (W.alloc o).frozen? a = false := (frozen_kept h (World.grownBy_alloc W o none) (fun r e => by cases e)).trans hf
theorem lenS_le (s : B8) : (els s).length ≤ 8 := elsTo_length s 8
set_option maxRecDepth 100000 in
set_option maxHeartbeats 2000000 in
theorem len_in (s : B8) (w : World) : CallsIn Fence.wide 3 Try.prog 12 #[.agg #[.bool s.b0, .bool s.b1, .bool s.b2, .bool s.b3, .bool s.b4, .bool s.b5, .bool s.b6, .bool s.b7]] w fun e W' => e = .returned (.int .i64 (els s).length) ∧ Below w.heap.size w W' := by
  refine callsIn_of_wp_marks Try.func12 rfl trivial ?_ rfl
  simp only [Try.ntmps12, List.size_toArray, List.length_cons, List.length_nil, Nat.reduceAdd, Nat.reduceSub, Array.replicate_succ, Array.replicate_zero, List.push_toArray, List.append_toArray, List.nil_append, List.cons_append]
  gi_wp2_with (refine ⟨trivial, ?_⟩; gi_at_call 10; refine (callsIn_wide.2 (all_any s _)).mono ?_; rintro e w' ⟨rfl, rfl⟩)
  obtain ⟨W0, hW0⟩ : ∃ W0, W0 = (w.alloc (.cells #[.bool s.b0, .bool s.b1, .bool s.b2, .bool s.b3, .bool s.b4, .bool s.b5, .bool s.b6, .bool s.b7] 27)).alloc (.cells #[.int .i64 0] 3) := ⟨_, rfl⟩
  have hz0 : W0.heap.size = w.heap.size + 1 + 1 := by rw [hW0]; simp
  have hb0 : Below w.heap.size w W0 := by rw [hW0]; exact ((Below.refl _ w).alloc (Nat.le_refl _) _).alloc (by simp) _
  have hs0 := cell_new_l (w.alloc (.cells #[.bool s.b0, .bool s.b1, .bool s.b2, .bool s.b3, .bool s.b4, .bool s.b5, .bool s.b6, .bool s.b7] 27)) (.int .i64 0) 3
  rw [← hW0, World.size_alloc] at hs0
  rw [← hW0]
  have hbox := BoxS.new W0 s
  have hB1 : Below w.heap.size w (W0.alloc (.cells #[.bool s.b0, .bool s.b1, .bool s.b2, .bool s.b3, .bool s.b4, .bool s.b5, .bool s.b6, .bool s.b7] 27)) := hb0.alloc hb0.size _
  rw [← hz0]
  refine wpIn_rangeFunc_ownF rfl (by decide) (gf := 26) (lb := #[.pointer (some ⟨W0.heap.size, 0, none⟩)]) rfl trivial (enters_of Try.func26 (by kernel_rfl) rfl)
    (all_stops (3 - 1) (by decide) W0.heap.size w.heap.size s _ hbox) belowK_t (belowK_b (by simp; omega)) (Below.refl _ _) (fun _ => rfl)
    (fun pre W => (W.cell? ⟨w.heap.size + 1, 0, none⟩ = some (.int .i64 (pre.length : Nat)) ∧ W.frozen? ⟨w.heap.size + 1, 0, none⟩ = false) ∧ Below w.heap.size w W)
    (fun _ _ _ => False)
    (OwnFrom.and (Own.from (fun s A B row hs hg hr => ⟨cell_kept hs.1 hg hr, (frozen_kept hs.1 hg hr).trans hs.2⟩) _) (ownFrom_below (Nat.le_refl _) (by simp; omega)))
    (fun _ _ _ _ _ hs _ _ => hs)
    ⟨⟨cell_alloc_l _ hs0.1, frozen_alloc_l _ hs0.1 hs0.2⟩, hB1⟩
    (fun x => { tmps := #[.agg #[.bool s.b0, .bool s.b1, .bool s.b2, .bool s.b3, .bool s.b4, .bool s.b5, .bool s.b6, .bool s.b7], .pointer (some ⟨w.heap.size, 0, none⟩), .int .i64 0, .pointer (some ⟨w.heap.size + 1, 0, none⟩), .agg #[.bool s.b0, .bool s.b1, .bool s.b2, .bool s.b3, .bool s.b4, .bool s.b5, .bool s.b6, .bool s.b7], .func (.func 26) #[] #[.pointer (some ⟨W0.heap.size, 0, none⟩)], .int .i64 x, undef, undef, undef], defers := [] }) ?assign ?body ?done ?stop
  case assign =>
    intro l x W K hK
    gi_wp2
    refine cast (congrArg (fun t => K { tmps := t, defers := [] } W) ?_) hK
    first | kernel_rfl | simp
  case body =>
    rintro l pre x W ⟨⟨hc, hf⟩, hB⟩ hlt
    have hl : ((pre.length : Nat) : Int) + 1 = ((pre ++ [x]).length : Nat) := by rw [List.length_append]; rfl
    have HL := Lib.hid hl
    clear hl
    gi_wp2
    exact ⟨KeepsOthers.setCell _ _ _, (Below.refl w.heap.size W).setCell (p := ⟨w.heap.size + 1, 0, none⟩) (Nat.le_succ _) _, ⟨by rw [← HL.out]; exact World.cell?_setCell_same' _ _ _ (by rw [hc]; rfl), by rw [World.frozen?_setCell]; exact hf⟩, hB.setCell (p := ⟨w.heap.size + 1, 0, none⟩) (Nat.le_succ _) _⟩
  case done =>
    rintro D ys W hD rfl ⟨⟨hc, _⟩, hB⟩ hK
    gi_wp2
    refine ⟨by simp, .inl ⟨_, _, rfl, run_takeDeferred hK, ?_⟩⟩
    exact ⟨_, results_tmp rfl _ _ _, rfl, hB.trans (belowK_b (w := w) (Nat.le_refl _) W D _ _ (by simp at hD; omega) hK rfl rfl)⟩
  case stop =>
    rintro D c pre W _ _ h _
    exact h.elim
theorem len_any (s : B8) (w : World) : Calls Try.prog 12 #[.agg #[.bool s.b0, .bool s.b1, .bool s.b2, .bool s.b3, .bool s.b4, .bool s.b5, .bool s.b6, .bool s.b7]] w fun e W' => e = .returned (.int .i64 (els s).length) ∧ Below w.heap.size w W' := callsIn_wide.1 (len_in s w)

end Go.Proofs.Ytpoelchjpnbgpaa
