/- The leaves of package bits: put, With, Without, Has: what each answers, for every set and every number; no memory that was there is turned. -/
import Derived.WalkKit
import Derived.RegionTactic
import Derived.ChangeAlike
import Derived.WalkSpells
import Derived.WalkLawsBesides
import Derived.WalkSmall
import Derived.Deep.QuietTactic
import Derived.BigQuiet
import Derived.Lib.Hide
import Derived.Lib.QuietBelow
import Derived.Laws.ResultCell
import Derived.OneCell
import Derived.Deep.LoopGhost
import Derived.Test.YtpoelchjpnbgpaaProg
namespace Go.Proofs.Ytpoelchjpnbgpaa
open Go.RowKit Go.Sort

/-- A set of blocks: eight Bools. -/
structure B8 where
  b0 : Bool
  b1 : Bool
  b2 : Bool
  b3 : Bool
  b4 : Bool
  b5 : Bool
  b6 : Bool
  b7 : Bool
deriving DecidableEq

def B8.zero : B8 := ⟨false, false, false, false, false, false, false, false⟩
def B8.get (s : B8) (i : Int) : Bool := if i = 0 then s.b0 else if i = 1 then s.b1 else if i = 2 then s.b2 else if i = 3 then s.b3 else if i = 4 then s.b4 else if i = 5 then s.b5 else if i = 6 then s.b6 else if i = 7 then s.b7 else false
def B8.set (s : B8) (i : Int) (v : Bool) : B8 := ⟨if i = 0 then v else s.b0, if i = 1 then v else s.b1, if i = 2 then v else s.b2, if i = 3 then v else s.b3, if i = 4 then v else s.b4, if i = 5 then v else s.b5, if i = 6 then v else s.b6, if i = 7 then v else s.b7⟩
theorem B8.set_out (s : B8) (i : Int) (v : Bool) (h : i < 0 ∨ 8 ≤ i) : s.set i v = s := by
  have h' : i ≠ 0 ∧ i ≠ 1 ∧ i ≠ 2 ∧ i ≠ 3 ∧ i ≠ 4 ∧ i ≠ 5 ∧ i ≠ 6 ∧ i ≠ 7 := by omega
  simp [B8.set, h']
theorem B8.get_out (s : B8) (i : Int) (h : i < 0 ∨ 8 ≤ i) : s.get i = false := by
  have h' : i ≠ 0 ∧ i ≠ 1 ∧ i ≠ 2 ∧ i ≠ 3 ∧ i ≠ 4 ∧ i ≠ 5 ∧ i ≠ 6 ∧ i ≠ 7 := by omega
  simp [B8.get, h']

theorem bel2 (w : World) (o o' : Obj) : Below w.heap.size w ((w.alloc o).alloc o') :=
  (((Below.refl _ _).alloc (Nat.le_refl _) _).alloc (by simp) _)
theorem ret_bool {a b : Bool} (h : a = b) : Ending.returned (.bool a) = .returned (.bool b) := by rw [h]
def B8.ret (s : B8) : Ending := .returned (.agg #[.bool s.b0, .bool s.b1, .bool s.b2, .bool s.b3, .bool s.b4, .bool s.b5, .bool s.b6, .bool s.b7])
theorem ret_set {s t : B8} (h : s = t) : s.ret = t.ret := by rw [h]
theorem bcell {W w1 : World} (hb : Below W.heap.size W w1) : (∀ b o, b < W.heap.size → w1.cell? ⟨b, o, none⟩ = W.cell? ⟨b, o, none⟩) ∧ (∀ b o, b < W.heap.size → w1.frozen? ⟨b, o, none⟩ = W.frozen? ⟨b, o, none⟩) :=
  ⟨fun b o h => hb.cell (p := ⟨b, o, none⟩) h, fun b o h => hb.frozen (p := ⟨b, o, none⟩) h⟩

/-- A box that holds a set. -/
def BoxS (w : World) (b : Nat) (s : B8) : Prop := w.heap[b]? = some (.cells #[.bool s.b0, .bool s.b1, .bool s.b2, .bool s.b3, .bool s.b4, .bool s.b5, .bool s.b6, .bool s.b7] 27 (0, 0))
/-- Its cells, and that they may be written. -/
def CellsS (w : World) (b : Nat) (s : B8) : Prop := w.cell? ⟨b, 0, none⟩ = some (.bool s.b0) ∧ w.cell? ⟨b, 1, none⟩ = some (.bool s.b1) ∧ w.cell? ⟨b, 2, none⟩ = some (.bool s.b2) ∧ w.cell? ⟨b, 3, none⟩ = some (.bool s.b3) ∧ w.cell? ⟨b, 4, none⟩ = some (.bool s.b4) ∧ w.cell? ⟨b, 5, none⟩ = some (.bool s.b5) ∧ w.cell? ⟨b, 6, none⟩ = some (.bool s.b6) ∧ w.cell? ⟨b, 7, none⟩ = some (.bool s.b7) ∧ ∀ o, w.frozen? ⟨b, o, none⟩ = false
theorem BoxS.cells {w : World} {b : Nat} {s : B8} (h : BoxS w b s) : CellsS w b s := by
  refine ⟨?_, ?_, ?_, ?_, ?_, ?_, ?_, ?_, fun o => ?_⟩
  all_goals first | simp [World.cell?, show w.heap[b]? = _ from h] | simp [World.frozen?, show w.heap[b]? = _ from h]
theorem BoxS.below {w w' : World} {b B : Nat} {s : B8} (h : BoxS w b s) (hB : Below B w w') (hb : b < B) : BoxS w' b s := (hB.block b hb).trans h
theorem BoxS.lt {w : World} {b : Nat} {s : B8} (h : BoxS w b s) : b < w.heap.size := lt_of_block h
theorem BoxS.new (w : World) (s : B8) : BoxS (w.alloc (.cells #[.bool s.b0, .bool s.b1, .bool s.b2, .bool s.b3, .bool s.b4, .bool s.b5, .bool s.b6, .bool s.b7] 27)) w.heap.size s := by
  show (w.heap.push _)[w.heap.size]? = _
  simp
theorem BoxS.alloc {w : World} {b : Nat} {s : B8} (h : BoxS w b s) (o : Obj) : BoxS (w.alloc o) b s := (Below.heap_alloc _ _ _ h.lt).trans h
theorem heap_setCell_same {w : World} {b : Nat} {xs : Array Value} {T : TypeId} (h : w.heap[b]? = some (.cells xs T (0, 0))) (o : Nat) (u : Value) : (w.setCell ⟨b, o, none⟩ u).heap[b]? = some (.cells (xs.setIfInBounds o u) T (0, 0)) := by
  have hlt := lt_of_block h
  have h' : w.heap[b] = .cells xs T (0, 0) := by simpa [Array.getElem?_eq_getElem hlt] using h
  show (w.heap.modify b _)[b]? = _
  rw [Array.getElem?_eq_getElem (by simpa using hlt), Array.getElem_modify_self, h']
  rfl
/-- A whole set stored into a box. -/
def World.putS (w : World) (b : Nat) (t : B8) : World := ((((((((w.setCell ⟨b, 0, none⟩ (.bool t.b0)).setCell ⟨b, 1, none⟩ (.bool t.b1)).setCell ⟨b, 2, none⟩ (.bool t.b2)).setCell ⟨b, 3, none⟩ (.bool t.b3)).setCell ⟨b, 4, none⟩ (.bool t.b4)).setCell ⟨b, 5, none⟩ (.bool t.b5)).setCell ⟨b, 6, none⟩ (.bool t.b6)).setCell ⟨b, 7, none⟩ (.bool t.b7))
theorem BoxS.put {w : World} {b : Nat} {s : B8} (h : BoxS w b s) (t : B8) : BoxS (World.putS w b t) b t := by
  unfold BoxS World.putS
  rw [heap_setCell_same (heap_setCell_same (heap_setCell_same (heap_setCell_same (heap_setCell_same (heap_setCell_same (heap_setCell_same (heap_setCell_same (show w.heap[b]? = _ from h) _ _) _ _) _ _) _ _) _ _) _ _) _ _) _ _]
  simp only [List.setIfInBounds_toArray, List.set_cons_zero, List.set_cons_succ]
theorem putS_below {B b : Nat} {w0 w : World} (h : Below B w0 w) (hb : B ≤ b) (t : B8) : Below B w0 (World.putS w b t) := by
  unfold World.putS
  refine Below.setCell (p := ⟨b, 7, none⟩) ?_ hb _
  refine Below.setCell (p := ⟨b, 6, none⟩) ?_ hb _
  refine Below.setCell (p := ⟨b, 5, none⟩) ?_ hb _
  refine Below.setCell (p := ⟨b, 4, none⟩) ?_ hb _
  refine Below.setCell (p := ⟨b, 3, none⟩) ?_ hb _
  refine Below.setCell (p := ⟨b, 2, none⟩) ?_ hb _
  refine Below.setCell (p := ⟨b, 1, none⟩) ?_ hb _
  refine Below.setCell (p := ⟨b, 0, none⟩) ?_ hb _
  exact h
theorem BoxS.put_other {w : World} {b b' : Nat} {s : B8} (h : BoxS w b s) (hb : b ≠ b') (t : B8) : BoxS (World.putS w b' t) b s := by
  unfold BoxS World.putS
  rw [Below.heap_setCell _ _ _ _ hb, Below.heap_setCell _ _ _ _ hb, Below.heap_setCell _ _ _ _ hb, Below.heap_setCell _ _ _ _ hb, Below.heap_setCell _ _ _ _ hb, Below.heap_setCell _ _ _ _ hb, Below.heap_setCell _ _ _ _ hb, Below.heap_setCell _ _ _ _ hb]
  exact h

set_option maxHeartbeats 800000 in
theorem put_neg (s : B8) (b : Int) (hb : b < 0) (v : Bool) (w : World) :
    Calls Try.prog 27 #[.agg #[.bool s.b0, .bool s.b1, .bool s.b2, .bool s.b3, .bool s.b4, .bool s.b5, .bool s.b6, .bool s.b7], .int .i64 b, .bool v] w fun e w' => e = .returned (.agg #[.bool s.b0, .bool s.b1, .bool s.b2, .bool s.b3, .bool s.b4, .bool s.b5, .bool s.b6, .bool s.b7]) ∧ Below w.heap.size w w' := by
  go_enter Try.func27, Try.ntmps27
  go_wp2
  exact bodyPost_ret (v := .agg #[.bool s.b0, .bool s.b1, .bool s.b2, .bool s.b3, .bool s.b4, .bool s.b5, .bool s.b6, .bool s.b7]) (by simp [results, Try.results27, go_sem]) rfl ⟨rfl, bel2 _ _ _⟩
set_option maxHeartbeats 800000 in
theorem put_big (s : B8) (b : Int) (hb : 8 ≤ b) (v : Bool) (w : World) :
    Calls Try.prog 27 #[.agg #[.bool s.b0, .bool s.b1, .bool s.b2, .bool s.b3, .bool s.b4, .bool s.b5, .bool s.b6, .bool s.b7], .int .i64 b, .bool v] w fun e w' => e = .returned (.agg #[.bool s.b0, .bool s.b1, .bool s.b2, .bool s.b3, .bool s.b4, .bool s.b5, .bool s.b6, .bool s.b7]) ∧ Below w.heap.size w w' := by
  have h0 : 0 ≤ b := by omega
  go_enter Try.func27, Try.ntmps27
  go_wp2
  exact bodyPost_ret (v := .agg #[.bool s.b0, .bool s.b1, .bool s.b2, .bool s.b3, .bool s.b4, .bool s.b5, .bool s.b6, .bool s.b7]) (by simp [results, Try.results27, go_sem]) rfl ⟨rfl, bel2 _ _ _⟩
set_option maxHeartbeats 800000 in
theorem put_0 (s : B8) (v : Bool) (w : World) :
    Calls Try.prog 27 #[.agg #[.bool s.b0, .bool s.b1, .bool s.b2, .bool s.b3, .bool s.b4, .bool s.b5, .bool s.b6, .bool s.b7], .int .i64 0, .bool v] w fun e w' => e = .returned (.agg #[.bool v, .bool s.b1, .bool s.b2, .bool s.b3, .bool s.b4, .bool s.b5, .bool s.b6, .bool s.b7]) ∧ Below w.heap.size w w' := by
  go_enter Try.func27, Try.ntmps27
  go_wp2
  exact bodyPost_ret (v := .agg #[.bool v, .bool s.b1, .bool s.b2, .bool s.b3, .bool s.b4, .bool s.b5, .bool s.b6, .bool s.b7]) (by simp [results, Try.results27, go_sem]) rfl ⟨rfl, bel2 _ _ _⟩
set_option maxHeartbeats 800000 in
theorem put_1 (s : B8) (v : Bool) (w : World) :
    Calls Try.prog 27 #[.agg #[.bool s.b0, .bool s.b1, .bool s.b2, .bool s.b3, .bool s.b4, .bool s.b5, .bool s.b6, .bool s.b7], .int .i64 1, .bool v] w fun e w' => e = .returned (.agg #[.bool s.b0, .bool v, .bool s.b2, .bool s.b3, .bool s.b4, .bool s.b5, .bool s.b6, .bool s.b7]) ∧ Below w.heap.size w w' := by
  go_enter Try.func27, Try.ntmps27
  go_wp2
  exact bodyPost_ret (v := .agg #[.bool s.b0, .bool v, .bool s.b2, .bool s.b3, .bool s.b4, .bool s.b5, .bool s.b6, .bool s.b7]) (by simp [results, Try.results27, go_sem]) rfl ⟨rfl, bel2 _ _ _⟩
set_option maxHeartbeats 800000 in
theorem put_2 (s : B8) (v : Bool) (w : World) :
    Calls Try.prog 27 #[.agg #[.bool s.b0, .bool s.b1, .bool s.b2, .bool s.b3, .bool s.b4, .bool s.b5, .bool s.b6, .bool s.b7], .int .i64 2, .bool v] w fun e w' => e = .returned (.agg #[.bool s.b0, .bool s.b1, .bool v, .bool s.b3, .bool s.b4, .bool s.b5, .bool s.b6, .bool s.b7]) ∧ Below w.heap.size w w' := by
  go_enter Try.func27, Try.ntmps27
  go_wp2
  exact bodyPost_ret (v := .agg #[.bool s.b0, .bool s.b1, .bool v, .bool s.b3, .bool s.b4, .bool s.b5, .bool s.b6, .bool s.b7]) (by simp [results, Try.results27, go_sem]) rfl ⟨rfl, bel2 _ _ _⟩
set_option maxHeartbeats 800000 in
theorem put_3 (s : B8) (v : Bool) (w : World) :
    Calls Try.prog 27 #[.agg #[.bool s.b0, .bool s.b1, .bool s.b2, .bool s.b3, .bool s.b4, .bool s.b5, .bool s.b6, .bool s.b7], .int .i64 3, .bool v] w fun e w' => e = .returned (.agg #[.bool s.b0, .bool s.b1, .bool s.b2, .bool v, .bool s.b4, .bool s.b5, .bool s.b6, .bool s.b7]) ∧ Below w.heap.size w w' := by
  go_enter Try.func27, Try.ntmps27
  go_wp2
  exact bodyPost_ret (v := .agg #[.bool s.b0, .bool s.b1, .bool s.b2, .bool v, .bool s.b4, .bool s.b5, .bool s.b6, .bool s.b7]) (by simp [results, Try.results27, go_sem]) rfl ⟨rfl, bel2 _ _ _⟩
set_option maxHeartbeats 800000 in
theorem put_4 (s : B8) (v : Bool) (w : World) :
    Calls Try.prog 27 #[.agg #[.bool s.b0, .bool s.b1, .bool s.b2, .bool s.b3, .bool s.b4, .bool s.b5, .bool s.b6, .bool s.b7], .int .i64 4, .bool v] w fun e w' => e = .returned (.agg #[.bool s.b0, .bool s.b1, .bool s.b2, .bool s.b3, .bool v, .bool s.b5, .bool s.b6, .bool s.b7]) ∧ Below w.heap.size w w' := by
  go_enter Try.func27, Try.ntmps27
  go_wp2
  exact bodyPost_ret (v := .agg #[.bool s.b0, .bool s.b1, .bool s.b2, .bool s.b3, .bool v, .bool s.b5, .bool s.b6, .bool s.b7]) (by simp [results, Try.results27, go_sem]) rfl ⟨rfl, bel2 _ _ _⟩
set_option maxHeartbeats 800000 in
theorem put_5 (s : B8) (v : Bool) (w : World) :
    Calls Try.prog 27 #[.agg #[.bool s.b0, .bool s.b1, .bool s.b2, .bool s.b3, .bool s.b4, .bool s.b5, .bool s.b6, .bool s.b7], .int .i64 5, .bool v] w fun e w' => e = .returned (.agg #[.bool s.b0, .bool s.b1, .bool s.b2, .bool s.b3, .bool s.b4, .bool v, .bool s.b6, .bool s.b7]) ∧ Below w.heap.size w w' := by
  go_enter Try.func27, Try.ntmps27
  go_wp2
  exact bodyPost_ret (v := .agg #[.bool s.b0, .bool s.b1, .bool s.b2, .bool s.b3, .bool s.b4, .bool v, .bool s.b6, .bool s.b7]) (by simp [results, Try.results27, go_sem]) rfl ⟨rfl, bel2 _ _ _⟩
set_option maxHeartbeats 800000 in
theorem put_6 (s : B8) (v : Bool) (w : World) :
    Calls Try.prog 27 #[.agg #[.bool s.b0, .bool s.b1, .bool s.b2, .bool s.b3, .bool s.b4, .bool s.b5, .bool s.b6, .bool s.b7], .int .i64 6, .bool v] w fun e w' => e = .returned (.agg #[.bool s.b0, .bool s.b1, .bool s.b2, .bool s.b3, .bool s.b4, .bool s.b5, .bool v, .bool s.b7]) ∧ Below w.heap.size w w' := by
  go_enter Try.func27, Try.ntmps27
  go_wp2
  exact bodyPost_ret (v := .agg #[.bool s.b0, .bool s.b1, .bool s.b2, .bool s.b3, .bool s.b4, .bool s.b5, .bool v, .bool s.b7]) (by simp [results, Try.results27, go_sem]) rfl ⟨rfl, bel2 _ _ _⟩
set_option maxHeartbeats 800000 in
theorem put_7 (s : B8) (v : Bool) (w : World) :
    Calls Try.prog 27 #[.agg #[.bool s.b0, .bool s.b1, .bool s.b2, .bool s.b3, .bool s.b4, .bool s.b5, .bool s.b6, .bool s.b7], .int .i64 7, .bool v] w fun e w' => e = .returned (.agg #[.bool s.b0, .bool s.b1, .bool s.b2, .bool s.b3, .bool s.b4, .bool s.b5, .bool s.b6, .bool v]) ∧ Below w.heap.size w w' := by
  go_enter Try.func27, Try.ntmps27
  go_wp2
  exact bodyPost_ret (v := .agg #[.bool s.b0, .bool s.b1, .bool s.b2, .bool s.b3, .bool s.b4, .bool s.b5, .bool s.b6, .bool v]) (by simp [results, Try.results27, go_sem]) rfl ⟨rfl, bel2 _ _ _⟩
theorem put_any (s : B8) (b : Int) (v : Bool) (w : World) : Calls Try.prog 27 #[.agg #[.bool s.b0, .bool s.b1, .bool s.b2, .bool s.b3, .bool s.b4, .bool s.b5, .bool s.b6, .bool s.b7], .int .i64 b, .bool v] w fun e w' => e = .returned (.agg #[.bool (s.set b v).b0, .bool (s.set b v).b1, .bool (s.set b v).b2, .bool (s.set b v).b3, .bool (s.set b v).b4, .bool (s.set b v).b5, .bool (s.set b v).b6, .bool (s.set b v).b7]) ∧ Below w.heap.size w w' := by
  by_cases h0 : b < 0
  · rw [B8.set_out s b v (.inl h0)]; exact put_neg s b h0 v w
  · by_cases h8 : 8 ≤ b
    · rw [B8.set_out s b v (.inr h8)]; exact put_big s b h8 v w
    · obtain rfl | rfl | rfl | rfl | rfl | rfl | rfl | rfl : b = 0 ∨ b = 1 ∨ b = 2 ∨ b = 3 ∨ b = 4 ∨ b = 5 ∨ b = 6 ∨ b = 7 := by omega
      · exact put_0 s v w
      · exact put_1 s v w
      · exact put_2 s v w
      · exact put_3 s v w
      · exact put_4 s v w
      · exact put_5 s v w
      · exact put_6 s v w
      · exact put_7 s v w
set_option maxHeartbeats 800000 in
theorem with_any (s : B8) (b : Int) (w : World) : Calls Try.prog 17 #[.agg #[.bool s.b0, .bool s.b1, .bool s.b2, .bool s.b3, .bool s.b4, .bool s.b5, .bool s.b6, .bool s.b7], .int .i64 b] w fun e w' => e = .returned (.agg #[.bool (s.set b true).b0, .bool (s.set b true).b1, .bool (s.set b true).b2, .bool (s.set b true).b3, .bool (s.set b true).b4, .bool (s.set b true).b5, .bool (s.set b true).b6, .bool (s.set b true).b7]) ∧ Below w.heap.size w w' := by
  go_enter Try.func17, Try.ntmps17
  go_wp2_with fail
  refine (put_any s b true _).mono ?_
  rintro e w1 ⟨rfl, hb1⟩
  have hz : w.heap.size + 1 < w1.heap.size := by have := hb1.size; simp at this; omega
  obtain ⟨t0, t1, t2, t3, t4, t5, t6, t7, ff⟩ := ((BoxS.new (w.alloc (.cells #[.bool s.b0, .bool s.b1, .bool s.b2, .bool s.b3, .bool s.b4, .bool s.b5, .bool s.b6, .bool s.b7] 27)) B8.zero).below hb1 (by simp)).cells
  simp only [World.size_alloc] at t0 t1 t2 t3 t4 t5 t6 t7 ff
  have HB1 := Lib.hid ((bel2 w (.cells #[.bool s.b0, .bool s.b1, .bool s.b2, .bool s.b3, .bool s.b4, .bool s.b5, .bool s.b6, .bool s.b7] 27) (.cells #[.bool false, .bool false, .bool false, .bool false, .bool false, .bool false, .bool false, .bool false] 27)).trans (hb1.mono (by simp; omega)))
  clear hb1
  go_wp2
  exact bodyPost_ret (v := .agg #[.bool (s.set b true).b0, .bool (s.set b true).b1, .bool (s.set b true).b2, .bool (s.set b true).b3, .bool (s.set b true).b4, .bool (s.set b true).b5, .bool (s.set b true).b6, .bool (s.set b true).b7]) (by simp [results, Try.results17, go_sem, t0, t1, t2, t3, t4, t5, t6, t7]) rfl ⟨rfl, ((((((((HB1.out.setCell (by simp) _).setCell (by simp) _).setCell (by simp) _).setCell (by simp) _).setCell (by simp) _).setCell (by simp) _).setCell (by simp) _).setCell (by simp) _)⟩
set_option maxHeartbeats 800000 in
theorem without_any (s : B8) (b : Int) (w : World) : Calls Try.prog 19 #[.agg #[.bool s.b0, .bool s.b1, .bool s.b2, .bool s.b3, .bool s.b4, .bool s.b5, .bool s.b6, .bool s.b7], .int .i64 b] w fun e w' => e = .returned (.agg #[.bool (s.set b false).b0, .bool (s.set b false).b1, .bool (s.set b false).b2, .bool (s.set b false).b3, .bool (s.set b false).b4, .bool (s.set b false).b5, .bool (s.set b false).b6, .bool (s.set b false).b7]) ∧ Below w.heap.size w w' := by
  go_enter Try.func19, Try.ntmps19
  go_wp2_with fail
  refine (put_any s b false _).mono ?_
  rintro e w1 ⟨rfl, hb1⟩
  have hz : w.heap.size + 1 < w1.heap.size := by have := hb1.size; simp at this; omega
  obtain ⟨t0, t1, t2, t3, t4, t5, t6, t7, ff⟩ := ((BoxS.new (w.alloc (.cells #[.bool s.b0, .bool s.b1, .bool s.b2, .bool s.b3, .bool s.b4, .bool s.b5, .bool s.b6, .bool s.b7] 27)) B8.zero).below hb1 (by simp)).cells
  simp only [World.size_alloc] at t0 t1 t2 t3 t4 t5 t6 t7 ff
  have HB1 := Lib.hid ((bel2 w (.cells #[.bool s.b0, .bool s.b1, .bool s.b2, .bool s.b3, .bool s.b4, .bool s.b5, .bool s.b6, .bool s.b7] 27) (.cells #[.bool false, .bool false, .bool false, .bool false, .bool false, .bool false, .bool false, .bool false] 27)).trans (hb1.mono (by simp; omega)))
  clear hb1
  go_wp2
  exact bodyPost_ret (v := .agg #[.bool (s.set b false).b0, .bool (s.set b false).b1, .bool (s.set b false).b2, .bool (s.set b false).b3, .bool (s.set b false).b4, .bool (s.set b false).b5, .bool (s.set b false).b6, .bool (s.set b false).b7]) (by simp [results, Try.results19, go_sem, t0, t1, t2, t3, t4, t5, t6, t7]) rfl ⟨rfl, ((((((((HB1.out.setCell (by simp) _).setCell (by simp) _).setCell (by simp) _).setCell (by simp) _).setCell (by simp) _).setCell (by simp) _).setCell (by simp) _).setCell (by simp) _)⟩

section
variable (s : B8) (w : World)
set_option maxHeartbeats 400000 in
theorem has_neg (b : Int) (hb : b < 0) : Calls Try.prog 11 #[.agg #[.bool s.b0, .bool s.b1, .bool s.b2, .bool s.b3, .bool s.b4, .bool s.b5, .bool s.b6, .bool s.b7], .int .i64 b] w fun e w' => e = .returned (.bool false) ∧ Below w.heap.size w w' := by
  go_enter Try.func11, Try.ntmps11
  go_wp2
  go_ret
  exact ⟨rfl, (Below.refl _ _).alloc (Nat.le_refl _) _⟩
set_option maxHeartbeats 400000 in
theorem has_big (b : Int) (hb : 8 ≤ b) : Calls Try.prog 11 #[.agg #[.bool s.b0, .bool s.b1, .bool s.b2, .bool s.b3, .bool s.b4, .bool s.b5, .bool s.b6, .bool s.b7], .int .i64 b] w fun e w' => e = .returned (.bool false) ∧ Below w.heap.size w w' := by
  have h0 : 0 ≤ b := by omega
  go_enter Try.func11, Try.ntmps11
  go_wp2
  go_ret
  exact ⟨rfl, (Below.refl _ _).alloc (Nat.le_refl _) _⟩
set_option maxHeartbeats 400000 in
theorem has_0 : Calls Try.prog 11 #[.agg #[.bool s.b0, .bool s.b1, .bool s.b2, .bool s.b3, .bool s.b4, .bool s.b5, .bool s.b6, .bool s.b7], .int .i64 0] w fun e w' => e = .returned (.bool s.b0) ∧ Below w.heap.size w w' := by
  go_enter Try.func11, Try.ntmps11
  go_wp2
  go_ret
  exact ⟨rfl, (Below.refl _ _).alloc (Nat.le_refl _) _⟩
set_option maxHeartbeats 400000 in
theorem has_1 : Calls Try.prog 11 #[.agg #[.bool s.b0, .bool s.b1, .bool s.b2, .bool s.b3, .bool s.b4, .bool s.b5, .bool s.b6, .bool s.b7], .int .i64 1] w fun e w' => e = .returned (.bool s.b1) ∧ Below w.heap.size w w' := by
  go_enter Try.func11, Try.ntmps11
  go_wp2
  go_ret
  exact ⟨rfl, (Below.refl _ _).alloc (Nat.le_refl _) _⟩
set_option maxHeartbeats 400000 in
theorem has_2 : Calls Try.prog 11 #[.agg #[.bool s.b0, .bool s.b1, .bool s.b2, .bool s.b3, .bool s.b4, .bool s.b5, .bool s.b6, .bool s.b7], .int .i64 2] w fun e w' => e = .returned (.bool s.b2) ∧ Below w.heap.size w w' := by
  go_enter Try.func11, Try.ntmps11
  go_wp2
  go_ret
  exact ⟨rfl, (Below.refl _ _).alloc (Nat.le_refl _) _⟩
set_option maxHeartbeats 400000 in
theorem has_3 : Calls Try.prog 11 #[.agg #[.bool s.b0, .bool s.b1, .bool s.b2, .bool s.b3, .bool s.b4, .bool s.b5, .bool s.b6, .bool s.b7], .int .i64 3] w fun e w' => e = .returned (.bool s.b3) ∧ Below w.heap.size w w' := by
  go_enter Try.func11, Try.ntmps11
  go_wp2
  go_ret
  exact ⟨rfl, (Below.refl _ _).alloc (Nat.le_refl _) _⟩
set_option maxHeartbeats 400000 in
theorem has_4 : Calls Try.prog 11 #[.agg #[.bool s.b0, .bool s.b1, .bool s.b2, .bool s.b3, .bool s.b4, .bool s.b5, .bool s.b6, .bool s.b7], .int .i64 4] w fun e w' => e = .returned (.bool s.b4) ∧ Below w.heap.size w w' := by
  go_enter Try.func11, Try.ntmps11
  go_wp2
  go_ret
  exact ⟨rfl, (Below.refl _ _).alloc (Nat.le_refl _) _⟩
set_option maxHeartbeats 400000 in
theorem has_5 : Calls Try.prog 11 #[.agg #[.bool s.b0, .bool s.b1, .bool s.b2, .bool s.b3, .bool s.b4, .bool s.b5, .bool s.b6, .bool s.b7], .int .i64 5] w fun e w' => e = .returned (.bool s.b5) ∧ Below w.heap.size w w' := by
  go_enter Try.func11, Try.ntmps11
  go_wp2
  go_ret
  exact ⟨rfl, (Below.refl _ _).alloc (Nat.le_refl _) _⟩
set_option maxHeartbeats 400000 in
theorem has_6 : Calls Try.prog 11 #[.agg #[.bool s.b0, .bool s.b1, .bool s.b2, .bool s.b3, .bool s.b4, .bool s.b5, .bool s.b6, .bool s.b7], .int .i64 6] w fun e w' => e = .returned (.bool s.b6) ∧ Below w.heap.size w w' := by
  go_enter Try.func11, Try.ntmps11
  go_wp2
  go_ret
  exact ⟨rfl, (Below.refl _ _).alloc (Nat.le_refl _) _⟩
set_option maxHeartbeats 400000 in
theorem has_7 : Calls Try.prog 11 #[.agg #[.bool s.b0, .bool s.b1, .bool s.b2, .bool s.b3, .bool s.b4, .bool s.b5, .bool s.b6, .bool s.b7], .int .i64 7] w fun e w' => e = .returned (.bool s.b7) ∧ Below w.heap.size w w' := by
  go_enter Try.func11, Try.ntmps11
  go_wp2
  go_ret
  exact ⟨rfl, (Below.refl _ _).alloc (Nat.le_refl _) _⟩
theorem has_any (b : Int) : Calls Try.prog 11 #[.agg #[.bool s.b0, .bool s.b1, .bool s.b2, .bool s.b3, .bool s.b4, .bool s.b5, .bool s.b6, .bool s.b7], .int .i64 b] w fun e w' => e = .returned (.bool (s.get b)) ∧ Below w.heap.size w w' := by
  by_cases h0 : b < 0
  · rw [B8.get_out s b (.inl h0)]; exact has_neg s w b h0
  · by_cases h8 : 8 ≤ b
    · rw [B8.get_out s b (.inr h8)]; exact has_big s w b h8
    · obtain rfl | rfl | rfl | rfl | rfl | rfl | rfl | rfl : b = 0 ∨ b = 1 ∨ b = 2 ∨ b = 3 ∨ b = 4 ∨ b = 5 ∨ b = 6 ∨ b = 7 := by omega
      · exact has_0 s w
      · exact has_1 s w
      · exact has_2 s w
      · exact has_3 s w
      · exact has_4 s w
      · exact has_5 s w
      · exact has_6 s w
      · exact has_7 s w
end

end Go.Proofs.Ytpoelchjpnbgpaa
