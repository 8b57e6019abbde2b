/- awake: it is true. -/
import Derived.Test.YtckijalkodpjhaaE
import Derived.ChangeKeysEq
namespace Go.Proofs.Ytckijalkodpjhaa
open Go.RowKit Go.Sort

theorem Try.cells3 : Try.prog.cellsOf 3 = 1 := by kernel_rfl
def eqC (x0 x1 x2 x3 y0 y1 y2 y3 : Int) : Bool := decide (x0 = y0 ∧ x1 = y1 ∧ x2 = y2 ∧ x3 = y3)
theorem eqIn4 (w : World) (t : TypeId) (ht : Try.prog.underlying t = some (.array 4 3)) (x0 x1 x2 x3 y0 y1 y2 y3 : Int) :
    (Op.equalIn 10000 t (.agg #[.int .i64 x0, .int .i64 x1, .int .i64 x2, .int .i64 x3]) (.agg #[.int .i64 y0, .int .i64 y1, .int .i64 y2, .int .i64 y3])).run Try.prog w = .ok (eqC x0 x1 x2 x3 y0 y1 y2 y3) w := by
  obtain ⟨i, hi⟩ : ∃ i, Try.prog.info? 3 = some i := ⟨_, rfl⟩
  have hu3 := Try.underlying3
  rw [run_equalIn_array w 9999 _ _ ht hi, Try.cells3]
  have r4 : List.range 4 = [0, 1, 2, 3] := rfl
  rw [r4]
  simp [Op.eqItems, go_sem, eqC]
  by_cases h0 : x0 = y0 <;> by_cases h1 : x1 = y1 <;> by_cases h2 : x2 = y2 <;> by_cases h3 : x3 = y3 <;> simp [h0, h1, h2, h3]
theorem eqIn33 (w : World) (x0 x1 x2 x3 y0 y1 y2 y3 : Int) : (Op.equalIn 10000 33 (.agg #[.int .i64 x0, .int .i64 x1, .int .i64 x2, .int .i64 x3]) (.agg #[.int .i64 y0, .int .i64 y1, .int .i64 y2, .int .i64 y3])).run Try.prog w = .ok (eqC x0 x1 x2 x3 y0 y1 y2 y3) w := eqIn4 w 33 Try.underlying33 x0 x1 x2 x3 y0 y1 y2 y3
theorem eqIn23 (w : World) (x0 x1 x2 x3 y0 y1 y2 y3 : Int) : (Op.equalIn 10000 23 (.agg #[.int .i64 x0, .int .i64 x1, .int .i64 x2, .int .i64 x3]) (.agg #[.int .i64 y0, .int .i64 y1, .int .i64 y2, .int .i64 y3])).run Try.prog w = .ok (eqC x0 x1 x2 x3 y0 y1 y2 y3) w := eqIn4 w 23 Try.underlying23 x0 x1 x2 x3 y0 y1 y2 y3

def two : List Wr := [⟨0, 1, 1, 2⟩, ⟨1, 1, 3, 4⟩]
theorem two_bad {i k : Nat} {b : Bool} (h : BadSpec ⟨0, 1, 0, 0⟩ two i k b) : i = 0 ∧ k = 1 ∧ b = true := by
  have y : badB ⟨0, 1, 0, 0⟩ two 1 0 = true := by decide
  have n : ∀ j, j < 2 → badB ⟨0, 1, 0, 0⟩ two 0 j = false := by decide
  rcases h with ⟨_, _, _, h⟩ | ⟨h0, hi, hk, h1, h2, h3⟩
  · rw [h 1 0 (by decide) (by decide)] at y; cases y
  · have hi' : i < 2 := hi
    have hk' : k < 2 := hk
    have hk1 : k = 1 := by
      by_cases e : k = 0
      · subst e; rw [n i hi'] at h1; cases h1
      · omega
    subst hk1
    refine ⟨?_, rfl, h0⟩
    by_cases e : i = 0
    · exact e
    · rw [h3 0 (by omega)] at y; cases y
theorem two_closed : Closed two ⟨1, 1, 0, 0⟩ := by
  have h : ∀ k, k < 2 → ∀ i, i < 2 → badB ⟨1, 1, 0, 0⟩ two k i = false := by decide
  exact fun k i hk hi => h k hk i hi
theorem le_antisymm4 {x y : C4} (h : x.le y) (h' : y.le x) : x = y := by
  obtain ⟨x0, x1, x2, x3⟩ := x
  obtain ⟨y0, y1, y2, y3⟩ := y
  simp only [C4.le] at h h'
  simp only [C4.mk.injEq]
  omega
/-- The greatest closed cut below one is one alone. -/
theorem GrSpec.unique {l : List Wr} {c x y : C4} (hx : GrSpec l c x) (hy : GrSpec l c y) : x = y := le_antisymm4 (hy.2.2 x hx.1 hx.2.1) (hx.2.2 y hy.1 hy.2.1)
theorem GrSpec.self {l : List Wr} {c : C4} (h : Closed l c) : GrSpec l c c := ⟨h, c.le_refl, fun _ _ h => h⟩

theorem two_lies {w : World} (T : TypeId) : LiesAt (w.alloc (.cells #[.int .i64 0, .int .i64 1, .int .i64 1, .int .i64 2, .int .i64 1, .int .i64 1, .int .i64 3, .int .i64 4] T)) w.heap.size 0 two := by
  intro k hk
  have hk' : k < 2 := hk
  obtain rfl | rfl : k = 0 ∨ k = 1 := by omega
  all_goals
    refine ⟨?_, ?_, ?_, ?_⟩ <;> (rw [World.cell?_alloc_at _ _ _ _ rfl]; rfl)
theorem two_small : ∀ k, k < two.length → -1152921504606846976 ≤ (wat two k).s ∧ (wat two k).s ≤ 9223372036854775807 := by
  have h : ∀ k, k < 2 → -1152921504606846976 ≤ (wat two k).s ∧ (wat two k).s ≤ 9223372036854775807 := by decide
  exact h

attribute [local go_sem] eqIn33
set_option maxHeartbeats 800000 in
theorem awake_any (w : World) : Calls Try.prog 8 #[] w fun e w' => e = .returned (.bool true) ∧ Below w.heap.size w w' := by
  go_enter Try.func8, Try.ntmps8
  go_wp2_with fail
  refine (bad_any (some ⟨w.heap.size, 0, none⟩) w.heap.size 0 2 two 0 1 0 0 _ (fun _ => rfl) (fun _ => by simp) (by decide) (two_lies 37)).mono ?_
  rintro e w1 ⟨i, k, b, rfl, hsp, hb1⟩
  obtain ⟨rfl, rfl, rfl⟩ := two_bad hsp
  clear hsp
  have HL := Lib.hid ((two_lies (w := w) 37).below hb1 (by simp))
  have hz : w.heap.size < w1.heap.size := by have := hb1.size; simp at this; omega
  have HB1 := Lib.hid (((Below.refl _ w).alloc (Nat.le_refl _) (.cells #[.int .i64 0, .int .i64 1, .int .i64 1, .int .i64 2, .int .i64 1, .int .i64 1, .int .i64 3, .int .i64 4] 37)).trans (hb1.mono (by simp)))
  clear hb1
  go_wp2_with fail
  refine (gr_any (some ⟨w.heap.size, 0, none⟩) w.heap.size 0 2 two 1 1 0 0 _ (fun _ => rfl) (fun _ => hz) (by decide) HL.out two_small).mono ?_
  rintro e w2 ⟨x0, x1, x2, x3, rfl, hg, hb2⟩
  obtain ⟨rfl, rfl, rfl, rfl⟩ : x0 = 1 ∧ x1 = 1 ∧ x2 = 0 ∧ x3 = 0 := by
    have := hg.unique (GrSpec.self two_closed)
    simpa using this
  have HB2 := Lib.hid (HB1.out.trans (hb2.mono (by omega)))
  clear hb2 hg
  go_wp2
  go_ret
  exact ⟨ret_bool (by decide), HB2.out⟩

end Go.Proofs.Ytckijalkodpjhaa
