/- The law CutJoins, walked: true at every list of writes and every two cuts. -/
import Derived.Test.YtckijalkodpjhaaK0
import Derived.Deep.DeepCutAuto
namespace Go.Proofs.Ytckijalkodpjhaa
open Go.RowKit Go.Sort
attribute [local go_sem] eqIn33
attribute [local go_sem ↓] run_mnI run_mxI

set_option maxHeartbeats 800000 in
theorem cj_large (a : Option Addr) (b off cap : Nat) (l : List Wr) (c0 c1 c2 c3 o0 o1 o2 o3 : Int) (w : World) (hc : Came w a b off l) (hsm : smB l = false) :
    Calls Try.prog 6 #[.slice a l.length cap, .agg #[.int .i64 c0, .int .i64 c1, .int .i64 c2, .int .i64 c3], .agg #[.int .i64 o0, .int .i64 o1, .int .i64 o2, .int .i64 o3]] w fun e w' => e = .returned (.bool true) ∧ Below w.heap.size w w' := by
  have HA := Lib.hid hc
  clear hc
  go_enter Try.func6, Try.ntmps6
  go_wp2_with fail
  refine (awake_any _).mono ?_
  rintro e w1 ⟨rfl, hb1⟩
  have HB1 := Lib.hid ((((Below.refl _ w).alloc (Nat.le_refl _) (.cells #[.int .i64 c0, .int .i64 c1, .int .i64 c2, .int .i64 c3] 23)).alloc (by simp) (.cells #[.int .i64 o0, .int .i64 o1, .int .i64 o2, .int .i64 o3] 23)).trans (hb1.mono (by simp; omega)))
  clear hb1
  go_wp2_with fail
  refine (small_any a b off cap l _ HA.out.1 HA.out.2.2.1 (HA.out.2.2.2.1.below' HB1.out HA.out.2.1)).mono ?_
  rintro e w2 ⟨rfl, hb2⟩
  have HB2 := Lib.hid (HB1.out.trans (hb2.mono HB1.out.size))
  clear hb2
  go_wp2_with fail
  refine (awake_any _).mono ?_
  rintro e w3 ⟨rfl, hb3⟩
  have HB3 := Lib.hid (HB2.out.trans (hb3.mono HB2.out.size))
  clear hb3
  go_wp2
  go_ret
  exact ⟨rfl, HB3.out⟩

theorem meet_le (x y : C4) : C4.le ⟨mnI x.c0 y.c0, mnI x.c1 y.c1, mnI x.c2 y.c2, mnI x.c3 y.c3⟩ x := by
  simp only [C4.le, mnI]
  refine ⟨?_, ?_, ?_, ?_⟩ <;> split <;> omega
theorem le_join (x y : C4) : C4.le y ⟨mxI x.c0 y.c0, mxI x.c1 y.c1, mxI x.c2 y.c2, mxI x.c3 y.c3⟩ := by
  simp only [C4.le, mxI]
  refine ⟨?_, ?_, ?_, ?_⟩ <;> split <;> omega
theorem in_meet (x y : C4) (o : Wr) : inB ⟨mnI x.c0 y.c0, mnI x.c1 y.c1, mnI x.c2 y.c2, mnI x.c3 y.c3⟩ o = (inB x o && inB y o) := by
  have h : C4.get ⟨mnI x.c0 y.c0, mnI x.c1 y.c1, mnI x.c2 y.c2, mnI x.c3 y.c3⟩ o.v = mnI (x.get o.v) (y.get o.v) := by
    unfold C4.get
    split <;> (try split) <;> (try split) <;> rfl
  rw [Bool.eq_iff_iff]
  simp only [inB, Bool.and_eq_true, decide_eq_true_eq]
  rw [h]
  unfold mnI
  split <;> omega
theorem in_join (x y : C4) (o : Wr) : inB ⟨mxI x.c0 y.c0, mxI x.c1 y.c1, mxI x.c2 y.c2, mxI x.c3 y.c3⟩ o = (inB x o || inB y o) := by
  have h : C4.get ⟨mxI x.c0 y.c0, mxI x.c1 y.c1, mxI x.c2 y.c2, mxI x.c3 y.c3⟩ o.v = mxI (x.get o.v) (y.get o.v) := by
    unfold C4.get
    split <;> (try split) <;> (try split) <;> rfl
  rw [Bool.eq_iff_iff]
  simp only [inB, Bool.or_eq_true, decide_eq_true_eq]
  rw [h]
  unfold mxI
  split <;> omega
/-- What lies in both of two closed cuts is closed; what lies in one of them, too. -/
theorem closed_meet {l : List Wr} {x y : C4} (hx : Closed l x) (hy : Closed l y) : Closed l ⟨mnI x.c0 y.c0, mnI x.c1 y.c1, mnI x.c2 y.c2, mnI x.c3 y.c3⟩ := by
  intro k i hk hi
  have h1 := hx k i hk hi
  have h2 := hy k i hk hi
  simp only [badB, in_meet] at *
  generalize inB x (wat l k) = p1 at *
  generalize inB x (wat l i) = p2 at *
  generalize inB y (wat l k) = p3 at *
  generalize inB y (wat l i) = p4 at *
  generalize ahB (wat l i) (wat l k) = p5 at *
  revert p1 p2 p3 p4 p5
  decide
theorem closed_join {l : List Wr} {x y : C4} (hx : Closed l x) (hy : Closed l y) : Closed l ⟨mxI x.c0 y.c0, mxI x.c1 y.c1, mxI x.c2 y.c2, mxI x.c3 y.c3⟩ := by
  intro k i hk hi
  have h1 := hx k i hk hi
  have h2 := hy k i hk hi
  simp only [badB, in_join] at *
  generalize inB x (wat l k) = p1 at *
  generalize inB x (wat l i) = p2 at *
  generalize inB y (wat l k) = p3 at *
  generalize inB y (wat l i) = p4 at *
  generalize ahB (wat l i) (wat l k) = p5 at *
  revert p1 p2 p3 p4 p5
  decide
theorem closed_notbad {l : List Wr} {g : C4} (hg : Closed l g) {i k : Nat} {b : Bool} (h : BadSpec g l i k b) : b = false := by
  rcases h with ⟨h, _⟩ | ⟨_, hi, hk, hy, _⟩
  · exact h
  · rw [hg k i hk hi] at hy; cases hy

/-- What a box holds when k rounds are over. -/
def upto (f : Int → Int → Int) (x y : C4) (k : Nat) : C4 := ⟨if 0 < k then f x.c0 y.c0 else 0, if 1 < k then f x.c1 y.c1 else 0, if 2 < k then f x.c2 y.c2 else 0, if 3 < k then f x.c3 y.c3 else 0⟩

set_option maxHeartbeats 8000000 in
theorem cj_few (a : Option Addr) (b off cap : Nat) (l : List Wr) (c0 c1 c2 c3 o0 o1 o2 o3 : Int) (w : World) (hL : Laid w a b off l) (hsm : smB l = true) :
    Calls Try.prog 6 #[.slice a l.length cap, .agg #[.int .i64 c0, .int .i64 c1, .int .i64 c2, .int .i64 c3], .agg #[.int .i64 o0, .int .i64 o1, .int .i64 o2, .int .i64 o3]] w fun e w' => e = .returned (.bool true) ∧ Below w.heap.size w w' := by
  obtain ⟨⟨g0, g1, g2, g3⟩, hg⟩ := hL.gr_some ⟨c0, c1, c2, c3⟩
  obtain ⟨⟨h0, h1, h2, h3⟩, hh⟩ := hL.gr_some ⟨o0, o1, o2, o3⟩
  have HG := Lib.hid hg
  have HH := Lib.hid hh
  have hlen := hL.hl
  have HL := Lib.hid hL
  clear hL hg hh
  go_enter Try.func6, Try.ntmps6
  go_wp2_with fail
  refine (awake_any _).mono ?_
  rintro e w1 ⟨rfl, hb1⟩
  have hz1 : w.heap.size + 2 ≤ w1.heap.size := by have := hb1.size; simp at this; omega
  have HC := Lib.hid (((Box4.new w (.int .i64 c0) (.int .i64 c1) (.int .i64 c2) (.int .i64 c3) 23).alloc (.cells #[.int .i64 o0, .int .i64 o1, .int .i64 o2, .int .i64 o3] 23) (by simp)).below hb1 (by simp; omega))
  have HO := Lib.hid ((by simpa using Box4.new (w.alloc (.cells #[.int .i64 c0, .int .i64 c1, .int .i64 c2, .int .i64 c3] 23)) (.int .i64 o0) (.int .i64 o1) (.int .i64 o2) (.int .i64 o3) 23 : Box4 _ (w.heap.size + 1) _ _ _ _).below hb1 (by simp))
  have HL1 := Lib.hid (((HL.out.alloc (.cells #[.int .i64 c0, .int .i64 c1, .int .i64 c2, .int .i64 c3] 23)).alloc (.cells #[.int .i64 o0, .int .i64 o1, .int .i64 o2, .int .i64 o3] 23)).below hb1)
  have HB1 := Lib.hid ((((Below.refl _ w).alloc (Nat.le_refl _) (.cells #[.int .i64 c0, .int .i64 c1, .int .i64 c2, .int .i64 c3] 23)).alloc (by simp) (.cells #[.int .i64 o0, .int .i64 o1, .int .i64 o2, .int .i64 o3] 23)).trans (hb1.mono (by simp; omega)))
  clear hb1
  go_wp2_with fail
  refine (small_any a b off cap l _ HL1.out.ha (by omega) HL1.out.hc).mono ?_
  rintro e w2 ⟨rfl, hb2⟩
  have hz2 : w.heap.size + 2 ≤ w2.heap.size := by have := hb2.size; omega
  have HC2 := Lib.hid (HC.out.below hb2 (by omega))
  have HO2 := Lib.hid (HO.out.below hb2 (by omega))
  have HL2 := Lib.hid (HL1.out.below hb2)
  have HB2 := Lib.hid (HB1.out.trans (hb2.mono (by omega)))
  clear hb2
  go_wp2_with fail
  refine (HL2.out.made cap).mono ?_
  rintro e w3 ⟨a', b', cap', rfl, hL3, hb3⟩
  have hz3 : w.heap.size + 2 ≤ w3.heap.size := by have := hb3.size; omega
  have HC3 := Lib.hid (HC2.out.below hb3 (by omega))
  have HO3 := Lib.hid (HO2.out.below hb3 (by omega))
  have HL3 := Lib.hid hL3
  have HB3 := Lib.hid (HB2.out.trans (hb3.mono (by omega)))
  clear hb3 hL3
  have HK : Hid (∀ W, Below w3.heap.size w3 W → RowKit.Below w3.heap.size w3 W ∧ W.cell? ⟨w.heap.size, 0, none⟩ = some (.int .i64 c0) ∧ W.cell? ⟨w.heap.size, 1, none⟩ = some (.int .i64 c1) ∧ W.cell? ⟨w.heap.size, 2, none⟩ = some (.int .i64 c2) ∧ W.cell? ⟨w.heap.size, 3, none⟩ = some (.int .i64 c3) ∧ W.cell? ⟨w.heap.size + 1, 0, none⟩ = some (.int .i64 o0) ∧ W.cell? ⟨w.heap.size + 1, 1, none⟩ = some (.int .i64 o1) ∧ W.cell? ⟨w.heap.size + 1, 2, none⟩ = some (.int .i64 o2) ∧ W.cell? ⟨w.heap.size + 1, 3, none⟩ = some (.int .i64 o3)) := fun W hW => by
    obtain ⟨x0, x1, x2, x3⟩ := HC3.out.below hW (by omega)
    obtain ⟨y0, y1, y2, y3⟩ := HO3.out.below hW (by omega)
    exact ⟨hW, x0, x1, x2, x3, y0, y1, y2, y3⟩
  go_upto_region 4 with fail
  go_cut [8, 9] (fun s8 s9 wx => ∃ b8 b9 : Nat, s8 = .pointer (some ⟨b8, 0, none⟩) ∧ s9 = .pointer (some ⟨b9, 0, none⟩) ∧ Box4 wx b8 (.int .i64 g0) (.int .i64 g1) (.int .i64 g2) (.int .i64 g3) ∧ Box4 wx b9 (.int .i64 h0) (.int .i64 h1) (.int .i64 h2) (.int .i64 h3) ∧ b8 < wx.heap.size ∧ b9 < wx.heap.size ∧ Below w3.heap.size w3 wx)
  case first =>
    go_region_held3 (fun w' => RowKit.Below w3.heap.size w3 w' ∧ w'.cell? ⟨w.heap.size, 0, none⟩ = some (.int .i64 c0) ∧ w'.cell? ⟨w.heap.size, 1, none⟩ = some (.int .i64 c1) ∧ w'.cell? ⟨w.heap.size, 2, none⟩ = some (.int .i64 c2) ∧ w'.cell? ⟨w.heap.size, 3, none⟩ = some (.int .i64 c3) ∧ w'.cell? ⟨w.heap.size + 1, 0, none⟩ = some (.int .i64 o0) ∧ w'.cell? ⟨w.heap.size + 1, 1, none⟩ = some (.int .i64 o1) ∧ w'.cell? ⟨w.heap.size + 1, 2, none⟩ = some (.int .i64 o2) ∧ w'.cell? ⟨w.heap.size + 1, 3, none⟩ = some (.int .i64 o3))
      (first | (with_reducible exact hS) | (refine HK.out _ ?_; go_split_ands; (repeat (first | (with_reducible assumption) | (with_reducible exact RowKit.Below.refl _ _) | (with_reducible refine RowKit.Below.drew ?_) | (with_reducible refine below_alloc' ?_ _) | ((with_reducible refine below_set ?_ ?_ _ _); rotate_left; first | omega | (simp; omega))))))
      (first
        | (go_at_call_of 12 (Value.agg #[Value.int IntKind.i64 c0, Value.int IntKind.i64 c1, Value.int IntKind.i64 c2, Value.int IntKind.i64 c3]); (with_reducible refine (gr_a2 HL3.out cap' c0 c1 c2 c3 g0 g1 g2 g3 HG.out).mono ?_); rintro e wA ⟨rfl, hbA, hfA⟩; have hS := HK.out wA hbA; have hzA := hbA.size; clear hbA)
        | (go_at_call_of 12 (Value.agg #[Value.int IntKind.i64 c0, Value.int IntKind.i64 c1, Value.int IntKind.i64 c2, Value.int IntKind.i64 c3]); (with_reducible refine (gr_a1 HL3.out cap' c0 c1 c2 c3 g0 g1 g2 g3 HG.out).mono ?_); rintro e wA ⟨rfl, hbA, hfA⟩; have hS := HK.out wA hbA; have hzA := hbA.size; clear hbA)
        | (go_at_call_of 12 (Value.agg #[Value.int IntKind.i64 c0, Value.int IntKind.i64 c1, Value.int IntKind.i64 c2, Value.int IntKind.i64 c3]); (with_reducible refine (gr_a0 HL3.out cap' c0 c1 c2 c3 g0 g1 g2 g3 HG.out).mono ?_); rintro e wA ⟨rfl, hbA, hfA⟩; have hS := HK.out wA hbA; have hzA := hbA.size; clear hbA)
        | (go_at_call_of 12 (Value.agg #[Value.int IntKind.i64 o0, Value.int IntKind.i64 o1, Value.int IntKind.i64 o2, Value.int IntKind.i64 o3]); (with_reducible refine (gr_b2 HL3.out cap' o0 o1 o2 o3 h0 h1 h2 h3 HH.out hS.1).mono ?_); rintro e wB ⟨rfl, hbB, hfB⟩; have hS := HK.out wB hbB; have hzB := hbB.size; clear hbB)
        | (go_at_call_of 12 (Value.agg #[Value.int IntKind.i64 o0, Value.int IntKind.i64 o1, Value.int IntKind.i64 o2, Value.int IntKind.i64 o3]); (with_reducible refine (gr_b1 HL3.out cap' o0 o1 o2 o3 h0 h1 h2 h3 HH.out hS.1).mono ?_); rintro e wB ⟨rfl, hbB, hfB⟩; have hS := HK.out wB hbB; have hzB := hbB.size; clear hbB)
        | (go_at_call_of 12 (Value.agg #[Value.int IntKind.i64 o0, Value.int IntKind.i64 o1, Value.int IntKind.i64 o2, Value.int IntKind.i64 o3]); (with_reducible refine (gr_b0 HL3.out cap' o0 o1 o2 o3 h0 h1 h2 h3 HH.out hS.1).mono ?_); rintro e wB ⟨rfl, hbB, hfB⟩; have hS := HK.out wB hbB; have hzB := hbB.size; clear hbB))
    all_goals
      go_wp2_with fail
      go_meet
      refine ⟨_, _, rfl, rfl, ⟨?_, ?_, ?_, ?_⟩, ⟨?_, ?_, ?_, ?_⟩, ?_, ?_, ?_⟩
      all_goals first | (go_simp; done) | (simp; omega) | (go_split_ands; with_reducible assumption)
  case rest =>
    obtain ⟨b8, b9, rfl, rfl, h8, h9, hl8, hl9, hBc⟩ := hcut
    have H8 := Lib.hid h8
    have H9 := Lib.hid h9
    have HBc := Lib.hid hBc
    have hzc := hBc.size
    clear h8 h9 hBc
    obtain ⟨x0, x1, x2, x3⟩ := H8.out
    obtain ⟨y0, y1, y2, y3⟩ := H9.out
    go_wp2_with fail
    go_loopg [35] 4 (fun n t wr => ∃ k : Nat, k ≤ 4 ∧ 4 - k ≤ n ∧ t = .int .i64 k ∧ BoxI wr wc.heap.size 33 (upto mnI ⟨g0, g1, g2, g3⟩ ⟨h0, h1, h2, h3⟩ k) ∧ BoxI wr (wc.heap.size + 1) 33 (upto mxI ⟨g0, g1, g2, g3⟩ ⟨h0, h1, h2, h3⟩ k) ∧ Below wc.heap.size wc wr)
    case atStart => exact ⟨0, by omega, by omega, rfl, (BoxI.new wc 33 ⟨0, 0, 0, 0⟩).alloc _, (by simpa using BoxI.new (wc.alloc (.cells #[.int .i64 0, .int .i64 0, .int .i64 0, .int .i64 0] 33)) 33 ⟨0, 0, 0, 0⟩ : BoxI _ (wc.heap.size + 1) 33 ⟨0, 0, 0, 0⟩), below_alloc' (below_alloc' (Below.refl _ _) _) _⟩
    case round =>
      obtain ⟨k, hk, hn, rfl, hbm, hbx, hB⟩ := hrel
      have HM := Lib.hid hbm
      have HX := Lib.hid hbx
      have HB := Lib.hid hB
      have hsz := hbx.lt
      clear hbm hbx hB x0 x1 x2 x3 y0 y1 y2 y3
      obtain ⟨x0, x1, x2, x3⟩ := H8.out.below HB.out hl8
      obtain ⟨y0, y1, y2, y3⟩ := H9.out.below HB.out hl9
      have hne : wc.heap.size ≠ b8 := by omega
      have hne' : wc.heap.size ≠ b9 := by omega
      by_cases hk4 : k < 4
      · obtain rfl | rfl | rfl | rfl : k = 0 ∨ k = 1 ∨ k = 2 ∨ k = 3 := by omega
        · have z0 := HM.out.cells.1
          have z1 := HX.out.cells.1
          have p0 := HM.out.free 0
          have p1 := HX.out.free 0
          go_wp2_with fail
          go_region
          go_wp2
          go_roundg 3
          case measure => omega
          case rel => exact ⟨1, by omega, by omega, rfl, ((HM.out.set (y := upto mnI ⟨g0, g1, g2, g3⟩ ⟨h0, h1, h2, h3⟩ 1) 0 (.int .i64 (mnI g0 h0)) rfl).set_other _ _ (by omega)).drew, ((HX.out.set_other _ _ (by omega)).set (y := upto mxI ⟨g0, g1, g2, g3⟩ ⟨h0, h1, h2, h3⟩ 1) 0 (.int .i64 (mxI g0 h0)) rfl).drew, (below_set (below_set HB.out (Nat.le_refl _) _ _) (by omega) _ _).drew⟩
        · have z0 := HM.out.cells.2.1
          have z1 := HX.out.cells.2.1
          have p0 := HM.out.free 1
          have p1 := HX.out.free 1
          go_wp2_with fail
          go_region
          go_wp2
          go_roundg 2
          case measure => omega
          case rel => exact ⟨2, by omega, by omega, rfl, ((HM.out.set (y := upto mnI ⟨g0, g1, g2, g3⟩ ⟨h0, h1, h2, h3⟩ 2) 1 (.int .i64 (mnI g1 h1)) rfl).set_other _ _ (by omega)).drew, ((HX.out.set_other _ _ (by omega)).set (y := upto mxI ⟨g0, g1, g2, g3⟩ ⟨h0, h1, h2, h3⟩ 2) 1 (.int .i64 (mxI g1 h1)) rfl).drew, (below_set (below_set HB.out (Nat.le_refl _) _ _) (by omega) _ _).drew⟩
        · have z0 := HM.out.cells.2.2.1
          have z1 := HX.out.cells.2.2.1
          have p0 := HM.out.free 2
          have p1 := HX.out.free 2
          go_wp2_with fail
          go_region
          go_wp2
          go_roundg 1
          case measure => omega
          case rel => exact ⟨3, by omega, by omega, rfl, ((HM.out.set (y := upto mnI ⟨g0, g1, g2, g3⟩ ⟨h0, h1, h2, h3⟩ 3) 2 (.int .i64 (mnI g2 h2)) rfl).set_other _ _ (by omega)).drew, ((HX.out.set_other _ _ (by omega)).set (y := upto mxI ⟨g0, g1, g2, g3⟩ ⟨h0, h1, h2, h3⟩ 3) 2 (.int .i64 (mxI g2 h2)) rfl).drew, (below_set (below_set HB.out (Nat.le_refl _) _ _) (by omega) _ _).drew⟩
        · have z0 := HM.out.cells.2.2.2
          have z1 := HX.out.cells.2.2.2
          have p0 := HM.out.free 3
          have p1 := HX.out.free 3
          go_wp2_with fail
          go_region
          go_wp2
          go_roundg 0
          case measure => omega
          case rel => exact ⟨4, by omega, by omega, rfl, ((HM.out.set (y := upto mnI ⟨g0, g1, g2, g3⟩ ⟨h0, h1, h2, h3⟩ 4) 3 (.int .i64 (mnI g3 h3)) rfl).set_other _ _ (by omega)).drew, ((HX.out.set_other _ _ (by omega)).set (y := upto mxI ⟨g0, g1, g2, g3⟩ ⟨h0, h1, h2, h3⟩ 4) 3 (.int .i64 (mxI g3 h3)) rfl).drew, (below_set (below_set HB.out (Nat.le_refl _) _ _) (by omega) _ _).drew⟩
      · obtain rfl : k = 4 := by omega
        have HMC := Lib.hid (closed_meet (l := l) HG.out.1 HH.out.1)
        have HXC := Lib.hid (closed_join (l := l) HG.out.1 HH.out.1)
        have HBd := Lib.hid HB.out
        have HM0 := Lib.hid (BoxI.cells (show BoxI wr wc.heap.size 33 ⟨mnI g0 h0, mnI g1 h1, mnI g2 h2, mnI g3 h3⟩ from HM.out))
        have HX0 := Lib.hid (BoxI.cells (show BoxI wr (wc.heap.size + 1) 33 ⟨mxI g0 h0, mxI g1 h1, mxI g2 h2, mxI g3 h3⟩ from HX.out))
        clear x0 x1 x2 x3 y0 y1 y2 y3
        obtain ⟨x0, x1, x2, x3⟩ := HM0.out
        go_wp2_with fail
        refine (((HL3.out.below HBc.out).below HBd.out).bad cap' (mnI g0 h0) (mnI g1 h1) (mnI g2 h2) (mnI g3 h3)).mono ?_
        rintro e w6 ⟨i, k, bd, rfl, hsp, hb6⟩
        obtain rfl := closed_notbad HMC.out hsp
        have hz6 : wc.heap.size + 2 ≤ w6.heap.size := by have := hb6.size; omega
        have HM6 := Lib.hid (HM0.out.below hb6 (by omega))
        have HX6 := Lib.hid (HX0.out.below hb6 (by omega))
        have HB6 := Lib.hid (HBd.out.trans (hb6.mono (by omega)))
        clear hsp hb6 x0 x1 x2 x3
        obtain ⟨x0, x1, x2, x3⟩ := HX6.out
        go_wp2_with fail
        refine (((HL3.out.below HBc.out).below HB6.out).bad cap' (mxI g0 h0) (mxI g1 h1) (mxI g2 h2) (mxI g3 h3)).mono ?_
        rintro e w7 ⟨i', k', bd', rfl, hsp, hb7⟩
        obtain rfl := closed_notbad HXC.out hsp
        have hz7 : wc.heap.size + 2 ≤ w7.heap.size := by have := hb7.size; omega
        have HM7 := Lib.hid (HM6.out.below hb7 (by omega))
        have HX7 := Lib.hid (HX6.out.below hb7 (by omega))
        have HB7 := Lib.hid (HB6.out.trans (hb7.mono (by omega)))
        have HG7 := Lib.hid (H8.out.below HB7.out hl8)
        have HH7 := Lib.hid (H9.out.below HB7.out hl9)
        clear hsp hb7 x0 x1 x2 x3
        obtain ⟨x0, x1, x2, x3⟩ := HM7.out
        obtain ⟨y0, y1, y2, y3⟩ := HG7.out
        have H1 := Lib.hid (bl_le (meet_le ⟨g0, g1, g2, g3⟩ ⟨h0, h1, h2, h3⟩))
        have H2 := Lib.hid (bl_le (le_join ⟨g0, g1, g2, g3⟩ ⟨h0, h1, h2, h3⟩))
        go_wp2_with fail
        refine (bl_is _ _ _ _ _ _ _ _ _ true H1.out).mono ?_
        rintro e w8 ⟨rfl, hb8⟩
        have hz8 : wc.heap.size + 2 ≤ w8.heap.size := by have := hb8.size; omega
        have HX8 := Lib.hid (HX7.out.below hb8 (by omega))
        have HH8 := Lib.hid (HH7.out.below hb8 (by omega))
        have HB8 := Lib.hid (HB7.out.trans (hb8.mono (by omega)))
        clear hb8 x0 x1 x2 x3 y0 y1 y2 y3
        obtain ⟨x0, x1, x2, x3⟩ := HX8.out
        obtain ⟨y0, y1, y2, y3⟩ := HH8.out
        go_wp2_with fail
        refine (bl_is _ _ _ _ _ _ _ _ _ true H2.out).mono ?_
        rintro e w9 ⟨rfl, hb9⟩
        have HB9 := Lib.hid (HB8.out.trans (hb9.mono (by omega)))
        clear hb9
        go_wp2
        go_ret
        exact ⟨rfl, HB3.out.trans ((HBc.out.mono (by omega)).trans (HB9.out.mono (by omega)))⟩


theorem cj_all (a : Option Addr) (b off cap : Nat) (l : List Wr) (c0 c1 c2 c3 o0 o1 o2 o3 : Int) (w : World) (h : Came w a b off l) :
    Calls Try.prog 6 #[.slice a l.length cap, .agg #[.int .i64 c0, .int .i64 c1, .int .i64 c2, .int .i64 c3], .agg #[.int .i64 o0, .int .i64 o1, .int .i64 o2, .int .i64 o3]] w fun e w' => e = .returned (.bool true) ∧ Below w.heap.size w w' := by
  cases hs : smB l with
  | false => exact cj_large a b off cap l c0 c1 c2 c3 o0 o1 o2 o3 w h hs
  | true => exact cj_few a b off cap l c0 c1 c2 c3 o0 o1 o2 o3 w (h.laid hs) hs

end Go.Proofs.Ytckijalkodpjhaa
