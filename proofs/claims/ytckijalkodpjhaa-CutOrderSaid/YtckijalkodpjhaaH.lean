/- The law CutGreatest, walked: true at every list of writes and every two cuts. -/
import Derived.Test.YtckijalkodpjhaaG
namespace Go.Proofs.Ytckijalkodpjhaa
open Go.RowKit Go.Sort
attribute [local go_sem] eqIn33

theorem bl_is (c0 c1 c2 c3 o0 o1 o2 o3 : Int) (w : World) (v : Bool) (h : blB ⟨c0, c1, c2, c3⟩ ⟨o0, o1, o2, o3⟩ = v) :
    Calls Try.prog 17 #[.agg #[.int .i64 c0, .int .i64 c1, .int .i64 c2, .int .i64 c3], .agg #[.int .i64 o0, .int .i64 o1, .int .i64 o2, .int .i64 o3]] w fun e w' => e = .returned (.bool v) ∧ Below w.heap.size w w' :=
  (below_walk c0 c1 c2 c3 o0 o1 o2 o3 w).mono fun _ _ ⟨he, hb⟩ => ⟨he.trans (ret_bool h), hb⟩
theorem eqC_self (x0 x1 x2 x3 : Int) : eqC x0 x1 x2 x3 x0 x1 x2 x3 = true := by simp [eqC]

set_option maxHeartbeats 1600000 in
theorem cg_few (a : Option Addr) (b off cap : Nat) (l : List Wr) (c0 c1 c2 c3 o0 o1 o2 o3 : Int) (w : World) (hL : Laid w a b off l) (hsm : smB l = true) :
    Calls Try.prog 5 #[.slice a l.length cap, .agg #[.int .i64 c0, .int .i64 c1, .int .i64 c2, .int .i64 c3], .agg #[.int .i64 o0, .int .i64 o1, .int .i64 o2, .int .i64 o3]] w fun e w' => e = .returned (.bool true) ∧ Below w.heap.size w w' := by
  obtain ⟨⟨g0, g1, g2, g3⟩, hg⟩ := hL.gr_some ⟨c0, c1, c2, c3⟩
  have HG := Lib.hid hg
  have HL := Lib.hid hL
  clear hL hg
  have HE := Lib.hid (eqC_self g0 g1 g2 g3)
  go_enter Try.func5, Try.ntmps5
  go_wp2_with fail
  refine (awake_any _).mono ?_
  rintro e w1 ⟨rfl, hb1⟩
  have hz1 : w.heap.size + 2 ≤ w1.heap.size := by have := hb1.size; simp at this; omega
  have HC := Lib.hid (((Box4.new w (.int .i64 c0) (.int .i64 c1) (.int .i64 c2) (.int .i64 c3) 23).alloc (.cells #[.int .i64 o0, .int .i64 o1, .int .i64 o2, .int .i64 o3] 23) (by simp)).below hb1 (by simp; omega))
  have HO := Lib.hid ((by simpa using Box4.new (w.alloc (.cells #[.int .i64 c0, .int .i64 c1, .int .i64 c2, .int .i64 c3] 23)) (.int .i64 o0) (.int .i64 o1) (.int .i64 o2) (.int .i64 o3) 23 : Box4 _ (w.heap.size + 1) _ _ _ _).below hb1 (by simp))
  have HL1 := Lib.hid (((HL.out.alloc (.cells #[.int .i64 c0, .int .i64 c1, .int .i64 c2, .int .i64 c3] 23)).alloc (.cells #[.int .i64 o0, .int .i64 o1, .int .i64 o2, .int .i64 o3] 23)).below hb1)
  have HB1 := Lib.hid ((((Below.refl _ w).alloc (Nat.le_refl _) (.cells #[.int .i64 c0, .int .i64 c1, .int .i64 c2, .int .i64 c3] 23)).alloc (by simp) (.cells #[.int .i64 o0, .int .i64 o1, .int .i64 o2, .int .i64 o3] 23)).trans (hb1.mono (by simp; omega)))
  clear hb1
  go_wp2_with fail
  refine (small_any a b off cap l _ HL1.out.ha (by have := HL1.out.hl; omega) HL1.out.hc).mono ?_
  rintro e w2 ⟨rfl, hb2⟩
  have hz2 : w.heap.size + 2 ≤ w2.heap.size := by have := hb2.size; omega
  have HC2 := Lib.hid (HC.out.below hb2 (by omega))
  have HO2 := Lib.hid (HO.out.below hb2 (by omega))
  have HL2 := Lib.hid (HL1.out.below hb2)
  have HB2 := Lib.hid (HB1.out.trans (hb2.mono (by omega)))
  clear hb2
  go_wp2_with fail
  refine (HL2.out.made cap).mono ?_
  rintro e w3 ⟨a', b', cap', rfl, hL3, hb3⟩
  have hz3 : w.heap.size + 2 ≤ w3.heap.size := by have := hb3.size; omega
  have HC3 := Lib.hid (HC2.out.below hb3 (by omega))
  have HO3 := Lib.hid (HO2.out.below hb3 (by omega))
  have HL3 := Lib.hid hL3
  have HB3 := Lib.hid (HB2.out.trans (hb3.mono (by omega)))
  clear hb3 hL3
  obtain ⟨x0, x1, x2, x3⟩ := HC3.out
  go_wp2_with fail
  refine (HL3.out.gr_is cap' c0 c1 c2 c3 g0 g1 g2 g3 HG.out).mono ?_
  rintro e w4 ⟨rfl, hb4⟩
  have hz4 : w.heap.size + 2 ≤ w4.heap.size := by have := hb4.size; omega
  have HC4 := Lib.hid (HC3.out.below hb4 (by omega))
  have HO4 := Lib.hid (HO3.out.below hb4 (by omega))
  have HL4 := Lib.hid (HL3.out.below hb4)
  have HB4 := Lib.hid (HB3.out.trans (hb4.mono (by omega)))
  clear hb4 x0 x1 x2 x3
  go_wp2_with fail
  refine ((HL4.out.alloc _).bad cap' g0 g1 g2 g3).mono ?_
  rintro e w5 ⟨i, k, bd, rfl, hsp, hb5⟩
  obtain rfl := HG.out.notbad hsp
  have hz5 : w4.heap.size + 1 ≤ w5.heap.size := by have := hb5.size; simp at this; omega
  have HC5 := Lib.hid ((HC4.out.alloc (.cells #[.int .i64 g0, .int .i64 g1, .int .i64 g2, .int .i64 g3] 33) (by omega)).below hb5 (by simp; omega))
  have HO5 := Lib.hid ((HO4.out.alloc (.cells #[.int .i64 g0, .int .i64 g1, .int .i64 g2, .int .i64 g3] 33) (by omega)).below hb5 (by simp; omega))
  have HG5 := Lib.hid ((Box4.new w4 (.int .i64 g0) (.int .i64 g1) (.int .i64 g2) (.int .i64 g3) 33).below hb5 (by simp))
  have HL5 := Lib.hid ((HL4.out.alloc (.cells #[.int .i64 g0, .int .i64 g1, .int .i64 g2, .int .i64 g3] 33)).below hb5)
  have HB5 := Lib.hid ((HB4.out.alloc (by omega) (.cells #[.int .i64 g0, .int .i64 g1, .int .i64 g2, .int .i64 g3] 33)).trans (hb5.mono (by simp; omega)))
  clear hb5 hsp
  obtain ⟨x0, x1, x2, x3⟩ := HC5.out
  obtain ⟨y0, y1, y2, y3⟩ := HG5.out
  have rx0 := cell_regrown x0
  have rx1 := cell_regrown x1
  have rx2 := cell_regrown x2
  have rx3 := cell_regrown x3
  have ry0 := cell_regrown y0
  have ry1 := cell_regrown y1
  have ry2 := cell_regrown y2
  have ry3 := cell_regrown y3
  have he := HE.out
  go_wp2_with fail
  refine wp_region_quiet_below (by kernel_rfl) (by kernel_rfl) ?_
  repeat (go_big_quiet_step (first | (go_at_call 17; exact Calls.regrown_of (bl_is _ _ _ _ _ _ _ _ _ true HG.out.bl)) | (go_at_call 12; exact Calls.regrown_of ((HL5.out.below (below_regrown _ _ _)).gr_is _ _ _ _ _ _ _ _ _ (GrSpec.self HG.out.1)))))
  refine wpQuiet_nil ?_
  intro _ hw'
  obtain ⟨⟨dq, osq⟩, hw''⟩ := hw'
  subst hw''
  clear rx0 rx1 rx2 rx3 ry0 ry1 ry2 ry3 x0 x1 x2 x3 y0 y1 y2 y3
  have hQ := Lib.hid (below_regrown w5 dq osq)
  generalize grow (redrawn w5 dq) osq = w6 at *
  have hz6 : w4.heap.size + 1 ≤ w6.heap.size := by have := hQ.out.size; omega
  have HC6 := Lib.hid (HC5.out.below hQ.out (by omega))
  have HO6 := Lib.hid (HO5.out.below hQ.out (by omega))
  have HG6 := Lib.hid (HG5.out.below hQ.out (by omega))
  have HL6 := Lib.hid (HL5.out.below hQ.out)
  have HB6 := Lib.hid (HB5.out.trans (hQ.out.mono (by omega)))
  obtain ⟨x0, x1, x2, x3⟩ := HO6.out
  go_wp2_with fail
  refine ((HL6.out.alloc _).bad cap' o0 o1 o2 o3).mono ?_
  rintro e w7 ⟨i', k', bd', rfl, hsp, hb7⟩
  have HSP := Lib.hid hsp
  clear hsp x0 x1 x2 x3
  have hz7 : w6.heap.size + 1 ≤ w7.heap.size := by have := hb7.size; simp at this; omega
  obtain ⟨x0, x1, x2, x3⟩ := (HC6.out.alloc (.cells #[.int .i64 o0, .int .i64 o1, .int .i64 o2, .int .i64 o3] 33) (by omega)).below hb7 (by simp; omega)
  have HG7 := Lib.hid ((HG6.out.alloc (.cells #[.int .i64 o0, .int .i64 o1, .int .i64 o2, .int .i64 o3] 33) (by omega)).below hb7 (by simp; omega))
  have HX7 := Lib.hid ((Box4.new w6 (.int .i64 o0) (.int .i64 o1) (.int .i64 o2) (.int .i64 o3) 33).below hb7 (by simp))
  have HB7 := Lib.hid ((HB6.out.alloc (by omega) (.cells #[.int .i64 o0, .int .i64 o1, .int .i64 o2, .int .i64 o3] 33)).trans (hb7.mono (by simp; omega)))
  clear hb7
  cases bd' with
  | true =>
    go_wp2
    go_ret
    exact ⟨rfl, HB7.out⟩
  | false =>
    have HEND := Lib.hid (cg_end HG.out HSP.out.closed)
    obtain ⟨y0, y1, y2, y3⟩ := HX7.out
    cases hbl : blB ⟨o0, o1, o2, o3⟩ ⟨c0, c1, c2, c3⟩ with
    | false =>
      have HBL := Lib.hid hbl
      clear hbl
      go_wp2_with fail
      refine (bl_is _ _ _ _ _ _ _ _ _ false HBL.out).mono ?_
      rintro e w8 ⟨rfl, hb8⟩
      have HB8 := Lib.hid (HB7.out.trans (hb8.mono (by omega)))
      clear hb8
      go_wp2
      go_ret
      exact ⟨rfl, HB8.out⟩
    | true =>
      have HBL := Lib.hid hbl
      have HB0 := Lib.hid (show blB ⟨o0, o1, o2, o3⟩ ⟨g0, g1, g2, g3⟩ = true from by have := HEND.out; rw [HBL.out] at this; simpa using this)
      clear hbl
      go_wp2_with fail
      refine (bl_is _ _ _ _ _ _ _ _ _ true HBL.out).mono ?_
      rintro e w8 ⟨rfl, hb8⟩
      have HB8 := Lib.hid (HB7.out.trans (hb8.mono (by omega)))
      clear x0 x1 x2 x3 y0 y1 y2 y3
      obtain ⟨x0, x1, x2, x3⟩ := HX7.out.below hb8 (by omega)
      obtain ⟨y0, y1, y2, y3⟩ := HG7.out.below hb8 (by omega)
      have hz8 : w6.heap.size + 1 ≤ w8.heap.size := by have := hb8.size; omega
      clear hb8
      go_wp2_with fail
      refine (bl_is _ _ _ _ _ _ _ _ _ true HB0.out).mono ?_
      rintro e w9 ⟨rfl, hb9⟩
      have HB9 := Lib.hid (HB8.out.trans (hb9.mono (by omega)))
      clear hb9
      go_wp2
      go_ret
      exact ⟨rfl, HB9.out⟩

theorem cg_all (a : Option Addr) (b off cap : Nat) (l : List Wr) (c0 c1 c2 c3 o0 o1 o2 o3 : Int) (w : World) (h : Came w a b off l) :
    Calls Try.prog 5 #[.slice a l.length cap, .agg #[.int .i64 c0, .int .i64 c1, .int .i64 c2, .int .i64 c3], .agg #[.int .i64 o0, .int .i64 o1, .int .i64 o2, .int .i64 o3]] w fun e w' => e = .returned (.bool true) ∧ Below w.heap.size w w' := by
  cases hs : smB l with
  | false => exact cg_large a b off cap l c0 c1 c2 c3 o0 o1 o2 o3 w h.1 h.2.1 h.2.2.1 h.2.2.2.1 hs
  | true => exact cg_few a b off cap l c0 c1 c2 c3 o0 o1 o2 o3 w (h.laid hs) hs

end Go.Proofs.Ytckijalkodpjhaa
