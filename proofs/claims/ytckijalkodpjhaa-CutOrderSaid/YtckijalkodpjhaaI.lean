/- The law CutTells, walked: true at every list of writes and every two cuts. -/
import Derived.Test.YtckijalkodpjhaaH
namespace Go.Proofs.Ytckijalkodpjhaa
open Go.RowKit Go.Sort
attribute [local go_sem] eqIn33

theorem Laid.bad_some {w : World} {a : Option Addr} {b off : Nat} {l : List Wr} (h : Laid w a b off l) (c : C4) : ∃ i k bd, BadSpec c l i k bd := by
  obtain ⟨_, _, i, k, bd, _, hg, _⟩ := calls_some (h.bad 0 c.c0 c.c1 c.c2 c.c3)
  exact ⟨_, _, _, hg⟩
theorem Laid.bad_is {w : World} {a : Option Addr} {b off : Nat} {l : List Wr} (h : Laid w a b off l) (cap : Nat) (c0 c1 c2 c3 : Int) (i k : Nat) (bd : Bool) (hg : BadSpec ⟨c0, c1, c2, c3⟩ l i k bd) :
    Calls Try.prog 10 #[.slice a l.length cap, .agg #[.int .i64 c0, .int .i64 c1, .int .i64 c2, .int .i64 c3]] w fun e w' => e = .returned (.tuple #[.int .i64 i, .int .i64 k, .bool bd]) ∧ Below w.heap.size w w' :=
  (h.bad cap c0 c1 c2 c3).mono fun e w' ⟨i', k', b', he, hx, hb⟩ => by
    obtain ⟨rfl, rfl, rfl⟩ := hg.unique hx
    exact ⟨he, hb⟩
theorem Laid.rbad_is {w : World} {a : Option Addr} {b off : Nat} {l : List Wr} (h : Laid w a b off l) (cap : Nat) (c0 c1 c2 c3 : Int) (i k : Nat) (bd : Bool) (hg : BadSpec ⟨c0, c1, c2, c3⟩ l i k bd) :
    Calls Try.prog 15 #[.slice a l.length cap, .agg #[.int .i64 c0, .int .i64 c1, .int .i64 c2, .int .i64 c3]] w fun e w' => e = .returned (.tuple #[.int .i64 i, .int .i64 k, .bool bd]) ∧ Below w.heap.size w w' :=
  (rbad_any a b off cap l c0 c1 c2 c3 w h.ha h.hb (by have := h.hl; omega) h.hc).mono fun e w' ⟨i', k', b', he, hx, hb⟩ => by
    obtain ⟨rfl, rfl, rfl⟩ := hg.unique hx
    exact ⟨he, hb⟩
theorem Laid.rgr_is {w : World} {a : Option Addr} {b off : Nat} {l : List Wr} (h : Laid w a b off l) (cap : Nat) (c0 c1 c2 c3 g0 g1 g2 g3 : Int) (hg : GrSpec l ⟨c0, c1, c2, c3⟩ ⟨g0, g1, g2, g3⟩) :
    Calls Try.prog 16 #[.slice a l.length cap, .agg #[.int .i64 c0, .int .i64 c1, .int .i64 c2, .int .i64 c3]] w fun e w' => e = .returned (.agg #[.int .i64 g0, .int .i64 g1, .int .i64 g2, .int .i64 g3]) ∧ Below w.heap.size w w' :=
  (rgr_any a b off cap l c0 c1 c2 c3 w h.ha h.hb (by have := h.hl; omega) h.hc h.hs).mono fun e w' ⟨x0, x1, x2, x3, he, hx, hb⟩ => by
    have := hx.unique hg
    simp only [C4.mk.injEq] at this
    obtain ⟨rfl, rfl, rfl, rfl⟩ := this
    exact ⟨he, hb⟩

section
variable (a : Option Addr) (b off cap : Nat) (l : List Wr) (c0 c1 c2 c3 o0 o1 o2 o3 : Int) (w : World)
set_option maxHeartbeats 800000 in
theorem ct_large (ha : 0 < l.length → a = some ⟨b, off, none⟩) (hb : 0 < l.length → b < w.heap.size) (hl : l.length ≤ 9223372036854775807) (hc : LiesAt w b off l) (hsm : smB l = false) :
    Calls Try.prog 4 #[.slice a l.length cap, .agg #[.int .i64 c0, .int .i64 c1, .int .i64 c2, .int .i64 c3], .agg #[.int .i64 o0, .int .i64 o1, .int .i64 o2, .int .i64 o3]] w fun e w' => e = .returned (.bool true) ∧ Below w.heap.size w w' := by
  have HA := Lib.hid ha
  have HB := Lib.hid hb
  have HC := Lib.hid hc
  clear ha hb hc
  go_enter Try.func4, Try.ntmps4
  go_wp2_with fail
  refine (awake_any _).mono ?_
  rintro e w1 ⟨rfl, hb1⟩
  have HB1 := Lib.hid ((((Below.refl _ w).alloc (Nat.le_refl _) (.cells #[.int .i64 c0, .int .i64 c1, .int .i64 c2, .int .i64 c3] 23)).alloc (by simp) (.cells #[.int .i64 o0, .int .i64 o1, .int .i64 o2, .int .i64 o3] 23)).trans (hb1.mono (by simp; omega)))
  clear hb1
  go_wp2_with fail
  refine (small_any a b off cap l _ HA.out hl (HC.out.below' HB1.out HB.out)).mono ?_
  rintro e w2 ⟨rfl, hb2⟩
  have HB2 := Lib.hid (HB1.out.trans (hb2.mono HB1.out.size))
  clear hb2
  go_wp2_with fail
  refine (awake_any _).mono ?_
  rintro e w3 ⟨rfl, hb3⟩
  have HB3 := Lib.hid (HB2.out.trans (hb3.mono HB2.out.size))
  clear hb3
  go_wp2
  go_ret
  exact ⟨rfl, HB3.out⟩
end

set_option maxHeartbeats 3200000 in
theorem ct_few (a : Option Addr) (b off cap : Nat) (l : List Wr) (c0 c1 c2 c3 o0 o1 o2 o3 : Int) (w : World) (hL : Laid w a b off l) (hsm : smB l = true) :
    Calls Try.prog 4 #[.slice a l.length cap, .agg #[.int .i64 c0, .int .i64 c1, .int .i64 c2, .int .i64 c3], .agg #[.int .i64 o0, .int .i64 o1, .int .i64 o2, .int .i64 o3]] w fun e w' => e = .returned (.bool true) ∧ Below w.heap.size w w' := by
  obtain ⟨⟨g0, g1, g2, g3⟩, hg⟩ := hL.gr_some ⟨c0, c1, c2, c3⟩
  obtain ⟨bi, bk, bd, hbd⟩ := hL.bad_some ⟨c0, c1, c2, c3⟩
  have HG := Lib.hid hg
  have HBD := Lib.hid hbd
  have hlen := hL.hl
  have HL := Lib.hid hL
  clear hL hg hbd
  have HE := Lib.hid (eqC_self g0 g1 g2 g3)
  go_enter Try.func4, Try.ntmps4
  go_wp2_with fail
  refine (awake_any _).mono ?_
  rintro e w1 ⟨rfl, hb1⟩
  have hz1 : w.heap.size + 2 ≤ w1.heap.size := by have := hb1.size; simp at this; omega
  have HC := Lib.hid (((Box4.new w (.int .i64 c0) (.int .i64 c1) (.int .i64 c2) (.int .i64 c3) 23).alloc (.cells #[.int .i64 o0, .int .i64 o1, .int .i64 o2, .int .i64 o3] 23) (by simp)).below hb1 (by simp; omega))
  have HO := Lib.hid ((by simpa using Box4.new (w.alloc (.cells #[.int .i64 c0, .int .i64 c1, .int .i64 c2, .int .i64 c3] 23)) (.int .i64 o0) (.int .i64 o1) (.int .i64 o2) (.int .i64 o3) 23 : Box4 _ (w.heap.size + 1) _ _ _ _).below hb1 (by simp))
  have HL1 := Lib.hid (((HL.out.alloc (.cells #[.int .i64 c0, .int .i64 c1, .int .i64 c2, .int .i64 c3] 23)).alloc (.cells #[.int .i64 o0, .int .i64 o1, .int .i64 o2, .int .i64 o3] 23)).below hb1)
  have HB1 := Lib.hid ((((Below.refl _ w).alloc (Nat.le_refl _) (.cells #[.int .i64 c0, .int .i64 c1, .int .i64 c2, .int .i64 c3] 23)).alloc (by simp) (.cells #[.int .i64 o0, .int .i64 o1, .int .i64 o2, .int .i64 o3] 23)).trans (hb1.mono (by simp; omega)))
  clear hb1
  go_wp2_with fail
  refine (small_any a b off cap l _ HL1.out.ha (by have := HL1.out.hl; omega) HL1.out.hc).mono ?_
  rintro e w2 ⟨rfl, hb2⟩
  have hz2 : w.heap.size + 2 ≤ w2.heap.size := by have := hb2.size; omega
  have HC2 := Lib.hid (HC.out.below hb2 (by omega))
  have HO2 := Lib.hid (HO.out.below hb2 (by omega))
  have HL2 := Lib.hid (HL1.out.below hb2)
  have HB2 := Lib.hid (HB1.out.trans (hb2.mono (by omega)))
  clear hb2
  go_wp2_with fail
  refine (HL2.out.made cap).mono ?_
  rintro e w3 ⟨a', b', cap', rfl, hL3, hb3⟩
  have hz3 : w.heap.size + 2 ≤ w3.heap.size := by have := hb3.size; omega
  have HC3 := Lib.hid (HC2.out.below hb3 (by omega))
  have HO3 := Lib.hid (HO2.out.below hb3 (by omega))
  have HM3 := Lib.hid (HL2.out.below hb3)
  have HL3 := Lib.hid hL3
  have HB3 := Lib.hid (HB2.out.trans (hb3.mono (by omega)))
  clear hb3 hL3
  go_wp2_with fail
  go_loopw [28] (fun t wr => ∃ k : Nat, k ≤ l.length ∧ t = .int .i64 k ∧ Below w3.heap.size w3 wr) (fun t _ => l.length - (intOf t).toNat)
  case atStart => exact ⟨0, Nat.zero_le _, rfl, Below.refl _ _⟩
  case round =>
    obtain ⟨k, hk, rfl, hB⟩ := hrel
    have hzr := hB.size
    have HLr := Lib.hid (HL3.out.below hB)
    have HMr := Lib.hid (HM3.out.below hB)
    have HCr := Lib.hid (HC3.out.below hB (by omega))
    have HBr := Lib.hid hB
    clear hB
    obtain ⟨x0, x1, x2, x3⟩ := HCr.out
    by_cases hlt : k < l.length
    · obtain rfl := HLr.out.ha (by omega)
      obtain rfl := HMr.out.ha (by omega)
      obtain ⟨e0, e1, e2, e3⟩ := HLr.out.hc k hlt
      obtain ⟨f0, f1, f2, f3⟩ := HMr.out.hc k hlt
      have rx0 := cell_regrown x0
      have rx1 := cell_regrown x1
      have rx2 := cell_regrown x2
      have rx3 := cell_regrown x3
      simp only [Nat.zero_add] at e0 e1 e2 e3
      have re0 := cell_regrown e0
      have re1 := cell_regrown e1
      have re2 := cell_regrown e2
      have re3 := cell_regrown e3
      have rf0 := cell_regrown f0
      have rf1 := cell_regrown f1
      have rf2 := cell_regrown f2
      have rf3 := cell_regrown f3
      go_wp2_with fail
      refine wp_region_quiet_below (by kernel_rfl) (by kernel_rfl) ?_
      repeat (go_big_quiet_step (first | (go_at_call 13; exact Calls.regrown_of (in_at c0 c1 c2 c3 (wat l k) _)) | (go_at_call 14; exact Calls.regrown_of (rin_at c0 c1 c2 c3 (wat l k) _))))
      refine wpQuiet_nil ?_
      intro _ hw'
      obtain ⟨⟨dq, osq⟩, hw''⟩ := hw'
      subst hw''
      clear rx0 rx1 rx2 rx3 x0 x1 x2 x3 e0 e1 e2 e3 re0 re1 re2 re3 f0 f1 f2 f3 rf0 rf1 rf2 rf3
      have hQ := Lib.hid (below_regrown wr dq osq)
      generalize grow (redrawn wr dq) osq = w5 at *
      go_wp2
      go_roundw
      case rel => exact ⟨k + 1, by omega, by go_num, HBr.out.trans (hQ.out.mono hzr)⟩
      case measure => simp [intOf]; omega
    · obtain rfl : k = l.length := by omega
      go_wp2_with fail
      refine (HLr.out.bad_is cap' c0 c1 c2 c3 bi bk bd HBD.out).mono ?_
      rintro e w4 ⟨rfl, hb4⟩
      have hz4 := hb4.size
      have HL4 := Lib.hid (HLr.out.below hb4)
      have HM4 := Lib.hid (HMr.out.below hb4)
      have HC4 := Lib.hid (HCr.out.below hb4 (by omega))
      have HB4 := Lib.hid (HBr.out.trans (hb4.mono (by omega)))
      clear hb4 x0 x1 x2 x3
      obtain ⟨x0, x1, x2, x3⟩ := HC4.out
      go_wp2_with fail
      refine (HM4.out.rbad_is cap c0 c1 c2 c3 bi bk bd HBD.out).mono ?_
      rintro e w5 ⟨rfl, hb5⟩
      have hz5 := hb5.size
      have HL5 := Lib.hid (HL4.out.below hb5)
      have HM5 := Lib.hid (HM4.out.below hb5)
      have HC5 := Lib.hid (HC4.out.below hb5 (by omega))
      have HB5 := Lib.hid (HB4.out.trans (hb5.mono (by omega)))
      have HO5 := Lib.hid (HO3.out.below HB5.out (by omega))
      clear hb5 x0 x1 x2 x3
      obtain ⟨x0, x1, x2, x3⟩ := HC5.out
      obtain ⟨y0, y1, y2, y3⟩ := HO5.out
      have ii : ((bi : Int) == (bi : Int)) = true := by simp
      have kk : ((bk : Int) == (bk : Int)) = true := by simp
      have bb : (bd == bd) = true := by simp
      have he := HE.out
      obtain ⟨v, hv⟩ : ∃ v, blB ⟨c0, c1, c2, c3⟩ ⟨o0, o1, o2, o3⟩ = v := ⟨_, rfl⟩
      have HV := Lib.hid hv
      clear hv
      have vv : (v == v) = true := by simp
      by_cases h0 : c0 ≤ o0
      · by_cases h1 : c1 ≤ o1
        · by_cases h2 : c2 ≤ o2
          · by_cases h3 : c3 ≤ o3
            · obtain rfl : v = true := by rw [← HV.out]; simp [blB, h0, h1, h2, h3]
              have rx0 := cell_regrown x0
              have rx1 := cell_regrown x1
              have rx2 := cell_regrown x2
              have rx3 := cell_regrown x3
              have ry0 := cell_regrown y0
              have ry1 := cell_regrown y1
              have ry2 := cell_regrown y2
              have ry3 := cell_regrown y3
              go_wp2_with fail
              refine wp_region_quiet_below (by kernel_rfl) (by kernel_rfl) ?_
              repeat (go_big_quiet_step (first | (go_at_call 17; exact Calls.regrown_of (bl_is _ _ _ _ _ _ _ _ _ _ HV.out)) | (go_at_call 12; exact Calls.regrown_of ((HL5.out.below (below_regrown _ _ _)).gr_is _ _ _ _ _ _ _ _ _ HG.out)) | (go_at_call 16; exact Calls.regrown_of ((HM5.out.below (below_regrown _ _ _)).rgr_is _ _ _ _ _ _ _ _ _ HG.out))))
              refine wpQuiet_nil ?_
              intro _ hw'
              obtain ⟨⟨dq, osq⟩, hw''⟩ := hw'
              subst hw''
              have hQ := Lib.hid (below_regrown w5 dq osq)
              go_wp2
              go_ret
              exact ⟨rfl, HB3.out.trans ((HB5.out.mono (by omega)).trans (hQ.out.mono (by omega)))⟩
            · obtain rfl : v = false := by rw [← HV.out]; simp [blB, h3]
              have h3' : decide (c3 ≤ o3) = false := by simpa using h3
              have rx0 := cell_regrown x0
              have rx1 := cell_regrown x1
              have rx2 := cell_regrown x2
              have rx3 := cell_regrown x3
              have ry0 := cell_regrown y0
              have ry1 := cell_regrown y1
              have ry2 := cell_regrown y2
              have ry3 := cell_regrown y3
              go_wp2_with fail
              refine wp_region_quiet_below (by kernel_rfl) (by kernel_rfl) ?_
              repeat (go_big_quiet_step (first | (go_at_call 17; exact Calls.regrown_of (bl_is _ _ _ _ _ _ _ _ _ _ HV.out)) | (go_at_call 12; exact Calls.regrown_of ((HL5.out.below (below_regrown _ _ _)).gr_is _ _ _ _ _ _ _ _ _ HG.out)) | (go_at_call 16; exact Calls.regrown_of ((HM5.out.below (below_regrown _ _ _)).rgr_is _ _ _ _ _ _ _ _ _ HG.out))))
              refine wpQuiet_nil ?_
              intro _ hw'
              obtain ⟨⟨dq, osq⟩, hw''⟩ := hw'
              subst hw''
              have hQ := Lib.hid (below_regrown w5 dq osq)
              go_wp2
              go_ret
              exact ⟨rfl, HB3.out.trans ((HB5.out.mono (by omega)).trans (hQ.out.mono (by omega)))⟩
          · obtain rfl : v = false := by rw [← HV.out]; simp [blB, h2]
            have h2' : decide (c2 ≤ o2) = false := by simpa using h2
            have rx0 := cell_regrown x0
            have rx1 := cell_regrown x1
            have rx2 := cell_regrown x2
            have rx3 := cell_regrown x3
            have ry0 := cell_regrown y0
            have ry1 := cell_regrown y1
            have ry2 := cell_regrown y2
            have ry3 := cell_regrown y3
            go_wp2_with fail
            refine wp_region_quiet_below (by kernel_rfl) (by kernel_rfl) ?_
            repeat (go_big_quiet_step (first | (go_at_call 17; exact Calls.regrown_of (bl_is _ _ _ _ _ _ _ _ _ _ HV.out)) | (go_at_call 12; exact Calls.regrown_of ((HL5.out.below (below_regrown _ _ _)).gr_is _ _ _ _ _ _ _ _ _ HG.out)) | (go_at_call 16; exact Calls.regrown_of ((HM5.out.below (below_regrown _ _ _)).rgr_is _ _ _ _ _ _ _ _ _ HG.out))))
            refine wpQuiet_nil ?_
            intro _ hw'
            obtain ⟨⟨dq, osq⟩, hw''⟩ := hw'
            subst hw''
            have hQ := Lib.hid (below_regrown w5 dq osq)
            go_wp2
            go_ret
            exact ⟨rfl, HB3.out.trans ((HB5.out.mono (by omega)).trans (hQ.out.mono (by omega)))⟩
        · obtain rfl : v = false := by rw [← HV.out]; simp [blB, h1]
          have h1' : decide (c1 ≤ o1) = false := by simpa using h1
          have rx0 := cell_regrown x0
          have rx1 := cell_regrown x1
          have rx2 := cell_regrown x2
          have rx3 := cell_regrown x3
          have ry0 := cell_regrown y0
          have ry1 := cell_regrown y1
          have ry2 := cell_regrown y2
          have ry3 := cell_regrown y3
          go_wp2_with fail
          refine wp_region_quiet_below (by kernel_rfl) (by kernel_rfl) ?_
          repeat (go_big_quiet_step (first | (go_at_call 17; exact Calls.regrown_of (bl_is _ _ _ _ _ _ _ _ _ _ HV.out)) | (go_at_call 12; exact Calls.regrown_of ((HL5.out.below (below_regrown _ _ _)).gr_is _ _ _ _ _ _ _ _ _ HG.out)) | (go_at_call 16; exact Calls.regrown_of ((HM5.out.below (below_regrown _ _ _)).rgr_is _ _ _ _ _ _ _ _ _ HG.out))))
          refine wpQuiet_nil ?_
          intro _ hw'
          obtain ⟨⟨dq, osq⟩, hw''⟩ := hw'
          subst hw''
          have hQ := Lib.hid (below_regrown w5 dq osq)
          go_wp2
          go_ret
          exact ⟨rfl, HB3.out.trans ((HB5.out.mono (by omega)).trans (hQ.out.mono (by omega)))⟩
      · obtain rfl : v = false := by rw [← HV.out]; simp [blB, h0]
        have h0' : decide (c0 ≤ o0) = false := by simpa using h0
        have rx0 := cell_regrown x0
        have rx1 := cell_regrown x1
        have rx2 := cell_regrown x2
        have rx3 := cell_regrown x3
        have ry0 := cell_regrown y0
        have ry1 := cell_regrown y1
        have ry2 := cell_regrown y2
        have ry3 := cell_regrown y3
        go_wp2_with fail
        refine wp_region_quiet_below (by kernel_rfl) (by kernel_rfl) ?_
        repeat (go_big_quiet_step (first | (go_at_call 17; exact Calls.regrown_of (bl_is _ _ _ _ _ _ _ _ _ _ HV.out)) | (go_at_call 12; exact Calls.regrown_of ((HL5.out.below (below_regrown _ _ _)).gr_is _ _ _ _ _ _ _ _ _ HG.out)) | (go_at_call 16; exact Calls.regrown_of ((HM5.out.below (below_regrown _ _ _)).rgr_is _ _ _ _ _ _ _ _ _ HG.out))))
        refine wpQuiet_nil ?_
        intro _ hw'
        obtain ⟨⟨dq, osq⟩, hw''⟩ := hw'
        subst hw''
        have hQ := Lib.hid (below_regrown w5 dq osq)
        go_wp2
        go_ret
        exact ⟨rfl, HB3.out.trans ((HB5.out.mono (by omega)).trans (hQ.out.mono (by omega)))⟩

theorem ct_all (a : Option Addr) (b off cap : Nat) (l : List Wr) (c0 c1 c2 c3 o0 o1 o2 o3 : Int) (w : World) (h : Came w a b off l) :
    Calls Try.prog 4 #[.slice a l.length cap, .agg #[.int .i64 c0, .int .i64 c1, .int .i64 c2, .int .i64 c3], .agg #[.int .i64 o0, .int .i64 o1, .int .i64 o2, .int .i64 o3]] w fun e w' => e = .returned (.bool true) ∧ Below w.heap.size w w' := by
  cases hs : smB l with
  | false => exact ct_large a b off cap l c0 c1 c2 c3 o0 o1 o2 o3 w h.1 h.2.1 h.2.2.1 h.2.2.2.1 hs
  | true => exact ct_few a b off cap l c0 c1 c2 c3 o0 o1 o2 o3 w (h.laid hs) hs

end Go.Proofs.Ytckijalkodpjhaa
