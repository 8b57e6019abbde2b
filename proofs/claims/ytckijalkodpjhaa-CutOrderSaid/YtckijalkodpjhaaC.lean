/- The document's In and Bad: what they answer, for every cut and every list of writes. -/
import Derived.Test.YtckijalkodpjhaaB
import Derived.Lib.QuietBelow
namespace Go.Proofs.Ytckijalkodpjhaa
open Go.RowKit Go.Sort

section
variable (c0 c1 c2 c3 v s i a : Int) (w : World)

set_option maxHeartbeats 400000 in
theorem rin_neg (hv : v < 0) :
    Calls Try.prog 14 #[.agg #[.int .i64 c0, .int .i64 c1, .int .i64 c2, .int .i64 c3], .agg #[.int .i64 v, .int .i64 s, .int .i64 i, .int .i64 a]] w fun e w' => e = .returned (.bool false) ∧ Below w.heap.size w w' := by
  have h0' : decide (0 ≤ v) = false := by simp; omega
  go_enter Try.func14, Try.ntmps14
  go_wp2
  go_quiet (fail)
  go_wp2
  go_ret
  exact ⟨rfl, bel2 _ _ _ _⟩

set_option maxHeartbeats 400000 in
theorem rin_big (hv : 0 ≤ v) (hv4 : 4 ≤ v) :
    Calls Try.prog 14 #[.agg #[.int .i64 c0, .int .i64 c1, .int .i64 c2, .int .i64 c3], .agg #[.int .i64 v, .int .i64 s, .int .i64 i, .int .i64 a]] w fun e w' => e = .returned (.bool false) ∧ Below w.heap.size w w' := by
  have h0' : decide (0 ≤ v) = true := by simp; omega
  have h1' : decide (v ≤ 3) = false := by simp; omega
  go_enter Try.func14, Try.ntmps14
  go_wp2
  go_quiet (fail)
  go_wp2
  go_ret
  exact ⟨rfl, bel2 _ _ _ _⟩

set_option maxHeartbeats 400000 in
theorem rin_0 :
    Calls Try.prog 14 #[.agg #[.int .i64 c0, .int .i64 c1, .int .i64 c2, .int .i64 c3], .agg #[.int .i64 0, .int .i64 s, .int .i64 i, .int .i64 a]] w fun e w' => e = .returned (.bool (decide (s ≤ c0))) ∧ Below w.heap.size w w' := by
  go_enter Try.func14, Try.ntmps14
  go_wp2
  go_quiet (fail)
  go_wp2
  go_ret
  exact ⟨rfl, bel2 _ _ _ _⟩
set_option maxHeartbeats 400000 in
theorem rin_1 :
    Calls Try.prog 14 #[.agg #[.int .i64 c0, .int .i64 c1, .int .i64 c2, .int .i64 c3], .agg #[.int .i64 1, .int .i64 s, .int .i64 i, .int .i64 a]] w fun e w' => e = .returned (.bool (decide (s ≤ c1))) ∧ Below w.heap.size w w' := by
  go_enter Try.func14, Try.ntmps14
  go_wp2
  go_quiet (fail)
  go_wp2
  go_ret
  exact ⟨rfl, bel2 _ _ _ _⟩
set_option maxHeartbeats 400000 in
theorem rin_2 :
    Calls Try.prog 14 #[.agg #[.int .i64 c0, .int .i64 c1, .int .i64 c2, .int .i64 c3], .agg #[.int .i64 2, .int .i64 s, .int .i64 i, .int .i64 a]] w fun e w' => e = .returned (.bool (decide (s ≤ c2))) ∧ Below w.heap.size w w' := by
  go_enter Try.func14, Try.ntmps14
  go_wp2
  go_quiet (fail)
  go_wp2
  go_ret
  exact ⟨rfl, bel2 _ _ _ _⟩
set_option maxHeartbeats 400000 in
theorem rin_3 :
    Calls Try.prog 14 #[.agg #[.int .i64 c0, .int .i64 c1, .int .i64 c2, .int .i64 c3], .agg #[.int .i64 3, .int .i64 s, .int .i64 i, .int .i64 a]] w fun e w' => e = .returned (.bool (decide (s ≤ c3))) ∧ Below w.heap.size w w' := by
  go_enter Try.func14, Try.ntmps14
  go_wp2
  go_quiet (fail)
  go_wp2
  go_ret
  exact ⟨rfl, bel2 _ _ _ _⟩

theorem rin_any : Calls Try.prog 14 #[.agg #[.int .i64 c0, .int .i64 c1, .int .i64 c2, .int .i64 c3], .agg #[.int .i64 v, .int .i64 s, .int .i64 i, .int .i64 a]] w fun e w' => e = .returned (.bool (inB ⟨c0, c1, c2, c3⟩ ⟨v, s, i, a⟩)) ∧ Below w.heap.size w w' := by
  by_cases h0 : v < 0
  · exact (rin_neg c0 c1 c2 c3 v s i a w h0).mono fun e w' ⟨h1, h2⟩ => ⟨h1.trans (ret_bool (by simp [inB]; omega)), h2⟩
  · by_cases h4 : 4 ≤ v
    · exact (rin_big c0 c1 c2 c3 v s i a w (by omega) h4).mono fun e w' ⟨h1, h2⟩ => ⟨h1.trans (ret_bool (by simp [inB]; omega)), h2⟩
    · obtain rfl | rfl | rfl | rfl : v = 0 ∨ v = 1 ∨ v = 2 ∨ v = 3 := by omega
      · exact (rin_0 c0 c1 c2 c3 s i a w).mono fun e w' ⟨h1, h2⟩ => ⟨h1.trans (ret_bool (by simp [inB, C4.get])), h2⟩
      · exact (rin_1 c0 c1 c2 c3 s i a w).mono fun e w' ⟨h1, h2⟩ => ⟨h1.trans (ret_bool (by simp [inB, C4.get])), h2⟩
      · exact (rin_2 c0 c1 c2 c3 s i a w).mono fun e w' ⟨h1, h2⟩ => ⟨h1.trans (ret_bool (by simp [inB, C4.get])), h2⟩
      · exact (rin_3 c0 c1 c2 c3 s i a w).mono fun e w' ⟨h1, h2⟩ => ⟨h1.trans (ret_bool (by simp [inB, C4.get])), h2⟩
end

theorem rin_at (c0 c1 c2 c3 : Int) (o : Wr) (w : World) : Calls Try.prog 14 #[.agg #[.int .i64 c0, .int .i64 c1, .int .i64 c2, .int .i64 c3], .agg #[.int .i64 o.v, .int .i64 o.s, .int .i64 o.i, .int .i64 o.a]] w fun e w' => e = .returned (.bool (inB ⟨c0, c1, c2, c3⟩ o)) ∧ Below w.heap.size w w' :=
  rin_any c0 c1 c2 c3 o.v o.s o.i o.a w

set_option maxHeartbeats 1600000 in
theorem rbad_any (a : Option Addr) (b off cap : Nat) (l : List Wr) (c0 c1 c2 c3 : Int) (w : World) (ha : 0 < l.length → a = some ⟨b, off, none⟩) (hb : 0 < l.length → b < w.heap.size) (hl : l.length ≤ 9223372036854775807) (hc : LiesAt w b off l) :
    Calls Try.prog 15 #[.slice a l.length cap, .agg #[.int .i64 c0, .int .i64 c1, .int .i64 c2, .int .i64 c3]] w (BadPost ⟨c0, c1, c2, c3⟩ l w) := by
  have HA := Lib.hid ha
  clear ha
  have HB0 := Lib.hid hb
  clear hb
  have HC := Lib.hid hc
  clear hc
  go_enter Try.func15, Try.ntmps15
  go_wp2
  go_loopw [11] (fun t wr => ∃ k : Nat, k ≤ l.length ∧ t = .int .i64 k ∧ Below (w.heap.size + 1) (w.alloc (.cells #[.int .i64 c0, .int .i64 c1, .int .i64 c2, .int .i64 c3] 23)) wr ∧ ∀ k', k' < k → ∀ i', i' < l.length → badB ⟨c0, c1, c2, c3⟩ l k' i' = false) (fun t _ => l.length - (intOf t).toNat)
  case atStart => exact ⟨0, Nat.zero_le _, rfl, Below.refl _ _, fun _ h => by omega⟩
  case round =>
    obtain ⟨k, hk, rfl, hB, hbad⟩ := hrel
    have HB := Lib.hid hbad
    clear hbad
    by_cases hlt : k < l.length
    · obtain rfl := HA.out (by omega)
      have hb := HB0.out (by omega)
      clear HA HB0
      have hs : w.heap.size < wr.heap.size := by have := hB.size; rw [World.size_alloc] at this; omega
      have hbr : b < wr.heap.size := by omega
      have HCB := Lib.hid ((Box4.new w (.int .i64 c0) (.int .i64 c1) (.int .i64 c2) (.int .i64 c3) 23).below hB (Nat.lt_succ_self _))
      have HW := Lib.hid hB
      have HB' := Lib.hid (((Below.refl w.heap.size w).alloc (Nat.le_refl _) (.cells #[.int .i64 c0, .int .i64 c1, .int .i64 c2, .int .i64 c3] 23)).trans (hB.mono (Nat.le_succ _)))
      clear hB
      have HC1 := Lib.hid (HC.out.below HB'.out hb)
      go_wp2_with fail
      obtain ⟨wo, rfl⟩ : ∃ wo : World, wo = wr := ⟨_, rfl⟩
      go_loopw [16] (fun t wr => ∃ j : Nat, j ≤ l.length ∧ t = .int .i64 j ∧ Below wo.heap.size wo wr ∧ ∀ i', i' < j → badB ⟨c0, c1, c2, c3⟩ l k i' = false) (fun t _ => l.length - (intOf t).toNat)
      case atStart => exact ⟨0, Nat.zero_le _, rfl, Below.refl _ _, fun _ h => by omega⟩
      case round =>
        obtain ⟨j, hj, rfl, hB2, hbad2⟩ := hrel
        have HB2 := Lib.hid hbad2
        clear hbad2
        have hz2 := hB2.size
        by_cases hjt : j < l.length
        · have hw1 : w.heap.size < wr.heap.size := by omega
          have hw3 : b < wr.heap.size := by omega
          have HC3 := Lib.hid (HC1.out.below hB2 (by omega))
          have HCB3 := Lib.hid (HCB.out.below hB2 (by omega))
          have HBB := Lib.hid hB2
          clear hB2
          obtain ⟨f0, f1, f2, f3⟩ := HC3.out j hjt
          obtain ⟨e0, e1, e2, e3⟩ := HC3.out k hlt
          obtain ⟨x0, x1, x2, x3⟩ := HCB3.out
          have rx0 := cell_regrown x0
          have rx1 := cell_regrown x1
          have rx2 := cell_regrown x2
          have rx3 := cell_regrown x3
          have re0 := cell_regrown e0
          have re1 := cell_regrown e1
          have re2 := cell_regrown e2
          have re3 := cell_regrown e3
          have rf0 := cell_regrown f0
          have rf1 := cell_regrown f1
          have rf2 := cell_regrown f2
          have rf3 := cell_regrown f3
          have he1 : inB ⟨c0, c1, c2, c3⟩ ⟨(wat l k).v, (wat l k).s, (wat l k).i, (wat l k).a⟩ = inB ⟨c0, c1, c2, c3⟩ (wat l k) := rfl
          have he2 : inB ⟨c0, c1, c2, c3⟩ ⟨(wat l j).v, (wat l j).s, (wat l j).i, (wat l j).a⟩ = inB ⟨c0, c1, c2, c3⟩ (wat l j) := rfl
          by_cases hA0 : (wat l j).a = 0
          · have hA0' : ((wat l j).a != 0) = false := by simpa using hA0
            have HN := Lib.hid (show badB ⟨c0, c1, c2, c3⟩ l k j = false from bad_no2 (by simp [ahB, hA0]))
            clear hA0
            go_wp2_with fail
            refine wp_region_quiet_below (by kernel_rfl) (by kernel_rfl) ?_
            repeat (go_big_quiet_step ((go_at_call 14; exact Calls.regrown_of (rin_any _ _ _ _ _ _ _ _ _))))
            refine wpQuiet_nil ?_
            intro _ hw'
            obtain ⟨⟨dq, osq⟩, hw''⟩ := hw'
            subst hw''
            clear rx0 rx1 rx2 rx3 re0 re1 re2 re3 rf0 rf1 rf2 rf3 x0 x1 x2 x3 e0 e1 e2 e3 f0 f1 f2 f3
            have hQ := Lib.hid (below_regrown wr dq osq)
            generalize grow (redrawn wr dq) osq = w5 at *
            go_wp2
            go_roundw
            case rel => exact ⟨j + 1, by omega, by go_num, HBB.out.trans (hQ.out.mono hz2), snoc_no HB2.out (HN.out)⟩
            case measure => simp [intOf]; omega
          · have hA0' : ((wat l j).a != 0) = true := by simpa using hA0
            have HA0 := Lib.hid hA0
            clear hA0
            by_cases hA1 : (wat l j).a < (wat l k).i
            · have hA1' : decide ((wat l j).a < (wat l k).i) = true := by simpa using hA1
              by_cases hik : inB ⟨c0, c1, c2, c3⟩ (wat l k) = true
              · by_cases hij : inB ⟨c0, c1, c2, c3⟩ (wat l j) = true
                · have HN := Lib.hid (show badB ⟨c0, c1, c2, c3⟩ l k j = false from bad_no3 hij)
                  go_wp2_with fail
                  refine wp_region_quiet_below (by kernel_rfl) (by kernel_rfl) ?_
                  repeat (go_big_quiet_step ((go_at_call 14; exact Calls.regrown_of (rin_any _ _ _ _ _ _ _ _ _))))
                  refine wpQuiet_nil ?_
                  intro _ hw'
                  obtain ⟨⟨dq, osq⟩, hw''⟩ := hw'
                  subst hw''
                  clear rx0 rx1 rx2 rx3 re0 re1 re2 re3 rf0 rf1 rf2 rf3 x0 x1 x2 x3 e0 e1 e2 e3 f0 f1 f2 f3
                  have hQ := Lib.hid (below_regrown wr dq osq)
                  generalize grow (redrawn wr dq) osq = w5 at *
                  go_wp2
                  go_roundw
                  case rel => exact ⟨j + 1, by omega, by go_num, HBB.out.trans (hQ.out.mono hz2), snoc_no HB2.out (HN.out)⟩
                  case measure => simp [intOf]; omega
                · have hij' : inB ⟨c0, c1, c2, c3⟩ (wat l j) = false := by simpa using hij
                  have HN := Lib.hid (show badB ⟨c0, c1, c2, c3⟩ l k j = true from bad_yes hik (by simp [ahB]; exact ⟨HA0.out, hA1⟩) hij')
                  clear hij
                  go_wp2_with fail
                  refine wp_region_quiet_below (by kernel_rfl) (by kernel_rfl) ?_
                  repeat (go_big_quiet_step ((go_at_call 14; exact Calls.regrown_of (rin_any _ _ _ _ _ _ _ _ _))))
                  refine wpQuiet_nil ?_
                  intro _ hw'
                  obtain ⟨⟨dq, osq⟩, hw''⟩ := hw'
                  subst hw''
                  clear rx0 rx1 rx2 rx3 re0 re1 re2 re3 rf0 rf1 rf2 rf3 x0 x1 x2 x3 e0 e1 e2 e3 f0 f1 f2 f3
                  have hQ := Lib.hid (below_regrown wr dq osq)
                  generalize grow (redrawn wr dq) osq = w5 at *
                  go_wp2
                  go_ret3
                  exact ⟨j, k, true, rfl, .inr ⟨rfl, hjt, hlt, HN.out, HB.out, HB2.out⟩, HB'.out.trans ((HBB.out.mono (by omega)).trans (hQ.out.mono (by omega)))⟩
              · have hik' : inB ⟨c0, c1, c2, c3⟩ (wat l k) = false := by simpa using hik
                have HN := Lib.hid (show badB ⟨c0, c1, c2, c3⟩ l k j = false from bad_no1 hik')
                clear hik
                go_wp2_with fail
                refine wp_region_quiet_below (by kernel_rfl) (by kernel_rfl) ?_
                repeat (go_big_quiet_step ((go_at_call 14; exact Calls.regrown_of (rin_any _ _ _ _ _ _ _ _ _))))
                refine wpQuiet_nil ?_
                intro _ hw'
                obtain ⟨⟨dq, osq⟩, hw''⟩ := hw'
                subst hw''
                clear rx0 rx1 rx2 rx3 re0 re1 re2 re3 rf0 rf1 rf2 rf3 x0 x1 x2 x3 e0 e1 e2 e3 f0 f1 f2 f3
                have hQ := Lib.hid (below_regrown wr dq osq)
                generalize grow (redrawn wr dq) osq = w5 at *
                go_wp2
                go_roundw
                case rel => exact ⟨j + 1, by omega, by go_num, HBB.out.trans (hQ.out.mono hz2), snoc_no HB2.out (HN.out)⟩
                case measure => simp [intOf]; omega
            · have hA1' : decide ((wat l j).a < (wat l k).i) = false := by simpa using hA1
              have HN := Lib.hid (show badB ⟨c0, c1, c2, c3⟩ l k j = false from bad_no2 (by simp [ahB, hA1]))
              go_wp2_with fail
              refine wp_region_quiet_below (by kernel_rfl) (by kernel_rfl) ?_
              repeat (go_big_quiet_step ((go_at_call 14; exact Calls.regrown_of (rin_any _ _ _ _ _ _ _ _ _))))
              refine wpQuiet_nil ?_
              intro _ hw'
              obtain ⟨⟨dq, osq⟩, hw''⟩ := hw'
              subst hw''
              clear rx0 rx1 rx2 rx3 re0 re1 re2 re3 rf0 rf1 rf2 rf3 x0 x1 x2 x3 e0 e1 e2 e3 f0 f1 f2 f3
              have hQ := Lib.hid (below_regrown wr dq osq)
              generalize grow (redrawn wr dq) osq = w5 at *
              go_wp2
              go_roundw
              case rel => exact ⟨j + 1, by omega, by go_num, HBB.out.trans (hQ.out.mono hz2), snoc_no HB2.out (HN.out)⟩
              case measure => simp [intOf]; omega
        · obtain rfl : j = l.length := by omega
          have HBB := Lib.hid hB2
          clear hB2
          go_wp2
          go_roundw
          case rel => exact ⟨k + 1, by omega, by go_num, HW.out.trans (HBB.out.mono (by omega)), snoc_no HB.out HB2.out⟩
          case measure => simp [intOf]; omega
    · obtain rfl : k = l.length := by omega
      have HB' := Lib.hid (((Below.refl w.heap.size w).alloc (Nat.le_refl _) (.cells #[.int .i64 c0, .int .i64 c1, .int .i64 c2, .int .i64 c3] 23)).trans (hB.mono (Nat.le_succ _)))
      clear hB
      go_wp2
      go_ret3
      exact ⟨0, 0, false, rfl, .inl ⟨rfl, rfl, rfl, fun k' i' hk' hi' => HB.out k' hk' i' hi'⟩, HB'.out⟩

end Go.Proofs.Ytckijalkodpjhaa
