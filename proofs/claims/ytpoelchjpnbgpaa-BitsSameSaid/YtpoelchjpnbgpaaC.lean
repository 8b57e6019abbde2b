/- == of two sets; the law's own awake; what lies in a set of numbers. -/
import Derived.Test.YtpoelchjpnbgpaaB
namespace Go.Proofs.Ytpoelchjpnbgpaa
open Go.RowKit Go.Sort

theorem Try.cells4 : Try.prog.cellsOf 4 = 1 := by kernel_rfl
theorem Try.fields27 : Try.prog.fieldsOf 27 = #[⟨ "in", 25, 0, false, "", "isobar/bits", 0⟩] := by kernel_rfl
theorem ite_res {p : Prop} [Decidable p] (b : Bool) (w : World) : (if p then Result.ok b w else Result.ok false w) = Result.ok (decide p && b) w := by
  by_cases h : p <;> simp [h]
theorem eq25 (w : World) (s t : B8) : (Op.equalIn 9999 25 (.agg #[.bool s.b0, .bool s.b1, .bool s.b2, .bool s.b3, .bool s.b4, .bool s.b5, .bool s.b6, .bool s.b7]) (.agg #[.bool t.b0, .bool t.b1, .bool t.b2, .bool t.b3, .bool t.b4, .bool t.b5, .bool t.b6, .bool t.b7])).run Try.prog w = .ok (decide (s = t)) w := by
  obtain ⟨i, hi⟩ : ∃ i, Try.prog.info? 4 = some i := ⟨_, rfl⟩
  have hu4 := Try.underlying4
  rw [run_equalIn_array w 9998 _ _ Try.underlying25 hi, Try.cells4]
  have r8 : List.range 8 = [0, 1, 2, 3, 4, 5, 6, 7] := rfl
  rw [r8]
  obtain ⟨s0, s1, s2, s3, s4, s5, s6, s7⟩ := s
  obtain ⟨t0, t1, t2, t3, t4, t5, t6, t7⟩ := t
  simp [Op.eqItems, go_sem]
  simp only [ite_res, Bool.and_true]
theorem part27 (w : World) (s : B8) : (part 25 #[.bool s.b0, .bool s.b1, .bool s.b2, .bool s.b3, .bool s.b4, .bool s.b5, .bool s.b6, .bool s.b7] 0).run Try.prog w = .ok (.agg #[.bool s.b0, .bool s.b1, .bool s.b2, .bool s.b3, .bool s.b4, .bool s.b5, .bool s.b6, .bool s.b7]) w := by kernel_rfl
theorem eq27 (w : World) (s t : B8) : (Op.equalIn 10000 27 (.agg #[.bool s.b0, .bool s.b1, .bool s.b2, .bool s.b3, .bool s.b4, .bool s.b5, .bool s.b6, .bool s.b7]) (.agg #[.bool t.b0, .bool t.b1, .bool t.b2, .bool t.b3, .bool t.b4, .bool t.b5, .bool t.b6, .bool t.b7])).run Try.prog w = .ok (decide (s = t)) w := by
  rw [run_equalIn_struct w 9999 27 _ _ (by rw [Try.underlying27, Try.fields27]) (by kernel_rfl), Try.fields27]
  simp [Op.eqFields, part27, eq25]
  by_cases h : s = t <;> simp [h]

/-! ### Sets of numbers -/
theorem B8.ext_get {s t : B8} (h : ∀ i : Int, s.get i = t.get i) : s = t := by
  obtain ⟨s0, s1, s2, s3, s4, s5, s6, s7⟩ := s
  obtain ⟨t0, t1, t2, t3, t4, t5, t6, t7⟩ := t
  have h0 := h 0
  have h1 := h 1
  have h2 := h 2
  have h3 := h 3
  have h4 := h 4
  have h5 := h 5
  have h6 := h 6
  have h7 := h 7
  simp [B8.get] at h0 h1 h2 h3 h4 h5 h6 h7
  subst h0 h1 h2 h3 h4 h5 h6 h7
  rfl
theorem B8.get_set (s : B8) (b : Int) (v : Bool) (i : Int) : (s.set b v).get i = if i = b ∧ 0 ≤ i ∧ i < 8 then v else s.get i := by
  by_cases h : 0 ≤ i ∧ i < 8
  · obtain rfl | rfl | rfl | rfl | rfl | rfl | rfl | rfl : i = 0 ∨ i = 1 ∨ i = 2 ∨ i = 3 ∨ i = 4 ∨ i = 5 ∨ i = 6 ∨ i = 7 := by omega
    all_goals
      simp only [B8.get, B8.set]
      simp [eq_comm]
  · rw [if_neg (by omega), B8.get_out _ _ (by omega), B8.get_out _ _ (by omega)]
theorem B8.zero_get (i : Int) : B8.zero.get i = false := by simp [B8.get, B8.zero]
theorem fold_get (zs : List Int) : ∀ (s : B8) (i : Int), (zs.foldl (fun s b => s.set b true) s).get i = (s.get i || decide (i ∈ zs ∧ 0 ≤ i ∧ i < 8)) := by
  induction zs with
  | nil => intro s i; simp
  | cons z zs ih =>
    intro s i
    rw [List.foldl_cons, ih, B8.get_set]
    by_cases h : 0 ≤ i ∧ i < 8
    · by_cases e : i = z
      · subst e
        rw [if_pos ⟨rfl, h⟩]
        simp [h]
      · rw [if_neg (fun q => e q.1)]
        simp [e]
    · rw [if_neg (by omega)]
      have : ¬ (i ∈ z :: zs ∧ 0 ≤ i ∧ i < 8) := fun q => h q.2
      have h2 : ¬ (i ∈ zs ∧ 0 ≤ i ∧ i < 8) := fun q => h q.2
      rw [decide_eq_false this, decide_eq_false h2]
/-- What lies in the set of some numbers. -/
theorem ofL_get (zs : List Int) (i : Int) : (ofL zs).get i = decide (i ∈ zs ∧ 0 ≤ i ∧ i < 8) := by
  rw [ofL, fold_get, B8.zero_get, Bool.false_or]
theorem ofL_same {zs ys : List Int} (h : ∀ i, i ∈ zs ↔ i ∈ ys) : ofL zs = ofL ys :=
  B8.ext_get fun i => by rw [ofL_get, ofL_get]; simp only [h i]

/-! ### awake -/
set_option maxHeartbeats 800000 in
theorem awake_any (w : World) : Calls Try.prog 8 #[] w fun e w' => e = .returned (.bool true) ∧ Below w.heap.size w w' := by
  have l3 : ∀ (w : World), LiesI (w.alloc (.cells #[.int .i64 3, .int .i64 0, .int .i64 3] 3)) w.heap.size 0 [3, 0, 3] := fun w k hk => by
    have hk' : k < 3 := hk
    obtain rfl | rfl | rfl : k = 0 ∨ k = 1 ∨ k = 2 := by omega
    all_goals (rw [World.cell?_alloc_at _ _ _ _ rfl]; rfl)
  have l1 : ∀ (w : World), LiesI (w.alloc (.cells #[.int .i64 1] 3)) w.heap.size 0 [1] := fun w k hk => by
    have hk' : k < 1 := hk
    obtain rfl : k = 0 := by omega
    rw [World.cell?_alloc_at _ _ _ _ rfl]; rfl
  have L3 := Lib.hid l3
  have L1 := Lib.hid l1
  have ht : ((txt (ofL [3, 0, 3])).toList == [49, 48, 48, 49, 48, 48, 48, 48]) = true := by decide +kernel
  clear l3 l1
  go_enter Try.func8, Try.ntmps8
  go_wp2_with fail
  refine (of_any (some ⟨w.heap.size, 0, none⟩) w.heap.size 0 3 [3, 0, 3] _ (fun _ => rfl) (fun _ => by simp) (by decide) (L3.out w)).mono ?_
  rintro e w1 ⟨rfl, hb1⟩
  have HB1 := Lib.hid (((Below.refl _ w).alloc (Nat.le_refl _) (.cells #[.int .i64 3, .int .i64 0, .int .i64 3] 3)).trans (hb1.mono (by simp)))
  clear hb1
  go_wp2_with fail
  refine (text_any (ofL [3, 0, 3]) _).mono ?_
  rintro e w2 ⟨rfl, hb2⟩
  have HB2 := Lib.hid (HB1.out.trans (hb2.mono HB1.out.size))
  clear hb2
  go_wp2_with fail
  refine (of_any (some ⟨w2.heap.size, 0, none⟩) w2.heap.size 0 1 [1] _ (fun _ => rfl) (fun _ => by simp) (by decide) (L1.out w2)).mono ?_
  rintro e w3 ⟨rfl, hb3⟩
  have HB3 := Lib.hid ((HB2.out.alloc HB2.out.size (.cells #[.int .i64 1] 3)).trans (hb3.mono (by have := HB2.out.size; simp; omega)))
  clear hb3
  go_wp2_with fail
  refine (has_any (ofL [1]) _ 1).mono ?_
  rintro e w4 ⟨rfl, hb4⟩
  have HB4 := Lib.hid (HB3.out.trans (hb4.mono HB3.out.size))
  clear hb4
  go_wp2
  go_ret
  exact ⟨ret_bool (by decide), HB4.out⟩

end Go.Proofs.Ytpoelchjpnbgpaa
