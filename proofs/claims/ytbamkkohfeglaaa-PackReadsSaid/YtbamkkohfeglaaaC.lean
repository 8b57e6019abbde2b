/- A reader's Number and Text, walked. -/
import Derived.Test.YtbamkkohfeglaaaB
namespace Go.Proofs.Ytbamkkohfeglaaa
open Go.RowKit Go.Sort

def NumPost (w : World) (b : Nat) (r : Nat × List UInt8 × Nat) (en : Ending) (w' : World) : Prop := en = .returned (.int .i64 r.1) ∧ Rdr w' b r.2.1 r.2.2 ∧ w.grownBy w' (some b)
set_option maxHeartbeats 1600000 in
theorem number_bad {w : World} {b : Nat} {l : List UInt8} {e : Nat} (h : Rdr w b l e) (he : e ≠ 0) : Calls Try.prog 16 #[.pointer (some ⟨b, 0, none⟩)] w (NumPost w b (number l e)) := by
  have H := Lib.hid h
  have hn : ((e : Int) == 0) = false := by rw [beq_eq_false_iff_ne]; omega
  have hn2 : ((e : Int) != 0) = true := by rw [bne, hn]; rfl
  have HE := Lib.hid (show number l e = (0, l, e) from by rw [number, if_neg he])
  clear h he
  go_enter Try.func16, Try.ntmps16
  go_wp2_with fail
  refine (err_any H.out).mono ?_
  rintro en w' ⟨rfl, rfl⟩
  go_wp2
  go_ret
  rw [HE.out]
  exact ⟨rfl, H.out, grown_refl _ _⟩
set_option maxHeartbeats 400000 in
theorem number_nil (w : World) : Calls Try.prog 16 #[.pointer none] w fun en w' => en = .returned (.int .i64 0) ∧ w = w' := by
  go_enter Try.func16, Try.ntmps16
  go_wp2_with fail
  refine (err_nil w).mono ?_
  rintro en w' ⟨rfl, rfl⟩
  go_wp2
  go_ret
  exact ⟨rfl, rfl⟩
theorem Rdr.cut {w : World} {b g off c : Nat} {l : List UInt8} {e : Nat} (h : w.heap[b]? = some (.cells #[.slice (some ⟨g, off, none⟩) l.length c, .int .i64 e] 46 (0, 0))) (hg : g < b) (hc : l.length ≤ c) (hl : LiesB w g off l) (j : Nat) (hj : j ≤ l.length) :
    Rdr (w.setCell ⟨b, 0, none⟩ (.slice (some ⟨g, off + j, none⟩) (l.length - j) (c - j))) b (l.drop j) e := by
  refine ⟨some ⟨g, off + j, none⟩, c - j, ?_, .inr ⟨g, off + j, rfl, hg, by rw [List.length_drop]; omega, (hl.drop j).same (Below.heap_setCell _ _ _ _ (Nat.ne_of_lt hg))⟩⟩
  rw [heap_setCell_same h, List.length_drop]
  rfl
theorem Rdr.cut0 {w : World} {b g off c : Nat} {l : List UInt8} {e : Nat} (h : w.heap[b]? = some (.cells #[.slice (some ⟨g, off, none⟩) l.length c, .int .i64 e] 46 (0, 0))) (hg : g < b) (_ : LiesB w g off l) (j : Nat) (_ : j = c) (hjl : l.length ≤ j) :
    Rdr (w.setCell ⟨b, 0, none⟩ (.slice (some ⟨g, off, none⟩) 0 0)) b (l.drop j) e := by
  have hz : l.drop j = [] := List.drop_eq_nil_of_le hjl
  rw [hz]
  refine ⟨some ⟨g, off, none⟩, 0, ?_, .inr ⟨g, off, rfl, hg, Nat.le_refl _, fun k hk => absurd hk (Nat.not_lt_zero k)⟩⟩
  rw [heap_setCell_same h]
  rfl
theorem andnot (x : UInt8) : bits .andNot .u8 (x.toNat : Int) 128 = ((x.toNat % 128 : Nat) : Int) := by
  revert x
  have h : ∀ n : Nat, n < 256 → bits .andNot .u8 (n : Int) 128 = ((n % 128 : Nat) : Int) := by decide +kernel
  exact fun x => h x.toNat x.toNat_lt
theorem or_disj (m x k : Nat) (hm : m < 2 ^ k) (hk : k ≤ 56) (hx : x < 128) : bits .or .i64 (m : Int) ((x * 2 ^ k : Nat) : Int) = ((m + x * 2 ^ k : Nat) : Int) := by
  have h56 : 2 ^ k ≤ 2 ^ 56 := Nat.pow_le_pow_right (by decide) hk
  have h1 : x * 2 ^ k ≤ 127 * 2 ^ k := Nat.mul_le_mul_right _ (by omega)
  have h2 : m ||| x * 2 ^ k = m + x * 2 ^ k := by
    have h := Nat.shiftLeft_add_eq_or_of_lt hm x
    rw [Nat.shiftLeft_eq] at h
    rw [Nat.or_comm, ← h, Nat.add_comm]
  show IntKind.i64.wrap ((BitVec.ofInt 64 (m : Int) ||| BitVec.ofInt 64 ((x * 2 ^ k : Nat) : Int)).toNat : Int) = _
  have h3 : ∀ n : Nat, n < 2 ^ 64 → (BitVec.ofInt 64 (n : Int)).toNat = n := fun n hn => by
    rw [BitVec.ofInt_natCast, BitVec.toNat_ofNat]
    exact Nat.mod_eq_of_lt hn
  generalize 2 ^ k = z at *
  rw [BitVec.toNat_or, h3 m (by omega), h3 (x * z) (by omega), h2, IntKind.wrap_i64]
  omega
theorem num_facts (i m x y q : Nat) (hi : i ≤ 8) (hm : m < 128 ^ i) (_ : x < 256) (hy : y = x % 128 * 128 ^ i) (hq : q = m + y) :
    wrap64 ((x : Int) % 128 * 2 ^ (7 * i)) = (y : Int) ∧ bits .or .i64 (m : Int) (y : Int) = (q : Int) ∧ q < 128 ^ (i + 1) := by
  have hp : (128 : Nat) ^ i = 2 ^ (7 * i) := by rw [show (128 : Nat) = 2 ^ 7 from rfl, ← Nat.pow_mul]
  have hp8 : 2 ^ (7 * i) ≤ 2 ^ 56 := Nat.pow_le_pow_right (by decide) (by omega)
  have hyl : y ≤ 127 * 2 ^ (7 * i) := by rw [hy, hp]; exact Nat.mul_le_mul_right _ (by omega)
  refine ⟨?_, ?_, ?_⟩
  · rw [show (x : Int) % 128 * 2 ^ (7 * i) = (y : Int) from by rw [hy, hp]; push_cast; rfl]
    generalize 2 ^ (7 * i) = z at *
    unfold wrap64
    omega
  · rw [hq, hy, hp]
    exact or_disj m (x % 128) (7 * i) (by rw [← hp]; exact hm) (by omega) (by omega)
  · rw [hq, Nat.pow_succ]
    rw [← hp] at hyl
    generalize 128 ^ i = z at *
    omega
theorem drop_cons {l : List UInt8} {i : Nat} (h : i < l.length) : l.drop i = bat l i :: l.drop (i + 1) := by
  rw [List.drop_eq_getElem_cons h]
  simp [bat, List.getD, h]

set_option maxRecDepth 20000 in
set_option maxHeartbeats 3200000 in
theorem number_ok {w : World} {b : Nat} {l : List UInt8} (h : Rdr w b l 0) (hl : l.length ≤ 1000000) : Calls Try.prog 16 #[.pointer (some ⟨b, 0, none⟩)] w (NumPost w b (number l 0)) := by
  have H := Lib.hid h
  have hlt := h.lt
  obtain ⟨a, c, h1, h2⟩ := h
  obtain ⟨c0, c1, f0⟩ := cells_of h1
  have H1 := Lib.hid h1
  have H2 := Lib.hid h2
  clear h1 h2
  go_enter Try.func16, Try.ntmps16
  go_wp2_with fail
  refine (err_any H.out).mono ?_
  rintro en w' ⟨rfl, rfl⟩
  go_wp2
  go_loop [3, 14] (fun n t => ∃ i m : Nat, i ≤ l.length ∧ i ≤ 8 ∧ t = .int .i64 i ∧ n = .int .i64 m ∧ m < 128 ^ i ∧ number l 0 = rdn i m (l.drop i)) (fun _ t => l.length - (intOf t).toNat)
  case atStart => exact ⟨0, 0, Nat.zero_le _, by decide, rfl, rfl, by decide, rfl⟩
  case round =>
    obtain ⟨i, m, hi, hi8, rfl, rfl, hm, hr⟩ := hrel
    by_cases hil : i < l.length
    · obtain ⟨g, off, rfl, hg, hcl, hlies⟩ : ∃ g off, a = some ⟨g, off, none⟩ ∧ g < b ∧ l.length ≤ c ∧ LiesB w g off l := by
        rcases H2.out with ⟨_, _, h0⟩ | h0
        · rw [h0] at hil
          exact absurd hil (Nat.not_lt_zero _)
        · exact h0
      have e0 := hlies i hil
      have hx := andnot (bat l i)
      rw [drop_cons hil, rdn] at hr
      have hx8 : (bat l i).toNat < 256 := (bat l i).toNat_lt
      generalize (bat l i).toNat = x at e0 hx hr hx8
      obtain ⟨y, hy⟩ : ∃ y, y = x % 128 * 128 ^ i := ⟨_, rfl⟩
      obtain ⟨q, hq⟩ : ∃ q, q = m + y := ⟨_, rfl⟩
      rw [← hy, ← hq] at hr
      obtain ⟨s1, s2, hq2⟩ := num_facts i m x y q hi8 hm hx8 hy hq
      have HR := Lib.hid hr
      have HL := Lib.hid hlies
      have HQ := Lib.hid hq2
      have HM := Lib.hid hm
      clear hr hlies hm hy hq hq2
      by_cases cw : (i = 8 ∧ (128 ≤ x ∨ wid < q)) ∨ (0 < i ∧ x = 0)
      · have HE := Lib.hid (HR.out.trans (if_pos cw))
        have hd : (i = 8 ∧ 128 ≤ x ∧ i ≤ 8) ∨ (i = 8 ∧ x < 128 ∧ wid < q) ∨ (i = 8 ∧ x = 0 ∧ ¬ wid < q) ∨ (i ≠ 8 ∧ 0 < i ∧ x = 0) := by omega
        clear cw
        unfold wid at hd
        rcases hd with ⟨h1, h2, h3⟩ | ⟨h1, h2, h3⟩ | ⟨h1, h2, h3⟩ | ⟨h1, h2, h3⟩
        · have b1 : ((i : Int) == 8) = true := by rw [beq_iff_eq]; omega
          have b2 : (128 : Int) ≤ (x : Int) := by omega
          clear h1 h2 h3
          go_wp2_with fail
          refine (wrong_any H.out 1).mono ?_
          rintro en w' ⟨rfl, hr1, hg1⟩
          have HR1 := Lib.hid hr1
          have HG1 := Lib.hid hg1
          clear hr1 hg1
          go_wp2
          go_ret
          rw [HE.out]
          exact ⟨rfl, HR1.out, HG1.out⟩
        · have b1 : ((i : Int) == 8) = true := by rw [beq_iff_eq]; omega
          have b2 : (x : Int) < 128 := by omega
          have b2n : ¬ (128 : Int) ≤ (x : Int) := by omega
          have b3 : (1152921504606846975 : Int) < (q : Int) := by omega
          clear h1 h2 h3
          go_wp2_with fail
          refine (wrong_any H.out 1).mono ?_
          rintro en w' ⟨rfl, hr1, hg1⟩
          have HR1 := Lib.hid hr1
          have HG1 := Lib.hid hg1
          clear hr1 hg1
          go_wp2
          go_ret
          rw [HE.out]
          exact ⟨rfl, HR1.out, HG1.out⟩
        · have b1 : ((i : Int) == 8) = true := by rw [beq_iff_eq]; omega
          have b2 : (x : Int) < 128 := by omega
          have b2n : ¬ (128 : Int) ≤ (x : Int) := by omega
          have b3 : ¬ (1152921504606846975 : Int) < (q : Int) := by omega
          have b4 : (0 : Int) < (i : Int) := by omega
          have b5 : ((x : Int) == 0) = true := by rw [beq_iff_eq]; omega
          clear h1 h2 h3
          go_wp2_with fail
          refine (wrong_any H.out 1).mono ?_
          rintro en w' ⟨rfl, hr1, hg1⟩
          have HR1 := Lib.hid hr1
          have HG1 := Lib.hid hg1
          clear hr1 hg1
          go_wp2
          go_ret
          rw [HE.out]
          exact ⟨rfl, HR1.out, HG1.out⟩
        · have b1 : ((i : Int) == 8) = false := by rw [beq_eq_false_iff_ne]; omega
          have b1n : ¬ ((i : Int) = 8) := by omega
          have b2 : (x : Int) < 128 := by omega
          have b2n : ¬ (128 : Int) ≤ (x : Int) := by omega
          have b4 : (0 : Int) < (i : Int) := by omega
          have b5 : ((x : Int) == 0) = true := by rw [beq_iff_eq]; omega
          clear h1 h2 h3
          go_wp2_with fail
          refine (wrong_any H.out 1).mono ?_
          rintro en w' ⟨rfl, hr1, hg1⟩
          have HR1 := Lib.hid hr1
          have HG1 := Lib.hid hg1
          clear hr1 hg1
          go_wp2
          go_ret
          rw [HE.out]
          exact ⟨rfl, HR1.out, HG1.out⟩
      · have hr2 := HR.out.trans (if_neg cw)
        by_cases hx1 : x < 128
        · have HE := Lib.hid (hr2.trans (if_pos hx1))
          have hd : (i = 8 ∧ ¬ wid < q ∧ x ≠ 0) ∨ (i ≠ 8 ∧ 0 < i ∧ x ≠ 0) ∨ (i ≠ 8 ∧ i = 0 ∧ i ≤ 8) := by omega
          clear cw hr2
          unfold wid at hd
          rcases hd with ⟨h1, h2, h3⟩ | ⟨h1, h2, h3⟩ | ⟨h1, h2, h3⟩
          · have b1 : ((i : Int) == 8) = true := by rw [beq_iff_eq]; omega
            have b2 : (x : Int) < 128 := by omega
            have b2n : ¬ (128 : Int) ≤ (x : Int) := by omega
            have b3 : ¬ (1152921504606846975 : Int) < (q : Int) := by omega
            have b4 : (0 : Int) < (i : Int) := by omega
            have b5 : ((x : Int) == 0) = false := by rw [beq_eq_false_iff_ne]; omega
            have b5n : ¬ ((x : Int) = 0) := by omega
            clear h1 h2 h3
            by_cases hcap : i + 1 = c
            · have hcap2 : (i : Int) + 1 = (c : Int) := by omega
              have HC := Lib.hid hcap
              clear hcap
              go_wp2
              go_ret
              rw [HE.out]
              exact ⟨rfl, Rdr.cut0 H1.out hg HL.out (i + 1) HC.out (by omega), grown_set (grown_refl _ _) _ _⟩
            · have hcap2 : ¬ ((i : Int) + 1 = (c : Int)) := by omega
              have HC := Lib.hid hcap
              clear hcap
              go_wp2
              go_ret
              rw [HE.out]
              exact ⟨rfl, Rdr.cut H1.out hg hcl HL.out (i + 1) (by omega), grown_set (grown_refl _ _) _ _⟩
          · have b1 : ((i : Int) == 8) = false := by rw [beq_eq_false_iff_ne]; omega
            have b1n : ¬ ((i : Int) = 8) := by omega
            have b2 : (x : Int) < 128 := by omega
            have b2n : ¬ (128 : Int) ≤ (x : Int) := by omega
            have b4 : (0 : Int) < (i : Int) := by omega
            have b5 : ((x : Int) == 0) = false := by rw [beq_eq_false_iff_ne]; omega
            have b5n : ¬ ((x : Int) = 0) := by omega
            clear h1 h2 h3
            by_cases hcap : i + 1 = c
            · have hcap2 : (i : Int) + 1 = (c : Int) := by omega
              have HC := Lib.hid hcap
              clear hcap
              go_wp2
              go_ret
              rw [HE.out]
              exact ⟨rfl, Rdr.cut0 H1.out hg HL.out (i + 1) HC.out (by omega), grown_set (grown_refl _ _) _ _⟩
            · have hcap2 : ¬ ((i : Int) + 1 = (c : Int)) := by omega
              have HC := Lib.hid hcap
              clear hcap
              go_wp2
              go_ret
              rw [HE.out]
              exact ⟨rfl, Rdr.cut H1.out hg hcl HL.out (i + 1) (by omega), grown_set (grown_refl _ _) _ _⟩
          · have b1 : ((i : Int) == 8) = false := by rw [beq_eq_false_iff_ne]; omega
            have b1n : ¬ ((i : Int) = 8) := by omega
            have b2 : (x : Int) < 128 := by omega
            have b2n : ¬ (128 : Int) ≤ (x : Int) := by omega
            have b4 : ¬ (0 : Int) < (i : Int) := by omega
            clear h1 h2 h3
            by_cases hcap : i + 1 = c
            · have hcap2 : (i : Int) + 1 = (c : Int) := by omega
              have HC := Lib.hid hcap
              clear hcap
              go_wp2
              go_ret
              rw [HE.out]
              exact ⟨rfl, Rdr.cut0 H1.out hg HL.out (i + 1) HC.out (by omega), grown_set (grown_refl _ _) _ _⟩
            · have hcap2 : ¬ ((i : Int) + 1 = (c : Int)) := by omega
              have HC := Lib.hid hcap
              clear hcap
              go_wp2
              go_ret
              rw [HE.out]
              exact ⟨rfl, Rdr.cut H1.out hg hcl HL.out (i + 1) (by omega), grown_set (grown_refl _ _) _ _⟩
        · have HE := Lib.hid (hr2.trans (if_neg hx1))
          have h1 : i ≠ 8 := by omega
          have h2 : (0 : Nat) ≤ x := by omega
          have h3 : (0 : Nat) ≤ x := by omega
          clear cw hr2
          have b1 : ((i : Int) == 8) = false := by rw [beq_eq_false_iff_ne]; omega
          have b1n : ¬ ((i : Int) = 8) := by omega
          have b2 : (128 : Int) ≤ (x : Int) := by omega
          have b5 : ((x : Int) == 0) = false := by rw [beq_eq_false_iff_ne]; omega
          have b5n : ¬ ((x : Int) = 0) := by omega
          have b6 : ¬ ((x : Int) < 128) := by omega
          clear h2 h3
          by_cases hi0 : 0 < i
          · have b4 : (0 : Int) < (i : Int) := by omega
            clear hi0
            go_wp2
            go_round
            case rel => exact ⟨i + 1, q, by omega, by omega, by go_num, rfl, HQ.out, HE.out⟩
            case measure => simp [intOf]; omega
          · have b4 : ¬ (0 : Int) < (i : Int) := by omega
            clear hi0
            go_wp2
            go_round
            case rel => exact ⟨i + 1, q, by omega, by omega, by go_num, rfl, HQ.out, HE.out⟩
            case measure => simp [intOf]; omega
    · obtain rfl : i = l.length := by omega
      have HE := Lib.hid (show number l 0 = (0, [], 2) from by rw [hr, List.drop_length]; rfl)
      clear hr
      go_wp2_with fail
      refine (wrong_any H.out 2).mono ?_
      rintro en w' ⟨rfl, hr1, hg1⟩
      have HR1 := Lib.hid hr1
      have HG1 := Lib.hid hg1
      clear hr1 hg1
      go_wp2
      go_ret
      rw [HE.out]
      exact ⟨rfl, HR1.out, HG1.out⟩

end Go.Proofs.Ytbamkkohfeglaaa
