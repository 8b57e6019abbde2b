/- The document's Reader: wrong, End, Number, Text. -/
import Derived.Test.YtbamkkohfeglaaaF
namespace Go.Proofs.Ytbamkkohfeglaaa
open Go.RowKit Go.Sort

/-- The document's reader in memory. -/
def RefR (w : World) (b : Nat) (l : List UInt8) (e : Nat) : Prop := w.heap[b]? = some (.cells #[.string (bs l), .int .i64 e] 41 (0, 0))
theorem RefR.lt {w : World} {b : Nat} {l : List UInt8} {e : Nat} (h : RefR w b l e) : b < w.heap.size := lt_of_block h
theorem RefR.same {w w' : World} {b : Nat} {l : List UInt8} {e : Nat} (h : RefR w b l e) (hs : w'.heap[b]? = w.heap[b]?) : RefR w' b l e := hs.trans h
def RWrong (w : World) (b e : Nat) (en : Ending) (w' : World) : Prop := (∃ v, en = .returned v) ∧ RefR w' b [] e ∧ w.grownBy w' (some b)
set_option maxHeartbeats 400000 in
theorem rwrong_any {w : World} {b : Nat} {l : List UInt8} {e : Nat} (h : RefR w b l e) (e' : Nat) : Calls Try.prog 25 #[.pointer (some ⟨b, 0, none⟩), .int .i64 e'] w (RWrong w b e') := by
  have hlt := h.lt
  obtain ⟨c0, c1, f0⟩ := cells_of h
  have H1 := Lib.hid h
  clear h
  go_enter Try.func25, Try.ntmps25
  go_wp2
  first
    | exact ⟨⟨_, rfl⟩, by rw [RefR, heap_setCell_same (heap_setCell_same H1.out _ _)]; rfl, grown_set (grown_set (grown_refl _ _) _ _) _ _⟩
    | (refine bodyPost_ret (v := .tuple #[]) (by simp [results, Try.results25, go_sem]) rfl ?_
       exact ⟨⟨_, rfl⟩, by rw [RefR, heap_setCell_same (heap_setCell_same H1.out _ _)]; rfl, grown_set (grown_set (grown_refl _ _) _ _) _ _⟩)
set_option maxHeartbeats 800000 in
theorem rend_any {w : World} {b : Nat} {l : List UInt8} {e : Nat} (h : RefR w b l e) (hl : l.length ≤ 1000000) : Calls Try.prog 23 #[.pointer (some ⟨b, 0, none⟩)] w fun en w' => en = .returned (.int .i64 (endOf l e)) ∧ w = w' := by
  obtain ⟨c0, c1, f0⟩ := cells_of h
  have hz : (bs l).size = l.length := rfl
  clear h
  by_cases he : e = 0
  · subst he
    by_cases hl0 : l.length = 0
    · have HE := Lib.hid (show endOf l 0 = 0 from by rw [endOf, if_pos rfl, if_pos hl0])
      have hz0 : ((bs l).size : Int) = 0 := by omega
      clear hl0 hz
      go_enter Try.func23, Try.ntmps23
      go_wp2
      go_ret
      rw [HE.out]
      exact ⟨rfl, rfl⟩
    · have HE := Lib.hid (show endOf l 0 = 3 from by rw [endOf, if_pos rfl, if_neg hl0])
      have hz0 : (0 : Int) < ((bs l).size : Int) := by omega
      clear hl0 hz
      go_enter Try.func23, Try.ntmps23
      go_wp2
      go_ret
      rw [HE.out]
      exact ⟨rfl, rfl⟩
  · have HE := Lib.hid (show endOf l e = e from by rw [endOf, if_neg he])
    have hn : ((e : Int) == 0) = false := by rw [beq_eq_false_iff_ne]; omega
    have hn2 : ((e : Int) != 0) = true := by rw [bne, hn]; rfl
    clear he hz
    go_enter Try.func23, Try.ntmps23
    go_wp2
    go_ret
    rw [HE.out]
    exact ⟨rfl, rfl⟩

theorem rref_cut {w : World} {b : Nat} {l : List UInt8} {e : Nat} (h : RefR w b l e) (k : Nat) : RefR (w.setCell ⟨b, 0, none⟩ (.string ((bs l).extract k (bs l).size))) b (l.drop k) e := by
  have hx : (bs l).extract k (bs l).size = bs (l.drop k) := by
    apply ByteArray.ext
    rw [ByteArray.data_extract]
    show l.toArray.extract k l.length = (l.drop k).toArray
    simp
    exact List.take_of_length_le (by rw [List.length_drop]; exact Nat.le_refl _)
  rw [hx, RefR, heap_setCell_same h]
  rfl
def RNum (w : World) (b : Nat) (r : Nat × List UInt8 × Nat) (en : Ending) (w' : World) : Prop := en = .returned (.int .i64 r.1) ∧ RefR w' b r.2.1 r.2.2 ∧ w.grownBy w' (some b)
theorem bat_bs {l : List UInt8} {k : Nat} (h : k < (bs l).size) : (bs l)[k] = bat l k := by
  have h' : k < l.length := h
  show l[k] = _
  simp [bat, List.getD, h']
theorem rnum_facts (i m x y q : Nat) (hi : i ≤ 8) (hm : m < 128 ^ i) (hx : x < 256) (hy : y = x % 128 * 128 ^ i) (hq : q = m + y) :
    wrap64 ((x : Int) % 128 * ((128 ^ i : Nat) : Int)) = (y : Int) ∧ wrap64 ((m : Int) + (y : Int)) = (q : Int) ∧ q < 128 ^ (i + 1) ∧ (i < 8 → wrap64 (((128 ^ i : Nat) : Int) * 128) = ((128 ^ (i + 1) : Nat) : Int)) ∧ (i = 8 → x ≤ 15 → q ≤ wid) ∧ (i = 8 → 16 ≤ x → x < 128 → wid < q) := by
  have h8 : (128 : Nat) ^ i ≤ 128 ^ 8 := Nat.pow_le_pow_right (by decide) hi
  have h88 : (128 : Nat) ^ 8 = 72057594037927936 := by decide
  have hyl : y ≤ 127 * 128 ^ i := by rw [hy]; exact Nat.mul_le_mul_right _ (by omega)
  have hyi : (x : Int) % 128 * ((128 ^ i : Nat) : Int) = (y : Int) := by rw [hy]; push_cast; rfl
  have hs : i < 8 → (128 : Nat) ^ i ≤ 128 ^ 7 := fun h => Nat.pow_le_pow_right (by decide) (by omega)
  have h77 : (128 : Nat) ^ 7 = 562949953421312 := by decide
  rw [Nat.pow_succ, hyi]
  have hz8 : i = 8 → (128 : Nat) ^ i = 72057594037927936 := fun h => by rw [h, h88]
  rw [h88] at h8
  rw [h77] at hs
  generalize (128 : Nat) ^ i = z at *
  refine ⟨?_, ?_, ?_, fun h => ?_, fun h h2 => ?_, fun h h2 h3 => ?_⟩
  · unfold wrap64
    omega
  · unfold wrap64
    omega
  · omega
  · have := hs h
    push_cast
    unfold wrap64
    omega
  · have := hz8 h
    subst this
    unfold wid
    omega
  · have := hz8 h
    subst this
    unfold wid
    omega

set_option maxRecDepth 20000 in
set_option maxHeartbeats 3200000 in
theorem rnumber_any {w : World} {b : Nat} {l : List UInt8} {e : Nat} (h : RefR w b l e) (_ : l.length ≤ 1000000) : Calls Try.prog 21 #[.pointer (some ⟨b, 0, none⟩)] w (RNum w b (number l e)) := by
  have H := Lib.hid h
  have hlt := h.lt
  obtain ⟨c0, c1, f0⟩ := cells_of h
  have hz : (bs l).size = l.length := rfl
  clear h
  by_cases he : e = 0
  · subst he
    go_enter Try.func21, Try.ntmps21
    go_wp2
    go_loop [3, 4, 5] (fun n u t => ∃ i m : Nat, i ≤ 8 ∧ t = .int .i64 i ∧ n = .int .i64 m ∧ u = .int .i64 ((128 ^ i : Nat) : Int) ∧ m < 128 ^ i ∧ (i ≤ l.length ∧ number l 0 = rdn i m (l.drop i))) (fun _ _ t => 9 - (intOf t).toNat)
    case atStart => exact ⟨0, 0, by decide, rfl, rfl, rfl, by decide, Nat.zero_le _, rfl⟩
    case round =>
      obtain ⟨i, m, hi8, rfl, rfl, rfl, hm, hil0, hr⟩ := hrel
      by_cases hil : i < l.length
      · have hil' : i < (bs l).size := hil
        have hx := bat_bs (l := l) (k := i) hil'
        rw [drop_cons hil, rdn] at hr
        generalize bat l i = X at hr hx
        have hx8 : X.toNat < 256 := X.toNat_lt
        obtain ⟨x, hxg⟩ : ∃ x, x = X.toNat := ⟨_, rfl⟩
        rw [← hxg] at hr hx8
        have hxx : (((bs l)[i]'hil').toNat : Int) = (x : Int) := by rw [hx, hxg]
        have HX := Lib.hid hx
        have HXG := Lib.hid hxg
        clear hx hxg
        obtain ⟨y, hy⟩ : ∃ y, y = x % 128 * 128 ^ i := ⟨_, rfl⟩
        obtain ⟨q, hq⟩ : ∃ q, q = m + y := ⟨_, rfl⟩
        rw [← hy, ← hq] at hr
        obtain ⟨s1, s2, s3, s4, s5, s6⟩ := rnum_facts i m x y q hi8 hm hx8 hy hq
        have HR := Lib.hid hr
        have HQ := Lib.hid s3
        have S4 := Lib.hid s4
        have S5 := Lib.hid s5
        have S6 := Lib.hid s6
        generalize hu : (128 : Nat) ^ i = u at *
        have HU := Lib.hid hu
        clear hr hm hy hq s3 s4 s5 s6 hu
        have i1 : (i : Int) < 9 := by omega
        have i2 : ¬ (l.length ≤ i) := by omega
        have i3 : (i : Int) < ((bs l).size : Int) := by omega
        have i4 : i + 1 ≤ l.length := by omega
        by_cases cw : (i = 8 ∧ (128 ≤ x ∨ wid < q)) ∨ (0 < i ∧ x = 0)
        · have HE := Lib.hid (HR.out.trans (if_pos cw))
          have hd : (i = 8 ∧ 16 ≤ x ∧ i ≤ 8) ∨ (i = 8 ∧ x = 0 ∧ i ≤ 8) ∨ (i ≠ 8 ∧ 0 < i ∧ x = 0) := by
            have a5 := S5.out
            omega
          clear cw
          rcases hd with ⟨h1, h2, h3⟩ | ⟨h1, h2, h3⟩ | ⟨h1, h2, h3⟩
          · have b1 : ((i : Int) == 8) = true := by rw [beq_iff_eq]; omega
            have b2 : (15 : Int) < (x : Int) := by omega
            clear h1 h2 h3
            go_wp2_with fail
            refine (rwrong_any H.out 1).mono ?_
            rintro en w' ⟨⟨v0, rfl⟩, hr1, hg1⟩
            have HR1 := Lib.hid hr1
            have HG1 := Lib.hid hg1
            clear hr1 hg1
            go_wp2
            go_ret
            rw [HE.out]
            exact ⟨rfl, HR1.out, HG1.out⟩
          · have b1 : ((i : Int) == 8) = true := by rw [beq_iff_eq]; omega
            have b2 : ¬ (15 : Int) < (x : Int) := by omega
            have b3 : (x : Int) < 128 := by omega
            have b4 : (0 : Int) < (i : Int) := by omega
            have b4n : 0 < i := by omega
            have b5 : ((x : Int) == 0) = true := by rw [beq_iff_eq]; omega
            clear h1 h2 h3
            go_wp2_with fail
            refine (rwrong_any H.out 1).mono ?_
            rintro en w' ⟨⟨v0, rfl⟩, hr1, hg1⟩
            have HR1 := Lib.hid hr1
            have HG1 := Lib.hid hg1
            clear hr1 hg1
            go_wp2
            go_ret
            rw [HE.out]
            exact ⟨rfl, HR1.out, HG1.out⟩
          · have b1 : ((i : Int) == 8) = false := by rw [beq_eq_false_iff_ne]; omega
            have b1n : ¬ ((i : Int) = 8) := by omega
            have b3 : (x : Int) < 128 := by omega
            have b4 : (0 : Int) < (i : Int) := by omega
            have b4n : 0 < i := by omega
            have b5 : ((x : Int) == 0) = true := by rw [beq_iff_eq]; omega
            clear h1 h2 h3
            go_wp2_with fail
            refine (rwrong_any H.out 1).mono ?_
            rintro en w' ⟨⟨v0, rfl⟩, hr1, hg1⟩
            have HR1 := Lib.hid hr1
            have HG1 := Lib.hid hg1
            clear hr1 hg1
            go_wp2
            go_ret
            rw [HE.out]
            exact ⟨rfl, HR1.out, HG1.out⟩
        · have hr2 := HR.out.trans (if_neg cw)
          by_cases hx1 : x < 128
          · have HE := Lib.hid (hr2.trans (if_pos hx1))
            have hd : (i = 8 ∧ x ≤ 15 ∧ x ≠ 0) ∨ (i ≠ 8 ∧ 0 < i ∧ x ≠ 0) ∨ (i ≠ 8 ∧ i = 0 ∧ i ≤ 8) := by
              have a6 := S6.out
              omega
            clear cw hr2
            rcases hd with ⟨h1, h2, h3⟩ | ⟨h1, h2, h3⟩ | ⟨h1, h2, h3⟩
            · have b1 : ((i : Int) == 8) = true := by rw [beq_iff_eq]; omega
              have b2 : ¬ (15 : Int) < (x : Int) := by omega
              have b3 : (x : Int) < 128 := by omega
              have b4 : (0 : Int) < (i : Int) := by omega
              have b4n : 0 < i := by omega
              have b5 : ((x : Int) == 0) = false := by rw [beq_eq_false_iff_ne]; omega
              clear h1 h2 h3
              go_wp2
              go_ret
              rw [HE.out]
              exact ⟨rfl, rref_cut H.out (i + 1), grown_set (grown_refl _ _) _ _⟩
            · have b1 : ((i : Int) == 8) = false := by rw [beq_eq_false_iff_ne]; omega
              have b1n : ¬ ((i : Int) = 8) := by omega
              have b3 : (x : Int) < 128 := by omega
              have b4 : (0 : Int) < (i : Int) := by omega
              have b4n : 0 < i := by omega
              have b5 : ((x : Int) == 0) = false := by rw [beq_eq_false_iff_ne]; omega
              clear h1 h2 h3
              go_wp2
              go_ret
              rw [HE.out]
              exact ⟨rfl, rref_cut H.out (i + 1), grown_set (grown_refl _ _) _ _⟩
            · have b1 : ((i : Int) == 8) = false := by rw [beq_eq_false_iff_ne]; omega
              have b1n : ¬ ((i : Int) = 8) := by omega
              have b3 : (x : Int) < 128 := by omega
              have b4 : ¬ (0 : Int) < (i : Int) := by omega
              have b4n : ¬ 0 < i := by omega
              clear h1 h2 h3
              go_wp2
              go_ret
              rw [HE.out]
              exact ⟨rfl, rref_cut H.out (i + 1), grown_set (grown_refl _ _) _ _⟩
          · have HE := Lib.hid (hr2.trans (if_neg hx1))
            have h1 : i ≠ 8 := by omega
            have b4u := S4.out (by omega)
            generalize hu2 : (128 : Nat) ^ (i + 1) = u2' at b4u
            have HU2 := Lib.hid hu2
            clear cw hr2 hu2
            have b1 : ((i : Int) == 8) = false := by rw [beq_eq_false_iff_ne]; omega
            have b1n : ¬ ((i : Int) = 8) := by omega
            have b3 : ¬ (x : Int) < 128 := by omega
            clear h1 hx1
            go_wp2
            go_round
            case rel => exact ⟨i + 1, q, by omega, by go_num, by rw [s2], by rw [b4u, HU2.out], HQ.out, by omega, HE.out⟩
            case measure => simp [intOf]; omega
      · have hil1 : i = l.length := by omega
        have HE := Lib.hid (show number l 0 = (0, [], 2) from by rw [hr, hil1, List.drop_length]; rfl)
        have i1 : (i : Int) < 9 := by omega
        have i2 : l.length ≤ i := by omega
        clear hr hil1 hm
        generalize (128 : Nat) ^ i = u
        go_wp2_with fail
        refine (rwrong_any H.out 2).mono ?_
        rintro en w' ⟨⟨v0, rfl⟩, hr1, hg1⟩
        have HR1 := Lib.hid hr1
        have HG1 := Lib.hid hg1
        clear hr1 hg1
        go_wp2
        go_ret
        rw [HE.out]
        exact ⟨rfl, HR1.out, HG1.out⟩
  · have hn : ((e : Int) == 0) = false := by rw [beq_eq_false_iff_ne]; omega
    have hn2 : ((e : Int) != 0) = true := by rw [bne, hn]; rfl
    have HE := Lib.hid (show number l e = (0, l, e) from by rw [number, if_neg he])
    clear he
    go_enter Try.func21, Try.ntmps21
    go_wp2
    go_ret
    rw [HE.out]
    exact ⟨rfl, H.out, grown_refl _ _⟩

end Go.Proofs.Ytbamkkohfeglaaa
