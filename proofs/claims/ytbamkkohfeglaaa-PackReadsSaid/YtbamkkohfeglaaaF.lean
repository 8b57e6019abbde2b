/- Text; the document's Number and Text; awake. -/
import Derived.Test.YtbamkkohfeglaaaE
namespace Go.Proofs.Ytbamkkohfeglaaa
open Go.RowKit Go.Sort
attribute [local go_sem ↓] run_min2 run_max2

theorem app_str {B : Nat} {w : World} {v : Value} {l : List UInt8} (h : Own B w v l) (hB : B ≤ w.heap.size) (s : ByteArray) (hl : l.length + s.size ≤ 1000000) :
    ∃ v' w', (Builtin.append_ #[22, 9] 22 #[v, .string s]).run Try.prog w = .ok v' w' ∧ Own B w' v' (l ++ bl s) ∧ Below B w w' := by
  obtain ⟨i0, hi, hz0, hz1, hz2⟩ := info_parts Try.info5
  obtain ⟨v', w', h1, h2, h3, _⟩ := Lib.run_append_own_string (P := Try.prog) w B 22 9 22 5 i0 Try.underlying22 Try.underlying9 hi hz0 hz1 hz2 v l.length (bvals l) h s (by unfold maxLen; omega) (by omega) hB
  refine ⟨v', w', h1, ?_, (Below.refl B w).grown h3 hB (fun k e => (h.lt k e).1)⟩
  rw [Own, List.length_append, bvals_append]
  exact h2
/-- A text's bytes. -/
def txt (s : ByteArray) : List UInt8 := num s.size ++ bl s
set_option maxRecDepth 20000 in
set_option maxHeartbeats 1600000 in
theorem laytext_any {B : Nat} {w : World} {v : Value} {l : List UInt8} (h : Dst B w v l) (hB : B ≤ w.heap.size) (hl : l.length ≤ 800000) (s : ByteArray) (hs : s.size ≤ 3000) :
    Calls Try.prog 12 #[v, .string s] w (LaidPost B w (l ++ txt s)) := by
  have hc := lay_any h hB (by omega) (s.size : Int)
  rw [clamp_nat (by unfold wid; omega)] at hc
  go_enter Try.func12, Try.ntmps12
  go_wp2_with fail
  refine hc.mono ?_
  rintro e w1 ⟨v1, rfl, hown, hb1⟩
  have hlen := numF_length 8 s.size
  obtain ⟨v2, w2, hrun, hown2, hb2⟩ := app_str hown (Nat.le_trans hB hb1.size) s (by rw [List.length_append, num]; omega)
  have HO := Lib.hid hown2
  have HB := Lib.hid (hb1.trans hb2)
  clear hc h hown hb1 hown2 hb2 hlen
  go_wp2_with (at_builtin; refine Lib.wpList_append_run _ rfl _ _ _ _ rfl _ _ rfl rfl _ _ hrun ?_)
  go_ret
  exact ⟨_, rfl, by rw [txt, ← List.append_assoc]; exact HO.out, HB.out⟩

/-! ### The document's -/
theorem bs_append (l m : List UInt8) : bs l ++ bs m = bs (l ++ m) := by
  apply ByteArray.ext
  rw [ByteArray.data_append]
  simp [bs]
theorem conv_one (w : World) (x : UInt8) : (convert 22 9 (.slice (some ⟨w.heap.size, 0, none⟩) 1 1)).run Try.prog (w.alloc (.cells #[.int .u8 x.toNat] 5)) = .ok (.string (bs [x])) (w.alloc (.cells #[.int .u8 x.toNat] 5)) :=
  str_lies (cap := 1) (one_lies w x)
theorem byte_plus (m : Nat) : ((UInt8.ofNat (m % 128 + 128)).toNat : Int) = (m : Int) % 128 + 128 := by
  rw [UInt8.toNat_ofNat']
  omega
theorem bs_size (l : List UInt8) : (bs l).size = l.length := rfl
theorem m_bound {f p m : Nat} (hf : f + p = 8) (hm : m < 16 * 128 ^ f) : m ≤ 1152921504606846975 := by
  have h1 : 128 ^ f ≤ 128 ^ 8 := Nat.pow_le_pow_right (by decide) (by omega)
  have h2 : (128 : Nat) ^ 8 = 72057594037927936 := by decide
  rw [h2] at h1
  omega
set_option maxRecDepth 20000 in
set_option maxHeartbeats 1600000 in
theorem rnum_any (z : Int) (w : World) : Calls Try.prog 13 #[.int .i64 z] w fun e w' => e = .returned (.string (bs (num (clamp z)))) ∧ Below w.heap.size w w' := by
  have hz := (clamp_eq z).symm
  have hw := clamp_le z
  generalize clamp z = n at hz hw
  have HW := Lib.hid hw
  clear hw
  go_enter Try.func13, Try.ntmps13
  go_wp2_with fail
  go_loopg [0, 3] n (fun q t v wr => ∃ (f m : Nat) (pre : List UInt8), f + pre.length = 8 ∧ m ≤ q ∧ t = .int .i64 m ∧ m < 16 * 128 ^ f ∧ pre ++ numF f m = num n ∧ v = .string (bs pre) ∧ Below w.heap.size w wr)
  case atStart => exact ⟨8, n, [], rfl, Nat.le_refl _, rfl, by have := HW.out; unfold wid at this; omega, rfl, rfl, Below.refl _ _⟩
  case round =>
    obtain ⟨f, m, pre, hf, hq, rfl, hm, hn, rfl, hb⟩ := hrel
    have hpl : pre.length ≤ 8 := by omega
    have hsz := hb.size
    have HF := Lib.hid hf
    have HM := Lib.hid hm
    have HN := Lib.hid hn
    have HBB := Lib.hid hb
    have hbz : (bs pre).size ≤ 8 := hpl
    have hmb := m_bound hf hm
    have hmb2 : (m : Int) ≤ 1152921504606846975 := by omega
    clear hf hm hn hb
    by_cases hge : 128 ≤ m
    · obtain ⟨x, hx⟩ : ∃ x, x = UInt8.ofNat (m % 128 + 128) := ⟨_, rfl⟩
      have hby := conv_one wr x
      have hb2 := byte_plus m
      rw [← hx] at hb2
      rw [hb2] at hby
      have hbz1 : ¬ 9223372036854775807 < (bs pre).size + (bs [x]).size := by rw [bs_size [x], List.length_singleton]; omega
      have hge2 : (127 : Int) < (m : Int) := by omega
      have HX := Lib.hid hx
      clear hx hb2
      go_wp2
      go_roundg (m / 128)
      case measure => omega
      case rel =>
        obtain ⟨f', rfl⟩ : ∃ f', f = f' + 1 := ⟨f - 1, by
          have := HM.out
          by_cases h0 : f = 0
          · subst h0
            omega
          · omega⟩
        refine ⟨f', m / 128, pre ++ [x], by have := HF.out; simp; omega, Nat.le_refl _, by rw [Int.natCast_ediv]; rfl, by have := HM.out; rw [Nat.pow_succ] at this; omega, ?_, by rw [← bs_append], HBB.out.alloc hsz _⟩
        have hn := HN.out
        rw [numF, if_neg (by omega), ← HX.out] at hn
        rw [List.append_assoc]
        exact hn
    · obtain ⟨x, hx⟩ : ∃ x, x = UInt8.ofNat m := ⟨_, rfl⟩
      have hby := conv_one wr x
      have hb2 : (x.toNat : Int) = (m : Int) := by rw [hx, UInt8.toNat_ofNat']; omega
      rw [hb2] at hby
      have hbz1 : ¬ 9223372036854775807 < (bs pre).size + (bs [x]).size := by rw [bs_size [x], List.length_singleton]; omega
      have hge2 : ¬ (127 : Int) < (m : Int) := by omega
      have hn : numF f m = [x] := by
        rw [hx]
        cases f with
        | zero => rfl
        | succ f => rw [numF, if_pos (by omega)]
      have HX := Lib.hid hn
      clear hx hb2 hn
      go_wp2
      go_ret
      have hn2 := HN.out
      rw [HX.out] at hn2
      exact ⟨by rw [← hn2, ← bs_append]; rfl, HBB.out.alloc hsz _⟩

theorem rtext_any (s : ByteArray) (hs : s.size ≤ 3000) (w : World) : Calls Try.prog 14 #[.string s] w fun e w' => e = .returned (.string (bs (txt s))) ∧ Below w.heap.size w w' := by
  have hc := rnum_any (s.size : Int) w
  rw [clamp_nat (by unfold wid; omega)] at hc
  have hlen := numF_length 8 s.size
  have hz : ¬ 9223372036854775807 < (bs (num s.size)).size + s.size := by rw [bs_size, num]; omega
  have HE := Lib.hid (show bs (txt s) = bs (num s.size) ++ s from by rw [txt, ← bs_append]; rfl)
  clear hlen
  go_enter Try.func14, Try.ntmps14
  go_wp2_with fail
  refine hc.mono ?_
  rintro e w1 ⟨rfl, hb1⟩
  have HB := Lib.hid hb1
  clear hc hb1
  go_wp2
  go_ret
  rw [HE.out]
  exact ⟨rfl, HB.out⟩

/-! ### awake -/
theorem num300 : num 300 = [172, 2] := by decide +kernel
theorem read300 : number [172, 2] 0 = (300, [], 0) := by decide +kernel
set_option maxRecDepth 20000 in
set_option maxHeartbeats 1600000 in
theorem awake_any (w : World) : Calls Try.prog 10 #[] w fun e w' => e = .returned (.bool true) ∧ Below w.heap.size w w' := by
  have hc := lay_any (B := w.heap.size) (w := w) (v := .slice none 0 0) (l := []) (.inl (World.ownsRow_nil _ _ _ _)) (Nat.le_refl _) (by decide) 300
  rw [show clamp 300 = 300 from by decide, List.nil_append, num300] at hc
  go_enter Try.func10, Try.ntmps10
  go_wp2_with fail
  refine hc.mono ?_
  rintro e w1 ⟨v, rfl, hown, hb1⟩
  obtain ⟨a, c, rfl, hhb⟩ := own_form hown
  have HB1 := Lib.hid hb1
  obtain ⟨g, off, rfl, hg, hcl, hlies⟩ : ∃ g off, a = some ⟨g, off, none⟩ ∧ g < w1.heap.size ∧ 2 ≤ c ∧ LiesB w1 g off [172, 2] := by
    rcases hhb with ⟨_, _, h0⟩ | h0
    · cases h0
    · exact h0
  clear hc hown hb1
  go_wp2_with fail
  refine (read_any hhb).mono ?_
  rintro e w2 ⟨rfl, hr, hb2⟩
  have HB2 := Lib.hid (HB1.out.trans (hb2.mono HB1.out.size))
  have HR := Lib.hid hr
  have hl2 := hlies.same (hb2.block g hg)
  have c0 : w2.cell? ⟨g, off, none⟩ = some (.int .u8 172) := hl2 0 (by decide)
  have c1 : w2.cell? ⟨g, off + 1, none⟩ = some (.int .u8 2) := hl2 1 (by decide)
  clear hb2 hr hlies hl2 hhb
  go_wp2_with fail
  refine (left_any HR.out).mono ?_
  rintro e w3 ⟨rfl, rfl⟩
  go_wp2_with fail
  refine (number_any HR.out (by decide)).mono ?_
  rw [read300]
  rintro e w3 ⟨rfl, _, hg3⟩
  have HB3 := Lib.hid (HB2.out.grown hg3 HB2.out.size (fun k e => by injection e with e; subst e; exact HB1.out.size))
  go_wp2
  go_ret
  exact ⟨rfl, HB3.out⟩

end Go.Proofs.Ytbamkkohfeglaaa
