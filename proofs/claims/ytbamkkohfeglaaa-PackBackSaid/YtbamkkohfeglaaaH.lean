/- PackJoins' walk. -/
import Derived.Test.YtbamkkohfeglaaaF
namespace Go.Proofs.Ytbamkkohfeglaaa
open Go.RowKit Go.Sort
attribute [local go_sem ↓] run_min2 run_max2

theorem num_pos (n : Nat) : 0 < (num n).length := (numF_length 8 n).2
theorem num_len (n : Nat) : (num n).length ≤ 9 := (numF_length 8 n).1
/-- A slice of the call's own that isn't empty. -/
theorem own_some {B : Nat} {w : World} {v : Value} {l : List UInt8} (h : Own B w v l) (h0 : 0 < l.length) : ∃ g c, v = .slice (some ⟨g, 0, none⟩) l.length c ∧ B ≤ g ∧ g < w.heap.size ∧ l.length ≤ c ∧ LiesB w g 0 l := by
  rcases h.2 with ⟨rfl, hn⟩ | ⟨g, cap, cur, rfl, hb, hg, hc, _⟩
  · omega
  · refine ⟨g, cap, rfl, hb, (Array.getElem?_eq_some_iff.1 hg).1, hc, ?_⟩
    intro k hk
    have := h.cells rfl k (.int .u8 (bat l k).toNat) (by simp [bvals, bat, List.getD, hk])
    rwa [Addr.add_lit] at this
theorem own_nil (B : Nat) (w : World) : Own B w (.slice none 0 0) [] := World.ownsRow_nil _ _ _ _
theorem lay_nil (w : World) (z : Int) : Calls Try.prog 11 #[.slice none 0 0, .int .i64 z] w (LaidPost w.heap.size w (num (clamp z))) :=
  lay_any (B := w.heap.size) (l := []) (.inl (own_nil _ _)) (Nat.le_refl _) (by decide) z
theorem laytext_nil (w : World) (s : ByteArray) (hs : s.size ≤ 3000) : Calls Try.prog 12 #[.slice none 0 0, .string s] w (LaidPost w.heap.size w (txt s)) :=
  laytext_any (B := w.heap.size) (l := []) (.inl (own_nil _ _)) (Nat.le_refl _) (by decide) s hs
theorem text_txt (s : ByteArray) (r : List UInt8) (most : Int) (hs : s.size ≤ 3000) (hm : (s.size : Int) ≤ most) : text most (txt s ++ r) 0 = (bl s, r, 0) := by
  have h := number_num s.size (by unfold wid; omega) (bl s ++ r)
  rw [← List.append_assoc] at h
  rw [text_eq most (txt s ++ r) 0 h, if_pos rfl, if_neg (by omega), if_neg (by rw [List.length_append, bl_length]; omega)]
  rw [List.take_left' (bl_length s), List.drop_left' (bl_length s)]
theorem number_last (m : Nat) (h : m ≤ wid) : number (num m) 0 = (m, [], 0) := by
  have := number_num m h []
  rwa [List.append_nil] at this

set_option maxRecDepth 20000 in
set_option maxHeartbeats 6400000 in
theorem joins_walk (n : Int) (s : ByteArray) (m : Int) (w : World) :
    Calls Try.prog 5 #[.int .i64 n, .string s, .int .i64 m] w fun e w' => e = .returned (.bool true) ∧ Below w.heap.size w w' := by
  obtain ⟨i0, hi, hz0, hz1, hz2⟩ := info_parts Try.info5
  go_enter Try.func5, Try.ntmps5
  go_wp2_with fail
  refine (awake_any w).mono ?_
  rintro e w1 ⟨rfl, hb1⟩
  have HB1 := Lib.hid hb1
  clear hb1
  by_cases hbig : (s.size : Int) > 300
  · go_wp2_with fail
    refine (awake_any w1).mono ?_
    rintro e w2 ⟨rfl, hb2⟩
    have HB2 := Lib.hid (HB1.out.trans (hb2.mono HB1.out.size))
    clear hb2
    go_wp2
    go_ret
    exact ⟨rfl, HB2.out⟩
  have hs : s.size ≤ 300 := by omega
  go_wp2_with fail
  refine (lay_nil w1 n).mono ?_
  rintro e w2 ⟨av, rfl, ha, hb2⟩
  obtain ⟨ga, ca, rfl, _, hga, hca, hla⟩ := own_some ha (num_pos _)
  have HB2 := Lib.hid (HB1.out.trans (hb2.mono HB1.out.size))
  have HA := Lib.hid hla
  clear ha hb2 hla
  go_wp2_with fail
  refine (laytext_nil w2 s (by omega)).mono ?_
  rintro e w3 ⟨bv, rfl, hb, hb3⟩
  obtain ⟨gb, cb, rfl, _, hgb, hcb, hlb⟩ := own_some hb (by rw [txt, List.length_append]; have := num_pos s.size; omega)
  have HB3 := Lib.hid (HB2.out.trans (hb3.mono HB2.out.size))
  have HA3 := Lib.hid (HA.out.same (hb3.block ga hga))
  have hga3 : ga < w3.heap.size := Nat.lt_of_lt_of_le hga hb3.size
  have HBb := Lib.hid hlb
  clear hb hb3 hlb
  go_wp2_with fail
  refine (lay_nil w3 m).mono ?_
  rintro e w4 ⟨cv, rfl, hc, hb4⟩
  obtain ⟨gc, cc, rfl, _, hgc, hcc, hlc⟩ := own_some hc (num_pos _)
  have HB4 := Lib.hid (HB3.out.trans (hb4.mono HB3.out.size))
  have HA4 := Lib.hid (HA3.out.same (hb4.block ga hga3))
  have HBb4 := Lib.hid (HBb.out.same (hb4.block gb hgb))
  have hga4 : ga < w4.heap.size := Nat.lt_of_lt_of_le hga3 hb4.size
  have hgb4 : gb < w4.heap.size := Nat.lt_of_lt_of_le hgb hb4.size
  have HC := Lib.hid hlc
  clear hc hb4 hlc
  obtain ⟨W0, hW0⟩ : ∃ W0, W0 = w4.alloc (.cells #[] 5) := ⟨_, rfl⟩
  have hown0 : Own w4.heap.size W0 (.slice (some ⟨w4.heap.size, 0, none⟩) 0 0) [] := by rw [hW0]; exact World.ownsRow_made w4 _ 0 (Nat.le_refl _) (Nat.zero_le _) rfl
  have hbw0 : Below w4.heap.size w4 W0 := by rw [hW0]; exact (Below.refl _ _).alloc (Nat.le_refl _) _
  have hnl := num_len (clamp n)
  have hml := num_len (clamp m)
  have htl : (txt s).length ≤ 1000 := by rw [txt, List.length_append, bl_length]; have := num_len s.size; omega
  obtain ⟨v5, w5, hrun5, hown5, hb5⟩ := app_bytes (c2 := ca) (.inl hown0) hbw0.size (HA4.out.same (hbw0.block ga hga4)) (num_pos _) (by rw [List.length_nil]; omega)
  have hb5' := hbw0.trans hb5
  obtain ⟨v6, w6, hrun6, hown6, hb6⟩ := app_bytes (c2 := cb) (.inl hown5) hb5'.size (HBb4.out.same (hb5'.block gb hgb4)) (by rw [txt, List.length_append]; have := num_pos s.size; omega) (by rw [List.nil_append]; omega)
  have hb6' := hb5'.trans hb6
  obtain ⟨v7, w7, hrun7, hown7, hb7⟩ := app_bytes (c2 := cc) (.inl hown6) hb6'.size (HC.out.same (hb6'.block gc hgc)) (num_pos _) (by rw [List.nil_append, List.length_append]; omega)
  have hb7' := hb6'.trans hb7
  rw [List.nil_append] at hown7
  have hl7 : ((num (clamp n) ++ txt s) ++ num (clamp m)).length ≤ 100000 := by rw [List.length_append, List.length_append]; omega
  have hwc := clamp_le n
  have hwm := clamp_le m
  have E1 := number_num (clamp n) hwc (txt s ++ num (clamp m))
  rw [← List.append_assoc] at E1
  generalize num (clamp n) ++ txt s ++ num (clamp m) = L at hown7 hl7 E1
  obtain ⟨a8, c8, rfl, hhb⟩ := own_form hown7
  have HH := Lib.hid hhb
  have HB7 := Lib.hid (HB4.out.trans (hb7'.mono HB4.out.size))
  replace E1 := Lib.hid E1
  have E2 := Lib.hid (text_txt s (num (clamp m)) 300 (by omega) (by omega))
  have E3 := Lib.hid (number_last (clamp m) hwm)
  have hcn := (clamp_eq n).symm
  have hcm := (clamp_eq m).symm
  have HCN := Lib.hid hcn
  have HCM := Lib.hid hcm
  have HNL := Lib.hid hnl
  have HML := Lib.hid hml
  have HTL := Lib.hid htl
  have HL7 := Lib.hid hl7
  subst hW0
  clear hown0 hbw0 hown5 hb5 hb5' hown6 hb6 hb6' hown7 hb7 hb7' hhb hwc hwm hcn hcm hnl hml htl hl7 hcc hcb hca
  have R5 := Lib.hid hrun5
  have R6 := Lib.hid hrun6
  have R7 := Lib.hid hrun7
  clear hrun5 hrun6 hrun7
  go_wp2_with (first
    | (at_builtin; refine Lib.wpList_append_run _ rfl _ _ _ _ rfl _ _ rfl rfl _ _ R5.out ?_)
    | (at_builtin; refine Lib.wpList_append_run _ rfl _ _ _ _ rfl _ _ rfl rfl _ _ R6.out ?_)
    | (at_builtin; refine Lib.wpList_append_run _ rfl _ _ _ _ rfl _ _ rfl rfl _ _ R7.out ?_))
  refine (read_any HH.out).mono ?_
  rintro e w8 ⟨rfl, hr, hb8⟩
  have HR := Lib.hid hr
  have HB8 := Lib.hid (HB7.out.trans (hb8.mono HB7.out.size))
  have hbg := HB7.out.size
  clear hr hb8
  go_wp2_with fail
  refine (number_any HR.out (by have := HL7.out; omega)).mono ?_
  rw [E1.out]
  rintro e w9 ⟨rfl, hr, hg⟩
  have HR9 := Lib.hid (show Rdr w9 w7.heap.size (txt s ++ num (clamp m)) 0 from hr)
  have HB9 := Lib.hid (HB8.out.grown hg HB8.out.size (fun k e => by injection e with e; subst e; exact hbg))
  clear hr hg
  go_wp2_with fail
  refine (left_any HR9.out).mono ?_
  rw [List.length_append]
  rintro e w10 ⟨rfl, rfl⟩
  go_wp2_with fail
  refine (text_any HR9.out (by have := HTL.out; have := HML.out; rw [List.length_append]; omega) 300).mono ?_
  rw [E2.out]
  rintro e w10 ⟨rfl, hr, hg⟩
  have HR10 := Lib.hid (show Rdr w10 w7.heap.size (num (clamp m)) 0 from hr)
  have HB10 := Lib.hid (HB9.out.grown hg HB9.out.size (fun k e => by injection e with e; subst e; exact hbg))
  clear hr hg
  rw [bl_back]
  go_wp2_with fail
  refine (left_any HR10.out).mono ?_
  rintro e w11 ⟨rfl, rfl⟩
  go_wp2_with fail
  refine (number_any HR10.out (by have := HML.out; omega)).mono ?_
  rw [E3.out]
  rintro e w11 ⟨rfl, hr, hg⟩
  have HR11 := Lib.hid (show Rdr w11 w7.heap.size [] 0 from hr)
  have HB11 := Lib.hid (HB10.out.grown hg HB10.out.size (fun k e => by injection e with e; subst e; exact hbg))
  clear hr hg
  have hcn := HCN.out
  have hcm := HCM.out
  have htl := HTL.out
  have hml := HML.out
  go_wp2_with fail
  refine (left_any HR11.out).mono ?_
  rintro e w12 ⟨rfl, rfl⟩
  go_wp2_with fail
  refine (err_any HR11.out).mono ?_
  rintro e w12 ⟨rfl, rfl⟩
  go_wp2
  go_ret
  exact ⟨rfl, HB11.out⟩

end Go.Proofs.Ytbamkkohfeglaaa
