/- Strings and bytes; SumShort's walk. -/
import Derived.Test.YtbekgecaoibnjaaC
import Derived.Lib.ConvBytes
namespace Go.Proofs.Ytbekgecaoibnjaa
open Go.RowKit Go.Sort

/-- A string's bytes. -/
def bl (s : ByteArray) : List UInt8 := s.data.toList
theorem bl_length (s : ByteArray) : (bl s).length = s.size := rfl
theorem bl_back (s : ByteArray) : (⟨(bl s).toArray⟩ : ByteArray) = s := rfl
theorem conv_any (s : ByteArray) (w : World) : ∃ w' cap, (convert 9 23 (.string s)).run Try.prog w = .ok (.slice (some ⟨w.heap.size, 0, none⟩) s.size cap) w' ∧ LiesB w' w.heap.size 0 (bl s) ∧ w.heap.size < w'.heap.size ∧ Below w.heap.size w w' ∧ s.size ≤ cap := by
  refine ⟨Lib.bytesWorld w 5 s, _, Lib.run_convert_string_bytes w 9 23 5 s Try.underlying9 Try.underlying23 Try.underlying5, ?_, ?_, ⟨rfl, rfl, rfl, ?_, ?_⟩, grownCap_ge w s.size 0 5⟩
  · intro k hk
    rw [Nat.zero_add]
    exact Lib.bytesWorld_cell w 5 s k hk
  · rw [Lib.bytesWorld_size]; omega
  · rw [Lib.bytesWorld_size]; omega
  · exact fun k hk => Lib.bytesWorld_at_old w 5 s k hk
theorem str_own {w : World} {base : Nat} {v : Value} {l : List UInt8} (h : w.ownsRow base 5 1 v l.length (bvals l)) : (convert 23 9 v).run Try.prog w = .ok (.string ⟨l.toArray⟩) w := by
  by_cases h0 : 0 < l.length
  · obtain ⟨g, cap, rfl, _⟩ := h.form h0
    refine run_convert_bytes_back (P := Try.prog) w 23 9 5 ⟨g, 0, none⟩ cap l Try.underlying23 Try.underlying5 Try.underlying9 (fun j hj => ?_)
    exact h.cells rfl j _ (by simp [bvals, hj])
  · obtain rfl : l = [] := List.length_eq_zero_iff.1 (by omega)
    rcases h.2 with ⟨rfl, _⟩ | ⟨g, cap, cur, rfl, _⟩
    · kernel_rfl
    · kernel_rfl
theorem Hb.own {w : World} {base : Nat} {v : Value} {l : List UInt8} (h : w.ownsRow base 5 1 v l.length (bvals l)) : ∃ a c, v = .slice a l.length c ∧ Hb w a c l := by
  rcases h.2 with ⟨rfl, h0⟩ | ⟨g, cap, cur, rfl, _, hg, _⟩
  · rw [h0]
    exact ⟨none, 0, rfl, .inl ⟨rfl, rfl, List.length_eq_zero_iff.1 h0⟩⟩
  · refine ⟨_, cap, rfl, .inr ⟨g, 0, rfl, ?_, ?_⟩⟩
    · exact (Array.getElem?_eq_some_iff.1 hg).1
    · intro k hk
      have := h.cells rfl k (.int .u8 (bat l k).toNat) (by simp [bvals, bat, List.getD, hk])
      rwa [Addr.add_lit] at this

set_option maxHeartbeats 3200000 in
theorem short_walk (s : ByteArray) (w : World) : Calls Try.prog 8 #[.string s] w fun e w' => e = .returned (.bool true) ∧ Below w.heap.size w w' := by
  go_enter Try.func8, Try.ntmps8
  go_wp2_with fail
  refine (awake_any w).mono ?_
  rintro e w1 ⟨rfl, hb1⟩
  have HB1 := Lib.hid hb1
  clear hb1
  by_cases hbig : (s.size : Int) > 1000
  · go_wp2_with fail
    refine (awake_any w1).mono ?_
    rintro e w2 ⟨rfl, hb2⟩
    have HB2 := Lib.hid (HB1.out.trans (hb2.mono HB1.out.size))
    clear hb2
    go_wp2
    go_ret
    exact ⟨rfl, HB2.out⟩
  · obtain ⟨w2, cap, hcv, hlies, hlt, hb2, hcap⟩ := conv_any s w1
    have HL := Lib.hid hlies
    have HB2 := Lib.hid (HB1.out.trans (hb2.mono HB1.out.size))
    clear hlies hb2
    by_cases h4 : s.size < 4
    · have h4' : (s.size : Int) < 4 := by omega
      go_wp2_with fail
      refine (open_few _ _ _ _ h4).mono ?_
      rintro e w3 ⟨rfl, hb3⟩
      have HB3 := Lib.hid (HB2.out.trans (hb3.mono HB2.out.size))
      clear hcv hb3
      obtain ⟨w4, cap4, hcv4, hlies4, hlt4, hb4, hcap4⟩ := conv_any s w3
      have HL4 := Lib.hid hlies4
      have HB4 := Lib.hid (HB3.out.trans (hb4.mono HB3.out.size))
      clear hlies4 hb4
      go_wp2_with fail
      refine (seal_any _ cap4 (bl s) w4 (Hb.mk hlt4 HL4.out) (by rw [bl_length]; omega)).mono ?_
      rintro e w5 ⟨v, rfl, hown, hb5⟩
      obtain ⟨g, cap5, rfl, _⟩ := hown.form (by simp [tl])
      have hlen : (bl s ++ tl (crc (bl s))).length = s.size + 4 := by rw [List.length_append, bl_length]; rfl
      rw [hlen]
      have HB5 := Lib.hid (HB4.out.trans (hb5.mono HB4.out.size))
      clear hown hb5 hlen hcv4
      go_wp2
      go_ret
      exact ⟨rfl, HB5.out⟩
    · obtain ⟨p, q, hpq, hq⟩ : ∃ p q, bl s = p ++ q ∧ q.length = 4 := ⟨(bl s).take (s.size - 4), (bl s).drop (s.size - 4), (List.take_append_drop _ _).symm, by rw [List.length_drop, bl_length]; omega⟩
      have hsz : s.size = p.length + 4 := by rw [← bl_length, hpq, List.length_append, hq]
      have h4' : ¬ ((s.size : Int) < 4) := by omega
      have hcv' := hcv
      rw [hsz] at hcv'
      have HPQ := Lib.hid hpq
      have HSZ := Lib.hid hsz
      have HQ := Lib.hid hq
      clear hcv hpq hsz hq
      go_wp2_with fail
      refine (open_at w1.heap.size 0 cap p q w2 HQ.out hlt (by rw [← HPQ.out]; exact HL.out) (by have := HSZ.out; omega) (by have := HSZ.out; omega)).mono ?_
      rintro e w3 (⟨he, v, rfl, hown3, hb3⟩ | ⟨hne, rfl, hb3⟩)
      · have HB3 := Lib.hid (HB2.out.trans (hb3.mono HB2.out.size))
        have HE := Lib.hid he
        have HO3 := Lib.hid hown3
        clear hcv' hb3 he
        obtain ⟨w4, cap4, hcv4, hlies4, hlt4, hb4, hcap4⟩ := conv_any s w3
        have HL4 := Lib.hid hlies4
        have HB4 := Lib.hid (HB3.out.trans (hb4.mono HB3.out.size))
        have HH := Lib.hid hb4
        obtain ⟨xa, xc, rfl, hxb⟩ := Hb.own hown3
        have HX := Lib.hid hxb
        clear hlies4 hb4 hown3 hxb
        go_wp2_with fail
        refine (seal_any _ cap4 (bl s) w4 (Hb.mk hlt4 HL4.out) (by rw [bl_length]; omega)).mono ?_
        rintro e w5 ⟨v, rfl, hown, hb5⟩
        obtain ⟨g, cap5, rfl, _⟩ := hown.form (by simp [tl])
        have hlen : (bl s ++ tl (crc (bl s))).length = s.size + 4 := by rw [List.length_append, bl_length]; rfl
        rw [hlen]
        have HB5 := Lib.hid (HB4.out.trans (hb5.mono HB4.out.size))
        have HX5 := Lib.hid ((HX.out.below HH.out (Nat.le_refl _)).below hb5 (Nat.le_refl _))
        clear hown hb5 hlen hcv4
        go_wp2_with fail
        refine (seal_any xa xc p w5 HX5.out (by have := HSZ.out; omega)).mono ?_
        rintro e w6 ⟨v, rfl, hown, hb6⟩
        have hst := str_own hown
        rw [HE.out, ← HPQ.out, bl_back] at hst
        have HB6 := Lib.hid (HB5.out.trans (hb6.mono HB5.out.size))
        clear hown hb6
        go_wp2
        go_ret
        exact ⟨rfl, HB6.out⟩
      · have HB3 := Lib.hid (HB2.out.trans (hb3.mono HB2.out.size))
        clear hcv' hb3 hne
        obtain ⟨w4, cap4, hcv4, hlies4, hlt4, hb4, hcap4⟩ := conv_any s w3
        have HL4 := Lib.hid hlies4
        have HB4 := Lib.hid (HB3.out.trans (hb4.mono HB3.out.size))
        clear hlies4 hb4
        go_wp2_with fail
        refine (seal_any _ cap4 (bl s) w4 (Hb.mk hlt4 HL4.out) (by rw [bl_length]; omega)).mono ?_
        rintro e w5 ⟨v, rfl, hown, hb5⟩
        obtain ⟨g, cap5, rfl, _⟩ := hown.form (by simp [tl])
        have hlen : (bl s ++ tl (crc (bl s))).length = s.size + 4 := by rw [List.length_append, bl_length]; rfl
        rw [hlen]
        have HB5 := Lib.hid (HB4.out.trans (hb5.mono HB4.out.size))
        clear hown hb5 hlen hcv4
        go_wp2
        go_ret
        exact ⟨rfl, HB5.out⟩

end Go.Proofs.Ytbekgecaoibnjaa
