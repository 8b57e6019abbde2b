/- SumSectors' walk. -/
import Derived.Test.YtbekgecaoibnjaaF
namespace Go.Proofs.Ytbekgecaoibnjaa
open Go.RowKit Go.Sort

theorem str_lies {w : World} {g cap : Nat} {l : List UInt8} (h : LiesB w g 0 l) : (convert 23 9 (.slice (some ⟨g, 0, none⟩) l.length cap)).run Try.prog w = .ok (.string ⟨l.toArray⟩) w :=
  run_convert_bytes_back (P := Try.prog) w 23 9 5 ⟨g, 0, none⟩ cap l Try.underlying23 Try.underlying5 Try.underlying9 (fun j hj => by
    rw [Addr.add_lit, h j hj]
    simp [bat, List.getD, hj])
theorem sct_take {l : List UInt8} : (sct l).take l.length = l := by
  rw [sct, pad, List.append_assoc, List.take_left]
theorem sct_ne {a b : ByteArray} (h : a ≠ b) (hs : a.size = b.size) : (sct (bl a) == sct (bl b)) = false := by
  rw [beq_eq_false_iff_ne]
  intro e
  have h1 := sct_take (l := bl a)
  rw [e, show (bl a).length = (bl b).length from hs, sct_take] at h1
  apply h
  obtain ⟨⟨x⟩⟩ := a
  obtain ⟨⟨y⟩⟩ := b
  have h2 : y = x := h1
  rw [h2]
theorem toList_ne {a b : ByteArray} (h : a ≠ b) : (a.toList == b.toList) = false := by
  rw [beq_eq_false_iff_ne, ByteArray.toList_eq, ByteArray.toList_eq]
  intro e
  apply h
  obtain ⟨⟨x⟩⟩ := a
  obtain ⟨⟨y⟩⟩ := b
  have h2 : x = y := e
  rw [h2]
/-- Sector, whatever the bytes. -/
def SPost (l : List UInt8) (w : World) (e : Ending) (w' : World) : Prop :=
  (l.length ≤ 60 ∧ ∃ v, e = .returned (.tuple #[v, .bool true]) ∧ w'.ownsRow w.heap.size 5 1 v (sct l).length (bvals (sct l)) ∧ Below w.heap.size w w') ∨
  (60 < l.length ∧ e = .returned (.tuple #[.slice none 0 0, .bool false]) ∧ Below w.heap.size w w')
theorem sector_any (b cap : Nat) (l : List UInt8) (w : World) (hl : l.length ≤ 1000) (hb : b < w.heap.size) (hc : LiesB w b 0 l) :
    Calls Try.prog 12 #[.slice (some ⟨b, 0, none⟩) l.length cap] w (SPost l w) := by
  by_cases h : l.length ≤ 60
  · exact (sector_some b cap l w h hb hc).mono fun e w' hp => .inl ⟨h, hp⟩
  · exact (sector_none _ _ cap w (by omega) (by omega)).mono fun e w' hp => .inr ⟨by omega, hp⟩

set_option maxHeartbeats 6400000 in
theorem sectors_walk (a b : ByteArray) (w : World) : Calls Try.prog 4 #[.string a, .string b] w fun e w' => e = .returned (.bool true) ∧ Below w.heap.size w w' := by
  go_enter Try.func4, Try.ntmps4
  go_wp2_with fail
  refine (awake_any w).mono ?_
  rintro e w1 ⟨rfl, hb1⟩
  have HB1 := Lib.hid hb1
  clear hb1
  by_cases hbig : (a.size : Int) > 1000
  · go_wp2_with fail
    refine (awake_any w1).mono ?_
    rintro e w2 ⟨rfl, hb2⟩
    have HB2 := Lib.hid (HB1.out.trans (hb2.mono HB1.out.size))
    clear hb2
    go_wp2
    go_ret
    exact ⟨rfl, HB2.out⟩
  by_cases hbig2 : (b.size : Int) > 1000
  · go_wp2_with fail
    refine (awake_any w1).mono ?_
    rintro e w2 ⟨rfl, hb2⟩
    have HB2 := Lib.hid (HB1.out.trans (hb2.mono HB1.out.size))
    clear hb2
    go_wp2
    go_ret
    exact ⟨rfl, HB2.out⟩
  obtain ⟨w2, cap, hcv, hlies, hlt, hb2, hcap⟩ := conv_any a w1
  have HL := Lib.hid hlies
  have HB2 := Lib.hid (HB1.out.trans (hb2.mono HB1.out.size))
  clear hlies hb2
  go_wp2_with fail
  refine (sector_any _ cap (bl a) w2 (by rw [bl_length]; omega) hlt HL.out).mono ?_
  rintro e w3 (⟨ha, x, rfl, hx, hb3⟩ | ⟨ha, rfl, hb3⟩)
  · have HB3 := Lib.hid (HB2.out.trans (hb3.mono HB2.out.size))
    clear hb3 hcv
    obtain ⟨xg, xc, rfl, hxg, hxl, hxc, _⟩ := own_form hx (by rw [sct_length ha]; decide)
    have HX := Lib.hid hxl
    rw [sct_length ha] at hxc ⊢
    obtain ⟨w4, cap4, hcv4, hlies4, hlt4, hb4, hcap4⟩ := conv_any b w3
    have HL4 := Lib.hid hlies4
    have HB4 := Lib.hid (HB3.out.trans (hb4.mono HB3.out.size))
    have HX4 := Lib.hid (HX.out.below hb4 (fun _ => hxg))
    have hxg4 := Nat.lt_of_lt_of_le hxg hb4.size
    clear hlies4 hb4 hxl hx
    go_wp2_with fail
    refine (sector_any _ cap4 (bl b) w4 (by rw [bl_length]; omega) hlt4 HL4.out).mono ?_
    have ha' : (a.size : Int) ≤ 60 := by rw [bl_length] at ha; omega
    rintro e w5 (⟨hb, y, rfl, hy, hb5⟩ | ⟨hb, rfl, hb5⟩)
    · have HB5 := Lib.hid (HB4.out.trans (hb5.mono HB4.out.size))
      have HX5 := Lib.hid (HX4.out.below hb5 (fun _ => hxg4))
      have hxg5 := Nat.lt_of_lt_of_le hxg4 hb5.size
      have HY := Lib.hid hy
      clear hb5 hcv4 hy
      go_wp2_with fail
      have hop := open_seal xg xc (pad (bl a)) w5 hxg5 HX5.out (by rw [pad_length ha]; decide) (by rw [pad_length ha]; exact hxc)
      rw [pad_length ha] at hop
      refine hop.mono ?_
      rintro e w6 ⟨i, rfl, hi, hb6⟩
      obtain ⟨ig, ic, rfl, hig, hil, hic, _⟩ := own_form hi (by rw [pad_length ha]; decide)
      rw [pad_length ha] at hic ⊢
      have hin := str_lies (cap := ic) (LiesB.left (p := bl a) (q := List.replicate (60 - (bl a).length) 0) hil)
      rw [bl_back, bl_length] at hin
      have hic' : (a.size : Int) ≤ (ic : Int) := by omega
      have HB6 := Lib.hid (HB5.out.trans (hb6.mono HB5.out.size))
      have hxs := str_lies (cap := xc) (HX5.out.below hb6 (fun _ => hxg5))
      have hys := str_own (own_below HY.out hb6)
      rw [sct_length ha] at hxs
      clear hb6 hi hil hic hop
      by_cases hsz : a.size = b.size
      · by_cases hab : a = b
        · subst hab
          clear hsz
          go_wp2
          go_ret
          exact ⟨rfl, HB6.out⟩
        · have hs1 := sct_ne hab hsz
          have hs2 := toList_ne hab
          have hsi : (a.size : Int) = (b.size : Int) := by omega
          have HS := Lib.hid hab
          rw [hsz] at hin
          rw [hsi] at hic'
          have hb' : (b.size : Int) ≤ 60 := by omega
          clear hab hsz
          go_wp2
          go_ret
          exact ⟨rfl, HB6.out⟩
      · have hsi : ¬ ((a.size : Int) = (b.size : Int)) := by omega
        clear hsz
        go_wp2
        go_ret
        exact ⟨rfl, HB6.out⟩
    · have HB5 := Lib.hid (HB4.out.trans (hb5.mono HB4.out.size))
      have HX5 := Lib.hid (HX4.out.below hb5 (fun _ => hxg4))
      have hxg5 := Nat.lt_of_lt_of_le hxg4 hb5.size
      clear hb5 hcv4
      go_wp2_with fail
      have hop := open_seal xg xc (pad (bl a)) w5 hxg5 HX5.out (by rw [pad_length ha]; decide) (by rw [pad_length ha]; exact hxc)
      rw [pad_length ha] at hop
      refine hop.mono ?_
      rintro e w6 ⟨i, rfl, hi, hb6⟩
      obtain ⟨ig, ic, rfl, hig, hil, hic, _⟩ := own_form hi (by rw [pad_length ha]; decide)
      rw [pad_length ha] at hic ⊢
      have hin := str_lies (cap := ic) (LiesB.left (p := bl a) (q := List.replicate (60 - (bl a).length) 0) hil)
      rw [bl_back, bl_length] at hin
      have hic' : (a.size : Int) ≤ (ic : Int) := by omega
      have HB6 := Lib.hid (HB5.out.trans (hb6.mono HB5.out.size))
      clear hb6 hi hil hic hop
      go_wp2
      go_ret
      exact ⟨rfl, HB6.out⟩
  · have HB3 := Lib.hid (HB2.out.trans (hb3.mono HB2.out.size))
    clear hb3 hcv
    obtain ⟨w4, cap4, hcv4, hlies4, hlt4, hb4, hcap4⟩ := conv_any b w3
    have HL4 := Lib.hid hlies4
    have HB4 := Lib.hid (HB3.out.trans (hb4.mono HB3.out.size))
    clear hlies4 hb4
    have ha' : decide ((a.size : Int) ≤ 60) = false := by rw [bl_length] at ha; rw [decide_eq_false_iff_not]; omega
    go_wp2_with fail
    refine (sector_any _ cap4 (bl b) w4 (by rw [bl_length]; omega) hlt4 HL4.out).mono ?_
    rintro e w5 (⟨hb, y, rfl, hy, hb5⟩ | ⟨hb, rfl, hb5⟩)
    · have HB5 := Lib.hid (HB4.out.trans (hb5.mono HB4.out.size))
      clear hb5 hcv4 hy
      go_wp2
      go_ret
      exact ⟨rfl, HB5.out⟩
    · have HB5 := Lib.hid (HB4.out.trans (hb5.mono HB4.out.size))
      clear hb5 hcv4
      go_wp2
      go_ret
      exact ⟨rfl, HB5.out⟩

end Go.Proofs.Ytbekgecaoibnjaa
