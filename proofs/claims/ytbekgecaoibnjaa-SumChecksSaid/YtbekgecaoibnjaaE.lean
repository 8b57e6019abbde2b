/- SumOpens' walk. -/
import Derived.Test.YtbekgecaoibnjaaD
namespace Go.Proofs.Ytbekgecaoibnjaa
open Go.RowKit Go.Sort

theorem own_form {w : World} {base : Nat} {v : Value} {l : List UInt8} (h : w.ownsRow base 5 1 v l.length (bvals l)) (hn : 0 < l.length) :
    ∃ g cap, v = .slice (some ⟨g, 0, none⟩) l.length cap ∧ g < w.heap.size ∧ LiesB w g 0 l ∧ l.length ≤ cap ∧ base ≤ g := by
  rcases h.2 with ⟨_, h0⟩ | ⟨g, cap, cur, rfl, hb, hg, hc, _⟩
  · omega
  · refine ⟨g, cap, rfl, (Array.getElem?_eq_some_iff.1 hg).1, ?_, hc, hb⟩
    intro k hk
    have := h.cells rfl k (.int .u8 (bat l k).toNat) (by simp [bvals, bat, List.getD, hk])
    rwa [Addr.add_lit] at this
theorem own_below {w w' : World} {base : Nat} {v : Value} {n : Nat} {xs : List Value} (h : w.ownsRow base 5 1 v n xs) (hB : Below w.heap.size w w') : w'.ownsRow base 5 1 v n xs := by
  refine ⟨h.1, h.2.imp id ?_⟩
  rintro ⟨g, cap, cur, h1, h2, h3, h4⟩
  exact ⟨g, cap, cur, h1, h2, (hB.block g (Array.getElem?_eq_some_iff.1 h3).1).trans h3, h4⟩
theorem str_ne {l : List UInt8} {s : ByteArray} (h : l.length ≠ s.size) : (l == s.toList) = false := by
  rw [beq_eq_false_iff_ne, ByteArray.toList_eq]
  rintro rfl
  exact h rfl
def sealed (s : ByteArray) : List UInt8 := bl s ++ tl (crc (bl s))
theorem sealed_length (s : ByteArray) : (sealed s).length = s.size + 4 := by rw [sealed, List.length_append, bl_length]; rfl

def SealedPost (p : List UInt8) (w : World) (e : Ending) (w' : World) : Prop := ∃ v, e = .returned (.tuple #[v, .bool true]) ∧ w'.ownsRow w.heap.size 5 1 v p.length (bvals p) ∧ Below w.heap.size w w'
/-- What is sealed is opened. -/
theorem open_seal (g cap : Nat) (p : List UInt8) (w : World) (hb : g < w.heap.size) (hc : LiesB w g 0 (p ++ tl (crc p))) (hl : p.length ≤ 500000) (hcap : p.length + 4 ≤ cap) :
    Calls Try.prog 10 #[.slice (some ⟨g, 0, none⟩) (p.length + 4 : Nat) cap] w (SealedPost p w) := by
  refine (open_at g 0 cap p (tl (crc p)) w rfl hb hc hl hcap).mono ?_
  rintro e w' (⟨_, v, h1, h2, h3⟩ | ⟨hne, _⟩)
  · exact ⟨v, h1, h2, h3⟩
  · exact absurd rfl hne
def MaybePost (n : Nat) (w : World) (e : Ending) (w' : World) : Prop :=
  ((∃ v l, e = .returned (.tuple #[v, .bool true]) ∧ l.length + 4 = n ∧ w'.ownsRow w.heap.size 5 1 v l.length (bvals l)) ∨ e = .returned (.tuple #[.slice none 0 0, .bool false])) ∧ Below w.heap.size w w'
/-- Whatever is opened has four bytes fewer. -/
theorem open_maybe (g cap n : Nat) (l : List UInt8) (w : World) (hn : l.length = n) (hb : g < w.heap.size) (hc : LiesB w g 0 l) (hl : n ≤ 500000) (hcap : n ≤ cap) :
    Calls Try.prog 10 #[.slice (some ⟨g, 0, none⟩) n cap] w (MaybePost n w) := by
  by_cases h4 : n < 4
  · refine (open_few _ _ _ _ h4).mono ?_
    rintro e w' ⟨h1, h2⟩
    exact ⟨.inr h1, h2⟩
  · have hq : (l.drop (n - 4)).length = 4 := by rw [List.length_drop]; omega
    have hp : (l.take (n - 4)).length + 4 = n := by rw [List.length_take]; omega
    have h := open_at g 0 cap (l.take (n - 4)) (l.drop (n - 4)) w hq hb (by rw [List.take_append_drop]; exact hc) (by omega) (by omega)
    rw [hp] at h
    refine h.mono ?_
    rintro e w' (⟨_, v, h1, h2, h3⟩ | ⟨_, h1, h2⟩)
    · exact ⟨.inl ⟨v, _, h1, hp, h2⟩, h3⟩
    · exact ⟨.inr h1, h2⟩

set_option maxHeartbeats 6400000 in
theorem opens_walk (s : ByteArray) (m : UInt8) (w : World) : Calls Try.prog 6 #[.string s, .int .u8 m.toNat] w fun e w' => e = .returned (.bool true) ∧ Below w.heap.size w w' := by
  obtain ⟨i0, hi, hz0, hz1, hz2⟩ := info_parts Try.info5
  go_enter Try.func6, Try.ntmps6
  go_wp2_with fail
  refine (awake_any w).mono ?_
  rintro e w1 ⟨rfl, hb1⟩
  have HB1 := Lib.hid hb1
  clear hb1
  by_cases hbig : (s.size : Int) > 1000
  · go_wp2_with fail
    refine (awake_any w1).mono ?_
    rintro e w2 ⟨rfl, hb2⟩
    have HB2 := Lib.hid (HB1.out.trans (hb2.mono HB1.out.size))
    clear hb2
    go_wp2
    go_ret
    exact ⟨rfl, HB2.out⟩
  · obtain ⟨w2, cap, hcv, hlies, hlt, hb2, hcap⟩ := conv_any s w1
    have HL := Lib.hid hlies
    have HB2 := Lib.hid (HB1.out.trans (hb2.mono HB1.out.size))
    clear hlies hb2
    go_wp2_with fail
    refine (seal_any _ cap (bl s) w2 (Hb.mk hlt HL.out) (by rw [bl_length]; omega)).mono ?_
    rintro e w3 ⟨v, rfl, hown3, hb3⟩
    obtain ⟨g, cap3, rfl, hg3, hlies3, hcap3, _⟩ := own_form hown3 (by simp [tl])
    have HS3 := Lib.hid hlies3
    have HB3 := Lib.hid (HB2.out.trans (hb3.mono HB2.out.size))
    rw [show (bl s ++ tl (crc (bl s))).length = s.size + 4 from sealed_length s] at hcap3 ⊢
    clear hown3 hlies3 hb3 hcv hcap hlt
    go_wp2_with fail
    refine (open_seal g cap3 (bl s) w3 hg3 HS3.out (by rw [bl_length]; omega) (by rw [bl_length]; exact hcap3)).mono ?_
    rintro e w4 ⟨x, rfl, hown4, hb4⟩
    have HX4 := Lib.hid hown4
    have HB4 := Lib.hid (HB3.out.trans (hb4.mono HB3.out.size))
    have HS4 := Lib.hid (HS3.out.below hb4 (fun _ => hg3))
    have hg4 : g < w4.heap.size := Nat.lt_of_lt_of_le hg3 hb4.size
    have hK4 := Lib.hid hb4
    clear hown4 hb4 hg3
    have hown : (w4.alloc (.cells #[] 5)).ownsRow w4.heap.size 5 1 (.slice (some ⟨w4.heap.size, 0, none⟩) 0 0) 0 [] := World.ownsRow_made w4 _ 0 (Nat.le_refl _) (Nat.zero_le _) rfl
    have HN := Lib.hid (HS4.out.below ((Below.refl _ w4).alloc (Nat.le_refl _) (.cells #[] 5)) (fun _ => hg4)).news
    have HO := Lib.hid hown
    have h1000 : s.size ≤ 1000 := by omega
    go_wp2_with (at_builtin; refine wpList_append_own _ rfl _ _ 23 rfl w4.heap.size 5 i0 (.int .u8 0) 1 1 Try.underlying23 hi hz0 hz1 hz2 rfl (by decide) _ _ _ rfl hown ⟨g, 0, none⟩ (s.size + 4) _ (bvals (sealed s)) rfl (by rw [bvals_length, Nat.mul_one]; exact sealed_length s) ?c1 ?c2 ?c3 ?c4 ?c5 ?_)
    case c1 => exact HN.out
    case c2 => exact bvals_one _
    case c3 => unfold maxLen; omega
    case c4 => omega
    case c5 => simp
    intro v' w5 hown' hgrow _
    have HO5 := Lib.hid hown'
    have hB5 := ((Below.refl w4.heap.size w4).alloc (Nat.le_refl _) (.cells #[] 5)).grown hgrow (by simp) (fun m e => (HO.out.lt m e).1)
    have HB5 := Lib.hid hB5
    have hsz5 := hB5.size
    clear hown hgrow hB5
    go_wp2_with (at_builtin; refine wpList_append_own _ rfl _ _ 23 rfl w4.heap.size 5 i0 (.int .u8 0) 1 1 Try.underlying23 hi hz0 hz1 hz2 rfl (by decide) _ _ _ rfl (hown'.alloc _) ⟨w5.heap.size, 0, none⟩ 1 1 [.int .u8 m.toNat] rfl rfl ?c1 ?c2 ?c3 ?c4 ?c5 ?_)
    case c1 => exact cell_one_new _ _ _
    case c2 => intro u hu; simp only [List.mem_cons, List.not_mem_nil, or_false] at hu; subst hu; rfl
    case c3 => unfold maxLen; omega
    case c4 => omega
    case c5 => simp; omega
    intro v6 w6 hown6 hgrow6 _
    have hB6 := (HB5.out.alloc hsz5 (.cells #[.int .u8 m.toNat] 5)).grown hgrow6 (by simp; omega) (fun m e => (HO5.out.lt m e).1)
    have HB6 := Lib.hid (HB4.out.trans (hB6.mono HB4.out.size))
    have HK6 := Lib.hid hB6
    have hl6 : (sealed s ++ [m]).length = s.size + 4 + 1 := by rw [List.length_append, sealed_length]; rfl
    have hown7 : w6.ownsRow w4.heap.size 5 1 v6 (sealed s ++ [m]).length (bvals (sealed s ++ [m])) := by rw [hl6]; simpa [bvals] using hown6
    obtain ⟨g6, cap6, rfl, hg6, hlies6, hcap6, _⟩ := own_form hown7 (by rw [hl6]; omega)
    rw [hl6] at hcap6 ⊢
    have HL6 := Lib.hid hlies6
    clear hown6 hown7 hgrow6 hB6 hown' hlies6
    go_wp2_with fail
    refine (open_maybe g6 cap6 (s.size + 4 + 1) (sealed s ++ [m]) w6 hl6 hg6 HL6.out (by omega) hcap6).mono ?_
    rintro e w7 ⟨hy, hb7⟩
    have HB7 := Lib.hid (HB6.out.trans (hb7.mono HB6.out.size))
    have HS7 := Lib.hid ((HS4.out.below HK6.out (fun _ => hg4)).below hb7 (fun _ => Nat.lt_of_lt_of_le hg4 HK6.out.size))
    have hg7 : g < w7.heap.size := Nat.lt_of_lt_of_le hg4 (Nat.le_trans HK6.out.size hb7.size)
    have HX7 := Lib.hid (own_below (own_below HX4.out HK6.out) hb7)
    have hl3 : ((sealed s).take (s.size + 3)).length = s.size + 3 := by rw [List.length_take, sealed_length]; omega
    have HL7 : Hid (LiesB w7 g 0 ((sealed s).take (s.size + 3))) := (show LiesB w7 g 0 ((sealed s).take (s.size + 3) ++ (sealed s).drop (s.size + 3)) from by rw [List.take_append_drop]; exact HS7.out).left
    have i1 : (s.size : Int) + 3 ≤ (cap3 : Int) := by omega
    have i2 : (0 : Int) ≤ (s.size : Int) + 3 := by omega
    have i3 : ((s.size : Int) + 3).toNat = s.size + 3 := by omega
    have HZ := open_maybe g cap3 (s.size + 3) ((sealed s).take (s.size + 3)) w7 hl3 hg7 HL7.out (by omega) (by omega)
    clear hb7
    rcases hy with ⟨y, ly, rfl, hly, hyo⟩ | rfl
    · have hy7 := str_own hyo
      have hyn := str_ne (l := ly) (s := s) (by omega)
      clear hly
      have HY7 := Lib.hid hyo
      clear hyo hy7
      go_wp2_with fail
      refine HZ.mono ?_
      rintro e w8 ⟨hz, hb8⟩
      have HB8 := Lib.hid (HB7.out.trans (hb8.mono HB7.out.size))
      have hx := str_own (own_below HX7.out hb8)
      have hy := str_own (own_below HY7.out hb8)
      rw [bl_back] at hx
      clear HZ hb8
      rcases hz with ⟨z, lz, rfl, hlz, hzo⟩ | rfl
      · have hz8 := str_own hzo
        have hzn := str_ne (l := lz) (s := s) (by omega)
        clear hzo hlz
        go_wp2
        go_ret
        exact ⟨rfl, HB8.out⟩
      · go_wp2
        go_ret
        exact ⟨rfl, HB8.out⟩
    · go_wp2_with fail
      refine HZ.mono ?_
      rintro e w8 ⟨hz, hb8⟩
      have HB8 := Lib.hid (HB7.out.trans (hb8.mono HB7.out.size))
      have hx := str_own (own_below HX7.out hb8)
      rw [bl_back] at hx
      clear HZ hb8
      rcases hz with ⟨z, lz, rfl, hlz, hzo⟩ | rfl
      · have hz8 := str_own hzo
        have hzn := str_ne (l := lz) (s := s) (by omega)
        clear hzo hlz
        go_wp2
        go_ret
        exact ⟨rfl, HB8.out⟩
      · go_wp2
        go_ret
        exact ⟨rfl, HB8.out⟩

end Go.Proofs.Ytbekgecaoibnjaa
