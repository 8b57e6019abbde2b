/- Equal, Clone, Open, Sector. -/
import Derived.Test.YtbekgecaoibnjaaB
import Derived.Deep.RegionHeld3
namespace Go.Proofs.Ytbekgecaoibnjaa
open Go.RowKit Go.Sort

theorem toNat_ne {x y : UInt8} (h : x ≠ y) : ¬ ((x.toNat : Int) = (y.toNat : Int)) := fun e => h (UInt8.toNat_inj.1 (Int.ofNat.inj e))
theorem take_snoc {l : List UInt8} {k : Nat} (h : k < l.length) : l.take (k + 1) = l.take k ++ [bat l k] := by
  rw [List.take_succ_eq_append_getElem h]
  simp [bat, List.getD, h]

set_option maxHeartbeats 1600000 in
theorem equal_any (b1 o1 c1 b2 o2 c2 : Nat) (l1 l2 : List UInt8) (w : World) (hb1 : b1 < w.heap.size) (hb2 : b2 < w.heap.size) (h1 : LiesB w b1 o1 l1) (h2 : LiesB w b2 o2 l2) (hl2 : l2.length ≤ 1000000) :
    Calls Try.prog 18 #[.slice (some ⟨b1, o1, none⟩) l1.length c1, .slice (some ⟨b2, o2, none⟩) l2.length c2] w fun e w' => e = .returned (.bool (decide (l1 = l2))) ∧ Below w.heap.size w w' := by
  have H1 := Lib.hid h1
  have H2 := Lib.hid h2
  clear h1 h2
  go_enter Try.func18, Try.ntmps18
  by_cases hlen : l1.length = l2.length
  · have e0 : ((l1.length : Int) = (l2.length : Int)) := by omega
    have HE := Lib.hid hlen
    rw [hlen]
    clear hlen e0
    go_wp2
    go_loopg [13] l2.length (fun n t wr => ∃ k : Nat, k ≤ l2.length ∧ l2.length - k ≤ n ∧ t = .int .i64 k ∧ l1.take k = l2.take k ∧ Below w.heap.size w wr)
    case atStart => exact ⟨0, Nat.zero_le _, by omega, rfl, rfl, Below.refl _ _⟩
    case round =>
      obtain ⟨k, hk, hn, rfl, htk, hB⟩ := hrel
      have HT := Lib.hid htk
      have HB := Lib.hid hB
      by_cases hlt : k < l2.length
      · have e1 := (H1.out.below hB (fun _ => hb1)) k (by rw [HE.out]; exact hlt)
        have e2 := (H2.out.below hB (fun _ => hb2)) k hlt
        clear hB htk
        by_cases hx : bat l1 k = bat l2 k
        · have HX := Lib.hid (show l1.take (k + 1) = l2.take (k + 1) from by rw [take_snoc (by rw [HE.out]; exact hlt), take_snoc hlt, hx, HT.out])
          rw [hx] at e1
          clear hx
          go_wp2
          go_quiet (fail)
          go_wp2
          go_roundg (l2.length - (k + 1))
          case measure => omega
          case rel => exact ⟨k + 1, by omega, Nat.le_refl _, by go_num, HX.out, below_drewN HB.out _⟩
        · have hd := toNat_ne hx
          have HX := Lib.hid (show decide (l1 = l2) = false from by
            rw [decide_eq_false_iff_not]
            rintro rfl
            exact hx rfl)
          clear hx
          go_wp2
          go_quiet (fail)
          go_wp2
          go_ret
          rw [HX.out]
          exact ⟨rfl, below_drewN HB.out _⟩
      · obtain rfl : k = l2.length := by omega
        have HX := Lib.hid (show decide (l1 = l2) = true from by
          rw [decide_eq_true_iff]
          rwa [List.take_length, ← HE.out, List.take_length] at htk)
        clear hB htk
        go_wp2
        go_ret
        rw [HX.out]
        exact ⟨rfl, HB.out⟩
  · have e0 : ¬ ((l1.length : Int) = (l2.length : Int)) := by omega
    have HX := Lib.hid (show decide (l1 = l2) = false from by
      rw [decide_eq_false_iff_not]
      rintro rfl
      exact hlen rfl)
    clear hlen
    go_wp2
    go_ret
    rw [HX.out]
    exact ⟨rfl, Below.refl _ _⟩

set_option maxHeartbeats 1600000 in
theorem clone_any (b off cap : Nat) (l : List UInt8) (w : World) (hb : b < w.heap.size) (hc : LiesB w b off l) (hl : l.length ≤ 1000000) :
    Calls Try.prog 20 #[.slice (some ⟨b, off, none⟩) l.length cap] w (CatPost l w) := by
  obtain ⟨i0, hi, hz0, hz1, hz2⟩ := info_parts Try.info5
  have HN := Lib.hid (hc.below ((Below.refl _ w).alloc (Nat.le_refl _) (.cells #[] 5)) (fun _ => hb)).news
  have hown : (w.alloc (.cells #[] 5)).ownsRow w.heap.size 5 1 (.slice (some ⟨w.heap.size, 0, none⟩) 0 0) 0 [] := World.ownsRow_made w _ 0 (Nat.le_refl _) (Nat.zero_le _) rfl
  have HO := Lib.hid hown
  clear hc
  have he : (binOp .eql 23 (.slice (some ⟨b, off, none⟩) l.length cap) (.slice none 0 0)).run Try.prog w = .ok (.bool false) w := by kernel_rfl
  go_enter Try.func20, Try.ntmps20
  go_wp2_with (at_builtin; refine wpList_append_own _ rfl _ _ 23 rfl w.heap.size 5 i0 (.int .u8 0) 1 1 Try.underlying23 hi hz0 hz1 hz2 rfl (by decide) _ _ _ rfl hown ⟨b, off, none⟩ l.length _ (bvals l) rfl (by rw [bvals_length, Nat.mul_one]) ?c1 ?c2 ?c3 ?c4 ?c5 ?_)
  case c1 => exact HN.out
  case c2 => exact bvals_one l
  case c3 => unfold maxLen; omega
  case c4 => omega
  case c5 => simp
  intro v' w3 hown' hgrow _
  have HO3 := Lib.hid hown'
  have HB3 := Lib.hid (((Below.refl _ w).alloc (Nat.le_refl _) _).grown hgrow (by simp) (fun m e => (HO.out.lt m e).1))
  clear hown' hown hgrow
  go_wp2
  go_ret
  exact ⟨_, rfl, by simpa using HO3.out, HB3.out⟩

/-! ### Open -/
def OpenPost (p q : List UInt8) (w : World) (e : Ending) (w' : World) : Prop :=
  (tl (crc p) = q ∧ ∃ v, e = .returned (.tuple #[v, .bool true]) ∧ w'.ownsRow w.heap.size 5 1 v p.length (bvals p) ∧ Below w.heap.size w w') ∨
  (tl (crc p) ≠ q ∧ e = .returned (.tuple #[.slice none 0 0, .bool false]) ∧ Below w.heap.size w w')
theorem LiesB.left {w : World} {b off : Nat} {p q : List UInt8} (h : LiesB w b off (p ++ q)) : LiesB w b off p := fun k hk => by
  rw [h k (by rw [List.length_append]; omega)]
  simp [bat, List.getD, List.getElem?_append, hk]
theorem LiesB.right {w : World} {b off : Nat} {p q : List UInt8} (h : LiesB w b off (p ++ q)) : LiesB w b (off + p.length) q := fun k hk => by
  rw [Nat.add_assoc, h (p.length + k) (by rw [List.length_append]; omega)]
  rw [show bat (p ++ q) (p.length + k) = bat q k from by simp [bat, List.getD, List.getElem?_append_right]]

set_option maxHeartbeats 3200000 in
theorem open_at (b off cap : Nat) (p q : List UInt8) (w : World) (hq : q.length = 4) (hb : b < w.heap.size) (hc : LiesB w b off (p ++ q)) (hl : p.length ≤ 500000) (hcap : p.length + 4 ≤ cap) :
    Calls Try.prog 10 #[.slice (some ⟨b, off, none⟩) (p.length + 4 : Nat) cap] w (OpenPost p q w) := by
  have HP := Lib.hid hc.left
  have HQ := Lib.hid hc.right
  have HL := Lib.hid hq
  clear hc hq
  go_enter Try.func10, Try.ntmps10
  go_wp2
  have hT : Hid (∀ W, RowKit.Below w.heap.size w W → Calls Try.prog 19 #[.slice (some ⟨b, off, none⟩) p.length cap] W (TailPost p W)) := fun W hW =>
    tail_any (some ⟨b, off, none⟩) b off cap p W (fun _ => rfl) (fun _ => Nat.lt_of_lt_of_le hb hW.size) (by omega) (HP.out.below hW (fun _ => hb))
  have hE : Hid (∀ W W' g c, RowKit.Below w.heap.size w W → RowKit.Below W.heap.size W W' → g < W'.heap.size → LiesB W' g 0 (tl (crc p)) → Calls Try.prog 18 #[.slice (some ⟨g, 0, none⟩) 4 4, .slice (some ⟨b, off + p.length, none⟩) 4 c] W' fun e w' => e = .returned (.bool (decide (tl (crc p) = q))) ∧ RowKit.Below w.heap.size w w') := fun W W' g c hW hW' hg hl => by
    have h := equal_any g 0 4 b (off + p.length) c (tl (crc p)) q W' hg (Nat.lt_of_lt_of_le hb (Nat.le_trans hW.size hW'.size)) hl ((HQ.out.below hW (fun _ => hb)).below hW' (fun _ => Nat.lt_of_lt_of_le hb hW.size)) (by rw [HL.out]; decide)
    rw [HL.out] at h
    refine h.mono ?_
    rintro e w2 ⟨rfl, hb2⟩
    exact ⟨rfl, (hW.trans (hW'.mono hW.size)).trans (hb2.mono (Nat.le_trans hW.size hW'.size))⟩
  have h0 : decide ((p.length : Int) < 0) = false := by simp
  have i0 : (0 : Int) ≤ (p.length : Int) := by omega
  have i1 : (p.length : Int) ≤ (cap : Int) := by omega
  have i2 : (p.length : Int) ≤ ((p.length + 4 : Nat) : Int) := by omega
  have i3 : ((p.length + 4 : Nat) : Int) ≤ (cap : Int) := by omega
  have i4 : (p.length : Int) ≤ (p.length : Int) + 4 := by omega
  have i5 : p.length ≤ p.length + 4 := by omega
  have i6 : ((p.length : Int) + 4) ≤ (cap : Int) := by omega
  have hS0 : RowKit.Below w.heap.size w w.drew := (Below.refl _ w).drew
  go_region_held3 (fun w' => RowKit.Below w.heap.size w w') (first | (with_reducible exact hS) | (with_reducible exact hS0))
    (first
      | (go_at_call 19; refine (hT.out _ (by with_reducible assumption)).mono ?_; rintro e w1 ⟨g, rfl, hge, hgl, hlies, hb1⟩; have HT := Lib.hid hlies; have HB1 := Lib.hid hb1; have HS0 := Lib.hid hS0; have hS := HS0.out.trans (hb1.mono hS0.size); clear hlies hb1)
      | (go_at_call 18; refine (hE.out _ _ g _ HS0.out HB1.out hgl HT.out).mono ?_; rintro e w2 ⟨rfl, hb2⟩; clear hS; have hS := hb2; clear hb2))
  have HS := Lib.hid hS
  have hsz := hS.size
  clear hS hsz
  by_cases hq : tl (crc p) = q
  · have hd : decide (tl (crc p) = q) = true := by simpa using hq
    have HQE := Lib.hid hq
    rw [hd]
    clear hd hq
    go_wp2_with fail
    refine (clone_any b off cap p _ (Nat.lt_of_lt_of_le hb HS.out.size) (HP.out.below HS.out (fun _ => hb)) (by omega)).mono ?_
    rintro e w3 ⟨v, rfl, hown, hb3⟩
    have HO := Lib.hid hown
    have HB := Lib.hid (HS.out.trans (hb3.mono HS.out.size))
    clear hown hb3
    go_wp2
    go_ret2
    exact .inl ⟨HQE.out, v, rfl, HO.out.mono HS.out.size, HB.out⟩
  · have hd : decide (tl (crc p) = q) = false := by simpa using hq
    have HQE := Lib.hid hq
    rw [hd]
    clear hd hq
    go_wp2
    go_ret2
    exact .inr ⟨HQE.out, rfl, HS.out⟩

/-- Fewer than four bytes. -/
theorem open_few (a : Option Addr) (n cap : Nat) (w : World) (hn : n < 4) :
    Calls Try.prog 10 #[.slice a n cap] w fun e w' => e = .returned (.tuple #[.slice none 0 0, .bool false]) ∧ Below w.heap.size w w' := by
  have h0 : decide ((n : Int) - 4 < 0) = true := by
    rw [decide_eq_true_iff]
    omega
  have h1 : IntKind.i64.wrap ((n : Int) - 4) = (n : Int) - 4 := by
    rw [IntKind.wrap_i64]
    omega
  have h2 : (n : Int) - 4 < 0 := by omega
  have h3 : (n : Int) < 4 := by omega
  go_enter Try.func10, Try.ntmps10
  go_wp2
  go_quiet (fail)
  go_wp2
  go_ret2
  exact ⟨rfl, below_drewN (Below.refl _ _) _⟩

/-! ### Sector -/
def SectorPost (l : List UInt8) (w : World) (e : Ending) (w' : World) : Prop :=
  (l.length ≤ 60 ∧ ∃ v, e = .returned (.tuple #[v, .bool true]) ∧ w'.ownsRow w.heap.size 5 1 v 64 (bvals ((l ++ List.replicate (60 - l.length) 0) ++ tl (crc (l ++ List.replicate (60 - l.length) 0)))) ∧ Below w.heap.size w w') ∨
  (60 < l.length ∧ e = .returned (.tuple #[.slice none 0 0, .bool false]) ∧ Below w.heap.size w w')

end Go.Proofs.Ytbekgecaoibnjaa
