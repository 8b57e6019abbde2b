/- tail, Grow, Concat, Seal; the law's own awake. -/
import Derived.Test.YtbekgecaoibnjaaA
import Derived.Maps.AppendAt
import Derived.Deep.AppendLies
import Derived.Deep.AppendSrc
import Derived.Deep.Onto
import Derived.Lib.AppendZeros
import Derived.Lib.SlBytesConst
import Derived.Laws.IdiomStrings
namespace Go.Proofs.Ytbekgecaoibnjaa
open Go.RowKit Go.Sort

/-- A check's bytes. -/
def tl (c : BitVec 32) : List UInt8 := [UInt8.ofNat c.toNat, UInt8.ofNat (c.toNat / 256), UInt8.ofNat (c.toNat / 65536), UInt8.ofNat (c.toNat / 16777216)]
def TailPost (l : List UInt8) (w : World) (e : Ending) (w' : World) : Prop :=
  ∃ g, e = .returned (.slice (some ⟨g, 0, none⟩) 4 4) ∧ w.heap.size ≤ g ∧ g < w'.heap.size ∧ LiesB w' g 0 (tl (crc l)) ∧ Below w.heap.size w w'
theorem u8wrap (n : Nat) : IntKind.u8.wrap (n : Int) = ((UInt8.ofNat n).toNat : Int) := by
  rw [IntKind.wrap_u8']
  simp

/-- Bytes, as cells. -/
def bvals (l : List UInt8) : List Value := l.map fun x => .int .u8 x.toNat
theorem LiesB.new (w : World) (l : List UInt8) (e : TypeId) (fr : Nat × Nat) : LiesB (w.alloc (.cells (bvals l).toArray e fr)) w.heap.size 0 l := fun k hk => by
  rw [Nat.zero_add, World.cell?_alloc_mark]
  simp [bvals, bat, List.getD, hk]

set_option maxHeartbeats 1600000 in
theorem tail_any (a : Option Addr) (b off cap : Nat) (l : List UInt8) (w : World) (ha : 0 < l.length → a = some ⟨b, off, none⟩) (hb : 0 < l.length → b < w.heap.size) (hl : l.length ≤ 9223372036854775807) (hc : LiesB w b off l) :
    Calls Try.prog 19 #[.slice a l.length cap] w (TailPost l w) := by
  go_enter Try.func19, Try.ntmps19
  go_wp2_with fail
  refine (of_any a b off cap l w ha hb hl hc).mono ?_
  rintro e w1 ⟨rfl, hb1⟩
  have HB := Lib.hid hb1
  have hsz := hb1.size
  clear hb1 ha hb hc
  have e0 := u8wrap (crc l).toNat
  have e1 := u8wrap ((crc l).toNat / 256)
  have e2 := u8wrap ((crc l).toNat / 65536)
  have e3 := u8wrap ((crc l).toNat / 16777216)
  have c1 : ((crc l).toNat : Int) / 256 = (((crc l).toNat / 256 : Nat) : Int) := by omega
  have c2 : ((crc l).toNat : Int) / 65536 = (((crc l).toNat / 65536 : Nat) : Int) := by omega
  have c3 : ((crc l).toNat : Int) / 16777216 = (((crc l).toNat / 16777216 : Nat) : Int) := by omega
  rw [← c1] at e1
  rw [← c2] at e2
  rw [← c3] at e3
  clear c1 c2 c3
  go_wp2
  go_ret
  exact ⟨_, rfl, hsz, by simp, LiesB.new w1 (tl (crc l)) 5 (0, 0), HB.out.alloc hsz _⟩

def GrowPost (w : World) (e : Ending) (w' : World) : Prop :=
  ∃ v, e = .returned v ∧ w'.ownsRow w.heap.size 5 1 v 0 [] ∧ Below w.heap.size w w'
theorem Try.info5 : (Try.prog.info? 5).map (fun i => (i.zero, i.size, i.bytes)) = some (some (.int .u8 0), 1, 1) := by kernel_rfl

set_option maxHeartbeats 1600000 in
theorem grow_any (n : Nat) (h0 : 0 < n) (hn : n ≤ 1000000) (w : World) :
    Calls Try.prog 23 #[.slice none 0 0, .int .i64 n] w (GrowPost w) := by
  obtain ⟨i0, hi, hz0, hz1, hz2⟩ := info_parts Try.info5
  have hr := Lib.run_append_nil_zeros (P := Try.prog) w 23 3 23 5 i0 (.int .u8 0) .i64 .i64 Try.underlying23 Try.underlying3 hi hz0 n h0 (by rw [hz1]; decide) (by omega) (by rw [hz2]; omega)
  go_enter Try.func23, Try.ntmps23
  go_wp2_with (at_builtin; refine Lib.wpList_append_run _ rfl _ _ _ _ rfl _ _ rfl rfl _ _ hr ?_)
  go_ret
  have hge := grownCap_ge w n 0 5
  refine ⟨_, rfl, ?_, ((Below.refl _ _).alloc (Nat.le_refl _) _).drew⟩
  exact World.ownsRow_made w.drew _ _ (Nat.le_refl _) (grownCap_le_maxLen w n 0 5 (by unfold maxLen; omega)) (by simp only [Array.size_append, size_zeroCells]; simp; omega)

/-! ### Concat of two -/
theorem bvals_length (l : List UInt8) : (bvals l).length = l.length := List.length_map _
theorem bvals_one (l : List UInt8) : ∀ u ∈ bvals l, u.oneCell' = true := by
  intro u hu
  obtain ⟨x, _, rfl⟩ := List.mem_map.1 hu
  rfl
theorem LiesB.news {w : World} {b off : Nat} {l : List UInt8} (h : LiesB w b off l) : ∀ j u, (bvals l)[j]? = some u → w.cell? ((⟨b, off, none⟩ : Addr).add j) = some u := by
  intro j u hu
  have hj : j < l.length := by
    have := (List.getElem?_eq_some_iff.1 hu).1
    rwa [bvals_length] at this
  rw [show ((⟨b, off, none⟩ : Addr).add j) = ⟨b, off + j, none⟩ from by unfold Addr.add; split <;> simp_all, h j hj, ← hu]
  simp [bvals, bat, List.getD, hj]
/-- append(v, nil...). -/
theorem run_append_nil_src (w : World) (i : TypeInfo) (hi : Try.prog.info? 5 = some i) (g cap : Nat) (n : Nat) (hc : n ≤ cap) :
    (Builtin.append_ #[23, 23] 23 #[.slice (some ⟨g, 0, none⟩) n cap, .slice none 0 0]).run Try.prog w = .ok (.slice (some ⟨g, 0, none⟩) n cap) w := by
  have h := run_append_room_src (P := Try.prog) w 23 23 23 5 i Try.underlying23 hi g 0 n cap (.slice none 0 0) 0 [] (Src.ofNil w Try.underlying23 0) hc (fun j hj => absurd hj (Nat.not_lt_zero j)) (fun j hj => absurd hj (Nat.not_lt_zero j))
  exact h
theorem run_append_nil_own (w : World) (i : TypeInfo) (hi : Try.prog.info? 5 = some i) {base n : Nat} {v : Value} {xs : List Value} (hown : w.ownsRow base 5 1 v n xs) :
    (Builtin.append_ #[23, 23] 23 #[v, .slice none 0 0]).run Try.prog w = .ok v w := by
  rcases hown.2 with ⟨rfl, rfl⟩ | ⟨g, cap, cur, rfl, _, _, hc, _⟩
  · have h48 := Src.ofNil (P := Try.prog) (size := i.size) w Try.underlying23 0
    simp [Builtin.append_, run_underlying Try.underlying23, sizeOf, typeInfo, hi, h48.len, h48.cells]
  · exact run_append_nil_src w i hi g cap n hc
def CatPost (l : List UInt8) (w : World) (e : Ending) (w' : World) : Prop :=
  ∃ v, e = .returned v ∧ w'.ownsRow w.heap.size 5 1 v l.length (bvals l) ∧ Below w.heap.size w w'
/-- A slice holds bytes. -/
def Hb (w : World) (a : Option Addr) (c : Nat) (l : List UInt8) : Prop :=
  (a = none ∧ c = 0 ∧ l = []) ∨ ∃ b off, a = some ⟨b, off, none⟩ ∧ b < w.heap.size ∧ LiesB w b off l
theorem Hb.below {w w' : World} {a : Option Addr} {c : Nat} {l : List UInt8} (h : Hb w a c l) {B : Nat} (hB : Below B w w') (hs : w.heap.size ≤ B) : Hb w' a c l :=
  h.imp id fun ⟨b, off, h1, h2, h3⟩ => ⟨b, off, h1, Nat.lt_of_lt_of_le h2 hB.size, h3.below hB (fun _ => Nat.lt_of_lt_of_le h2 hs)⟩

theorem Hb.alloc {w : World} {a : Option Addr} {c : Nat} {l : List UInt8} (h : Hb w a c l) (o : Obj) : Hb (w.alloc o) a c l := h.below ((Below.refl _ w).alloc (Nat.le_refl _) o) (Nat.le_refl _)
theorem Hb.mk {w : World} {b off c : Nat} {l : List UInt8} (hb : b < w.heap.size) (h : LiesB w b off l) : Hb w (some ⟨b, off, none⟩) c l := .inr ⟨b, off, rfl, hb, h⟩

set_option maxHeartbeats 3200000 in
theorem concat_any (g cap : Nat) (a1 a2 : Option Addr) (c1 c2 : Nat) (l1 l2 : List UInt8) (w : World) (hg0 : w.cell? ⟨g, 0, none⟩ = some (.slice a1 l1.length c1)) (hg1 : w.cell? ⟨g, 1, none⟩ = some (.slice a2 l2.length c2))
    (hg : g < w.heap.size) (h1 : Hb w a1 c1 l1) (h2 : Hb w a2 c2 l2) (h0 : 0 < l1.length + l2.length) (hm1 : l1.length ≤ 500000) (hm2 : l2.length ≤ 500000) :
    Calls Try.prog 21 #[.slice (some ⟨g, 0, none⟩) 2 cap] w (CatPost (l1 ++ l2) w) := by
  have H1 := Lib.hid h1
  have H2 := Lib.hid h2
  clear h1 h2
  go_enter Try.func21, Try.ntmps21
  go_wp2
  go_loopg [3, 11] 2 (fun n sz t wr => (n = 2 ∧ t = .int .i64 0 ∧ sz = .int .i64 0 ∨ n = 1 ∧ t = .int .i64 1 ∧ sz = .int .i64 l1.length ∨ n = 0 ∧ t = .int .i64 2 ∧ sz = .int .i64 (l1.length + l2.length)) ∧ wr = w)
  case atStart => exact ⟨.inl ⟨rfl, rfl, rfl⟩, rfl⟩
  case round =>
    obtain ⟨⟨rfl, rfl, rfl⟩ | ⟨rfl, rfl, rfl⟩ | ⟨rfl, rfl, rfl⟩, heq⟩ := hrel
    all_goals (have heq' := heq.symm; subst heq')
    · go_wp2
      go_roundg 1
      case measure => omega
      case rel => exact ⟨.inr (.inl ⟨rfl, rfl, by go_num⟩), rfl⟩
    · go_wp2
      go_roundg 0
      case measure => omega
      case rel => exact ⟨.inr (.inr ⟨rfl, rfl, by go_num⟩), rfl⟩
    · go_wp2_with fail
      have hgr := grow_any (l1.length + l2.length) h0 (by omega) w
      rw [Int.natCast_add] at hgr
      refine hgr.mono ?_
      rintro e w1 ⟨v, rfl, hown, hb1⟩
      have hsz := hb1.size
      have k1 := H1.out.below hb1 (Nat.le_refl _)
      have k2 := H2.out.below hb1 (Nat.le_refl _)
      have d0 := (hb1.cell (p := ⟨g, 0, none⟩) hg).trans hg0
      have d1 := (hb1.cell (p := ⟨g, 1, none⟩) hg).trans hg1
      have K1 := Lib.hid k1
      have K2 := Lib.hid k2
      have HB := Lib.hid hb1
      have HO := Lib.hid hown
      clear k1 k2 hb1 hown hgr
      obtain ⟨i0, hi, hz0, hz1, hz2⟩ := info_parts Try.info5
      go_wp2
      go_loopg [6, 27] 2 (fun n v t wx => (n = 2 ∧ t = .int .i64 0 ∧ wx.ownsRow w.heap.size 5 1 v 0 [] ∨ n = 1 ∧ t = .int .i64 1 ∧ wx.ownsRow w.heap.size 5 1 v l1.length (bvals l1) ∨ n = 0 ∧ t = .int .i64 2 ∧ wx.ownsRow w.heap.size 5 1 v (l1.length + l2.length) (bvals l1 ++ bvals l2)) ∧ Below w.heap.size w wx)
      case atStart => exact ⟨.inl ⟨rfl, rfl, HO.out⟩, HB.out⟩
      case round =>
        obtain ⟨⟨rfl, rfl, hown⟩ | ⟨rfl, rfl, hown⟩ | ⟨rfl, rfl, hown⟩, hB⟩ := hrel
        · have HB2 := Lib.hid hB
          have e0 := (hB.cell (p := ⟨g, 0, none⟩) hg).trans hg0
          have kk := H1.out.below hB (Nat.le_refl _)
          have hle := hB.size
          clear hB
          rcases kk with ⟨rfl, rfl, hl0⟩ | ⟨b, off, rfl, hbl, hlies⟩
          · rw [hl0, List.length_nil] at e0
            have hr := run_append_nil_own _ i0 hi hown
            have HO2 := Lib.hid hown
            have HL0 := Lib.hid hl0
            clear hown hl0
            go_wp2_with (at_builtin; refine Lib.wpList_append_run _ rfl _ _ _ _ rfl _ _ rfl rfl _ _ hr ?_)
            go_roundg 1
            case measure => omega
            case rel => exact ⟨.inr (.inl ⟨rfl, rfl, by rw [HL0.out]; simpa [bvals] using HO2.out⟩), HB2.out⟩
          · have HN := Lib.hid hlies.news
            have HO2 := Lib.hid hown
            clear hlies
            go_wp2_with (at_builtin; refine wpList_append_own _ rfl _ _ 23 rfl w.heap.size 5 i0 (.int .u8 0) 1 1 Try.underlying23 hi hz0 hz1 hz2 rfl (by decide) _ _ _ rfl hown ⟨b, off, none⟩ l1.length _ (bvals l1) rfl (by rw [bvals_length, Nat.mul_one]) ?c1 ?c2 ?c3 ?c4 ?c5 ?_)
            case c1 => exact HN.out
            case c2 => exact bvals_one l1
            case c3 => unfold maxLen; omega
            case c4 => omega
            case c5 => exact hle
            intro v' w3 hown' hgrow _
            have HO3 := Lib.hid hown'
            have HB3 := Lib.hid (HB2.out.grown hgrow hle (fun m e => (HO2.out.lt m e).1))
            clear hown' hown hgrow
            go_wp2
            go_roundg 1
            case measure => omega
            case rel => exact ⟨.inr (.inl ⟨rfl, rfl, by simpa using HO3.out⟩), HB3.out⟩
        · have HB2 := Lib.hid hB
          have e0 := (hB.cell (p := ⟨g, 1, none⟩) hg).trans hg1
          have kk := H2.out.below hB (Nat.le_refl _)
          have hle := hB.size
          clear hB
          rcases kk with ⟨rfl, rfl, hl0⟩ | ⟨b, off, rfl, hbl, hlies⟩
          · rw [hl0, List.length_nil] at e0
            have hr := run_append_nil_own _ i0 hi hown
            have HO2 := Lib.hid hown
            have HL0 := Lib.hid hl0
            clear hown hl0
            go_wp2_with (at_builtin; refine Lib.wpList_append_run _ rfl _ _ _ _ rfl _ _ rfl rfl _ _ hr ?_)
            go_roundg 0
            case measure => omega
            case rel => exact ⟨.inr (.inr ⟨rfl, rfl, by rw [HL0.out]; simpa [bvals] using HO2.out⟩), HB2.out⟩
          · have HN := Lib.hid hlies.news
            have HO2 := Lib.hid hown
            clear hlies
            go_wp2_with (at_builtin; refine wpList_append_own _ rfl _ _ 23 rfl w.heap.size 5 i0 (.int .u8 0) 1 1 Try.underlying23 hi hz0 hz1 hz2 rfl (by decide) _ _ _ rfl hown ⟨b, off, none⟩ l2.length _ (bvals l2) rfl (by rw [bvals_length, Nat.mul_one]) ?c1 ?c2 ?c3 ?c4 ?c5 ?_)
            case c1 => exact HN.out
            case c2 => exact bvals_one l2
            case c3 => unfold maxLen; omega
            case c4 => omega
            case c5 => exact hle
            intro v' w3 hown' hgrow _
            have HO3 := Lib.hid hown'
            have HB3 := Lib.hid (HB2.out.grown hgrow hle (fun m e => (HO2.out.lt m e).1))
            clear hown' hown hgrow
            go_wp2
            go_roundg 0
            case measure => omega
            case rel => exact ⟨.inr (.inr ⟨rfl, rfl, HO3.out⟩), HB3.out⟩
        · have HB3 := Lib.hid hB
          have HO3 := Lib.hid hown
          clear hown hB
          go_wp2
          go_ret
          exact ⟨_, rfl, by simpa [bvals] using HO3.out, HB3.out⟩

set_option maxHeartbeats 1600000 in
/-- Bytes with their check. -/
theorem seal_any (a : Option Addr) (cap : Nat) (l : List UInt8) (w : World) (h : Hb w a cap l) (hl : l.length ≤ 500000) :
    Calls Try.prog 16 #[.slice a l.length cap] w (CatPost (l ++ tl (crc l)) w) := by
  have H := Lib.hid h
  have ht : Calls Try.prog 19 #[.slice a l.length cap] w (TailPost l w) := by
    rcases h with ⟨rfl, rfl, rfl⟩ | ⟨b, off, rfl, hb, hc⟩
    · exact tail_any none 0 0 0 [] w (fun h => absurd h (Nat.lt_irrefl _)) (fun h => absurd h (Nat.lt_irrefl _)) (by decide) (fun k hk => absurd hk (Nat.not_lt_zero k))
    · exact tail_any _ b off cap l w (fun _ => rfl) (fun _ => hb) (by omega) hc
  clear h
  go_enter Try.func16, Try.ntmps16
  go_wp2_with fail
  refine ht.mono ?_
  rintro e w1 ⟨g, rfl, hge, hgl, hlies, hb1⟩
  have HB := Lib.hid hb1
  have hsz := hb1.size
  have HT := Lib.hid hlies
  clear hb1 hlies ht
  go_wp2_with fail
  refine (concat_any _ _ a (some ⟨g, 0, none⟩) cap 4 l (tl (crc l)) _ ?c1 ?c2 ?c3 ?c4 ?c5 ?c6 ?c7 ?c8).mono ?_
  case c1 => simp
  case c2 => simp [tl]
  case c3 => simp
  case c4 => exact (H.out.below HB.out (Nat.le_refl _)).alloc _
  case c5 => exact (Hb.mk hgl HT.out).alloc _
  case c6 => simp [tl]
  case c7 => exact hl
  case c8 => simp [tl]
  rintro e w2 ⟨v, rfl, hown, hb2⟩
  have HO := Lib.hid hown
  have HB2 := Lib.hid ((HB.out.alloc hsz _).trans (hb2.mono (by simp; omega)))
  clear hown hb2
  go_wp2
  go_ret
  exact ⟨_, rfl, HO.out.mono (by simp; omega), HB2.out⟩

def nine : List UInt8 := [49, 50, 51, 52, 53, 54, 55, 56, 57]
theorem crc_nine : crc nine = 3808858755 := by decide +kernel
theorem crc_nil : crc [] = 0 := by decide +kernel

set_option maxHeartbeats 3200000 in
theorem awake_any (w : World) : Calls Try.prog 9 #[] w fun e w' => e = .returned (.bool true) ∧ Below w.heap.size w w' := by
  have hcv := Lib.run_convert_bytes_const (P := Try.prog) w 23 5 (bvals nine).toArray 9 9 Try.underlying23 Try.underlying5
  have hl9 : LiesB (w.alloc (.cells (bvals nine).toArray 5 (9, 10))) w.heap.size 0 nine := LiesB.new w nine 5 (9, 10)
  have hsz9 : (bvals nine).toArray.size = 9 := rfl
  rw [hsz9] at hcv
  have hbv : (bvals nine).toArray = #[.int .u8 49, .int .u8 50, .int .u8 51, .int .u8 52, .int .u8 53, .int .u8 54, .int .u8 55, .int .u8 56, .int .u8 57] := rfl
  rw [hbv] at hcv hl9
  clear hsz9 hbv
  go_enter Try.func9, Try.ntmps9
  go_wp2_with fail
  refine (of_any (some ⟨w.heap.size, 0, none⟩) w.heap.size 0 9 nine _ (fun _ => rfl) (fun _ => by simp) (by decide) hl9).mono ?_
  rw [crc_nine]
  rintro e w1 ⟨rfl, hb1⟩
  have HB := Lib.hid (((Below.refl _ w).alloc (Nat.le_refl _) _).trans (hb1.mono (by simp)))
  clear hb1
  go_wp2_with fail
  refine (seal_any none 0 [] _ (.inl ⟨rfl, rfl, rfl⟩) (by decide)).mono ?_
  rintro e w2 ⟨v, rfl, hown, hb2⟩
  obtain ⟨g, cap, rfl, _⟩ := hown.form (by simp [tl])
  have hlen : ([] ++ tl (crc [])).length = 4 := rfl
  rw [hlen]
  have HB2 := Lib.hid (HB.out.trans (hb2.mono HB.out.size))
  clear hown hb2 hlen
  go_wp2
  go_ret
  exact ⟨rfl, HB2.out⟩

end Go.Proofs.Ytbekgecaoibnjaa
