/- SumLinear's walk. -/
import Derived.Test.YtbekgecaoibnjaaG
import Derived.Test.YtbekgecaoibnjaaH
import Derived.Test.YtbekgecaoibnjaaR
namespace Go.Proofs.Ytbekgecaoibnjaa
open Go.RowKit Go.Sort

/-- The least of three. -/
def m3 (x y z : Nat) : Nat := min (min x y) z
theorem run_m3 (w : World) (ts : Array TypeId) (t : TypeId) (k k' k2 : IntKind) (x y z : Nat) : (Builtin.min_ ts t #[.int k x, .int k' y, .int k2 z]).run Try.prog w = .ok (.int k (m3 x y z : Nat)) w := by
  simp [Builtin.min_, Builtin.min2, m3]
  by_cases h1 : y < x
  · simp only [h1, if_true]
    split <;> omega
  · simp only [h1, if_false]
    split <;> omega
attribute [local go_sem ↓] run_m3
theorem xor8 (x y : UInt8) : bits .xor .u8 (x.toNat : Int) (y.toNat : Int) = ((x ^^^ y).toNat : Int) := by
  rw [UInt8.toNat_xor]
  exact u8_xor_nat _ _ x.toNat_lt y.toNat_lt
def rowL (xx : List UInt8) (n k : Nat) : List UInt8 := xx.take k ++ List.replicate (n - k) 0
theorem rowL_length {xx : List UInt8} {n k : Nat} (h : xx.length = n) (hk : k ≤ n) : (rowL xx n k).length = n := by
  rw [rowL, List.length_append, List.length_take, List.length_replicate]
  omega
theorem rowL_next {xx : List UInt8} {n k : Nat} (h : xx.length = n) (hk : k < n) : (rowL xx n k).set k (bat xx k) = rowL xx n (k + 1) := by
  have h1 : n - k = (n - (k + 1)) + 1 := by omega
  have h2 : (xx.take k).length = k := by rw [List.length_take]; omega
  rw [rowL, h1, List.replicate_succ, List.set_append_right _ _ (by omega), h2, Nat.sub_self, rowL, take_snoc (by omega), List.append_assoc]
  rfl
/-- A row of bytes that may be written. -/
structure RowB (w : World) (g : Nat) (l : List UInt8) : Prop where
  lies : LiesB w g 0 l
  free : ∀ j, j < l.length → w.frozen? ⟨g, j, none⟩ = false
  lt : g < w.heap.size
theorem RowB.own {w : World} {base g cap n : Nat} {l : List UInt8} (hl : l.length = n) (h : w.ownsRow base 5 1 (.slice (some ⟨g, 0, none⟩) n cap) n (bvals l)) : RowB w g l := by
  subst hl
  rcases h.2 with ⟨e, _⟩ | ⟨g', cap', cur, e, _, hg, hc, hm, hs, ht⟩
  · cases e
  · injection e with e1 _ _
    injection e1 with e2
    injection e2 with e3
    subst e3
    refine ⟨fun k hk => ?_, fun j _ => ?_, (Array.getElem?_eq_some_iff.1 hg).1⟩
    · have := h.cells rfl k (.int .u8 (bat l k).toNat) (by simp [bvals, bat, List.getD, hk])
      rwa [Addr.add_lit] at this
    · simp [World.frozen?, hg]
theorem RowB.set {w : World} {g : Nat} {l : List UInt8} (h : RowB w g l) {k : Nat} (_ : k < l.length) (v : UInt8) : RowB (w.setCell ⟨g, k, none⟩ (.int .u8 v.toNat)) g (l.set k v) := by
  refine ⟨fun j hj => ?_, fun j hj => ?_, ?_⟩
  · rw [List.length_set] at hj
    rw [Nat.zero_add]
    have hc := h.lies j hj
    rw [Nat.zero_add] at hc
    by_cases e : k = j
    · subst e
      rw [World.cell?_setCell_same w _ _ hc]
      simp [bat, List.getD, hj]
    · rw [World.cell?_setCell_other (h := show (⟨g, k, none⟩ : Addr) ≠ ⟨g, j, none⟩ from fun e2 => e (by injection e2)), hc]
      simp [bat, List.getD, e]
  · rw [World.frozen?_setCell]
    exact h.free j (by rwa [List.length_set] at hj)
  · rw [World.size_setCell]
    exact h.lt
theorem RowB.drew {w : World} {g : Nat} {l : List UInt8} (h : RowB w g l) : RowB w.drew g l := ⟨h.lies, h.free, h.lt⟩
theorem bat_take {l : List UInt8} {n k : Nat} (h : k < n) : bat (l.take n) k = bat l k := by simp [bat, List.getD, h]
theorem bat_get {a : ByteArray} {k : Nat} (h : k < a.size) : bat (bl a) k = a[k] := by
  have h' : k < a.data.size := h
  simp [bat, bl, List.getD]
  rw [Array.getElem?_eq_getElem h']
  rfl
/-- A slice of these bytes. -/
def SlcB (n : Nat) (l : List UInt8) (v : Value) (w : World) : Prop := ∃ b cap, v = .slice (some ⟨b, 0, none⟩) n cap ∧ b < w.heap.size ∧ LiesB w b 0 l
theorem SlcB.below {n : Nat} {l : List UInt8} {v : Value} {w w' : World} (h : SlcB n l v w) (hB : Below w.heap.size w w') : SlcB n l v w' := by
  obtain ⟨b, cap, h1, h2, h3⟩ := h
  exact ⟨b, cap, h1, Nat.lt_of_lt_of_le h2 hB.size, h3.below hB (fun _ => h2)⟩
/-- What the operations of the last statement yield. -/
def V10 (g n : Nat) (a b c : ByteArray) (xx : List UInt8) (i : Nat) (v : Value) (w : World) : Prop :=
  match i with
  | 0 => v = .slice (some ⟨g, 0, none⟩) n n
  | 1 => v = .int .u32 (crc xx).toNat
  | 2 => v = .string a
  | 3 => v = .int .i64 n
  | 4 => v = .string (a.extract 0 n)
  | 5 => SlcB n ((bl a).take n) v w
  | 6 => v = .int .u32 (crc ((bl a).take n)).toNat
  | 7 => v = .string b
  | 8 => v = .int .i64 n
  | 9 => v = .string (b.extract 0 n)
  | 10 => SlcB n ((bl b).take n) v w
  | 11 => v = .int .u32 (crc ((bl b).take n)).toNat
  | 12 => v = .int .u32 (crc ((bl a).take n) ^^^ crc ((bl b).take n)).toNat
  | 13 => v = .string c
  | 14 => v = .int .i64 n
  | 15 => v = .string (c.extract 0 n)
  | 16 => SlcB n ((bl c).take n) v w
  | 17 => v = .int .u32 (crc ((bl c).take n)).toNat
  | 18 => v = .int .u32 (crc xx).toNat
  | 19 => v = .bool true
  | 20 => v = .bool true
  | _ => True
theorem V10_below {g n : Nat} {a b c : ByteArray} {xx : List UInt8} : ∀ i v w w', Below w.heap.size w w' → V10 g n a b c xx i v w → V10 g n a b c xx i v w' := by
  intro i v w w' hB h
  unfold V10 at *
  split at h
  all_goals first | exact h | exact SlcB.below h hB
theorem rel_of {b k cap : Nat} {l : List UInt8} {wx : World} (hb : b < wx.heap.size) (hl : LiesB wx b 0 l) (hk : l.length = k) (hm : k ≤ 1000) {V : Value → World → Prop} (hV : ∀ {v w'}, v = .int .u32 (crc l).toNat → V v w') :
    relUpon Try.prog V wx (.ok (.enter 14 #[.slice (some ⟨b, 0, none⟩) k cap]) wx) := by
  subst hk
  refine (of_any (some ⟨b, 0, none⟩) b 0 cap l wx (fun _ => rfl) (fun _ => hb) (by omega) hl).mono ?_
  rintro e w' ⟨rfl, hb'⟩
  exact ⟨_, rfl, hb', hV rfl⟩
theorem ext_size {a : ByteArray} {k : Nat} (h : k ≤ a.size) : (a.extract 0 k).size = k := by
  rw [ByteArray.size_extract]
  omega
theorem ext_bl {a : ByteArray} {k : Nat} (_h : k ≤ a.size) : bl (a.extract 0 k) = (bl a).take k := by
  rw [bl, ByteArray.data_extract]
  simp [bl]

set_option maxHeartbeats 6400000 in
theorem linear_walk (a b c : ByteArray) (w : World) : Calls Try.prog 5 #[.string a, .string b, .string c] w fun e w' => e = .returned (.bool true) ∧ Below w.heap.size w w' := by
  go_enter Try.func5, Try.ntmps5
  go_wp2_with fail
  refine (awake_any w).mono ?_
  rintro e w1 ⟨rfl, hb1⟩
  have HB1 := Lib.hid hb1
  clear hb1
  by_cases hbig : (a.size : Int) > 1000
  · go_wp2_with fail
    refine (awake_any w1).mono ?_
    rintro e w2 ⟨rfl, hb2⟩
    have HB2 := Lib.hid (HB1.out.trans (hb2.mono HB1.out.size))
    clear hb2
    go_wp2
    go_ret
    exact ⟨rfl, HB2.out⟩
  by_cases hbig2 : (b.size : Int) > 1000
  · go_wp2_with fail
    refine (awake_any w1).mono ?_
    rintro e w2 ⟨rfl, hb2⟩
    have HB2 := Lib.hid (HB1.out.trans (hb2.mono HB1.out.size))
    clear hb2
    go_wp2
    go_ret
    exact ⟨rfl, HB2.out⟩
  by_cases hbig3 : (c.size : Int) > 1000
  · go_wp2_with fail
    refine (awake_any w1).mono ?_
    rintro e w2 ⟨rfl, hb2⟩
    have HB2 := Lib.hid (HB1.out.trans (hb2.mono HB1.out.size))
    clear hb2
    go_wp2
    go_ret
    exact ⟨rfl, HB2.out⟩
  obtain ⟨n, hn⟩ : ∃ n, n = m3 a.size b.size c.size := ⟨_, rfl⟩
  have hn1 : n ≤ a.size := by rw [hn]; unfold m3; omega
  have hn2 : n ≤ b.size := by rw [hn]; unfold m3; omega
  have hn3 : n ≤ c.size := by rw [hn]; unfold m3; omega
  have hn' := hn.symm
  obtain ⟨w2, hmk, hown, hb2⟩ := make_any n w1 (by omega)
  have hrow : RowB w2 w1.heap.size (List.replicate n 0) := RowB.own (by rw [List.length_replicate]) hown
  have HB2 := Lib.hid (HB1.out.trans (hb2.mono HB1.out.size))
  have HR := Lib.hid hrow
  have hxx : (xl (xl ((bl a).take n) ((bl b).take n)) ((bl c).take n)).length = n := by simp [xl, bl_length]; omega
  have HXX := Lib.hid hxx
  clear hown hb2 hrow hn hxx
  go_wp2_with fail
  obtain ⟨g, hg⟩ : ∃ g, g = w1.heap.size := ⟨_, rfl⟩
  rw [← hg]
  rw [← hg] at HR
  have HGE : Hid (w.heap.size ≤ g) := by rw [hg]; exact HB1.out.size
  clear hg hmk hn'
  go_loopg [38] n (fun q t wr => ∃ k : Nat, k ≤ n ∧ n - k ≤ q ∧ t = .int .i64 k ∧ RowB wr g (rowL (xl (xl ((bl a).take n) ((bl b).take n)) ((bl c).take n)) n k) ∧ Below w.heap.size w wr)
  case atStart => exact ⟨0, Nat.zero_le _, by omega, rfl, HR.out, HB2.out⟩
  case round =>
    obtain ⟨k, hk, hq, rfl, hr, hB⟩ := hrel
    have HB := Lib.hid hB
    have HRR := Lib.hid hr
    by_cases hlt : k < n
    · have f0 : wr.frozen? ⟨g, k, none⟩ = false := hr.free k (by rw [rowL_length HXX.out hk]; exact hlt)
      have f1 := hr.lies k (by rw [rowL_length HXX.out hk]; exact hlt)
      rw [Nat.zero_add] at f1
      have hgl := hr.lt
      have ha : (k : Int) < (a.size : Int) := by omega
      have hb : (k : Int) < (b.size : Int) := by omega
      have hc : (k : Int) < (c.size : Int) := by omega
      have ka : k < a.size := by omega
      have kb : k < b.size := by omega
      have kc : k < c.size := by omega
      have hv : bits .xor .u8 (bits .xor .u8 ((a[k]'ka).toNat : Int) ((b[k]'kb).toNat : Int)) ((c[k]'kc).toNat : Int) = ((bat (xl (xl ((bl a).take n) ((bl b).take n)) ((bl c).take n)) k).toNat : Int) := by
        rw [xor8, xor8, bat_xl (by simp [xl, bl_length]; omega) (by simp [bl_length]; omega), bat_xl (by simp [bl_length]; omega) (by simp [bl_length]; omega), bat_take hlt, bat_take hlt, bat_take hlt, bat_get ka, bat_get kb, bat_get kc]
      have HN := Lib.hid (hr.set (by rw [rowL_length HXX.out hk]; exact hlt) (bat (xl (xl ((bl a).take n) ((bl b).take n)) ((bl c).take n)) k))
      have HN2 := Lib.hid (show RowB (wr.setCell ⟨g, k, none⟩ (.int .u8 (bat (xl (xl ((bl a).take n) ((bl b).take n)) ((bl c).take n)) k).toNat)) g (rowL (xl (xl ((bl a).take n) ((bl b).take n)) ((bl c).take n)) n (k + 1)) from by rw [← rowL_next HXX.out hlt]; exact HN.out)
      clear hr hB HN
      go_wp2
      go_region
      go_wp2
      go_roundg (n - (k + 1))
      case measure => omega
      case rel => exact ⟨k + 1, by omega, Nat.le_refl _, by go_num, HN2.out.drew, (HB.out.setCell HGE.out _).drew⟩
    · obtain rfl : k = n := by omega
      have hka : k ≤ a.size := hn1
      have hkb : k ≤ b.size := hn2
      have hkc : k ≤ c.size := hn3
      have hk1 : k ≤ 1000 := by omega
      have HLX := Lib.hid (show LiesB wr g 0 (xl (xl ((bl a).take k) ((bl b).take k)) ((bl c).take k)) from by
        have h := hr.lies
        rwa [rowL, Nat.sub_self, List.replicate_zero, List.append_nil, List.take_of_length_le (by rw [HXX.out]; exact Nat.le_refl _)] at h)
      clear hB hr
      go_wp2_with fail
      refine wp_region_rel (V10 g k a b c (xl (xl ((bl a).take k) ((bl b).take k)) ((bl c).take k))) (by kernel_rfl) (by kernel_rfl) V10_below ?_ ?_
      · intro i o ho
        match i, ho with
        | 0, ho =>
          obtain rfl := Option.some.inj ho
          intro x wx hb hrest hd
          have h : x.tmps.getD 8 undef = .slice (some ⟨g, 0, none⟩) k k := hrest 8 (by decide)
          exact ⟨Below.refl _ _, h⟩
        | 1, ho =>
          obtain rfl := Option.some.inj ho
          intro x wx hb hrest hd
          have h : x.tmps.getD 56 undef = .slice (some ⟨g, 0, none⟩) k k := hd 0 (by decide)
          simp [execOp, Act.eval, h, go_sem]
          exact rel_of (Nat.lt_of_lt_of_le HRR.out.lt hb.size) (HLX.out.below hb (fun _ => HRR.out.lt)) HXX.out hk1 id
        | 2, ho =>
          obtain rfl := Option.some.inj ho
          intro x wx hb hrest hd
          have h : x.tmps.getD 0 undef = .string a := hrest 0 (by decide)
          exact ⟨Below.refl _ _, h⟩
        | 3, ho =>
          obtain rfl := Option.some.inj ho
          intro x wx hb hrest hd
          have h : x.tmps.getD 7 undef = .int .i64 k := hrest 7 (by decide)
          exact ⟨Below.refl _ _, h⟩
        | 4, ho =>
          obtain rfl := Option.some.inj ho
          intro x wx hb hrest hd
          have h : x.tmps.getD 58 undef = .string a := hd 2 (by decide)
          have h2 : x.tmps.getD 59 undef = .int .i64 k := hd 3 (by decide)
          simp [execOp, Act.eval, h, h2, go_sem]
          rw [if_pos hka]
          exact ⟨Below.refl _ _, rfl⟩
        | 5, ho =>
          obtain rfl := Option.some.inj ho
          intro x wx hb hrest hd
          have h : x.tmps.getD 60 undef = .string (a.extract 0 k) := hd 4 (by decide)
          obtain ⟨wy, cap, hcv, hly, hlt2, hby, _⟩ := conv_any (a.extract 0 k) wx
          simp [execOp, Act.eval, h, go_sem, hcv]
          rw [ext_bl hka] at hly
          exact ⟨hby, wx.heap.size, cap, by rw [Nat.min_eq_left hka], hlt2, hly⟩
        | 6, ho =>
          obtain rfl := Option.some.inj ho
          intro x wx hb hrest hd
          obtain ⟨q, cap, h, hq, hl⟩ : SlcB k ((bl a).take k) (x.tmps.getD 61 undef) wx := hd 5 (by decide)
          simp [execOp, Act.eval, h, go_sem]
          exact rel_of hq hl (by rw [List.length_take, bl_length]; omega) hk1 id
        | 7, ho =>
          obtain rfl := Option.some.inj ho
          intro x wx hb hrest hd
          have h : x.tmps.getD 1 undef = .string b := hrest 1 (by decide)
          exact ⟨Below.refl _ _, h⟩
        | 8, ho =>
          obtain rfl := Option.some.inj ho
          intro x wx hb hrest hd
          have h : x.tmps.getD 7 undef = .int .i64 k := hrest 7 (by decide)
          exact ⟨Below.refl _ _, h⟩
        | 9, ho =>
          obtain rfl := Option.some.inj ho
          intro x wx hb hrest hd
          have h : x.tmps.getD 63 undef = .string b := hd 7 (by decide)
          have h2 : x.tmps.getD 64 undef = .int .i64 k := hd 8 (by decide)
          simp [execOp, Act.eval, h, h2, go_sem]
          rw [if_pos hkb]
          exact ⟨Below.refl _ _, rfl⟩
        | 10, ho =>
          obtain rfl := Option.some.inj ho
          intro x wx hb hrest hd
          have h : x.tmps.getD 65 undef = .string (b.extract 0 k) := hd 9 (by decide)
          obtain ⟨wy, cap, hcv, hly, hlt2, hby, _⟩ := conv_any (b.extract 0 k) wx
          simp [execOp, Act.eval, h, go_sem, hcv]
          rw [ext_bl hkb] at hly
          exact ⟨hby, wx.heap.size, cap, by rw [Nat.min_eq_left hkb], hlt2, hly⟩
        | 11, ho =>
          obtain rfl := Option.some.inj ho
          intro x wx hb hrest hd
          obtain ⟨q, cap, h, hq, hl⟩ : SlcB k ((bl b).take k) (x.tmps.getD 66 undef) wx := hd 10 (by decide)
          simp [execOp, Act.eval, h, go_sem]
          exact rel_of hq hl (by rw [List.length_take, bl_length]; omega) hk1 id
        | 13, ho =>
          obtain rfl := Option.some.inj ho
          intro x wx hb hrest hd
          have h : x.tmps.getD 2 undef = .string c := hrest 2 (by decide)
          exact ⟨Below.refl _ _, h⟩
        | 14, ho =>
          obtain rfl := Option.some.inj ho
          intro x wx hb hrest hd
          have h : x.tmps.getD 7 undef = .int .i64 k := hrest 7 (by decide)
          exact ⟨Below.refl _ _, h⟩
        | 15, ho =>
          obtain rfl := Option.some.inj ho
          intro x wx hb hrest hd
          have h : x.tmps.getD 69 undef = .string c := hd 13 (by decide)
          have h2 : x.tmps.getD 70 undef = .int .i64 k := hd 14 (by decide)
          simp [execOp, Act.eval, h, h2, go_sem]
          rw [if_pos hkc]
          exact ⟨Below.refl _ _, rfl⟩
        | 16, ho =>
          obtain rfl := Option.some.inj ho
          intro x wx hb hrest hd
          have h : x.tmps.getD 71 undef = .string (c.extract 0 k) := hd 15 (by decide)
          obtain ⟨wy, cap, hcv, hly, hlt2, hby, _⟩ := conv_any (c.extract 0 k) wx
          simp [execOp, Act.eval, h, go_sem, hcv]
          rw [ext_bl hkc] at hly
          exact ⟨hby, wx.heap.size, cap, by rw [Nat.min_eq_left hkc], hlt2, hly⟩
        | 17, ho =>
          obtain rfl := Option.some.inj ho
          intro x wx hb hrest hd
          obtain ⟨q, cap, h, hq, hl⟩ : SlcB k ((bl c).take k) (x.tmps.getD 72 undef) wx := hd 16 (by decide)
          simp [execOp, Act.eval, h, go_sem]
          exact rel_of hq hl (by rw [List.length_take, bl_length]; omega) hk1 id
        | 12, ho =>
          obtain rfl := Option.some.inj ho
          intro x wx hb hrest hd
          have h : x.tmps.getD 62 undef = .int .u32 (crc ((bl a).take k)).toNat := hd 6 (by decide)
          have h2 : x.tmps.getD 67 undef = .int .u32 (crc ((bl b).take k)).toNat := hd 11 (by decide)
          have e := xor32 (crc ((bl a).take k)) (crc ((bl b).take k))
          simp [execOp, Act.eval, h, h2, go_sem]
          exact ⟨Below.refl _ _, congrArg (Value.int .u32) e⟩
        | 18, ho =>
          obtain rfl := Option.some.inj ho
          intro x wx hb hrest hd
          have h : x.tmps.getD 68 undef = .int .u32 (crc ((bl a).take k) ^^^ crc ((bl b).take k)).toNat := hd 12 (by decide)
          have h2 : x.tmps.getD 73 undef = .int .u32 (crc ((bl c).take k)).toNat := hd 17 (by decide)
          have e := xor32 (crc ((bl a).take k) ^^^ crc ((bl b).take k)) (crc ((bl c).take k))
          have e3 := crc_three ((bl a).take k) ((bl b).take k) ((bl c).take k) (by rw [List.length_take, List.length_take, bl_length, bl_length]; omega) (by rw [List.length_take, List.length_take, bl_length, bl_length]; omega)
          rw [← e3] at e
          generalize crc ((bl a).take k) ^^^ crc ((bl b).take k) = A at h e
          simp [execOp, Act.eval, h, h2, go_sem]
          exact ⟨Below.refl _ _, congrArg (Value.int .u32) e⟩
        | 19, ho =>
          obtain rfl := Option.some.inj ho
          intro x wx hb hrest hd
          have h : x.tmps.getD 57 undef = .int .u32 (crc (xl (xl ((bl a).take k) ((bl b).take k)) ((bl c).take k))).toNat := hd 1 (by decide)
          have h2 : x.tmps.getD 74 undef = .int .u32 (crc (xl (xl ((bl a).take k) ((bl b).take k)) ((bl c).take k))).toNat := hd 18 (by decide)
          simp [execOp, Act.eval, h, h2, go_sem]
          exact ⟨Below.refl _ _, rfl⟩
        | 20, ho =>
          obtain rfl := Option.some.inj ho
          intro x wx hb hrest hd
          have h : x.tmps.getD 75 undef = .bool true := hd 19 (by decide)
          exact ⟨Below.refl _ _, h⟩
        | n + 21, ho => cases ho
      · rintro x wx ⟨hsz, hdf, hv, hrest, hbel⟩
        have h6 : x.tmps.getD 6 undef = .bool true := hv 20 (by decide)
        have HBX := Lib.hid (HB.out.trans (hbel.mono HB.out.size))
        rw [Array.getD_eq_getD_getElem?] at h6
        clear hv hrest hbel
        go_wp2
        exact bodyPost_ret (v := .bool true) (by simp [results, Try.results5, go_sem, h6]) hdf ⟨rfl, HBX.out⟩

end Go.Proofs.Ytbekgecaoibnjaa
