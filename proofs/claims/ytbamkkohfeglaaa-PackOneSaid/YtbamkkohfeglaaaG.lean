/- PackLays' walk. -/
import Derived.Test.YtbamkkohfeglaaaF
import Derived.Test.YtbamkkohfeglaaaS
namespace Go.Proofs.Ytbamkkohfeglaaa
open Go.RowKit Go.Sort

theorem own_reads {B : Nat} {w : World} {v : Value} {l : List UInt8} (h : Own B w v l) : ∀ W, Below w.heap.size w W → (convert 22 9 v).run Try.prog W = .ok (.string (bs l)) W := fun _ hW => own_str (own_below h hW (Nat.le_refl _))
theorem hb_reads {w : World} {a : Option Addr} {c : Nat} {l : List UInt8} (h : Hb w.heap.size w a c l) : ∀ W, Below w.heap.size w W → (convert 22 9 (.slice a l.length c)).run Try.prog W = .ok (.string (bs l)) W := fun W hW => by
  rcases h with ⟨rfl, rfl, rfl⟩ | ⟨b, off, rfl, hb, _, hl⟩
  · exact str_nil W
  · exact str_lies (hl.same (hW.block b hb))
theorem slice_full {w : World} {a : Option Addr} {c : Nat} {l : List UInt8} (h : Hb w.heap.size w a c l) (W : World) : (Instr.slice 22 (.slice a l.length c) none (some (.int .i64 l.length)) (some (.int .i64 l.length))).run Try.prog W = .ok (.slice a l.length l.length) W := by
  rcases h with ⟨rfl, rfl, rfl⟩ | ⟨b, off, rfl, hb, hc, hl⟩
  · kernel_rfl
  · rw [run_slice_hm W 22 (some ⟨b, off, none⟩) l.length c (by rw [Try.underlying22]; rfl) .i64 .i64 l.length l.length (by omega) (Int.le_refl _) (by omega)]
    obtain ⟨i0, hi, _⟩ := info_parts Try.info5
    have he : Try.prog.elem 22 = 5 := by kernel_rfl
    simp [he, sliced, sizeOf, typeInfo, hi, Addr.add]
theorem hb_below {w w' : World} {a : Option Addr} {c : Nat} {l : List UInt8} (h : Hb w.heap.size w a c l) (hB : Below w.heap.size w w') : Hb w'.heap.size w' a c l := (h.same fun b hb => hB.block b hb).mono hB.size
theorem rel_rnum (z : Int) (wx : World) {V : Value → World → Prop} (hV : ∀ {v w'}, v = .string (bs (num (clamp z))) → V v w' := by exact id) : relUpon Try.prog V wx (.ok (.enter 13 #[.int .i64 z]) wx) := by
  refine (rnum_any z wx).mono ?_
  rintro e w' ⟨rfl, hb⟩
  exact ⟨_, rfl, hb, hV rfl⟩
theorem rel_rtext (s : ByteArray) (wx : World) (hs : s.size ≤ 3000) {V : Value → World → Prop} (hV : ∀ {v w'}, v = .string (bs (txt s)) → V v w' := by exact id) : relUpon Try.prog V wx (.ok (.enter 14 #[.string s]) wx) := by
  refine (rtext_any s hs wx).mono ?_
  rintro e w' ⟨rfl, hb⟩
  exact ⟨_, rfl, hb, hV rfl⟩
def V6 (l : List UInt8) (s : ByteArray) (z : Int) (bv xv yv : Value) (i : Nat) (v : Value) (_ : World) : Prop :=
  match i with
  | 0 => v = xv
  | 1 => v = .string (bs (l ++ num (clamp z)))
  | 2 => v = .string (bs l)
  | 3 => v = .int .i64 z
  | 4 => v = .string (bs (num (clamp z)))
  | 5 => v = .string (bs (l ++ num (clamp z)))
  | 6 => v = .bool true
  | 7 => v = .bool true
  | 8 => v = yv
  | 9 => v = .string (bs (l ++ txt s))
  | 10 => v = .string (bs l)
  | 11 => v = .string s
  | 12 => v = .string (bs (txt s))
  | 13 => v = .string (bs (l ++ txt s))
  | 14 => v = .bool true
  | 15 => v = .bool true
  | 16 => v = .bool true
  | 17 => v = bv
  | 18 => v = .string (bs l)
  | 19 => v = .string (bs l)
  | 20 => v = .bool true
  | 21 => v = .bool true
  | 22 => v = .bool true
  | _ => True
theorem V6_below {l : List UInt8} {s : ByteArray} {z : Int} {bv xv yv : Value} : ∀ i v w w', Below w.heap.size w w' → V6 l s z bv xv yv i v w → V6 l s z bv xv yv i v w' := by
  intro i v w w' hB h
  unfold V6 at *
  split at h
  all_goals first | exact h

set_option maxRecDepth 20000 in
set_option maxHeartbeats 6400000 in
theorem lays_walk (a : Option Addr) (c : Nat) (l : List UInt8) (z : Int) (s : ByteArray) (w : World) (hin : Hb w.heap.size w a c l) (hsl : s.size ≤ 140737488351232) (hll : l.length ≤ 140737488351232) :
    Calls Try.prog 3 #[.slice a l.length c, .int .i64 z, .string s] w fun e w' => e = .returned (.bool true) ∧ Below w.heap.size w w' := by
  have HIN := Lib.hid hin
  clear hin
  go_enter Try.func3, Try.ntmps3
  go_wp2_with fail
  refine (awake_any w).mono ?_
  rintro e w1 ⟨rfl, hb1⟩
  have HB1 := Lib.hid hb1
  have HI1 := Lib.hid (hb_below HIN.out hb1)
  clear hb1
  by_cases hbig : (l.length : Int) + (s.size : Int) > 2000
  · go_wp2_with fail
    refine (awake_any w1).mono ?_
    rintro e w2 ⟨rfl, hb2⟩
    have HB2 := Lib.hid (HB1.out.trans (hb2.mono HB1.out.size))
    clear hb2
    go_wp2
    go_ret
    exact ⟨rfl, HB2.out⟩
  have hs : s.size ≤ 3000 := by omega
  have hl3 : l.length ≤ 3000 := by omega
  have hcv := hb_reads HI1.out w1 (Below.refl _ _)
  have hlc := HI1.out.len
  have hlc2 : (l.length : Int) ≤ (c : Int) := by omega
  have hd : ∀ W, Below w1.heap.size w1 W → Dst W.heap.size W (.slice a l.length l.length) l := fun W hW => by
    rcases HI1.out with ⟨rfl, rfl, rfl⟩ | ⟨b, off, rfl, hb, _, hl⟩
    · exact .inl (World.ownsRow_nil _ _ _ _)
    · exact .inr ⟨b, off, rfl, Nat.lt_of_lt_of_le hb hW.size, hl.same (hW.block b hb)⟩
  have HD := Lib.hid hd
  clear hd hlc
  have hsl3 : ∀ W, (Instr.slice 22 (.slice a l.length c) none (some (.int .i64 l.length)) (some (.int .i64 l.length))).run Try.prog W = .ok (.slice a l.length l.length) W := fun W => slice_full HI1.out W
  go_wp2_with fail
  refine (lay_any (HD.out w1 (Below.refl _ _)) (Nat.le_refl _) (by omega) z).mono ?_
  rintro e w2 ⟨xv, rfl, hx, hb2⟩
  have HX0 := Lib.hid hx
  have HB2 := Lib.hid hb2
  clear hx hb2
  go_wp2_with fail
  refine (laytext_any (HD.out w2 HB2.out) (Nat.le_refl _) (by omega) s hs).mono ?_
  rintro e w3 ⟨yv, rfl, hy, hb3⟩
  have HX := Lib.hid (own_reads (own_below HX0.out hb3 (Nat.le_refl _)))
  have HY := Lib.hid (own_reads hy)
  have HB3 := Lib.hid (HB2.out.trans (hb3.mono HB2.out.size))
  have HBV := Lib.hid (hb_reads (hb_below HI1.out HB3.out))
  clear hy hb3 hcv hsl3
  have hnl := numF_length 8 (clamp z)
  have hnl2 := numF_length 8 s.size
  have i1 : ¬ 9223372036854775807 < (bs l).size + (bs (num (clamp z))).size := by rw [bs_size, bs_size, num]; omega
  have i2 : ¬ 9223372036854775807 < (bs l).size + (bs (txt s)).size := by rw [bs_size, bs_size, txt, List.length_append, num, bl_length]; omega
  have I1 := Lib.hid i1
  have I2 := Lib.hid i2
  clear i1 i2 hnl hnl2
  go_wp2_with fail
  have i1 := I1.out
  have i2 := I2.out
  refine wp_region_relG (V6 l s z (.slice a l.length c) xv yv) (fun _ => true) (Guards.all [7, 16] (by kernel_rfl) (by
    intro j hj v w h
    simp only [List.mem_cons, List.not_mem_nil, or_false] at hj
    rcases hj with rfl | rfl <;> exact h)) (by kernel_rfl) (by kernel_rfl) V6_below ?_ ?_
  · intro i o ho _
    match i, ho with
    | 0, ho =>
      obtain rfl := Option.some.inj ho
      intro x wx hb hrest hd
      have h : x.tmps.getD 8 undef = xv := hrest 8 (by decide)
      exact ⟨Below.refl _ _, h⟩
    | 1, ho =>
      obtain rfl := Option.some.inj ho
      intro x wx hb hrest hd
      have h0 : x.tmps.getD 39 undef = xv := hd 0 (by decide)
      have hc := HX.out wx hb
      simp [execOp, Act.eval, h0, hc, go_sem]
      exact ⟨Below.refl _ _, rfl⟩
    | 2, ho =>
      obtain rfl := Option.some.inj ho
      intro x wx hb hrest hd
      have h : x.tmps.getD 7 undef = .string (bs l) := hrest 7 (by decide)
      exact ⟨Below.refl _ _, h⟩
    | 3, ho =>
      obtain rfl := Option.some.inj ho
      intro x wx hb hrest hd
      have h : x.tmps.getD 1 undef = .int .i64 z := hrest 1 (by decide)
      exact ⟨Below.refl _ _, h⟩
    | 4, ho =>
      obtain rfl := Option.some.inj ho
      intro x wx hb hrest hd
      have h0 : x.tmps.getD 42 undef = .int .i64 z := hd 3 (by decide)
      simp [execOp, Act.eval, h0, go_sem]
      exact rel_rnum z wx
    | 5, ho =>
      obtain rfl := Option.some.inj ho
      intro x wx hb hrest hd
      have h0 : x.tmps.getD 41 undef = .string (bs l) := hd 2 (by decide)
      have h1 : x.tmps.getD 43 undef = .string (bs (num (clamp z))) := hd 4 (by decide)
      simp [execOp, Act.eval, h0, h1, i1, go_sem]
      rw [bs_append]
      exact ⟨Below.refl _ _, rfl⟩
    | 6, ho =>
      obtain rfl := Option.some.inj ho
      intro x wx hb hrest hd
      have h0 : x.tmps.getD 40 undef = .string (bs (l ++ num (clamp z))) := hd 1 (by decide)
      have h1 : x.tmps.getD 44 undef = .string (bs (l ++ num (clamp z))) := hd 5 (by decide)
      simp [execOp, Act.eval, h0, h1, go_sem]
      exact ⟨Below.refl _ _, rfl⟩
    | 7, ho =>
      obtain rfl := Option.some.inj ho
      intro x wx hb hrest hd
      have h : x.tmps.getD 45 undef = .bool true := hd 6 (by decide)
      exact ⟨Below.refl _ _, h⟩
    | 8, ho =>
      obtain rfl := Option.some.inj ho
      intro x wx hb hrest hd
      have h : x.tmps.getD 9 undef = yv := hrest 9 (by decide)
      exact ⟨Below.refl _ _, h⟩
    | 9, ho =>
      obtain rfl := Option.some.inj ho
      intro x wx hb hrest hd
      have h0 : x.tmps.getD 47 undef = yv := hd 8 (by decide)
      have hc := HY.out wx hb
      simp [execOp, Act.eval, h0, hc, go_sem]
      exact ⟨Below.refl _ _, rfl⟩
    | 10, ho =>
      obtain rfl := Option.some.inj ho
      intro x wx hb hrest hd
      have h : x.tmps.getD 7 undef = .string (bs l) := hrest 7 (by decide)
      exact ⟨Below.refl _ _, h⟩
    | 11, ho =>
      obtain rfl := Option.some.inj ho
      intro x wx hb hrest hd
      have h : x.tmps.getD 2 undef = .string s := hrest 2 (by decide)
      exact ⟨Below.refl _ _, h⟩
    | 12, ho =>
      obtain rfl := Option.some.inj ho
      intro x wx hb hrest hd
      have h0 : x.tmps.getD 50 undef = .string s := hd 11 (by decide)
      simp [execOp, Act.eval, h0, go_sem]
      exact rel_rtext s wx hs
    | 13, ho =>
      obtain rfl := Option.some.inj ho
      intro x wx hb hrest hd
      have h0 : x.tmps.getD 49 undef = .string (bs l) := hd 10 (by decide)
      have h1 : x.tmps.getD 51 undef = .string (bs (txt s)) := hd 12 (by decide)
      simp [execOp, Act.eval, h0, h1, i2, go_sem]
      rw [bs_append]
      exact ⟨Below.refl _ _, rfl⟩
    | 14, ho =>
      obtain rfl := Option.some.inj ho
      intro x wx hb hrest hd
      have h0 : x.tmps.getD 48 undef = .string (bs (l ++ txt s)) := hd 9 (by decide)
      have h1 : x.tmps.getD 52 undef = .string (bs (l ++ txt s)) := hd 13 (by decide)
      simp [execOp, Act.eval, h0, h1, go_sem]
      exact ⟨Below.refl _ _, rfl⟩
    | 15, ho =>
      obtain rfl := Option.some.inj ho
      intro x wx hb hrest hd
      have h0 : x.tmps.getD 46 undef = .bool true := hd 7 (by decide)
      have h1 : x.tmps.getD 53 undef = .bool true := hd 14 (by decide)
      simp [execOp, Act.eval, h0, h1, go_sem]
      exact ⟨Below.refl _ _, rfl⟩
    | 16, ho =>
      obtain rfl := Option.some.inj ho
      intro x wx hb hrest hd
      have h : x.tmps.getD 54 undef = .bool true := hd 15 (by decide)
      exact ⟨Below.refl _ _, h⟩
    | 17, ho =>
      obtain rfl := Option.some.inj ho
      intro x wx hb hrest hd
      have h : x.tmps.getD 0 undef = .slice a l.length c := hrest 0 (by decide)
      exact ⟨Below.refl _ _, h⟩
    | 18, ho =>
      obtain rfl := Option.some.inj ho
      intro x wx hb hrest hd
      have h0 : x.tmps.getD 56 undef = .slice a l.length c := hd 17 (by decide)
      have hc := HBV.out wx hb
      simp [execOp, Act.eval, h0, hc, go_sem]
      exact ⟨Below.refl _ _, rfl⟩
    | 19, ho =>
      obtain rfl := Option.some.inj ho
      intro x wx hb hrest hd
      have h : x.tmps.getD 7 undef = .string (bs l) := hrest 7 (by decide)
      exact ⟨Below.refl _ _, h⟩
    | 20, ho =>
      obtain rfl := Option.some.inj ho
      intro x wx hb hrest hd
      have h0 : x.tmps.getD 57 undef = .string (bs l) := hd 18 (by decide)
      have h1 : x.tmps.getD 58 undef = .string (bs l) := hd 19 (by decide)
      simp [execOp, Act.eval, h0, h1, go_sem]
      exact ⟨Below.refl _ _, rfl⟩
    | 21, ho =>
      obtain rfl := Option.some.inj ho
      intro x wx hb hrest hd
      have h0 : x.tmps.getD 55 undef = .bool true := hd 16 (by decide)
      have h1 : x.tmps.getD 59 undef = .bool true := hd 20 (by decide)
      simp [execOp, Act.eval, h0, h1, go_sem]
      exact ⟨Below.refl _ _, rfl⟩
    | 22, ho =>
      obtain rfl := Option.some.inj ho
      intro x wx hb hrest hd
      have h : x.tmps.getD 60 undef = .bool true := hd 21 (by decide)
      exact ⟨Below.refl _ _, h⟩
    | n + 23, ho => cases ho
  · rintro x wx ⟨hsz, hdf, hv, hrest, hbel⟩
    have h2 : x.tmps.getD 6 undef = .bool true := hv 22 (by decide)
    have HBX := Lib.hid (HB1.out.trans ((HB3.out.trans (hbel.mono HB3.out.size)).mono HB1.out.size))
    rw [Array.getD_eq_getD_getElem?] at h2
    clear hv hrest hbel
    go_wp2
    exact bodyPost_ret (v := .bool true) (by simp [results, Try.results3, go_sem, h2]) hdf ⟨rfl, HBX.out⟩

end Go.Proofs.Ytbamkkohfeglaaa
