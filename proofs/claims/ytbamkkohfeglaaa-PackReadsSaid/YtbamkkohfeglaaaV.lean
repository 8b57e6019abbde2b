/- PackReads' walk. -/
import Derived.Test.YtbamkkohfeglaaaT
import Derived.Test.YtbamkkohfeglaaaN
import Derived.Test.YtbamkkohfeglaaaK
namespace Go.Proofs.Ytbamkkohfeglaaa
open Go.RowKit Go.Sort

/-- The guards, where each says what it wants. -/
def tellJ (ops : Array Oper) (vals : List (Nat × Bool)) : Bool :=
  (List.range ops.size).all fun i => match ops[i]? with
    | some o => (match o.guard with | none => true | some (j, b) => decide (j < i) && (depsOf o).contains j && vals.contains (j, b))
    | none => true
theorem GuardsJ.tell {ops : Array Oper} {V : Nat → Value → Prop} {J : (Nat → Bool) → World → Prop} (vals : List (Nat × Bool)) (h : tellJ ops vals = true) (hv : ∀ p ∈ vals, ∀ v, V p.1 v → v = .bool p.2) : GuardsJ ops (fun _ => true) V J := by
  refine ⟨fun i o j b ho hg => ?_, fun _ _ _ _ => rfl, fun i hi => by cases hi⟩
  have hi : i < ops.size := (Array.getElem?_eq_some_iff.1 ho).1
  have h1 := List.all_eq_true.1 h i (List.mem_range.2 hi)
  rw [ho] at h1
  have h2 : (match o.guard with | none => true | some (j, b) => decide (j < i) && (depsOf o).contains j && vals.contains (j, b)) = true := h1
  rw [hg] at h2
  simp only [Bool.and_eq_true] at h2
  obtain ⟨⟨h3, h4⟩, h5⟩ := h2
  exact ⟨of_decide_eq_true h3, List.contains_iff_mem.1 h4, hv (j, b) (List.contains_iff_mem.1 h5)⟩
/-- What holds in the region of two texts. -/
structure J13 (wB : World) (gr gw cb co : Nat) (cv : Value) (l : List UInt8) (e : Nat) (l2 : List UInt8) (e2 : Nat) (done : Nat → Bool) (w : World) : Prop where
  rp : done 6 = false → Rdr w gr l e
  rq : done 6 = true → Rdr w gr l2 e2
  wp : done 13 = false → RefR w gw l e
  wq : done 13 = true → RefR w gw l2 e2
  below : Below wB.heap.size wB w
  cell : w.cell? ⟨cb, co, none⟩ = some cv
  lt : gr < gw ∧ gw < w.heap.size ∧ wB.heap.size ≤ gr ∧ cb < wB.heap.size ∧ l.length ≤ 2000
section
variable {wB : World} {gr gw cb co : Nat} {cv : Value} {l : List UInt8} {e : Nat} {l2 : List UInt8} {e2 : Nat} {done : Nat → Bool} {w : World}
theorem J13.skip (h : J13 wB gr gw cb co cv l e l2 e2 done w) {k : Nat} (hk : k ≠ 6 ∧ k ≠ 13) : J13 wB gr gw cb co cv l e l2 e2 (mark done k) w := by
  have m6 : mark done k 6 = done 6 := if_neg (fun q => hk.1 q.symm)
  have m13 : mark done k 13 = done 13 := if_neg (fun q => hk.2 q.symm)
  exact ⟨fun q => h.rp (by rwa [m6] at q), fun q => h.rq (by rwa [m6] at q), fun q => h.wp (by rwa [m13] at q), fun q => h.wq (by rwa [m13] at q), h.below, h.cell, h.lt⟩
theorem j_rtext {n : Int} (h : J13 wB gr gw cb co cv l e (text n l e).2.1 (text n l e).2.2 done w) (hdn : done 6 = false) {V : Value → Prop} (hV : V (.string (bs (text n l e).1)) := by exact rfl) :
    jUpon Try.prog V (J13 wB gr gw cb co cv l e (text n l e).2.1 (text n l e).2.2 (mark done 6)) (.ok (.enter 19 #[.pointer (some ⟨gr, 0, none⟩), .int .i64 n]) w) := by
  obtain ⟨h1, h2, h3, h4, h5⟩ := h.lt
  refine (text_any (h.rp hdn) (by omega) n).mono ?_
  rintro en w' ⟨rfl, hr, hg⟩
  have m13 : mark done 6 13 = done 13 := if_neg (by decide)
  have hgw : w'.heap[gw]? = w.heap[gw]? := hg.block gw h2 (fun q => by injection q with q; omega)
  refine ⟨_, rfl, hV, ⟨fun q => by simp [mark] at q, fun _ => hr, fun q => (h.wp (by rwa [m13] at q)).same hgw, fun q => (h.wq (by rwa [m13] at q)).same hgw, h.below.grown hg h.below.size (fun k q => by injection q with q; omega), ?_, h1, Nat.lt_of_lt_of_le h2 hg.size, h3, h4, h5⟩⟩
  exact (World.cell?_of_block (a := ⟨cb, _, none⟩) (hg.block cb (Nat.lt_of_lt_of_le h4 h.below.size) (fun q => by injection q with q; omega))).trans h.cell
theorem j_wtext {n : Int} (h : J13 wB gr gw cb co cv l e (text n l e).2.1 (text n l e).2.2 done w) (hdn : done 13 = false) {V : Value → Prop} (hV : V (.string (bs (text n l e).1)) := by exact rfl) :
    jUpon Try.prog V (J13 wB gr gw cb co cv l e (text n l e).2.1 (text n l e).2.2 (mark done 13)) (.ok (.enter 22 #[.pointer (some ⟨gw, 0, none⟩), .int .i64 n]) w) := by
  obtain ⟨h1, h2, h3, h4, h5⟩ := h.lt
  refine (rreadtext_any (h.wp hdn) (by omega) n).mono ?_
  rintro en w' ⟨rfl, hr, hg⟩
  have m6 : mark done 13 6 = done 6 := if_neg (by decide)
  have hgr : ∀ k, k ≤ gr → w'.heap[k]? = w.heap[k]? := fun k hk => hg.block k (by omega) (fun q => by injection q with q; omega)
  refine ⟨_, rfl, hV, ⟨fun q => (h.rp (by rwa [m6] at q)).same hgr, fun q => (h.rq (by rwa [m6] at q)).same hgr, fun q => by simp [mark] at q, fun _ => hr, h.below.grown hg h.below.size (fun k q => by injection q with q; omega), ?_, h1, Nat.lt_of_lt_of_le h2 hg.size, h3, h4, h5⟩⟩
  exact (World.cell?_of_block (a := ⟨cb, _, none⟩) (hg.block cb (Nat.lt_of_lt_of_le h4 h.below.size) (fun q => by injection q with q; omega))).trans h.cell
end
/-- What holds in the region that compares. -/
structure J15 (wB : World) (gr gw : Nat) (l : List UInt8) (e : Nat) (done : Nat → Bool) (w : World) : Prop where
  r : Rdr w gr l e
  q : RefR w gw l e
  below : Below wB.heap.size wB w
  len : l.length ≤ 2000
section
variable {wB : World} {gr gw : Nat} {l : List UInt8} {e : Nat} {done : Nat → Bool} {w : World}
theorem J15.skip (h : J15 wB gr gw l e done w) {k : Nat} (_ : True) : J15 wB gr gw l e (mark done k) w := ⟨h.r, h.q, h.below, h.len⟩
theorem j_err (h : J15 wB gr gw l e done w) {k : Nat} {V : Value → Prop} (hV : V (.int .i64 e) := by exact rfl) : jUpon Try.prog V (J15 wB gr gw l e (mark done k)) (.ok (.enter 20 #[.pointer (some ⟨gr, 0, none⟩)]) w) := by
  refine (err_any h.r).mono ?_
  rintro en w' ⟨rfl, rfl⟩
  exact ⟨_, rfl, hV, h.skip trivial⟩
theorem j_end (h : J15 wB gr gw l e done w) {k : Nat} {V : Value → Prop} (hV : V (.int .i64 (endOf l e)) := by exact rfl) : jUpon Try.prog V (J15 wB gr gw l e (mark done k)) (.ok (.enter 17 #[.pointer (some ⟨gr, 0, none⟩)]) w) := by
  refine (end_any h.r).mono ?_
  rintro en w' ⟨rfl, rfl⟩
  exact ⟨_, rfl, hV, h.skip trivial⟩
theorem j_left (h : J15 wB gr gw l e done w) {k : Nat} {V : Value → Prop} (hV : V (.int .i64 l.length) := by exact rfl) : jUpon Try.prog V (J15 wB gr gw l e (mark done k)) (.ok (.enter 18 #[.pointer (some ⟨gr, 0, none⟩)]) w) := by
  refine (left_any h.r).mono ?_
  rintro en w' ⟨rfl, rfl⟩
  exact ⟨_, rfl, hV, h.skip trivial⟩
theorem j_rend (h : J15 wB gr gw l e done w) {k : Nat} {V : Value → Prop} (hV : V (.int .i64 (endOf l e)) := by exact rfl) : jUpon Try.prog V (J15 wB gr gw l e (mark done k)) (.ok (.enter 23 #[.pointer (some ⟨gw, 0, none⟩)]) w) := by
  refine (rend_any h.q (by have := h.len; omega)).mono ?_
  rintro en w' ⟨rfl, rfl⟩
  exact ⟨_, rfl, hV, h.skip trivial⟩
end
def V13 (sv : Value) (gr gw sb soff ii : Nat) (sn : Int) (T : List UInt8) (i : Nat) (v : Value) : Prop :=
  match i with
  | 0 => v = .pointer (some ⟨gr, 0, none⟩)
  | 1 => v = sv
  | 2 => v = .int .i64 ii
  | 3 => v = .pointer (some ⟨sb, soff + ii * 2, none⟩)
  | 4 => v = .pointer (some ⟨sb, soff + ii * 2 + 1, none⟩)
  | 5 => v = .int .i64 sn
  | 6 => v = .string (bs T)
  | 7 => v = .pointer (some ⟨gw, 0, none⟩)
  | 8 => v = sv
  | 9 => v = .int .i64 ii
  | 10 => v = .pointer (some ⟨sb, soff + ii * 2, none⟩)
  | 11 => v = .pointer (some ⟨sb, soff + ii * 2 + 1, none⟩)
  | 12 => v = .int .i64 sn
  | 13 => v = .string (bs T)
  | 14 => v = .bool false
  | _ => True
def V15 (gr gw : Nat) (l : List UInt8) (e : Nat) (i : Nat) (v : Value) : Prop :=
  match i with
  | 0 => v = .pointer (some ⟨gr, 0, none⟩)
  | 1 => v = .int .i64 e
  | 2 => v = .pointer (some ⟨gw, 0, none⟩)
  | 3 => v = .pointer (some ⟨gw, 0, none⟩)
  | 4 => v = .pointer (some ⟨gw, 1, none⟩)
  | 5 => v = .int .i64 e
  | 6 => v = .bool false
  | 7 => v = .bool false
  | 8 => v = .pointer (some ⟨gr, 0, none⟩)
  | 9 => v = .int .i64 (endOf l e)
  | 10 => v = .pointer (some ⟨gw, 0, none⟩)
  | 11 => v = .int .i64 (endOf l e)
  | 12 => v = .bool false
  | 13 => v = .bool false
  | 14 => v = .bool false
  | 15 => v = .pointer (some ⟨gr, 0, none⟩)
  | 16 => v = .int .i64 l.length
  | 17 => v = .pointer (some ⟨gw, 0, none⟩)
  | 18 => v = .pointer (some ⟨gw, 0, none⟩)
  | 19 => v = .pointer (some ⟨gw, 0, none⟩)
  | 20 => v = .string (bs l)
  | 21 => v = .int .i64 l.length
  | 22 => v = .bool false
  | 23 => v = .bool false
  | _ => True

theorem text_len (most : Int) (l : List UInt8) (e : Nat) : (text most l e).2.1.length ≤ l.length := by
  have h := (number_cases l e).2
  rw [text]
  split
  · split
    · simp
    · split
      · simp
      · show ((number l e).2.1.drop (number l e).1).length ≤ l.length
        rw [List.length_drop]
        omega
  · exact h

set_option maxRecDepth 20000 in
set_option maxHeartbeats 12800000 in
theorem reads_walk (a : Option Addr) (c : Nat) (l : List UInt8) (a2 : Option Addr) (sb soff sv : Nat) (sc : List Stp) (w : World) (hin : Hb w.heap.size w a c l) (hsc : CameO w a2 sb soff sc) :
    Calls Try.prog 7 #[.slice a l.length c, .slice a2 sc.length sv] w fun e w' => e = .returned (.bool true) ∧ Below w.heap.size w w' := by
  have HIN := Lib.hid hin
  have HSC := Lib.hid hsc
  have hscl := hsc.2.2.1
  clear hin hsc
  go_enter Try.func7, Try.ntmps7
  go_wp2_with fail
  refine (awake_any w).mono ?_
  rintro e w1 ⟨rfl, hb1⟩
  have HB1 := Lib.hid hb1
  have HI1 := Lib.hid ((HIN.out.same fun b hb => hb1.block b hb).mono hb1.size)
  clear hb1
  by_cases hbig : (l.length : Int) > 2000
  · go_wp2_with fail
    refine (awake_any w1).mono ?_
    rintro e w2 ⟨rfl, hb2⟩
    have HB2 := Lib.hid (HB1.out.trans (hb2.mono HB1.out.size))
    clear hb2
    go_wp2
    go_ret
    exact ⟨rfl, HB2.out⟩
  by_cases hbig2 : (sc.length : Int) > 100
  · go_wp2_with fail
    refine (awake_any w1).mono ?_
    rintro e w2 ⟨rfl, hb2⟩
    have HB2 := Lib.hid (HB1.out.trans (hb2.mono HB1.out.size))
    clear hb2
    go_wp2
    go_ret
    exact ⟨rfl, HB2.out⟩
  have hl : l.length ≤ 2000 := by omega
  go_wp2_with fail
  refine (read_any HI1.out).mono ?_
  rintro e w2 ⟨rfl, hr, hb2⟩
  have HR2 := Lib.hid hr
  have HB2 := Lib.hid (HB1.out.trans (hb2.mono HB1.out.size))
  have hbg := HB1.out.size
  have hstr : (convert 22 9 (.slice a l.length c)).run Try.prog w2 = .ok (.string (bs l)) w2 := by
    rcases HI1.out with ⟨rfl, rfl, rfl⟩ | ⟨b, off, rfl, hb, _, hl2⟩
    · exact str_nil w2
    · exact str_lies (hl2.same (hb2.block b hb))
  clear hr hb2
  obtain ⟨gr, hgr⟩ : ∃ gr, gr = w1.heap.size := ⟨_, rfl⟩
  rw [← hgr] at hbg HR2 ⊢
  clear hgr
  have hgrz := HR2.out.lt
  have hB3 := (Below.refl w2.heap.size w2).alloc (Nat.le_refl _) (.cells #[.string (bs l), .int .i64 0] 41)
  have HW3 := Lib.hid (show RefR (w2.alloc (.cells #[.string (bs l), .int .i64 0] 41)) w2.heap.size l 0 from heap_alloc_new w2 _)
  have HR3 := Lib.hid (HR2.out.below hB3)
  have HB3 := Lib.hid (HB2.out.trans (hB3.mono HB2.out.size))
  clear hB3
  go_wp2_with fail
  obtain ⟨gw, hgw⟩ : ∃ gw, gw = w2.heap.size := ⟨_, rfl⟩
  rw [← hgw] at hgrz HW3 ⊢
  clear hgw hstr
  go_loopg [29] sc.length (fun q t wr => ∃ (i : Nat) (l' : List UInt8) (e' : Nat), i ≤ sc.length ∧ sc.length - i ≤ q ∧ t = .int .i64 i ∧ Rdr wr gr l' e' ∧ RefR wr gw l' e' ∧ l'.length ≤ 2000 ∧ Below w.heap.size w wr)
  case atStart => exact ⟨0, l, 0, Nat.zero_le _, by omega, rfl, HR3.out, HW3.out, hl, HB3.out⟩
  case round =>
    obtain ⟨i, l', e', hi, hq, rfl, hr, hw, hl', hB⟩ := hrel
    have HR := Lib.hid hr
    have HW := Lib.hid hw
    have HB := Lib.hid hB
    clear hr hw hB
    by_cases hlt : i < sc.length
    · obtain rfl := HSC.out.1 (by omega)
      have hsb := HSC.out.2.1 (by omega)
      have ck := ((HSC.out.below HB.out).2.2.2 i hlt).1
      by_cases hk1 : (sat sc i).k = 1
      · have b1 : ((sat sc i).k == 1) = true := by rw [beq_iff_eq]; exact hk1
        have hn := number_any HR.out (by omega)
        have hrn := fun (w3 : World) (h : RefR w3 gw l' e') => rnumber_any h (by omega)
        have hnc := number_cases l' e'
        revert hn hrn hnc
        generalize number l' e' = nr
        obtain ⟨u, l2, e2⟩ := nr
        intro hn hrn hnc
        have hl2 : l2.length ≤ 2000 := Nat.le_trans hnc.2 hl'
        have HRN := Lib.hid hrn
        clear hrn hnc hk1
        go_wp2_with fail
        refine hn.mono ?_
        rintro en w3 ⟨rfl, hr3, hg3⟩
        have HR3 := Lib.hid (show Rdr w3 gr l2 e2 from hr3)
        have HB3 := Lib.hid (HB.out.grown hg3 HB.out.size (fun k e => by injection e with e; omega))
        have HW3 := Lib.hid (HW.out.same (hg3.block gw HW.out.lt (fun e => by injection e with e; omega)))
        clear hr3 hg3 hn ck
        go_wp2_with fail
        refine (HRN.out w3 HW3.out).mono ?_
        rintro en w4 ⟨rfl, hr4, hg4⟩
        have HW4 := Lib.hid (show RefR w4 gw l2 e2 from hr4)
        have HB4 := Lib.hid (HB3.out.grown hg4 HB3.out.size (fun k e => by injection e with e; omega))
        have HR4 := Lib.hid (HR3.out.same fun k hk => hg4.block k (Nat.lt_of_le_of_lt hk HR3.out.lt) (fun e => by injection e with e; omega))
        clear hr4 hg4
        have HJ := Lib.hid (show J15 w gr gw l2 e2 (fun i => decide (24 ≤ i)) (World.drew _) from ⟨HR4.out.same fun _ _ => rfl, HW4.out.same rfl, HB4.out.drew, hl2⟩)
        go_wp2_with fail
        refine wp_region_inv (V15 gr gw l2 e2) (J15 w gr gw l2 e2) (fun _ => true) [61, 62, 63, 64, 65, 66, 67, 68, 69, 70, 71, 72, 73, 74, 75, 76, 77, 78, 79, 80, 81, 82, 83, 84] (GuardsJ.tell [(7, false), (14, false)] (by kernel_rfl) (by
          intro p hp v h
          simp only [List.mem_cons, List.not_mem_nil, or_false] at hp
          rcases hp with rfl | rfl <;> exact h)) (by kernel_rfl) (by kernel_rfl) (by kernel_rfl) (by decide) (by kernel_rfl) HJ.out ?_ ?_
        · intro i' o ho _
          match i', ho with
          | 0, ho =>
            obtain rfl := Option.some.inj ho
            intro x wx done hj hdn hrest hd
            have h : x.tmps.getD 5 undef = .pointer (some ⟨gr, 0, none⟩) := hrest 5 (by decide)
            exact ⟨h, hj.skip (by decide)⟩
          | 1, ho =>
            obtain rfl := Option.some.inj ho
            intro x wx done hj hdn hrest hd
            have h0 : x.tmps.getD 61 undef = .pointer (some ⟨gr, 0, none⟩) := (hd 0 (by decide)).2
            simp [execOp, Act.eval, h0, go_sem]
            exact j_err hj
          | 2, ho =>
            obtain rfl := Option.some.inj ho
            intro x wx done hj hdn hrest hd
            have h : x.tmps.getD 6 undef = .pointer (some ⟨gw, 0, none⟩) := hrest 6 (by decide)
            exact ⟨h, hj.skip (by decide)⟩
          | 3, ho =>
            obtain rfl := Option.some.inj ho
            intro x wx done hj hdn hrest hd
            have h0 : x.tmps.getD 63 undef = .pointer (some ⟨gw, 0, none⟩) := (hd 2 (by decide)).2
            simp [execOp, Act.eval, h0, go_sem]
            exact ⟨rfl, hj.skip (by decide)⟩
          | 4, ho =>
            obtain rfl := Option.some.inj ho
            intro x wx done hj hdn hrest hd
            have h0 : x.tmps.getD 64 undef = .pointer (some ⟨gw, 0, none⟩) := (hd 3 (by decide)).2
            simp [execOp, Act.eval, h0, go_sem]
            exact ⟨rfl, hj.skip (by decide)⟩
          | 5, ho =>
            obtain rfl := Option.some.inj ho
            intro x wx done hj hdn hrest hd
            have h0 : x.tmps.getD 65 undef = .pointer (some ⟨gw, 1, none⟩) := (hd 4 (by decide)).2
            have hc := (cells_of hj.q).2.1
            simp [execOp, Act.eval, h0, hc, go_sem]
            exact ⟨rfl, hj.skip (by decide)⟩
          | 6, ho =>
            obtain rfl := Option.some.inj ho
            intro x wx done hj hdn hrest hd
            have h0 : x.tmps.getD 62 undef = .int .i64 e2 := (hd 1 (by decide)).2
            have h1 : x.tmps.getD 66 undef = .int .i64 e2 := (hd 5 (by decide)).2
            simp [execOp, Act.eval, h0, h1, go_sem]
            exact ⟨rfl, hj.skip (by decide)⟩
          | 7, ho =>
            obtain rfl := Option.some.inj ho
            intro x wx done hj hdn hrest hd
            have h : x.tmps.getD 67 undef = .bool false := (hd 6 (by decide)).2
            exact ⟨h, hj.skip (by decide)⟩
          | 8, ho =>
            obtain rfl := Option.some.inj ho
            intro x wx done hj hdn hrest hd
            have h : x.tmps.getD 5 undef = .pointer (some ⟨gr, 0, none⟩) := hrest 5 (by decide)
            exact ⟨h, hj.skip (by decide)⟩
          | 9, ho =>
            obtain rfl := Option.some.inj ho
            intro x wx done hj hdn hrest hd
            have h0 : x.tmps.getD 69 undef = .pointer (some ⟨gr, 0, none⟩) := (hd 8 (by decide)).2
            simp [execOp, Act.eval, h0, go_sem]
            exact j_end hj
          | 10, ho =>
            obtain rfl := Option.some.inj ho
            intro x wx done hj hdn hrest hd
            have h : x.tmps.getD 6 undef = .pointer (some ⟨gw, 0, none⟩) := hrest 6 (by decide)
            exact ⟨h, hj.skip (by decide)⟩
          | 11, ho =>
            obtain rfl := Option.some.inj ho
            intro x wx done hj hdn hrest hd
            have h0 : x.tmps.getD 71 undef = .pointer (some ⟨gw, 0, none⟩) := (hd 10 (by decide)).2
            simp [execOp, Act.eval, h0, go_sem]
            exact j_rend hj
          | 12, ho =>
            obtain rfl := Option.some.inj ho
            intro x wx done hj hdn hrest hd
            have h0 : x.tmps.getD 70 undef = .int .i64 (endOf l2 e2) := (hd 9 (by decide)).2
            have h1 : x.tmps.getD 72 undef = .int .i64 (endOf l2 e2) := (hd 11 (by decide)).2
            simp [execOp, Act.eval, h0, h1, go_sem]
            exact ⟨rfl, hj.skip (by decide)⟩
          | 13, ho =>
            obtain rfl := Option.some.inj ho
            intro x wx done hj hdn hrest hd
            have h0 : x.tmps.getD 68 undef = .bool false := (hd 7 (by decide)).2
            have h1 : x.tmps.getD 73 undef = .bool false := (hd 12 (by decide)).2
            simp [execOp, Act.eval, h0, h1, go_sem]
            exact ⟨rfl, hj.skip (by decide)⟩
          | 14, ho =>
            obtain rfl := Option.some.inj ho
            intro x wx done hj hdn hrest hd
            have h : x.tmps.getD 74 undef = .bool false := (hd 13 (by decide)).2
            exact ⟨h, hj.skip (by decide)⟩
          | 15, ho =>
            obtain rfl := Option.some.inj ho
            intro x wx done hj hdn hrest hd
            have h : x.tmps.getD 5 undef = .pointer (some ⟨gr, 0, none⟩) := hrest 5 (by decide)
            exact ⟨h, hj.skip (by decide)⟩
          | 16, ho =>
            obtain rfl := Option.some.inj ho
            intro x wx done hj hdn hrest hd
            have h0 : x.tmps.getD 76 undef = .pointer (some ⟨gr, 0, none⟩) := (hd 15 (by decide)).2
            simp [execOp, Act.eval, h0, go_sem]
            exact j_left hj
          | 17, ho =>
            obtain rfl := Option.some.inj ho
            intro x wx done hj hdn hrest hd
            have h : x.tmps.getD 6 undef = .pointer (some ⟨gw, 0, none⟩) := hrest 6 (by decide)
            exact ⟨h, hj.skip (by decide)⟩
          | 18, ho =>
            obtain rfl := Option.some.inj ho
            intro x wx done hj hdn hrest hd
            have h0 : x.tmps.getD 78 undef = .pointer (some ⟨gw, 0, none⟩) := (hd 17 (by decide)).2
            simp [execOp, Act.eval, h0, go_sem]
            exact ⟨rfl, hj.skip (by decide)⟩
          | 19, ho =>
            obtain rfl := Option.some.inj ho
            intro x wx done hj hdn hrest hd
            have h0 : x.tmps.getD 79 undef = .pointer (some ⟨gw, 0, none⟩) := (hd 18 (by decide)).2
            simp [execOp, Act.eval, h0, go_sem]
            exact ⟨rfl, hj.skip (by decide)⟩
          | 20, ho =>
            obtain rfl := Option.some.inj ho
            intro x wx done hj hdn hrest hd
            have h0 : x.tmps.getD 80 undef = .pointer (some ⟨gw, 0, none⟩) := (hd 19 (by decide)).2
            have hc := (cells_of hj.q).1
            simp [execOp, Act.eval, h0, hc, go_sem]
            exact ⟨rfl, hj.skip (by decide)⟩
          | 21, ho =>
            obtain rfl := Option.some.inj ho
            intro x wx done hj hdn hrest hd
            have h0 : x.tmps.getD 81 undef = .string (bs l2) := (hd 20 (by decide)).2
            simp [execOp, Act.eval, h0, bs_size, go_sem]
            exact ⟨rfl, hj.skip (by decide)⟩
          | 22, ho =>
            obtain rfl := Option.some.inj ho
            intro x wx done hj hdn hrest hd
            have h0 : x.tmps.getD 77 undef = .int .i64 l2.length := (hd 16 (by decide)).2
            have h1 : x.tmps.getD 82 undef = .int .i64 l2.length := (hd 21 (by decide)).2
            simp [execOp, Act.eval, h0, h1, go_sem]
            exact ⟨rfl, hj.skip (by decide)⟩
          | 23, ho =>
            obtain rfl := Option.some.inj ho
            intro x wx done hj hdn hrest hd
            have h0 : x.tmps.getD 75 undef = .bool false := (hd 14 (by decide)).2
            have h1 : x.tmps.getD 83 undef = .bool false := (hd 22 (by decide)).2
            simp [execOp, Act.eval, h0, h1, go_sem]
            exact ⟨rfl, hj.skip (by decide)⟩
          | n + 24, ho => cases ho
        · intro vs wx hvl hv hj
          match vs, hvl, hv with
          | [v0, v1, v2, v3, v4, v5, v6, v7, v8, v9, v10, v11, v12, v13, v14, v15, v16, v17, v18, v19, v20, v21, v22, v23], _, hv =>
            have h8 : v23 = .bool false := hv 23 (by simp)
            subst h8
            have HRn := Lib.hid hj.r
            have HQn := Lib.hid hj.q
            have HBn := Lib.hid hj.below
            clear hv hj
            simp only [setF, List.setIfInBounds_toArray, List.set_cons_succ, List.set_cons_zero]
            go_wp2
            go_roundg (sc.length - (i + 1))
            case measure => omega
            case rel => exact ⟨i + 1, l2, e2, by omega, Nat.le_refl _, by go_num, HRn.out, HQn.out, by omega, HBn.out⟩
      · by_cases hk2 : (sat sc i).k = 2
        · have b1 : ((sat sc i).k == 1) = false := by rw [beq_eq_false_iff_ne]; omega
          have b2 : ((sat sc i).k == 2) = true := by rw [beq_iff_eq]; exact hk2
          have cn := ((HSC.out.below HB.out).2.2.2 i hlt).2
          have HJ := Lib.hid (show J13 w gr gw sb (soff + i * 2 + 1) (.int .i64 (sat sc i).n) l' e' (text (sat sc i).n l' e').2.1 (text (sat sc i).n l' e').2.2 (fun i => decide (15 ≤ i)) (World.drew _) from
            ⟨fun _ => HR.out.same fun _ _ => rfl, fun q => absurd q (by decide), fun _ => HW.out.same rfl, fun q => absurd q (by decide), HB.out.drew, cn, hgrz, HW.out.lt, hbg, hsb, hl'⟩)
          have hl2 : (text (sat sc i).n l' e').2.1.length ≤ 2000 := Nat.le_trans (text_len _ _ _) hl'
          clear hk1 hk2 cn
          go_wp2_with fail
          refine wp_region_inv (V13 (.slice (some ⟨sb, soff, none⟩) sc.length sv) gr gw sb soff i (sat sc i).n (text (sat sc i).n l' e').1) (J13 w gr gw sb (soff + i * 2 + 1) (.int .i64 (sat sc i).n) l' e' (text (sat sc i).n l' e').2.1 (text (sat sc i).n l' e').2.2) (fun _ => true) [46, 47, 48, 49, 50, 51, 52, 53, 54, 55, 56, 57, 58, 59, 60] (GuardsJ.tell [] (by kernel_rfl) (by
            intro p hp
            cases hp)) (by kernel_rfl) (by kernel_rfl) (by kernel_rfl) (by decide) (by kernel_rfl) HJ.out ?_ ?_
          · intro i' o ho _
            match i', ho with
            | 0, ho =>
              obtain rfl := Option.some.inj ho
              intro x wx done hj hdn hrest hd
              have h : x.tmps.getD 5 undef = .pointer (some ⟨gr, 0, none⟩) := hrest 5 (by decide)
              exact ⟨h, hj.skip (by decide)⟩
            | 1, ho =>
              obtain rfl := Option.some.inj ho
              intro x wx done hj hdn hrest hd
              have h : x.tmps.getD 1 undef = .slice (some ⟨sb, soff, none⟩) sc.length sv := hrest 1 (by decide)
              exact ⟨h, hj.skip (by decide)⟩
            | 2, ho =>
              obtain rfl := Option.some.inj ho
              intro x wx done hj hdn hrest hd
              have h : x.tmps.getD 7 undef = .int .i64 i := hrest 7 (by decide)
              exact ⟨h, hj.skip (by decide)⟩
            | 3, ho =>
              obtain rfl := Option.some.inj ho
              intro x wx done hj hdn hrest hd
              have h0 : x.tmps.getD 47 undef = .slice (some ⟨sb, soff, none⟩) sc.length sv := (hd 1 (by decide)).2
              have h1 : x.tmps.getD 48 undef = .int .i64 i := (hd 2 (by decide)).2
              simp [execOp, Act.eval, h0, h1, hlt, go_sem]
              exact ⟨rfl, hj.skip (by decide)⟩
            | 4, ho =>
              obtain rfl := Option.some.inj ho
              intro x wx done hj hdn hrest hd
              have h0 : x.tmps.getD 49 undef = .pointer (some ⟨sb, soff + i * 2, none⟩) := (hd 3 (by decide)).2
              simp [execOp, Act.eval, h0, go_sem]
              exact ⟨rfl, hj.skip (by decide)⟩
            | 5, ho =>
              obtain rfl := Option.some.inj ho
              intro x wx done hj hdn hrest hd
              have h0 : x.tmps.getD 50 undef = .pointer (some ⟨sb, soff + i * 2 + 1, none⟩) := (hd 4 (by decide)).2
              have hc := hj.cell
              simp [execOp, Act.eval, h0, hc, go_sem]
              exact ⟨rfl, hj.skip (by decide)⟩
            | 6, ho =>
              obtain rfl := Option.some.inj ho
              intro x wx done hj hdn hrest hd
              have h0 : x.tmps.getD 46 undef = .pointer (some ⟨gr, 0, none⟩) := (hd 0 (by decide)).2
              have h1 : x.tmps.getD 51 undef = .int .i64 (sat sc i).n := (hd 5 (by decide)).2
              simp [execOp, Act.eval, h0, h1, go_sem]
              exact j_rtext hj hdn
            | 7, ho =>
              obtain rfl := Option.some.inj ho
              intro x wx done hj hdn hrest hd
              have h : x.tmps.getD 6 undef = .pointer (some ⟨gw, 0, none⟩) := hrest 6 (by decide)
              exact ⟨h, hj.skip (by decide)⟩
            | 8, ho =>
              obtain rfl := Option.some.inj ho
              intro x wx done hj hdn hrest hd
              have h : x.tmps.getD 1 undef = .slice (some ⟨sb, soff, none⟩) sc.length sv := hrest 1 (by decide)
              exact ⟨h, hj.skip (by decide)⟩
            | 9, ho =>
              obtain rfl := Option.some.inj ho
              intro x wx done hj hdn hrest hd
              have h : x.tmps.getD 7 undef = .int .i64 i := hrest 7 (by decide)
              exact ⟨h, hj.skip (by decide)⟩
            | 10, ho =>
              obtain rfl := Option.some.inj ho
              intro x wx done hj hdn hrest hd
              have h0 : x.tmps.getD 54 undef = .slice (some ⟨sb, soff, none⟩) sc.length sv := (hd 8 (by decide)).2
              have h1 : x.tmps.getD 55 undef = .int .i64 i := (hd 9 (by decide)).2
              simp [execOp, Act.eval, h0, h1, hlt, go_sem]
              exact ⟨rfl, hj.skip (by decide)⟩
            | 11, ho =>
              obtain rfl := Option.some.inj ho
              intro x wx done hj hdn hrest hd
              have h0 : x.tmps.getD 56 undef = .pointer (some ⟨sb, soff + i * 2, none⟩) := (hd 10 (by decide)).2
              simp [execOp, Act.eval, h0, go_sem]
              exact ⟨rfl, hj.skip (by decide)⟩
            | 12, ho =>
              obtain rfl := Option.some.inj ho
              intro x wx done hj hdn hrest hd
              have h0 : x.tmps.getD 57 undef = .pointer (some ⟨sb, soff + i * 2 + 1, none⟩) := (hd 11 (by decide)).2
              have hc := hj.cell
              simp [execOp, Act.eval, h0, hc, go_sem]
              exact ⟨rfl, hj.skip (by decide)⟩
            | 13, ho =>
              obtain rfl := Option.some.inj ho
              intro x wx done hj hdn hrest hd
              have h0 : x.tmps.getD 53 undef = .pointer (some ⟨gw, 0, none⟩) := (hd 7 (by decide)).2
              have h1 : x.tmps.getD 58 undef = .int .i64 (sat sc i).n := (hd 12 (by decide)).2
              simp [execOp, Act.eval, h0, h1, go_sem]
              exact j_wtext hj hdn
            | 14, ho =>
              obtain rfl := Option.some.inj ho
              intro x wx done hj hdn hrest hd
              have h0 : x.tmps.getD 52 undef = .string (bs (text (sat sc i).n l' e').1) := (hd 6 (by decide)).2
              have h1 : x.tmps.getD 59 undef = .string (bs (text (sat sc i).n l' e').1) := (hd 13 (by decide)).2
              simp [execOp, Act.eval, h0, h1, go_sem]
              exact ⟨rfl, hj.skip (by decide)⟩
            | n + 15, ho => cases ho
          · intro vs wx hvl hv hj
            match vs, hvl, hv with
            | [x0, x1, x2, x3, x4, x5, x6, x7, x8, x9, x10, x11, x12, x13, x14], _, hv =>
              have h14 : x14 = .bool false := hv 14 (by simp)
              subst h14
              have HR3 := Lib.hid (hj.rq rfl)
              have HW3 := Lib.hid (hj.wq rfl)
              have HB3 := Lib.hid hj.below
              clear hv hj HJ
              generalize (text (sat sc i).n l' e').2.1 = l2 at HR3 HW3 hl2
              generalize (text (sat sc i).n l' e').2.2 = e2 at HR3 HW3
              simp only [setF, List.setIfInBounds_toArray, List.set_cons_succ, List.set_cons_zero]
              have HJ := Lib.hid (show J15 w gr gw l2 e2 (fun i => decide (24 ≤ i)) (World.drew _) from ⟨HR3.out.same fun _ _ => rfl, HW3.out.same rfl, HB3.out.drew, hl2⟩)
              go_wp2_with fail
              refine wp_region_inv (V15 gr gw l2 e2) (J15 w gr gw l2 e2) (fun _ => true) [61, 62, 63, 64, 65, 66, 67, 68, 69, 70, 71, 72, 73, 74, 75, 76, 77, 78, 79, 80, 81, 82, 83, 84] (GuardsJ.tell [(7, false), (14, false)] (by kernel_rfl) (by
                intro p hp v h
                simp only [List.mem_cons, List.not_mem_nil, or_false] at hp
                rcases hp with rfl | rfl <;> exact h)) (by kernel_rfl) (by kernel_rfl) (by kernel_rfl) (by decide) (by kernel_rfl) HJ.out ?_ ?_
              · intro i' o ho _
                match i', ho with
                | 0, ho =>
                  obtain rfl := Option.some.inj ho
                  intro x wx done hj hdn hrest hd
                  have h : x.tmps.getD 5 undef = .pointer (some ⟨gr, 0, none⟩) := hrest 5 (by decide)
                  exact ⟨h, hj.skip (by decide)⟩
                | 1, ho =>
                  obtain rfl := Option.some.inj ho
                  intro x wx done hj hdn hrest hd
                  have h0 : x.tmps.getD 61 undef = .pointer (some ⟨gr, 0, none⟩) := (hd 0 (by decide)).2
                  simp [execOp, Act.eval, h0, go_sem]
                  exact j_err hj
                | 2, ho =>
                  obtain rfl := Option.some.inj ho
                  intro x wx done hj hdn hrest hd
                  have h : x.tmps.getD 6 undef = .pointer (some ⟨gw, 0, none⟩) := hrest 6 (by decide)
                  exact ⟨h, hj.skip (by decide)⟩
                | 3, ho =>
                  obtain rfl := Option.some.inj ho
                  intro x wx done hj hdn hrest hd
                  have h0 : x.tmps.getD 63 undef = .pointer (some ⟨gw, 0, none⟩) := (hd 2 (by decide)).2
                  simp [execOp, Act.eval, h0, go_sem]
                  exact ⟨rfl, hj.skip (by decide)⟩
                | 4, ho =>
                  obtain rfl := Option.some.inj ho
                  intro x wx done hj hdn hrest hd
                  have h0 : x.tmps.getD 64 undef = .pointer (some ⟨gw, 0, none⟩) := (hd 3 (by decide)).2
                  simp [execOp, Act.eval, h0, go_sem]
                  exact ⟨rfl, hj.skip (by decide)⟩
                | 5, ho =>
                  obtain rfl := Option.some.inj ho
                  intro x wx done hj hdn hrest hd
                  have h0 : x.tmps.getD 65 undef = .pointer (some ⟨gw, 1, none⟩) := (hd 4 (by decide)).2
                  have hc := (cells_of hj.q).2.1
                  simp [execOp, Act.eval, h0, hc, go_sem]
                  exact ⟨rfl, hj.skip (by decide)⟩
                | 6, ho =>
                  obtain rfl := Option.some.inj ho
                  intro x wx done hj hdn hrest hd
                  have h0 : x.tmps.getD 62 undef = .int .i64 e2 := (hd 1 (by decide)).2
                  have h1 : x.tmps.getD 66 undef = .int .i64 e2 := (hd 5 (by decide)).2
                  simp [execOp, Act.eval, h0, h1, go_sem]
                  exact ⟨rfl, hj.skip (by decide)⟩
                | 7, ho =>
                  obtain rfl := Option.some.inj ho
                  intro x wx done hj hdn hrest hd
                  have h : x.tmps.getD 67 undef = .bool false := (hd 6 (by decide)).2
                  exact ⟨h, hj.skip (by decide)⟩
                | 8, ho =>
                  obtain rfl := Option.some.inj ho
                  intro x wx done hj hdn hrest hd
                  have h : x.tmps.getD 5 undef = .pointer (some ⟨gr, 0, none⟩) := hrest 5 (by decide)
                  exact ⟨h, hj.skip (by decide)⟩
                | 9, ho =>
                  obtain rfl := Option.some.inj ho
                  intro x wx done hj hdn hrest hd
                  have h0 : x.tmps.getD 69 undef = .pointer (some ⟨gr, 0, none⟩) := (hd 8 (by decide)).2
                  simp [execOp, Act.eval, h0, go_sem]
                  exact j_end hj
                | 10, ho =>
                  obtain rfl := Option.some.inj ho
                  intro x wx done hj hdn hrest hd
                  have h : x.tmps.getD 6 undef = .pointer (some ⟨gw, 0, none⟩) := hrest 6 (by decide)
                  exact ⟨h, hj.skip (by decide)⟩
                | 11, ho =>
                  obtain rfl := Option.some.inj ho
                  intro x wx done hj hdn hrest hd
                  have h0 : x.tmps.getD 71 undef = .pointer (some ⟨gw, 0, none⟩) := (hd 10 (by decide)).2
                  simp [execOp, Act.eval, h0, go_sem]
                  exact j_rend hj
                | 12, ho =>
                  obtain rfl := Option.some.inj ho
                  intro x wx done hj hdn hrest hd
                  have h0 : x.tmps.getD 70 undef = .int .i64 (endOf l2 e2) := (hd 9 (by decide)).2
                  have h1 : x.tmps.getD 72 undef = .int .i64 (endOf l2 e2) := (hd 11 (by decide)).2
                  simp [execOp, Act.eval, h0, h1, go_sem]
                  exact ⟨rfl, hj.skip (by decide)⟩
                | 13, ho =>
                  obtain rfl := Option.some.inj ho
                  intro x wx done hj hdn hrest hd
                  have h0 : x.tmps.getD 68 undef = .bool false := (hd 7 (by decide)).2
                  have h1 : x.tmps.getD 73 undef = .bool false := (hd 12 (by decide)).2
                  simp [execOp, Act.eval, h0, h1, go_sem]
                  exact ⟨rfl, hj.skip (by decide)⟩
                | 14, ho =>
                  obtain rfl := Option.some.inj ho
                  intro x wx done hj hdn hrest hd
                  have h : x.tmps.getD 74 undef = .bool false := (hd 13 (by decide)).2
                  exact ⟨h, hj.skip (by decide)⟩
                | 15, ho =>
                  obtain rfl := Option.some.inj ho
                  intro x wx done hj hdn hrest hd
                  have h : x.tmps.getD 5 undef = .pointer (some ⟨gr, 0, none⟩) := hrest 5 (by decide)
                  exact ⟨h, hj.skip (by decide)⟩
                | 16, ho =>
                  obtain rfl := Option.some.inj ho
                  intro x wx done hj hdn hrest hd
                  have h0 : x.tmps.getD 76 undef = .pointer (some ⟨gr, 0, none⟩) := (hd 15 (by decide)).2
                  simp [execOp, Act.eval, h0, go_sem]
                  exact j_left hj
                | 17, ho =>
                  obtain rfl := Option.some.inj ho
                  intro x wx done hj hdn hrest hd
                  have h : x.tmps.getD 6 undef = .pointer (some ⟨gw, 0, none⟩) := hrest 6 (by decide)
                  exact ⟨h, hj.skip (by decide)⟩
                | 18, ho =>
                  obtain rfl := Option.some.inj ho
                  intro x wx done hj hdn hrest hd
                  have h0 : x.tmps.getD 78 undef = .pointer (some ⟨gw, 0, none⟩) := (hd 17 (by decide)).2
                  simp [execOp, Act.eval, h0, go_sem]
                  exact ⟨rfl, hj.skip (by decide)⟩
                | 19, ho =>
                  obtain rfl := Option.some.inj ho
                  intro x wx done hj hdn hrest hd
                  have h0 : x.tmps.getD 79 undef = .pointer (some ⟨gw, 0, none⟩) := (hd 18 (by decide)).2
                  simp [execOp, Act.eval, h0, go_sem]
                  exact ⟨rfl, hj.skip (by decide)⟩
                | 20, ho =>
                  obtain rfl := Option.some.inj ho
                  intro x wx done hj hdn hrest hd
                  have h0 : x.tmps.getD 80 undef = .pointer (some ⟨gw, 0, none⟩) := (hd 19 (by decide)).2
                  have hc := (cells_of hj.q).1
                  simp [execOp, Act.eval, h0, hc, go_sem]
                  exact ⟨rfl, hj.skip (by decide)⟩
                | 21, ho =>
                  obtain rfl := Option.some.inj ho
                  intro x wx done hj hdn hrest hd
                  have h0 : x.tmps.getD 81 undef = .string (bs l2) := (hd 20 (by decide)).2
                  simp [execOp, Act.eval, h0, bs_size, go_sem]
                  exact ⟨rfl, hj.skip (by decide)⟩
                | 22, ho =>
                  obtain rfl := Option.some.inj ho
                  intro x wx done hj hdn hrest hd
                  have h0 : x.tmps.getD 77 undef = .int .i64 l2.length := (hd 16 (by decide)).2
                  have h1 : x.tmps.getD 82 undef = .int .i64 l2.length := (hd 21 (by decide)).2
                  simp [execOp, Act.eval, h0, h1, go_sem]
                  exact ⟨rfl, hj.skip (by decide)⟩
                | 23, ho =>
                  obtain rfl := Option.some.inj ho
                  intro x wx done hj hdn hrest hd
                  have h0 : x.tmps.getD 75 undef = .bool false := (hd 14 (by decide)).2
                  have h1 : x.tmps.getD 83 undef = .bool false := (hd 22 (by decide)).2
                  simp [execOp, Act.eval, h0, h1, go_sem]
                  exact ⟨rfl, hj.skip (by decide)⟩
                | n + 24, ho => cases ho
              · intro vs wx hvl hv hj
                match vs, hvl, hv with
                | [v0, v1, v2, v3, v4, v5, v6, v7, v8, v9, v10, v11, v12, v13, v14, v15, v16, v17, v18, v19, v20, v21, v22, v23], _, hv =>
                  have h8 : v23 = .bool false := hv 23 (by simp)
                  subst h8
                  have HRn := Lib.hid hj.r
                  have HQn := Lib.hid hj.q
                  have HBn := Lib.hid hj.below
                  clear hv hj
                  simp only [setF, List.setIfInBounds_toArray, List.set_cons_succ, List.set_cons_zero]
                  go_wp2
                  go_roundg (sc.length - (i + 1))
                  case measure => omega
                  case rel => exact ⟨i + 1, l2, e2, by omega, Nat.le_refl _, by go_num, HRn.out, HQn.out, by omega, HBn.out⟩
        · have b1 : ((sat sc i).k == 1) = false := by rw [beq_eq_false_iff_ne]; omega
          have b2 : ((sat sc i).k == 2) = false := by rw [beq_eq_false_iff_ne]; omega
          clear hk1 hk2
          go_wp2_with fail
          have HJ := Lib.hid (show J15 w gr gw l' e' (fun i => decide (24 ≤ i)) (World.drew _) from ⟨HR.out.same fun _ _ => rfl, HW.out.same rfl, HB.out.drew, hl'⟩)
          go_wp2_with fail
          refine wp_region_inv (V15 gr gw l' e') (J15 w gr gw l' e') (fun _ => true) [61, 62, 63, 64, 65, 66, 67, 68, 69, 70, 71, 72, 73, 74, 75, 76, 77, 78, 79, 80, 81, 82, 83, 84] (GuardsJ.tell [(7, false), (14, false)] (by kernel_rfl) (by
            intro p hp v h
            simp only [List.mem_cons, List.not_mem_nil, or_false] at hp
            rcases hp with rfl | rfl <;> exact h)) (by kernel_rfl) (by kernel_rfl) (by kernel_rfl) (by decide) (by kernel_rfl) HJ.out ?_ ?_
          · intro i' o ho _
            match i', ho with
            | 0, ho =>
              obtain rfl := Option.some.inj ho
              intro x wx done hj hdn hrest hd
              have h : x.tmps.getD 5 undef = .pointer (some ⟨gr, 0, none⟩) := hrest 5 (by decide)
              exact ⟨h, hj.skip (by decide)⟩
            | 1, ho =>
              obtain rfl := Option.some.inj ho
              intro x wx done hj hdn hrest hd
              have h0 : x.tmps.getD 61 undef = .pointer (some ⟨gr, 0, none⟩) := (hd 0 (by decide)).2
              simp [execOp, Act.eval, h0, go_sem]
              exact j_err hj
            | 2, ho =>
              obtain rfl := Option.some.inj ho
              intro x wx done hj hdn hrest hd
              have h : x.tmps.getD 6 undef = .pointer (some ⟨gw, 0, none⟩) := hrest 6 (by decide)
              exact ⟨h, hj.skip (by decide)⟩
            | 3, ho =>
              obtain rfl := Option.some.inj ho
              intro x wx done hj hdn hrest hd
              have h0 : x.tmps.getD 63 undef = .pointer (some ⟨gw, 0, none⟩) := (hd 2 (by decide)).2
              simp [execOp, Act.eval, h0, go_sem]
              exact ⟨rfl, hj.skip (by decide)⟩
            | 4, ho =>
              obtain rfl := Option.some.inj ho
              intro x wx done hj hdn hrest hd
              have h0 : x.tmps.getD 64 undef = .pointer (some ⟨gw, 0, none⟩) := (hd 3 (by decide)).2
              simp [execOp, Act.eval, h0, go_sem]
              exact ⟨rfl, hj.skip (by decide)⟩
            | 5, ho =>
              obtain rfl := Option.some.inj ho
              intro x wx done hj hdn hrest hd
              have h0 : x.tmps.getD 65 undef = .pointer (some ⟨gw, 1, none⟩) := (hd 4 (by decide)).2
              have hc := (cells_of hj.q).2.1
              simp [execOp, Act.eval, h0, hc, go_sem]
              exact ⟨rfl, hj.skip (by decide)⟩
            | 6, ho =>
              obtain rfl := Option.some.inj ho
              intro x wx done hj hdn hrest hd
              have h0 : x.tmps.getD 62 undef = .int .i64 e' := (hd 1 (by decide)).2
              have h1 : x.tmps.getD 66 undef = .int .i64 e' := (hd 5 (by decide)).2
              simp [execOp, Act.eval, h0, h1, go_sem]
              exact ⟨rfl, hj.skip (by decide)⟩
            | 7, ho =>
              obtain rfl := Option.some.inj ho
              intro x wx done hj hdn hrest hd
              have h : x.tmps.getD 67 undef = .bool false := (hd 6 (by decide)).2
              exact ⟨h, hj.skip (by decide)⟩
            | 8, ho =>
              obtain rfl := Option.some.inj ho
              intro x wx done hj hdn hrest hd
              have h : x.tmps.getD 5 undef = .pointer (some ⟨gr, 0, none⟩) := hrest 5 (by decide)
              exact ⟨h, hj.skip (by decide)⟩
            | 9, ho =>
              obtain rfl := Option.some.inj ho
              intro x wx done hj hdn hrest hd
              have h0 : x.tmps.getD 69 undef = .pointer (some ⟨gr, 0, none⟩) := (hd 8 (by decide)).2
              simp [execOp, Act.eval, h0, go_sem]
              exact j_end hj
            | 10, ho =>
              obtain rfl := Option.some.inj ho
              intro x wx done hj hdn hrest hd
              have h : x.tmps.getD 6 undef = .pointer (some ⟨gw, 0, none⟩) := hrest 6 (by decide)
              exact ⟨h, hj.skip (by decide)⟩
            | 11, ho =>
              obtain rfl := Option.some.inj ho
              intro x wx done hj hdn hrest hd
              have h0 : x.tmps.getD 71 undef = .pointer (some ⟨gw, 0, none⟩) := (hd 10 (by decide)).2
              simp [execOp, Act.eval, h0, go_sem]
              exact j_rend hj
            | 12, ho =>
              obtain rfl := Option.some.inj ho
              intro x wx done hj hdn hrest hd
              have h0 : x.tmps.getD 70 undef = .int .i64 (endOf l' e') := (hd 9 (by decide)).2
              have h1 : x.tmps.getD 72 undef = .int .i64 (endOf l' e') := (hd 11 (by decide)).2
              simp [execOp, Act.eval, h0, h1, go_sem]
              exact ⟨rfl, hj.skip (by decide)⟩
            | 13, ho =>
              obtain rfl := Option.some.inj ho
              intro x wx done hj hdn hrest hd
              have h0 : x.tmps.getD 68 undef = .bool false := (hd 7 (by decide)).2
              have h1 : x.tmps.getD 73 undef = .bool false := (hd 12 (by decide)).2
              simp [execOp, Act.eval, h0, h1, go_sem]
              exact ⟨rfl, hj.skip (by decide)⟩
            | 14, ho =>
              obtain rfl := Option.some.inj ho
              intro x wx done hj hdn hrest hd
              have h : x.tmps.getD 74 undef = .bool false := (hd 13 (by decide)).2
              exact ⟨h, hj.skip (by decide)⟩
            | 15, ho =>
              obtain rfl := Option.some.inj ho
              intro x wx done hj hdn hrest hd
              have h : x.tmps.getD 5 undef = .pointer (some ⟨gr, 0, none⟩) := hrest 5 (by decide)
              exact ⟨h, hj.skip (by decide)⟩
            | 16, ho =>
              obtain rfl := Option.some.inj ho
              intro x wx done hj hdn hrest hd
              have h0 : x.tmps.getD 76 undef = .pointer (some ⟨gr, 0, none⟩) := (hd 15 (by decide)).2
              simp [execOp, Act.eval, h0, go_sem]
              exact j_left hj
            | 17, ho =>
              obtain rfl := Option.some.inj ho
              intro x wx done hj hdn hrest hd
              have h : x.tmps.getD 6 undef = .pointer (some ⟨gw, 0, none⟩) := hrest 6 (by decide)
              exact ⟨h, hj.skip (by decide)⟩
            | 18, ho =>
              obtain rfl := Option.some.inj ho
              intro x wx done hj hdn hrest hd
              have h0 : x.tmps.getD 78 undef = .pointer (some ⟨gw, 0, none⟩) := (hd 17 (by decide)).2
              simp [execOp, Act.eval, h0, go_sem]
              exact ⟨rfl, hj.skip (by decide)⟩
            | 19, ho =>
              obtain rfl := Option.some.inj ho
              intro x wx done hj hdn hrest hd
              have h0 : x.tmps.getD 79 undef = .pointer (some ⟨gw, 0, none⟩) := (hd 18 (by decide)).2
              simp [execOp, Act.eval, h0, go_sem]
              exact ⟨rfl, hj.skip (by decide)⟩
            | 20, ho =>
              obtain rfl := Option.some.inj ho
              intro x wx done hj hdn hrest hd
              have h0 : x.tmps.getD 80 undef = .pointer (some ⟨gw, 0, none⟩) := (hd 19 (by decide)).2
              have hc := (cells_of hj.q).1
              simp [execOp, Act.eval, h0, hc, go_sem]
              exact ⟨rfl, hj.skip (by decide)⟩
            | 21, ho =>
              obtain rfl := Option.some.inj ho
              intro x wx done hj hdn hrest hd
              have h0 : x.tmps.getD 81 undef = .string (bs l') := (hd 20 (by decide)).2
              simp [execOp, Act.eval, h0, bs_size, go_sem]
              exact ⟨rfl, hj.skip (by decide)⟩
            | 22, ho =>
              obtain rfl := Option.some.inj ho
              intro x wx done hj hdn hrest hd
              have h0 : x.tmps.getD 77 undef = .int .i64 l'.length := (hd 16 (by decide)).2
              have h1 : x.tmps.getD 82 undef = .int .i64 l'.length := (hd 21 (by decide)).2
              simp [execOp, Act.eval, h0, h1, go_sem]
              exact ⟨rfl, hj.skip (by decide)⟩
            | 23, ho =>
              obtain rfl := Option.some.inj ho
              intro x wx done hj hdn hrest hd
              have h0 : x.tmps.getD 75 undef = .bool false := (hd 14 (by decide)).2
              have h1 : x.tmps.getD 83 undef = .bool false := (hd 22 (by decide)).2
              simp [execOp, Act.eval, h0, h1, go_sem]
              exact ⟨rfl, hj.skip (by decide)⟩
            | n + 24, ho => cases ho
          · intro vs wx hvl hv hj
            match vs, hvl, hv with
            | [v0, v1, v2, v3, v4, v5, v6, v7, v8, v9, v10, v11, v12, v13, v14, v15, v16, v17, v18, v19, v20, v21, v22, v23], _, hv =>
              have h8 : v23 = .bool false := hv 23 (by simp)
              subst h8
              have HRn := Lib.hid hj.r
              have HQn := Lib.hid hj.q
              have HBn := Lib.hid hj.below
              clear hv hj
              simp only [setF, List.setIfInBounds_toArray, List.set_cons_succ, List.set_cons_zero]
              go_wp2
              go_roundg (sc.length - (i + 1))
              case measure => omega
              case rel => exact ⟨i + 1, l', e', by omega, Nat.le_refl _, by go_num, HRn.out, HQn.out, by omega, HBn.out⟩
    · obtain rfl : i = sc.length := by omega
      go_wp2
      go_ret
      exact ⟨rfl, HB.out⟩

end Go.Proofs.Ytbamkkohfeglaaa
