/- PackOne's walk. -/
import Derived.Test.YtbamkkohfeglaaaG
namespace Go.Proofs.Ytbamkkohfeglaaa
open Go.RowKit Go.Sort
attribute [local go_sem ↓] run_min2 run_max2

theorem num_pos' (n : Nat) : 0 < (num n).length := (numF_length 8 n).2
theorem numF_mono : ∀ f a b, a ≤ b → (numF f a).length ≤ (numF f b).length
  | 0, _, _, _ => Nat.le_refl _
  | f + 1, a, b, h => by
    rw [numF, numF]
    split
    · split
      · exact Nat.le_refl _
      · simp
    · rw [if_neg (by omega)]
      have := numF_mono f (a / 128) (b / 128) (Nat.div_le_div_right h)
      simp
      omega
theorem clamp_mono {a b : Int} (h : a ≤ b) : clamp a ≤ clamp b := by unfold clamp; omega
theorem num_inj {a b : Nat} (ha : a ≤ wid) (hb : b ≤ wid) (h : num a = num b) : a = b := by
  have h1 := number_num a ha []
  have h2 := number_num b hb []
  rw [h, h2] at h1
  exact (congrArg Prod.fst h1).symm
/-- What is read whole is the number's one text. -/
theorem rdn_whole : ∀ (l : List UInt8) (f i n x : Nat), i + f = 8 → rdn i n l = (x, [], 0) → ∃ m, x = n + m * 128 ^ i ∧ numF f m = l ∧ (0 < i → 0 < m)
  | [], f, i, n, x, _, h => by simp [rdn] at h
  | c :: r, f, i, n, x, hi, h => by
    rw [rdn] at h
    split at h
    · simp at h
    · rename_i hw
      split at h
      · rename_i hlt
        simp only [Prod.mk.injEq, and_true] at h
        obtain ⟨h1, rfl⟩ := h
        refine ⟨c.toNat, ?_, ?_, fun h0 => ?_⟩
        · rw [← h1, Nat.mod_eq_of_lt hlt]
        · have hc : UInt8.ofNat c.toNat = c := by simp
          cases f with
          | zero => rw [numF, hc]
          | succ f => rw [numF, if_pos hlt, hc]
        · by_cases hc0 : c.toNat = 0
          · exact absurd (.inr ⟨h0, hc0⟩) hw
          · omega
      · rename_i hge
        have h8 : i ≠ 8 := fun q => hw (.inl ⟨q, .inl (by omega)⟩)
        obtain ⟨f, rfl⟩ : ∃ f', f = f' + 1 := ⟨f - 1, by omega⟩
        obtain ⟨m, h1, h2, h3⟩ := rdn_whole r f (i + 1) _ x (by omega) h
        have hm := h3 (by omega)
        refine ⟨c.toNat % 128 + 128 * m, ?_, ?_, fun _ => by omega⟩
        · rw [h1, Nat.pow_succ, Nat.add_assoc, Nat.add_mul]
          congr 2
          ac_rfl
        · have hc8 := c.toNat_lt
          rw [numF, if_neg (by omega), show (c.toNat % 128 + 128 * m) / 128 = m from by omega, h2]
          congr 1
          apply UInt8.toNat_inj.1
          rw [UInt8.toNat_ofNat']
          omega
theorem number_whole {l : List UInt8} {x : Nat} (h : number l 0 = (x, [], 0)) : num x = l := by
  rw [number, if_pos rfl] at h
  obtain ⟨m, h1, h2, _⟩ := rdn_whole l 8 0 0 x rfl h
  simp at h1
  rw [h1]
  exact h2
/-- The guards, whatever they say. -/
def tellB (ops : Array Oper) (live : Nat → Bool) (vals : List (Nat × Bool)) : Bool :=
  (List.range ops.size).all fun i => match ops[i]? with
    | some o => (match o.guard with | none => live i | some (j, b) => decide (j < i) && (depsOf o).contains j && vals.contains (j, if live i then b else !b))
    | none => true
theorem Guards.tell {ops : Array Oper} {live : Nat → Bool} {V : Nat → Value → World → Prop} (vals : List (Nat × Bool)) (h : tellB ops live vals = true) (hv : ∀ p ∈ vals, ∀ v w, V p.1 v w → v = .bool p.2) (hd : ∀ i, live i = false → ∀ w, V i undef w) : Guards ops live V := by
  have hat : ∀ (i : Nat) (o : Oper), ops[i]? = some o → (match o.guard with | none => live i | some (j, b) => decide (j < i) && (depsOf o).contains j && vals.contains (j, if live i then b else !b)) = true := fun i o ho => by
    have hi : i < ops.size := (Array.getElem?_eq_some_iff.1 ho).1
    have h1 := List.all_eq_true.1 h i (List.mem_range.2 hi)
    rw [ho] at h1
    exact h1
  refine ⟨fun i o j b ho hg => ?_, fun i o ho hg => ?_, hd⟩
  · have h1 := hat i o ho
    rw [hg] at h1
    simp only [Bool.and_eq_true] at h1
    obtain ⟨⟨h3, h4⟩, h5⟩ := h1
    exact ⟨of_decide_eq_true h3, List.contains_iff_mem.1 h4, hv (j, if live i then b else !b) (List.contains_iff_mem.1 h5)⟩
  · have h1 := hat i o ho
    rw [hg] at h1
    exact h1
def SlcO (l : List UInt8) (v : Value) (w : World) : Prop := ∃ g c, v = .slice (some ⟨g, 0, none⟩) l.length c ∧ g < w.heap.size ∧ l.length ≤ c ∧ LiesB w g 0 l
theorem SlcO.below {l : List UInt8} {v : Value} {w w' : World} (h : SlcO l v w) (hB : Below w.heap.size w w') : SlcO l v w' := by
  obtain ⟨g, c, h1, h2, h3, h4⟩ := h
  exact ⟨g, c, h1, Nat.lt_of_lt_of_le h2 hB.size, h3, h4.same (hB.block g h2)⟩
theorem SlcO.own {B : Nat} {w : World} {v : Value} {l : List UInt8} (h : Own B w v l) (h0 : 0 < l.length) : SlcO l v w := by
  rcases h.2 with ⟨rfl, hn⟩ | ⟨g, cap, cur, rfl, hb, hg, hc, _⟩
  · omega
  · refine ⟨g, cap, rfl, (Array.getElem?_eq_some_iff.1 hg).1, hc, ?_⟩
    intro k hk
    have := h.cells rfl k (.int .u8 (bat l k).toNat) (by simp [bvals, bat, List.getD, hk])
    rwa [Addr.add_lit] at this
theorem rel_lay (z : Int) (wx : World) {V : Value → World → Prop} (hV : ∀ {v w'}, SlcO (num (clamp z)) v w' → V v w' := by exact id) : relUpon Try.prog V wx (.ok (.enter 11 #[.slice none 0 0, .int .i64 z]) wx) := by
  refine (lay_any (B := wx.heap.size) (w := wx) (v := .slice none 0 0) (l := []) (.inl (World.ownsRow_nil _ _ _ _)) (Nat.le_refl _) (by decide) z).mono ?_
  rintro e w' ⟨v, rfl, ho, hb⟩
  exact ⟨_, rfl, hb, hV (SlcO.own ho (num_pos' _))⟩
theorem rel_lay_nat (u : Nat) (hu : u ≤ wid) (wx : World) {V : Value → World → Prop} (hV : ∀ {v w'}, SlcO (num u) v w' → V v w' := by exact id) : relUpon Try.prog V wx (.ok (.enter 11 #[.slice none 0 0, .int .i64 u]) wx) := by
  refine rel_lay (u : Int) wx ?_
  rw [clamp_nat hu]
  exact hV
theorem rel_end {wx : World} {b : Nat} {l : List UInt8} {e E : Nat} (h : Rdr wx b l e) (hE : endOf l e = E) {V : Value → World → Prop} (hV : ∀ {v w'}, v = .int .i64 E → V v w' := by exact id) : relUpon Try.prog V wx (.ok (.enter 17 #[.pointer (some ⟨b, 0, none⟩)]) wx) := by
  subst hE
  refine (end_any h).mono ?_
  rintro e w' ⟨rfl, rfl⟩
  exact ⟨_, rfl, Below.refl _ _, hV rfl⟩
def V5t (l : List UInt8) (bv rv : Value) (u E : Nat) (i : Nat) (v : Value) (w : World) : Prop :=
  match i with
  | 0 => v = rv
  | 1 => v = .int .i64 E
  | 2 => v = .bool true
  | 3 => v = .bool true
  | 4 => v = .int .i64 u
  | 5 => SlcO (num u) v w
  | 6 => v = .string (bs (num u))
  | 7 => v = bv
  | 8 => v = .string (bs l)
  | 9 => v = .bool false
  | 10 => v = .bool false
  | _ => True
theorem V5t_below {l : List UInt8} {bv rv : Value} {u E : Nat} : ∀ i v w w', Below w.heap.size w w' → V5t l bv rv u E i v w → V5t l bv rv u E i v w' := by
  intro i v w w' hB h
  unfold V5t at *
  split at h
  all_goals first | exact h | exact SlcO.below h hB
def V5f (rv : Value) (E : Nat) (i : Nat) (v : Value) (_ : World) : Prop :=
  match i with
  | 0 => v = rv
  | 1 => v = .int .i64 E
  | 2 => v = .bool false
  | 3 => v = .bool false
  | 4 => True
  | 5 => True
  | 6 => True
  | 7 => True
  | 8 => True
  | 9 => True
  | 10 => v = .bool false
  | _ => True
theorem V5f_below {rv : Value} {E : Nat} : ∀ i v w w', Below w.heap.size w w' → V5f rv E i v w → V5f rv E i v w' := by
  intro i v w w' hB h
  unfold V5f at *
  split at h
  all_goals first | exact h
def V7 (n m : Int) (q : Bool) (i : Nat) (v : Value) (w : World) : Prop :=
  match i with
  | 0 => v = .int .i64 n
  | 1 => v = .int .i64 m
  | 2 => v = .int .i64 (min n m)
  | 3 => SlcO (num (clamp (min n m))) v w
  | 4 => v = .int .i64 (num (clamp (min n m))).length
  | 5 => v = .int .i64 n
  | 6 => v = .int .i64 m
  | 7 => v = .int .i64 (max n m)
  | 8 => SlcO (num (clamp (max n m))) v w
  | 9 => v = .int .i64 (num (clamp (max n m))).length
  | 10 => v = .bool true
  | 11 => v = .bool true
  | 12 => v = .int .i64 n
  | 13 => SlcO (num (clamp n)) v w
  | 14 => v = .string (bs (num (clamp n)))
  | 15 => v = .int .i64 m
  | 16 => SlcO (num (clamp m)) v w
  | 17 => v = .string (bs (num (clamp m)))
  | 18 => v = .bool q
  | 19 => v = .int .i64 n
  | 20 => v = .int .i64 (min n 1152921504606846975)
  | 21 => v = .int .i64 (clamp n)
  | 22 => v = .int .i64 m
  | 23 => v = .int .i64 (min m 1152921504606846975)
  | 24 => v = .int .i64 (clamp m)
  | 25 => v = .bool q
  | 26 => v = .bool true
  | 27 => v = .bool true
  | 28 => v = .bool true
  | _ => True
theorem V7_below {n m : Int} {q : Bool} : ∀ i v w w', Below w.heap.size w w' → V7 n m q i v w → V7 n m q i v w' := by
  intro i v w w' hB h
  unfold V7 at *
  split at h
  all_goals first | exact h | exact SlcO.below h hB

set_option maxRecDepth 20000 in
set_option maxHeartbeats 6400000 in
theorem one_walk (a : Option Addr) (c : Nat) (l : List UInt8) (n m : Int) (w : World) (hin : Hb w.heap.size w a c l) :
    Calls Try.prog 4 #[.slice a l.length c, .int .i64 n, .int .i64 m] w fun e w' => e = .returned (.bool true) ∧ Below w.heap.size w w' := by
  have HIN := Lib.hid hin
  clear hin
  go_enter Try.func4, Try.ntmps4
  go_wp2_with fail
  refine (awake_any w).mono ?_
  rintro e w1 ⟨rfl, hb1⟩
  have HB1 := Lib.hid hb1
  have HI1 := Lib.hid (hb_below HIN.out hb1)
  clear hb1
  by_cases hbig : (l.length : Int) > 100
  · go_wp2_with fail
    refine (awake_any w1).mono ?_
    rintro e w2 ⟨rfl, hb2⟩
    have HB2 := Lib.hid (HB1.out.trans (hb2.mono HB1.out.size))
    clear hb2
    go_wp2
    go_ret
    exact ⟨rfl, HB2.out⟩
  have hl : l.length ≤ 100 := by omega
  go_wp2_with fail
  refine (read_any HI1.out).mono ?_
  rintro e w2 ⟨rfl, hr, hb2⟩
  have HR2 := Lib.hid hr
  have HB2 := Lib.hid (HB1.out.trans (hb2.mono HB1.out.size))
  have HI2 := Lib.hid ((HI1.out.same fun b hb => hb2.block b hb))
  have hbg := HB1.out.size
  clear hr hb2
  obtain ⟨gr, hgr⟩ : ∃ gr, gr = w1.heap.size := ⟨_, rfl⟩
  rw [← hgr] at hbg HR2 HI2 ⊢
  clear hgr
  have hnc := number_cases l 0
  have hwh := fun x => number_whole (l := l) (x := x)
  have hcall := number_any HR2.out (by omega)
  revert hnc hwh hcall
  generalize number l 0 = nr
  obtain ⟨u, l', e'⟩ := nr
  intro hnc hwh hcall
  have hu : u ≤ wid := hnc.1
  go_wp2_with fail
  refine hcall.mono ?_
  rintro e w3 ⟨rfl, hr, hg⟩
  have HR := Lib.hid (show Rdr w3 gr l' e' from hr)
  have HB3 := Lib.hid (HB2.out.grown hg HB2.out.size (fun k e => by injection e with e; subst e; exact hbg))
  have HI3 := Lib.hid (HI2.out.same fun b hb => hg.block b (Nat.lt_trans hb HR2.out.lt) (fun e => by injection e with e; omega))
  have HBV := Lib.hid (hb_reads (HI3.out.mono (Nat.le_of_lt hr.lt)))
  clear hr hg hcall hnc
  obtain ⟨E, hE⟩ : ∃ E, endOf l' e' = E := ⟨_, rfl⟩
  have HE := Lib.hid hE
  have hq1 : ((bs (num (clamp n))).toList == (bs (num (clamp m))).toList) = decide (clamp n = clamp m) := by
    rw [Bool.eq_iff_iff, beq_iff_eq, decide_eq_true_iff, ByteArray.toList_eq, ByteArray.toList_eq]
    exact ⟨fun h => num_inj (clamp_le n) (clamp_le m) h, fun h => by rw [h]⟩
  have hq2 : (((clamp n : Nat) : Int) == ((clamp m : Nat) : Int)) = decide (clamp n = clamp m) := by
    rw [Bool.eq_iff_iff, beq_iff_eq, decide_eq_true_iff]
    omega
  have hle : ((num (clamp (min n m))).length : Int) ≤ ((num (clamp (max n m))).length : Int) := by
    have := numF_mono 8 (clamp (min n m)) (clamp (max n m)) (clamp_mono (by omega))
    exact Int.ofNat_le.2 this
  have hcn := (clamp_eq n).symm
  have hcm := (clamp_eq m).symm
  have Q1 := Lib.hid hq1
  have Q2 := Lib.hid hq2
  have LE := Lib.hid hle
  have CN := Lib.hid hcn
  have CM := Lib.hid hcm
  clear hq1 hq2 hle hcn hcm hE
  generalize decide (clamp n = clamp m) = q at Q1 Q2
  have hfin : ∀ (x : Act) (wx : World) (K : Act → World → Prop), True := fun _ _ _ => trivial
  clear hfin
  by_cases h0 : E = 0
  · have hE0 : ((E : Int) == 0) = true := by rw [beq_iff_eq]; omega
    have hx : l' = [] ∧ e' = 0 := by
      have h := HE.out
      rw [h0, endOf] at h
      split at h
      · rename_i h1
        split at h
        · rename_i h2
          exact ⟨List.length_eq_zero_iff.1 h2, h1⟩
        · cases h
      · rename_i h1
        exact absurd h h1
    obtain ⟨rfl, rfl⟩ := hx
    have HXL := Lib.hid (hwh u rfl)
    clear hwh h0
    go_wp2_with fail
    refine wp_region_relG (V5t l (.slice a l.length c) (.pointer (some ⟨gr, 0, none⟩)) u E) (fun _ => true) (Guards.all [3] (by kernel_rfl) (by
      intro j hj v w h
      simp only [List.mem_cons, List.not_mem_nil, or_false] at hj
      subst hj
      exact h)) (by kernel_rfl) (by kernel_rfl) V5t_below ?_ ?_
    · intro i o ho _
      match i, ho with
      | 0, ho =>
        obtain rfl := Option.some.inj ho
        intro x wx hb hrest hd
        have h : x.tmps.getD 7 undef = .pointer (some ⟨gr, 0, none⟩) := hrest 7 (by decide)
        exact ⟨Below.refl _ _, h⟩
      | 1, ho =>
        obtain rfl := Option.some.inj ho
        intro x wx hb hrest hd
        have h0 : x.tmps.getD 21 undef = .pointer (some ⟨gr, 0, none⟩) := hd 0 (by decide)
        simp [execOp, Act.eval, h0, go_sem]
        exact rel_end (HR.out.below hb) HE.out
      | 2, ho =>
        obtain rfl := Option.some.inj ho
        intro x wx hb hrest hd
        have h0 : x.tmps.getD 22 undef = .int .i64 E := hd 1 (by decide)
        simp [execOp, Act.eval, h0, hE0, go_sem]
        exact ⟨Below.refl _ _, rfl⟩
      | 3, ho =>
        obtain rfl := Option.some.inj ho
        intro x wx hb hrest hd
        have h : x.tmps.getD 23 undef = .bool true := hd 2 (by decide)
        exact ⟨Below.refl _ _, h⟩
      | 4, ho =>
        obtain rfl := Option.some.inj ho
        intro x wx hb hrest hd
        have h : x.tmps.getD 8 undef = .int .i64 u := hrest 8 (by decide)
        exact ⟨Below.refl _ _, h⟩
      | 5, ho =>
        obtain rfl := Option.some.inj ho
        intro x wx hb hrest hd
        have h : x.tmps.getD 25 undef = .int .i64 u := hd 4 (by decide)
        simp [execOp, Act.eval, h, go_sem]
        exact rel_lay_nat u hu wx
      | 6, ho =>
        obtain rfl := Option.some.inj ho
        intro x wx hb hrest hd
        obtain ⟨g, cc, h, hq, _, hl⟩ : SlcO (num u) (x.tmps.getD 26 undef) wx := hd 5 (by decide)
        have hc := str_lies (cap := cc) hl
        simp [execOp, Act.eval, h, go_sem, hc]
        exact ⟨Below.refl _ _, rfl⟩
      | 7, ho =>
        obtain rfl := Option.some.inj ho
        intro x wx hb hrest hd
        have h : x.tmps.getD 0 undef = .slice a l.length c := hrest 0 (by decide)
        exact ⟨Below.refl _ _, h⟩
      | 8, ho =>
        obtain rfl := Option.some.inj ho
        intro x wx hb hrest hd
        have h0 : x.tmps.getD 28 undef = .slice a l.length c := hd 7 (by decide)
        have hc := HBV.out wx hb
        simp [execOp, Act.eval, h0, hc, go_sem]
        exact ⟨Below.refl _ _, rfl⟩
      | 9, ho =>
        obtain rfl := Option.some.inj ho
        intro x wx hb hrest hd
        have h0 : x.tmps.getD 27 undef = .string (bs (num u)) := hd 6 (by decide)
        have h1 : x.tmps.getD 29 undef = .string (bs l) := hd 8 (by decide)
        simp [execOp, Act.eval, h0, h1, HXL.out, go_sem]
        exact ⟨Below.refl _ _, rfl⟩
      | 10, ho =>
        obtain rfl := Option.some.inj ho
        intro x wx hb hrest hd
        have h0 : x.tmps.getD 24 undef = .bool true := hd 3 (by decide)
        have h1 : x.tmps.getD 30 undef = .bool false := hd 9 (by decide)
        simp [execOp, Act.eval, h0, h1, go_sem]
        exact ⟨Below.refl _ _, rfl⟩
      | n + 11, ho => cases ho
    · rintro x wx ⟨hsz, hdf, hv, hrest, hbel⟩
      have h31 : x.tmps.getD 31 undef = .bool false := hv 10 (by decide)
      have f1 : x.tmps.getD 1 undef = .int .i64 n := hrest 1 (by decide)
      have f2 : x.tmps.getD 2 undef = .int .i64 m := hrest 2 (by decide)
      have HBX := Lib.hid (HB3.out.trans (hbel.mono HB3.out.size))
      have F1 := Lib.hid f1
      have F2 := Lib.hid f2
      have HSZ := Lib.hid hsz
      have HDF := Lib.hid hdf
      clear hv hrest hbel f1 f2 hsz hdf hE0
      go_wp2_with fail
      refine wp_cond_false (show x.eval (.tmp 31) = .bool false from h31) ?_
      clear h31
      go_wp2_with fail
      have f1 := F1.out
      have f2 := F2.out
      have hq1 := Q1.out
      have hq2 := Q2.out
      have hle := LE.out
      have hcn := CN.out
      have hcm := CM.out
      refine wp_region_relG (V7 n m q) (fun _ => true) (Guards.all [11] (by kernel_rfl) (by
        intro j hj v w h
        simp only [List.mem_cons, List.not_mem_nil, or_false] at hj
        subst hj
        exact h)) (by kernel_rfl) (by rw [HSZ.out]; kernel_rfl) V7_below ?_ ?_
      · intro i o ho _
        match i, ho with
        | 0, ho =>
          obtain rfl := Option.some.inj ho
          intro x wx hb hrest hd
          have h : x.tmps.getD 1 undef = .int .i64 n := (hrest 1 (by decide)).trans f1
          exact ⟨Below.refl _ _, h⟩
        | 1, ho =>
          obtain rfl := Option.some.inj ho
          intro x wx hb hrest hd
          have h : x.tmps.getD 2 undef = .int .i64 m := (hrest 2 (by decide)).trans f2
          exact ⟨Below.refl _ _, h⟩
        | 2, ho =>
          obtain rfl := Option.some.inj ho
          intro x wx hb hrest hd
          have h0 : x.tmps.getD 32 undef = .int .i64 n := hd 0 (by decide)
          have h1 : x.tmps.getD 33 undef = .int .i64 m := hd 1 (by decide)
          simp [execOp, Act.eval, h0, h1, go_sem]
          exact ⟨Below.refl _ _, rfl⟩
        | 3, ho =>
          obtain rfl := Option.some.inj ho
          intro x wx hb hrest hd
          have h : x.tmps.getD 34 undef = .int .i64 (min n m) := hd 2 (by decide)
          simp [execOp, Act.eval, h, go_sem]
          exact rel_lay (min n m) wx
        | 4, ho =>
          obtain rfl := Option.some.inj ho
          intro x wx hb hrest hd
          obtain ⟨g, cc, h, hq, _, hl⟩ : SlcO (num (clamp (min n m))) (x.tmps.getD 35 undef) wx := hd 3 (by decide)
          simp [execOp, Act.eval, h, go_sem]
          exact ⟨Below.refl _ _, rfl⟩
        | 5, ho =>
          obtain rfl := Option.some.inj ho
          intro x wx hb hrest hd
          have h : x.tmps.getD 1 undef = .int .i64 n := (hrest 1 (by decide)).trans f1
          exact ⟨Below.refl _ _, h⟩
        | 6, ho =>
          obtain rfl := Option.some.inj ho
          intro x wx hb hrest hd
          have h : x.tmps.getD 2 undef = .int .i64 m := (hrest 2 (by decide)).trans f2
          exact ⟨Below.refl _ _, h⟩
        | 7, ho =>
          obtain rfl := Option.some.inj ho
          intro x wx hb hrest hd
          have h0 : x.tmps.getD 37 undef = .int .i64 n := hd 5 (by decide)
          have h1 : x.tmps.getD 38 undef = .int .i64 m := hd 6 (by decide)
          simp [execOp, Act.eval, h0, h1, go_sem]
          exact ⟨Below.refl _ _, rfl⟩
        | 8, ho =>
          obtain rfl := Option.some.inj ho
          intro x wx hb hrest hd
          have h : x.tmps.getD 39 undef = .int .i64 (max n m) := hd 7 (by decide)
          simp [execOp, Act.eval, h, go_sem]
          exact rel_lay (max n m) wx
        | 9, ho =>
          obtain rfl := Option.some.inj ho
          intro x wx hb hrest hd
          obtain ⟨g, cc, h, hq, _, hl⟩ : SlcO (num (clamp (max n m))) (x.tmps.getD 40 undef) wx := hd 8 (by decide)
          simp [execOp, Act.eval, h, go_sem]
          exact ⟨Below.refl _ _, rfl⟩
        | 10, ho =>
          obtain rfl := Option.some.inj ho
          intro x wx hb hrest hd
          have h0 : x.tmps.getD 36 undef = .int .i64 (num (clamp (min n m))).length := hd 4 (by decide)
          have h1 : x.tmps.getD 41 undef = .int .i64 (num (clamp (max n m))).length := hd 9 (by decide)
          simp [execOp, Act.eval, h0, h1, hle, go_sem]
          exact ⟨Below.refl _ _, rfl⟩
        | 11, ho =>
          obtain rfl := Option.some.inj ho
          intro x wx hb hrest hd
          have h : x.tmps.getD 42 undef = .bool true := hd 10 (by decide)
          exact ⟨Below.refl _ _, h⟩
        | 12, ho =>
          obtain rfl := Option.some.inj ho
          intro x wx hb hrest hd
          have h : x.tmps.getD 1 undef = .int .i64 n := (hrest 1 (by decide)).trans f1
          exact ⟨Below.refl _ _, h⟩
        | 13, ho =>
          obtain rfl := Option.some.inj ho
          intro x wx hb hrest hd
          have h : x.tmps.getD 44 undef = .int .i64 n := hd 12 (by decide)
          simp [execOp, Act.eval, h, go_sem]
          exact rel_lay n wx
        | 14, ho =>
          obtain rfl := Option.some.inj ho
          intro x wx hb hrest hd
          obtain ⟨g, cc, h, hq, _, hl⟩ : SlcO (num (clamp n)) (x.tmps.getD 45 undef) wx := hd 13 (by decide)
          have hc := str_lies (cap := cc) hl
          simp [execOp, Act.eval, h, go_sem, hc]
          exact ⟨Below.refl _ _, rfl⟩
        | 15, ho =>
          obtain rfl := Option.some.inj ho
          intro x wx hb hrest hd
          have h : x.tmps.getD 2 undef = .int .i64 m := (hrest 2 (by decide)).trans f2
          exact ⟨Below.refl _ _, h⟩
        | 16, ho =>
          obtain rfl := Option.some.inj ho
          intro x wx hb hrest hd
          have h : x.tmps.getD 47 undef = .int .i64 m := hd 15 (by decide)
          simp [execOp, Act.eval, h, go_sem]
          exact rel_lay m wx
        | 17, ho =>
          obtain rfl := Option.some.inj ho
          intro x wx hb hrest hd
          obtain ⟨g, cc, h, hq, _, hl⟩ : SlcO (num (clamp m)) (x.tmps.getD 48 undef) wx := hd 16 (by decide)
          have hc := str_lies (cap := cc) hl
          simp [execOp, Act.eval, h, go_sem, hc]
          exact ⟨Below.refl _ _, rfl⟩
        | 18, ho =>
          obtain rfl := Option.some.inj ho
          intro x wx hb hrest hd
          have h0 : x.tmps.getD 46 undef = .string (bs (num (clamp n))) := hd 14 (by decide)
          have h1 : x.tmps.getD 49 undef = .string (bs (num (clamp m))) := hd 17 (by decide)
          simp [execOp, Act.eval, h0, h1, hq1, go_sem]
          exact ⟨Below.refl _ _, rfl⟩
        | 19, ho =>
          obtain rfl := Option.some.inj ho
          intro x wx hb hrest hd
          have h : x.tmps.getD 1 undef = .int .i64 n := (hrest 1 (by decide)).trans f1
          exact ⟨Below.refl _ _, h⟩
        | 20, ho =>
          obtain rfl := Option.some.inj ho
          intro x wx hb hrest hd
          have h0 : x.tmps.getD 51 undef = .int .i64 n := hd 19 (by decide)
          simp [execOp, Act.eval, h0, go_sem]
          exact ⟨Below.refl _ _, rfl⟩
        | 21, ho =>
          obtain rfl := Option.some.inj ho
          intro x wx hb hrest hd
          have h0 : x.tmps.getD 52 undef = .int .i64 (min n 1152921504606846975) := hd 20 (by decide)
          simp [execOp, Act.eval, h0, hcn, go_sem]
          exact ⟨Below.refl _ _, rfl⟩
        | 22, ho =>
          obtain rfl := Option.some.inj ho
          intro x wx hb hrest hd
          have h : x.tmps.getD 2 undef = .int .i64 m := (hrest 2 (by decide)).trans f2
          exact ⟨Below.refl _ _, h⟩
        | 23, ho =>
          obtain rfl := Option.some.inj ho
          intro x wx hb hrest hd
          have h0 : x.tmps.getD 54 undef = .int .i64 m := hd 22 (by decide)
          simp [execOp, Act.eval, h0, go_sem]
          exact ⟨Below.refl _ _, rfl⟩
        | 24, ho =>
          obtain rfl := Option.some.inj ho
          intro x wx hb hrest hd
          have h0 : x.tmps.getD 55 undef = .int .i64 (min m 1152921504606846975) := hd 23 (by decide)
          simp [execOp, Act.eval, h0, hcm, go_sem]
          exact ⟨Below.refl _ _, rfl⟩
        | 25, ho =>
          obtain rfl := Option.some.inj ho
          intro x wx hb hrest hd
          have h0 : x.tmps.getD 53 undef = .int .i64 (clamp n) := hd 21 (by decide)
          have h1 : x.tmps.getD 56 undef = .int .i64 (clamp m) := hd 24 (by decide)
          simp [execOp, Act.eval, h0, h1, hq2, go_sem]
          exact ⟨Below.refl _ _, rfl⟩
        | 26, ho =>
          obtain rfl := Option.some.inj ho
          intro x wx hb hrest hd
          have h0 : x.tmps.getD 50 undef = .bool q := hd 18 (by decide)
          have h1 : x.tmps.getD 57 undef = .bool q := hd 25 (by decide)
          simp [execOp, Act.eval, h0, h1, go_sem]
          exact ⟨Below.refl _ _, rfl⟩
        | 27, ho =>
          obtain rfl := Option.some.inj ho
          intro x wx hb hrest hd
          have h0 : x.tmps.getD 43 undef = .bool true := hd 11 (by decide)
          have h1 : x.tmps.getD 58 undef = .bool true := hd 26 (by decide)
          simp [execOp, Act.eval, h0, h1, go_sem]
          exact ⟨Below.refl _ _, rfl⟩
        | 28, ho =>
          obtain rfl := Option.some.inj ho
          intro x wx hb hrest hd
          have h : x.tmps.getD 59 undef = .bool true := hd 27 (by decide)
          exact ⟨Below.refl _ _, h⟩
        | n + 29, ho => cases ho
      · rintro y wy ⟨hsz, hdf, hv, hrest, hbel⟩
        have h6 : y.tmps.getD 6 undef = .bool true := hv 28 (by decide)
        have HBY := Lib.hid (HBX.out.trans (hbel.mono HBX.out.size))
        rw [Array.getD_eq_getD_getElem?] at h6
        have hdf2 := hdf.trans HDF.out
        clear hv hrest hbel hdf hsz
        go_wp2
        exact bodyPost_ret (v := .bool true) (by simp [results, Try.results4, go_sem, h6]) hdf2 ⟨rfl, HBY.out⟩
  · have hE0 : ((E : Int) == 0) = false := by rw [beq_eq_false_iff_ne]; omega
    clear hwh h0
    go_wp2_with fail
    refine wp_region_relG (V5f (.pointer (some ⟨gr, 0, none⟩)) E) (fun i => !(decide (4 ≤ i) && decide (i ≤ 9))) (Guards.tell [(3, false)] (by kernel_rfl) (by
      intro p hp v w h
      simp only [List.mem_cons, List.not_mem_nil, or_false] at hp
      subst hp
      exact h) (by
      intro i hi w
      have h4 : 4 ≤ i ∧ i ≤ 9 := by simpa using hi
      obtain rfl | rfl | rfl | rfl | rfl | rfl : i = 4 ∨ i = 5 ∨ i = 6 ∨ i = 7 ∨ i = 8 ∨ i = 9 := by omega
      all_goals trivial)) (by kernel_rfl) (by kernel_rfl) V5f_below ?_ ?_
    · intro i o ho hlive
      match i, ho with
      | 0, ho =>
        obtain rfl := Option.some.inj ho
        intro x wx hb hrest hd
        have h : x.tmps.getD 7 undef = .pointer (some ⟨gr, 0, none⟩) := hrest 7 (by decide)
        exact ⟨Below.refl _ _, h⟩
      | 1, ho =>
        obtain rfl := Option.some.inj ho
        intro x wx hb hrest hd
        have h0 : x.tmps.getD 21 undef = .pointer (some ⟨gr, 0, none⟩) := hd 0 (by decide)
        simp [execOp, Act.eval, h0, go_sem]
        exact rel_end (HR.out.below hb) HE.out
      | 2, ho =>
        obtain rfl := Option.some.inj ho
        intro x wx hb hrest hd
        have h0 : x.tmps.getD 22 undef = .int .i64 E := hd 1 (by decide)
        simp [execOp, Act.eval, h0, hE0, go_sem]
        exact ⟨Below.refl _ _, rfl⟩
      | 3, ho =>
        obtain rfl := Option.some.inj ho
        intro x wx hb hrest hd
        have h : x.tmps.getD 23 undef = .bool false := hd 2 (by decide)
        exact ⟨Below.refl _ _, h⟩
      | 4, ho => cases hlive
      | 5, ho => cases hlive
      | 6, ho => cases hlive
      | 7, ho => cases hlive
      | 8, ho => cases hlive
      | 9, ho => cases hlive
      | 10, ho =>
        obtain rfl := Option.some.inj ho
        intro x wx hb hrest hd
        have h0 : x.tmps.getD 24 undef = .bool false := hd 3 (by decide)
        simp [execOp, Act.eval, h0, go_sem]
        exact ⟨Below.refl _ _, rfl⟩
      | n + 11, ho => cases ho
    · rintro x wx ⟨hsz, hdf, hv, hrest, hbel⟩
      have h31 : x.tmps.getD 31 undef = .bool false := hv 10 (by decide)
      have f1 : x.tmps.getD 1 undef = .int .i64 n := hrest 1 (by decide)
      have f2 : x.tmps.getD 2 undef = .int .i64 m := hrest 2 (by decide)
      have HBX := Lib.hid (HB3.out.trans (hbel.mono HB3.out.size))
      have F1 := Lib.hid f1
      have F2 := Lib.hid f2
      have HSZ := Lib.hid hsz
      have HDF := Lib.hid hdf
      clear hv hrest hbel f1 f2 hsz hdf hE0
      go_wp2_with fail
      refine wp_cond_false (show x.eval (.tmp 31) = .bool false from h31) ?_
      clear h31
      go_wp2_with fail
      have f1 := F1.out
      have f2 := F2.out
      have hq1 := Q1.out
      have hq2 := Q2.out
      have hle := LE.out
      have hcn := CN.out
      have hcm := CM.out
      refine wp_region_relG (V7 n m q) (fun _ => true) (Guards.all [11] (by kernel_rfl) (by
        intro j hj v w h
        simp only [List.mem_cons, List.not_mem_nil, or_false] at hj
        subst hj
        exact h)) (by kernel_rfl) (by rw [HSZ.out]; kernel_rfl) V7_below ?_ ?_
      · intro i o ho _
        match i, ho with
        | 0, ho =>
          obtain rfl := Option.some.inj ho
          intro x wx hb hrest hd
          have h : x.tmps.getD 1 undef = .int .i64 n := (hrest 1 (by decide)).trans f1
          exact ⟨Below.refl _ _, h⟩
        | 1, ho =>
          obtain rfl := Option.some.inj ho
          intro x wx hb hrest hd
          have h : x.tmps.getD 2 undef = .int .i64 m := (hrest 2 (by decide)).trans f2
          exact ⟨Below.refl _ _, h⟩
        | 2, ho =>
          obtain rfl := Option.some.inj ho
          intro x wx hb hrest hd
          have h0 : x.tmps.getD 32 undef = .int .i64 n := hd 0 (by decide)
          have h1 : x.tmps.getD 33 undef = .int .i64 m := hd 1 (by decide)
          simp [execOp, Act.eval, h0, h1, go_sem]
          exact ⟨Below.refl _ _, rfl⟩
        | 3, ho =>
          obtain rfl := Option.some.inj ho
          intro x wx hb hrest hd
          have h : x.tmps.getD 34 undef = .int .i64 (min n m) := hd 2 (by decide)
          simp [execOp, Act.eval, h, go_sem]
          exact rel_lay (min n m) wx
        | 4, ho =>
          obtain rfl := Option.some.inj ho
          intro x wx hb hrest hd
          obtain ⟨g, cc, h, hq, _, hl⟩ : SlcO (num (clamp (min n m))) (x.tmps.getD 35 undef) wx := hd 3 (by decide)
          simp [execOp, Act.eval, h, go_sem]
          exact ⟨Below.refl _ _, rfl⟩
        | 5, ho =>
          obtain rfl := Option.some.inj ho
          intro x wx hb hrest hd
          have h : x.tmps.getD 1 undef = .int .i64 n := (hrest 1 (by decide)).trans f1
          exact ⟨Below.refl _ _, h⟩
        | 6, ho =>
          obtain rfl := Option.some.inj ho
          intro x wx hb hrest hd
          have h : x.tmps.getD 2 undef = .int .i64 m := (hrest 2 (by decide)).trans f2
          exact ⟨Below.refl _ _, h⟩
        | 7, ho =>
          obtain rfl := Option.some.inj ho
          intro x wx hb hrest hd
          have h0 : x.tmps.getD 37 undef = .int .i64 n := hd 5 (by decide)
          have h1 : x.tmps.getD 38 undef = .int .i64 m := hd 6 (by decide)
          simp [execOp, Act.eval, h0, h1, go_sem]
          exact ⟨Below.refl _ _, rfl⟩
        | 8, ho =>
          obtain rfl := Option.some.inj ho
          intro x wx hb hrest hd
          have h : x.tmps.getD 39 undef = .int .i64 (max n m) := hd 7 (by decide)
          simp [execOp, Act.eval, h, go_sem]
          exact rel_lay (max n m) wx
        | 9, ho =>
          obtain rfl := Option.some.inj ho
          intro x wx hb hrest hd
          obtain ⟨g, cc, h, hq, _, hl⟩ : SlcO (num (clamp (max n m))) (x.tmps.getD 40 undef) wx := hd 8 (by decide)
          simp [execOp, Act.eval, h, go_sem]
          exact ⟨Below.refl _ _, rfl⟩
        | 10, ho =>
          obtain rfl := Option.some.inj ho
          intro x wx hb hrest hd
          have h0 : x.tmps.getD 36 undef = .int .i64 (num (clamp (min n m))).length := hd 4 (by decide)
          have h1 : x.tmps.getD 41 undef = .int .i64 (num (clamp (max n m))).length := hd 9 (by decide)
          simp [execOp, Act.eval, h0, h1, hle, go_sem]
          exact ⟨Below.refl _ _, rfl⟩
        | 11, ho =>
          obtain rfl := Option.some.inj ho
          intro x wx hb hrest hd
          have h : x.tmps.getD 42 undef = .bool true := hd 10 (by decide)
          exact ⟨Below.refl _ _, h⟩
        | 12, ho =>
          obtain rfl := Option.some.inj ho
          intro x wx hb hrest hd
          have h : x.tmps.getD 1 undef = .int .i64 n := (hrest 1 (by decide)).trans f1
          exact ⟨Below.refl _ _, h⟩
        | 13, ho =>
          obtain rfl := Option.some.inj ho
          intro x wx hb hrest hd
          have h : x.tmps.getD 44 undef = .int .i64 n := hd 12 (by decide)
          simp [execOp, Act.eval, h, go_sem]
          exact rel_lay n wx
        | 14, ho =>
          obtain rfl := Option.some.inj ho
          intro x wx hb hrest hd
          obtain ⟨g, cc, h, hq, _, hl⟩ : SlcO (num (clamp n)) (x.tmps.getD 45 undef) wx := hd 13 (by decide)
          have hc := str_lies (cap := cc) hl
          simp [execOp, Act.eval, h, go_sem, hc]
          exact ⟨Below.refl _ _, rfl⟩
        | 15, ho =>
          obtain rfl := Option.some.inj ho
          intro x wx hb hrest hd
          have h : x.tmps.getD 2 undef = .int .i64 m := (hrest 2 (by decide)).trans f2
          exact ⟨Below.refl _ _, h⟩
        | 16, ho =>
          obtain rfl := Option.some.inj ho
          intro x wx hb hrest hd
          have h : x.tmps.getD 47 undef = .int .i64 m := hd 15 (by decide)
          simp [execOp, Act.eval, h, go_sem]
          exact rel_lay m wx
        | 17, ho =>
          obtain rfl := Option.some.inj ho
          intro x wx hb hrest hd
          obtain ⟨g, cc, h, hq, _, hl⟩ : SlcO (num (clamp m)) (x.tmps.getD 48 undef) wx := hd 16 (by decide)
          have hc := str_lies (cap := cc) hl
          simp [execOp, Act.eval, h, go_sem, hc]
          exact ⟨Below.refl _ _, rfl⟩
        | 18, ho =>
          obtain rfl := Option.some.inj ho
          intro x wx hb hrest hd
          have h0 : x.tmps.getD 46 undef = .string (bs (num (clamp n))) := hd 14 (by decide)
          have h1 : x.tmps.getD 49 undef = .string (bs (num (clamp m))) := hd 17 (by decide)
          simp [execOp, Act.eval, h0, h1, hq1, go_sem]
          exact ⟨Below.refl _ _, rfl⟩
        | 19, ho =>
          obtain rfl := Option.some.inj ho
          intro x wx hb hrest hd
          have h : x.tmps.getD 1 undef = .int .i64 n := (hrest 1 (by decide)).trans f1
          exact ⟨Below.refl _ _, h⟩
        | 20, ho =>
          obtain rfl := Option.some.inj ho
          intro x wx hb hrest hd
          have h0 : x.tmps.getD 51 undef = .int .i64 n := hd 19 (by decide)
          simp [execOp, Act.eval, h0, go_sem]
          exact ⟨Below.refl _ _, rfl⟩
        | 21, ho =>
          obtain rfl := Option.some.inj ho
          intro x wx hb hrest hd
          have h0 : x.tmps.getD 52 undef = .int .i64 (min n 1152921504606846975) := hd 20 (by decide)
          simp [execOp, Act.eval, h0, hcn, go_sem]
          exact ⟨Below.refl _ _, rfl⟩
        | 22, ho =>
          obtain rfl := Option.some.inj ho
          intro x wx hb hrest hd
          have h : x.tmps.getD 2 undef = .int .i64 m := (hrest 2 (by decide)).trans f2
          exact ⟨Below.refl _ _, h⟩
        | 23, ho =>
          obtain rfl := Option.some.inj ho
          intro x wx hb hrest hd
          have h0 : x.tmps.getD 54 undef = .int .i64 m := hd 22 (by decide)
          simp [execOp, Act.eval, h0, go_sem]
          exact ⟨Below.refl _ _, rfl⟩
        | 24, ho =>
          obtain rfl := Option.some.inj ho
          intro x wx hb hrest hd
          have h0 : x.tmps.getD 55 undef = .int .i64 (min m 1152921504606846975) := hd 23 (by decide)
          simp [execOp, Act.eval, h0, hcm, go_sem]
          exact ⟨Below.refl _ _, rfl⟩
        | 25, ho =>
          obtain rfl := Option.some.inj ho
          intro x wx hb hrest hd
          have h0 : x.tmps.getD 53 undef = .int .i64 (clamp n) := hd 21 (by decide)
          have h1 : x.tmps.getD 56 undef = .int .i64 (clamp m) := hd 24 (by decide)
          simp [execOp, Act.eval, h0, h1, hq2, go_sem]
          exact ⟨Below.refl _ _, rfl⟩
        | 26, ho =>
          obtain rfl := Option.some.inj ho
          intro x wx hb hrest hd
          have h0 : x.tmps.getD 50 undef = .bool q := hd 18 (by decide)
          have h1 : x.tmps.getD 57 undef = .bool q := hd 25 (by decide)
          simp [execOp, Act.eval, h0, h1, go_sem]
          exact ⟨Below.refl _ _, rfl⟩
        | 27, ho =>
          obtain rfl := Option.some.inj ho
          intro x wx hb hrest hd
          have h0 : x.tmps.getD 43 undef = .bool true := hd 11 (by decide)
          have h1 : x.tmps.getD 58 undef = .bool true := hd 26 (by decide)
          simp [execOp, Act.eval, h0, h1, go_sem]
          exact ⟨Below.refl _ _, rfl⟩
        | 28, ho =>
          obtain rfl := Option.some.inj ho
          intro x wx hb hrest hd
          have h : x.tmps.getD 59 undef = .bool true := hd 27 (by decide)
          exact ⟨Below.refl _ _, h⟩
        | n + 29, ho => cases ho
      · rintro y wy ⟨hsz, hdf, hv, hrest, hbel⟩
        have h6 : y.tmps.getD 6 undef = .bool true := hv 28 (by decide)
        have HBY := Lib.hid (HBX.out.trans (hbel.mono HBX.out.size))
        rw [Array.getD_eq_getD_getElem?] at h6
        have hdf2 := hdf.trans HDF.out
        clear hv hrest hbel hdf hsz
        go_wp2
        exact bodyPost_ret (v := .bool true) (by simp [results, Try.results4, go_sem, h6]) hdf2 ⟨rfl, HBY.out⟩

end Go.Proofs.Ytbamkkohfeglaaa
