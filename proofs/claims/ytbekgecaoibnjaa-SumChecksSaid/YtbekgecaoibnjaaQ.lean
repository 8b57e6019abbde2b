/- SumChecks' walk. -/
import Derived.Test.YtbekgecaoibnjaaP
import Derived.Test.YtbekgecaoibnjaaS
namespace Go.Proofs.Ytbekgecaoibnjaa
open Go.RowKit Go.Sort

/-- What is opened, and whether. -/
def opn (s : ByteArray) : ByteArray × Bool :=
  if 4 ≤ s.size ∧ tl (crc ((bl s).take (s.size - 4))) = (bl s).drop (s.size - 4) then (bs ((bl s).take (s.size - 4)), true) else (⟨#[]⟩, false)
theorem opn_yes {s : ByteArray} {p q : List UInt8} (h : bl s = p ++ q) (hq : q.length = 4) (he : tl (crc p) = q) : opn s = (bs p, true) := by
  have hl : s.size = p.length + 4 := by rw [← bl_length, h, List.length_append, hq]
  have h1 : (bl s).take (s.size - 4) = p := by rw [h, hl, Nat.add_sub_cancel, List.take_left]
  have h2 : (bl s).drop (s.size - 4) = q := by rw [h, hl, Nat.add_sub_cancel, List.drop_left]
  rw [opn, h1, h2, if_pos ⟨by omega, he⟩]
theorem opn_no {s : ByteArray} (h : ∀ p q, bl s = p ++ q → q.length = 4 → tl (crc p) ≠ q) : opn s = (⟨#[]⟩, false) := by
  rw [opn, if_neg]
  rintro ⟨h4, he⟩
  exact h _ _ (List.take_append_drop _ _).symm (by rw [List.length_drop, bl_length]; omega) he
theorem opn_ref {s : ByteArray} {e : Ending} (h : ROpen s e) : e = .returned (.tuple #[.string (opn s).1, .bool (opn s).2]) := by
  rcases h with ⟨p, q, h1, h2, h3, rfl⟩ | ⟨h1, rfl⟩
  · rw [opn_yes h1 h2 h3]
  · rw [opn_no h1]
def sctr (s : ByteArray) : ByteArray × Bool := if s.size ≤ 60 then (bs (sct (bl s)), true) else (⟨#[]⟩, false)
theorem sctr_ref {s : ByteArray} {e : Ending} (h : RSector s e) : e = .returned (.tuple #[.string (sctr s).1, .bool (sctr s).2]) := by
  rcases h with ⟨h1, rfl⟩ | ⟨h1, rfl⟩
  · rw [sctr, if_pos h1]
  · rw [sctr, if_neg (by omega)]
def ReadsAs (r : ByteArray × Bool) (w : World) (e : Ending) (w' : World) : Prop :=
  ∃ v, e = .returned (.tuple #[v, .bool r.2]) ∧ w'.ownsRow w.heap.size 5 1 v (bl r.1).length (bvals (bl r.1)) ∧ Below w.heap.size w w'
theorem sopen_any (b cap : Nat) (s : ByteArray) (w : World) (hb : b < w.heap.size) (hc : LiesB w b 0 (bl s)) (hl : s.size ≤ 500000) (hcap : s.size ≤ cap) :
    Calls Try.prog 10 #[.slice (some ⟨b, 0, none⟩) s.size cap] w (ReadsAs (opn s) w) := by
  by_cases h4 : s.size < 4
  · refine (open_few _ _ _ _ h4).mono ?_
    rintro e w' ⟨h1, h2⟩
    have hn : opn s = (⟨#[]⟩, false) := by
      rw [opn, if_neg]
      rintro ⟨h, _⟩
      omega
    rw [hn]
    exact ⟨_, h1, World.ownsRow_nil _ _ _ _, h2⟩
  · obtain ⟨p, q, hpq, hq⟩ : ∃ p q, bl s = p ++ q ∧ q.length = 4 := ⟨(bl s).take (s.size - 4), (bl s).drop (s.size - 4), (List.take_append_drop _ _).symm, by rw [List.length_drop, bl_length]; omega⟩
    have hsz : s.size = p.length + 4 := by rw [← bl_length, hpq, List.length_append, hq]
    have h := open_at b 0 cap p q w hq hb (by rw [← hpq]; exact hc) (by omega) (by omega)
    rw [← hsz] at h
    refine h.mono ?_
    rintro e w' (⟨he, v, h1, h2, h3⟩ | ⟨hne, h1, h2⟩)
    · rw [opn_yes hpq hq he]
      exact ⟨v, h1, h2, h3⟩
    · have hn : opn s = (⟨#[]⟩, false) := opn_no fun p2 q2 h1 h2 => by
        rw [hpq] at h1
        have h3 := List.append_inj' h1 (by rw [hq, h2])
        rw [← h3.1, ← h3.2]
        exact hne
      rw [hn]
      exact ⟨_, h1, World.ownsRow_nil _ _ _ _, h2⟩
theorem ssector_any (b cap : Nat) (s : ByteArray) (w : World) (hb : b < w.heap.size) (hc : LiesB w b 0 (bl s)) (hl : s.size ≤ 1000) :
    Calls Try.prog 12 #[.slice (some ⟨b, 0, none⟩) s.size cap] w (ReadsAs (sctr s) w) := by
  refine (sector_any b cap (bl s) w hl hb hc).mono ?_
  rintro e w' (⟨h1, v, h2, h3, h4⟩ | ⟨h1, h2, h3⟩)
  · rw [sctr, if_pos (show s.size ≤ 60 from h1)]
    exact ⟨v, h2, h3, h4⟩
  · rw [bl_length] at h1
    rw [sctr, if_neg (by omega)]
    exact ⟨_, h2, World.ownsRow_nil _ _ _ _, h3⟩
theorem own_reads {w : World} {base : Nat} {v : Value} {y : ByteArray} (h : w.ownsRow base 5 1 v (bl y).length (bvals (bl y))) : ∀ W, Below w.heap.size w W → (convert 23 9 v).run Try.prog W = .ok (.string y) W := fun W hW => by
  have := str_own (own_below h hW)
  rwa [bl_back] at this
/-- What the operations of the last statement yield. -/
def V7 (s y t : ByteArray) (xv sv : Value) (ok fine : Bool) (i : Nat) (v : Value) (w : World) : Prop :=
  match i with
  | 0 => v = .string s
  | 1 => SlcB s.size (bl s) v w
  | 2 => v = .int .u32 (crc (bl s)).toNat
  | 3 => v = .string s
  | 4 => v = .int .u32 (crc (bl s)).toNat
  | 5 => v = .bool true
  | 6 => v = .bool true
  | 7 => v = .string s
  | 8 => SlcB s.size (bl s) v w
  | 9 => SlcB (s.size + 4) (sealed s) v w
  | 10 => v = .string (bs (sealed s))
  | 11 => v = .string s
  | 12 => v = .string (bs (sealed s))
  | 13 => v = .bool true
  | 14 => v = .bool true
  | 15 => v = .bool true
  | 16 => v = xv
  | 17 => v = .string y
  | 18 => v = .string y
  | 19 => v = .bool true
  | 20 => v = .bool true
  | 21 => v = .bool true
  | 22 => v = .bool ok
  | 23 => v = .bool ok
  | 24 => v = .bool true
  | 25 => v = .bool true
  | 26 => v = .bool true
  | 27 => v = sv
  | 28 => v = .string t
  | 29 => v = .string t
  | 30 => v = .bool true
  | 31 => v = .bool true
  | 32 => v = .bool true
  | 33 => v = .bool fine
  | 34 => v = .bool fine
  | 35 => v = .bool true
  | 36 => v = .bool true
  | 37 => v = .bool true
  | _ => True
theorem V7_below {s y t : ByteArray} {xv sv : Value} {ok fine : Bool} : ∀ i v w w', Below w.heap.size w w' → V7 s y t xv sv ok fine i v w → V7 s y t xv sv ok fine i v w' := by
  intro i v w w' hB h
  unfold V7 at *
  split at h
  all_goals first | exact h | exact SlcB.below h hB
theorem rel_rof (s : ByteArray) (wx : World) (hs : s.size ≤ 1000) {V : Value → World → Prop} (hV : ∀ {v w'}, v = .int .u32 (crc (bl s)).toNat → V v w' := by exact id) : relUpon Try.prog V wx (.ok (.enter 15 #[.string s]) wx) := by
  refine (rof_any s wx (by omega)).mono ?_
  rintro e w' ⟨rfl, rfl⟩
  exact ⟨_, rfl, Below.refl _ _, hV rfl⟩
theorem rel_rseal (s : ByteArray) (wx : World) (hs : s.size ≤ 1000) {V : Value → World → Prop} (hV : ∀ {v w'}, v = .string (bs (sealed s)) → V v w' := by exact id) : relUpon Try.prog V wx (.ok (.enter 17 #[.string s]) wx) := by
  refine (rseal_any s wx (by omega)).mono ?_
  rintro e w' ⟨rfl, hb⟩
  exact ⟨_, rfl, hb, hV rfl⟩
theorem rel_seal (s : ByteArray) (wx : World) (hs : s.size ≤ 1000) {q cap : Nat} (hq : q < wx.heap.size) (hl : LiesB wx q 0 (bl s)) {V : Value → World → Prop} (hV : ∀ {v w'}, SlcB (s.size + 4) (sealed s) v w' → V v w' := by exact id) : relUpon Try.prog V wx (.ok (.enter 16 #[.slice (some ⟨q, 0, none⟩) s.size cap]) wx) := by
  refine (seal_any _ cap (bl s) wx (Hb.mk hq hl) (by rw [bl_length]; omega)).mono ?_
  rintro e w' ⟨v, rfl, hown, hb⟩
  obtain ⟨g, c, rfl, hg, hlg, _⟩ := own_form hown (by simp [tl])
  rw [show (bl s ++ tl (crc (bl s))).length = s.size + 4 from sealed_length s]
  exact ⟨_, rfl, hb, hV ⟨g, c, rfl, hg, hlg⟩⟩
/-- The guards, where each of them says yes. -/
def allB (ops : Array Oper) (js : List Nat) : Bool :=
  (List.range ops.size).all fun i => match ops[i]? with
    | some o => (match o.guard with | none => true | some (j, b) => b && decide (j < i) && (depsOf o).contains j && js.contains j)
    | none => true
theorem Guards.all {ops : Array Oper} {V : Nat → Value → World → Prop} (js : List Nat) (h : allB ops js = true) (hv : ∀ j ∈ js, ∀ v w, V j v w → v = .bool true) : Guards ops (fun _ => true) V := by
  refine ⟨fun i o j b ho hg => ?_, fun _ _ _ _ => rfl, fun i hi => by cases hi⟩
  have hi : i < ops.size := (Array.getElem?_eq_some_iff.1 ho).1
  have h1 := List.all_eq_true.1 h i (List.mem_range.2 hi)
  rw [ho] at h1
  simp only [hg, Bool.and_eq_true] at h1
  obtain ⟨⟨⟨h2, h3⟩, h4⟩, h5⟩ := h1
  subst h2
  exact ⟨of_decide_eq_true h3, List.contains_iff_mem.1 h4, hv j (List.contains_iff_mem.1 h5)⟩

set_option maxHeartbeats 6400000 in
theorem checks_walk (s : ByteArray) (w : World) : Calls Try.prog 3 #[.string s] w fun e w' => e = .returned (.bool true) ∧ Below w.heap.size w w' := by
  go_enter Try.func3, Try.ntmps3
  go_wp2_with fail
  refine (awake_any w).mono ?_
  rintro e w1 ⟨rfl, hb1⟩
  have HB1 := Lib.hid hb1
  clear hb1
  by_cases hbig : (s.size : Int) > 1000
  · go_wp2_with fail
    refine (awake_any w1).mono ?_
    rintro e w2 ⟨rfl, hb2⟩
    have HB2 := Lib.hid (HB1.out.trans (hb2.mono HB1.out.size))
    clear hb2
    go_wp2
    go_ret
    exact ⟨rfl, HB2.out⟩
  have hs1 : s.size ≤ 1000 := by omega
  obtain ⟨w2, cap, hcv, hlies, hlt, hb2, hcap⟩ := conv_any s w1
  have HL := Lib.hid hlies
  have HB2 := Lib.hid (HB1.out.trans (hb2.mono HB1.out.size))
  clear hlies hb2
  go_wp2_with fail
  have hr : opn s = ((opn s).1, (opn s).2) := rfl
  have ho : ∀ e, ROpen s e → e = .returned (.tuple #[.string (opn s).1, .bool (opn s).2]) := fun e h => opn_ref h
  have hc1 := sopen_any _ cap s w2 hlt HL.out (by omega) hcap
  revert hr ho hc1
  generalize (opn s).1 = y
  generalize (opn s).2 = ok
  intro hr ho hc1
  rw [hr] at hc1
  have HO := Lib.hid ho
  clear ho hr
  refine hc1.mono ?_
  rintro e w3 ⟨xv, rfl, hx, hb3⟩
  have HX0 := Lib.hid hx
  have HB3 := Lib.hid (HB2.out.trans (hb3.mono HB2.out.size))
  clear hx hb3 hcv hc1
  go_wp2_with fail
  refine (ropen_any s w3 (by omega)).mono ?_
  rintro e w4 ⟨he, hb4⟩
  obtain rfl := HO.out _ he
  have HX1 := Lib.hid (own_below HX0.out hb4)
  have HB4 := Lib.hid (HB3.out.trans (hb4.mono HB3.out.size))
  clear he hb4
  obtain ⟨w5, cap5, hcv5, hlies5, hlt5, hb5, hcap5⟩ := conv_any s w4
  have HL5 := Lib.hid hlies5
  have HX2 := Lib.hid (own_below HX1.out hb5)
  have HB5 := Lib.hid (HB4.out.trans (hb5.mono HB4.out.size))
  clear hlies5 hb5
  go_wp2_with fail
  have hr : sctr s = ((sctr s).1, (sctr s).2) := rfl
  have ho : ∀ e, RSector s e → e = .returned (.tuple #[.string (sctr s).1, .bool (sctr s).2]) := fun e h => sctr_ref h
  have hc1 := ssector_any _ cap5 s w5 hlt5 HL5.out hs1
  revert hr ho hc1
  generalize (sctr s).1 = t
  generalize (sctr s).2 = fine
  intro hr ho hc1
  rw [hr] at hc1
  have HO2 := Lib.hid ho
  clear ho hr
  refine hc1.mono ?_
  rintro e w6 ⟨sv, rfl, hs, hb6⟩
  have HS0 := Lib.hid hs
  have HX3 := Lib.hid (own_below HX2.out hb6)
  have HB6 := Lib.hid (HB5.out.trans (hb6.mono HB5.out.size))
  clear hs hb6 hcv5 hc1
  go_wp2_with fail
  refine (rsector_any s w6).mono ?_
  rintro e w7 ⟨he, hb7⟩
  obtain rfl := HO2.out _ he
  have HX := Lib.hid (own_reads (own_below HX3.out hb7))
  have HS := Lib.hid (own_reads (own_below HS0.out hb7))
  have HB7 := Lib.hid (HB6.out.trans (hb7.mono HB6.out.size))
  clear he hb7
  go_wp2_with fail
  refine wp_region_relG (V7 s y t xv sv ok fine) (fun _ => true) (Guards.all [6, 15, 21, 26, 32] (by kernel_rfl) (by
    intro j hj v w h
    simp only [List.mem_cons, List.not_mem_nil, or_false] at hj
    rcases hj with rfl | rfl | rfl | rfl | rfl <;> exact h)) (by kernel_rfl) (by kernel_rfl) V7_below ?_ ?_
  · intro i o ho _
    match i, ho with
    | 0, ho =>
      obtain rfl := Option.some.inj ho
      intro x wx hb hrest hd
      have h : x.tmps.getD 0 undef = .string s := hrest 0 (by decide)
      exact ⟨Below.refl _ _, h⟩
    | 1, ho =>
      obtain rfl := Option.some.inj ho
      intro x wx hb hrest hd
      have h : x.tmps.getD 41 undef = .string s := hd 0 (by decide)
      obtain ⟨wy, cap, hcv, hly, hlt2, hby, _⟩ := conv_any s wx
      simp [execOp, Act.eval, h, go_sem, hcv]
      exact ⟨hby, wx.heap.size, cap, rfl, hlt2, hly⟩
    | 2, ho =>
      obtain rfl := Option.some.inj ho
      intro x wx hb hrest hd
      obtain ⟨q, cap, h, hq, hl⟩ : SlcB s.size (bl s) (x.tmps.getD 42 undef) wx := hd 1 (by decide)
      simp [execOp, Act.eval, h, go_sem]
      exact rel_of hq hl rfl hs1 id
    | 3, ho =>
      obtain rfl := Option.some.inj ho
      intro x wx hb hrest hd
      have h : x.tmps.getD 0 undef = .string s := hrest 0 (by decide)
      exact ⟨Below.refl _ _, h⟩
    | 4, ho =>
      obtain rfl := Option.some.inj ho
      intro x wx hb hrest hd
      have h : x.tmps.getD 44 undef = .string s := hd 3 (by decide)
      simp [execOp, Act.eval, h, go_sem]
      exact rel_rof s wx hs1
    | 5, ho =>
      obtain rfl := Option.some.inj ho
      intro x wx hb hrest hd
      have h0 : x.tmps.getD 43 undef = .int .u32 (crc (bl s)).toNat := hd 2 (by decide)
      have h1 : x.tmps.getD 45 undef = .int .u32 (crc (bl s)).toNat := hd 4 (by decide)
      simp [execOp, Act.eval, h0, h1, go_sem]
      exact ⟨Below.refl _ _, rfl⟩
    | 6, ho =>
      obtain rfl := Option.some.inj ho
      intro x wx hb hrest hd
      have h : x.tmps.getD 46 undef = .bool true := hd 5 (by decide)
      exact ⟨Below.refl _ _, h⟩
    | 7, ho =>
      obtain rfl := Option.some.inj ho
      intro x wx hb hrest hd
      have h : x.tmps.getD 0 undef = .string s := hrest 0 (by decide)
      exact ⟨Below.refl _ _, h⟩
    | 8, ho =>
      obtain rfl := Option.some.inj ho
      intro x wx hb hrest hd
      have h : x.tmps.getD 48 undef = .string s := hd 7 (by decide)
      obtain ⟨wy, cap, hcv, hly, hlt2, hby, _⟩ := conv_any s wx
      simp [execOp, Act.eval, h, go_sem, hcv]
      exact ⟨hby, wx.heap.size, cap, rfl, hlt2, hly⟩
    | 9, ho =>
      obtain rfl := Option.some.inj ho
      intro x wx hb hrest hd
      obtain ⟨q, cap, h, hq, hl⟩ : SlcB s.size (bl s) (x.tmps.getD 49 undef) wx := hd 8 (by decide)
      simp [execOp, Act.eval, h, go_sem]
      exact rel_seal s wx hs1 hq hl
    | 10, ho =>
      obtain rfl := Option.some.inj ho
      intro x wx hb hrest hd
      obtain ⟨q, cap, h, hq, hl⟩ : SlcB (s.size + 4) (sealed s) (x.tmps.getD 50 undef) wx := hd 9 (by decide)
      have hc := str_lies (cap := cap) hl
      rw [sealed_length] at hc
      simp [execOp, Act.eval, h, go_sem, hc]
      exact ⟨Below.refl _ _, rfl⟩
    | 11, ho =>
      obtain rfl := Option.some.inj ho
      intro x wx hb hrest hd
      have h : x.tmps.getD 0 undef = .string s := hrest 0 (by decide)
      exact ⟨Below.refl _ _, h⟩
    | 12, ho =>
      obtain rfl := Option.some.inj ho
      intro x wx hb hrest hd
      have h : x.tmps.getD 52 undef = .string s := hd 11 (by decide)
      simp [execOp, Act.eval, h, go_sem]
      exact rel_rseal s wx hs1
    | 13, ho =>
      obtain rfl := Option.some.inj ho
      intro x wx hb hrest hd
      have h0 : x.tmps.getD 51 undef = .string (bs (sealed s)) := hd 10 (by decide)
      have h1 : x.tmps.getD 53 undef = .string (bs (sealed s)) := hd 12 (by decide)
      simp [execOp, Act.eval, h0, h1, go_sem]
      exact ⟨Below.refl _ _, rfl⟩
    | 14, ho =>
      obtain rfl := Option.some.inj ho
      intro x wx hb hrest hd
      have h0 : x.tmps.getD 47 undef = .bool true := hd 6 (by decide)
      have h1 : x.tmps.getD 54 undef = .bool true := hd 13 (by decide)
      simp [execOp, Act.eval, h0, h1, go_sem]
      exact ⟨Below.refl _ _, rfl⟩
    | 15, ho =>
      obtain rfl := Option.some.inj ho
      intro x wx hb hrest hd
      have h : x.tmps.getD 55 undef = .bool true := hd 14 (by decide)
      exact ⟨Below.refl _ _, h⟩
    | 16, ho =>
      obtain rfl := Option.some.inj ho
      intro x wx hb hrest hd
      have h : x.tmps.getD 3 undef = xv := hrest 3 (by decide)
      exact ⟨Below.refl _ _, h⟩
    | 17, ho =>
      obtain rfl := Option.some.inj ho
      intro x wx hb hrest hd
      have h0 : x.tmps.getD 57 undef = xv := hd 16 (by decide)
      have hc := HX.out wx hb
      simp [execOp, Act.eval, h0, go_sem, hc]
      exact ⟨Below.refl _ _, rfl⟩
    | 18, ho =>
      obtain rfl := Option.some.inj ho
      intro x wx hb hrest hd
      have h : x.tmps.getD 5 undef = .string y := hrest 5 (by decide)
      exact ⟨Below.refl _ _, h⟩
    | 19, ho =>
      obtain rfl := Option.some.inj ho
      intro x wx hb hrest hd
      have h0 : x.tmps.getD 58 undef = .string y := hd 17 (by decide)
      have h1 : x.tmps.getD 59 undef = .string y := hd 18 (by decide)
      simp [execOp, Act.eval, h0, h1, go_sem]
      exact ⟨Below.refl _ _, rfl⟩
    | 20, ho =>
      obtain rfl := Option.some.inj ho
      intro x wx hb hrest hd
      have h0 : x.tmps.getD 56 undef = .bool true := hd 15 (by decide)
      have h1 : x.tmps.getD 60 undef = .bool true := hd 19 (by decide)
      simp [execOp, Act.eval, h0, h1, go_sem]
      exact ⟨Below.refl _ _, rfl⟩
    | 21, ho =>
      obtain rfl := Option.some.inj ho
      intro x wx hb hrest hd
      have h : x.tmps.getD 61 undef = .bool true := hd 20 (by decide)
      exact ⟨Below.refl _ _, h⟩
    | 22, ho =>
      obtain rfl := Option.some.inj ho
      intro x wx hb hrest hd
      have h : x.tmps.getD 4 undef = .bool ok := hrest 4 (by decide)
      exact ⟨Below.refl _ _, h⟩
    | 23, ho =>
      obtain rfl := Option.some.inj ho
      intro x wx hb hrest hd
      have h : x.tmps.getD 6 undef = .bool ok := hrest 6 (by decide)
      exact ⟨Below.refl _ _, h⟩
    | 24, ho =>
      obtain rfl := Option.some.inj ho
      intro x wx hb hrest hd
      have h0 : x.tmps.getD 63 undef = .bool ok := hd 22 (by decide)
      have h1 : x.tmps.getD 64 undef = .bool ok := hd 23 (by decide)
      simp [execOp, Act.eval, h0, h1, go_sem]
      exact ⟨Below.refl _ _, rfl⟩
    | 25, ho =>
      obtain rfl := Option.some.inj ho
      intro x wx hb hrest hd
      have h0 : x.tmps.getD 62 undef = .bool true := hd 21 (by decide)
      have h1 : x.tmps.getD 65 undef = .bool true := hd 24 (by decide)
      simp [execOp, Act.eval, h0, h1, go_sem]
      exact ⟨Below.refl _ _, rfl⟩
    | 26, ho =>
      obtain rfl := Option.some.inj ho
      intro x wx hb hrest hd
      have h : x.tmps.getD 66 undef = .bool true := hd 25 (by decide)
      exact ⟨Below.refl _ _, h⟩
    | 27, ho =>
      obtain rfl := Option.some.inj ho
      intro x wx hb hrest hd
      have h : x.tmps.getD 7 undef = sv := hrest 7 (by decide)
      exact ⟨Below.refl _ _, h⟩
    | 28, ho =>
      obtain rfl := Option.some.inj ho
      intro x wx hb hrest hd
      have h0 : x.tmps.getD 68 undef = sv := hd 27 (by decide)
      have hc := HS.out wx hb
      simp [execOp, Act.eval, h0, go_sem, hc]
      exact ⟨Below.refl _ _, rfl⟩
    | 29, ho =>
      obtain rfl := Option.some.inj ho
      intro x wx hb hrest hd
      have h : x.tmps.getD 9 undef = .string t := hrest 9 (by decide)
      exact ⟨Below.refl _ _, h⟩
    | 30, ho =>
      obtain rfl := Option.some.inj ho
      intro x wx hb hrest hd
      have h0 : x.tmps.getD 69 undef = .string t := hd 28 (by decide)
      have h1 : x.tmps.getD 70 undef = .string t := hd 29 (by decide)
      simp [execOp, Act.eval, h0, h1, go_sem]
      exact ⟨Below.refl _ _, rfl⟩
    | 31, ho =>
      obtain rfl := Option.some.inj ho
      intro x wx hb hrest hd
      have h0 : x.tmps.getD 67 undef = .bool true := hd 26 (by decide)
      have h1 : x.tmps.getD 71 undef = .bool true := hd 30 (by decide)
      simp [execOp, Act.eval, h0, h1, go_sem]
      exact ⟨Below.refl _ _, rfl⟩
    | 32, ho =>
      obtain rfl := Option.some.inj ho
      intro x wx hb hrest hd
      have h : x.tmps.getD 72 undef = .bool true := hd 31 (by decide)
      exact ⟨Below.refl _ _, h⟩
    | 33, ho =>
      obtain rfl := Option.some.inj ho
      intro x wx hb hrest hd
      have h : x.tmps.getD 8 undef = .bool fine := hrest 8 (by decide)
      exact ⟨Below.refl _ _, h⟩
    | 34, ho =>
      obtain rfl := Option.some.inj ho
      intro x wx hb hrest hd
      have h : x.tmps.getD 10 undef = .bool fine := hrest 10 (by decide)
      exact ⟨Below.refl _ _, h⟩
    | 35, ho =>
      obtain rfl := Option.some.inj ho
      intro x wx hb hrest hd
      have h0 : x.tmps.getD 74 undef = .bool fine := hd 33 (by decide)
      have h1 : x.tmps.getD 75 undef = .bool fine := hd 34 (by decide)
      simp [execOp, Act.eval, h0, h1, go_sem]
      exact ⟨Below.refl _ _, rfl⟩
    | 36, ho =>
      obtain rfl := Option.some.inj ho
      intro x wx hb hrest hd
      have h0 : x.tmps.getD 73 undef = .bool true := hd 32 (by decide)
      have h1 : x.tmps.getD 76 undef = .bool true := hd 35 (by decide)
      simp [execOp, Act.eval, h0, h1, go_sem]
      exact ⟨Below.refl _ _, rfl⟩
    | 37, ho =>
      obtain rfl := Option.some.inj ho
      intro x wx hb hrest hd
      have h : x.tmps.getD 77 undef = .bool true := hd 36 (by decide)
      exact ⟨Below.refl _ _, h⟩
    | n + 38, ho => cases ho
  · rintro x wx ⟨hsz, hdf, hv, hrest, hbel⟩
    have h2 : x.tmps.getD 2 undef = .bool true := hv 37 (by decide)
    have HBX := Lib.hid (HB7.out.trans (hbel.mono HB7.out.size))
    rw [Array.getD_eq_getD_getElem?] at h2
    clear hv hrest hbel
    go_wp2
    exact bodyPost_ret (v := .bool true) (by simp [results, Try.results3, go_sem, h2]) hdf ⟨rfl, HBX.out⟩

end Go.Proofs.Ytbekgecaoibnjaa
