/- Greatest, the program's and the document's: for every cut and every list of writes whose numbers are not too small: the greatest closed cut below. -/
import Derived.Test.YtckijalkodpjhaaC
import Derived.Laws.ResultCell
namespace Go.Proofs.Ytckijalkodpjhaa
open Go.RowKit Go.Sort

def Closed (l : List Wr) (x : C4) : Prop := ∀ k i, k < l.length → i < l.length → badB x l k i = false
def C4.le (x y : C4) : Prop := x.c0 ≤ y.c0 ∧ x.c1 ≤ y.c1 ∧ x.c2 ≤ y.c2 ∧ x.c3 ≤ y.c3
def C4.setv (x : C4) (v n : Int) : C4 := ⟨if v = 0 then n else x.c0, if v = 1 then n else x.c1, if v = 2 then n else x.c2, if v = 3 then n else x.c3⟩
def GrSpec (l : List Wr) (c g : C4) : Prop := Closed l g ∧ g.le c ∧ ∀ x : C4, Closed l x → x.le c → x.le g
def GrInv (l : List Wr) (c x : C4) : Prop := x.le c ∧ ∀ y : C4, Closed l y → y.le c → y.le x
def GrPost (c : C4) (l : List Wr) (w : World) (e : Ending) (w' : World) : Prop :=
  ∃ x0 x1 x2 x3 : Int, e = .returned (.agg #[.int .i64 x0, .int .i64 x1, .int .i64 x2, .int .i64 x3]) ∧ GrSpec l c ⟨x0, x1, x2, x3⟩ ∧ Below w.heap.size w w'
def pos (x : Int) : Nat := (x + 1152921504606846977).toNat
def C4.msr (x : C4) : Nat := pos x.c0 + pos x.c1 + pos x.c2 + pos x.c3

theorem C4.le_refl (x : C4) : x.le x := ⟨Int.le_refl _, Int.le_refl _, Int.le_refl _, Int.le_refl _⟩
theorem GrInv.start (l : List Wr) (c : C4) : GrInv l c c := ⟨c.le_refl, fun _ _ h => h⟩
theorem inB_mono {x y : C4} {o : Wr} (h : x.le y) (hx : inB x o = true) : inB y o = true := by
  obtain ⟨h0, h1, h2, h3⟩ := h
  simp only [inB, decide_eq_true_eq] at *
  refine ⟨hx.1, hx.2.1, Int.le_trans hx.2.2 ?_⟩
  unfold C4.get
  split <;> (try split) <;> (try split) <;> assumption
theorem inB_range {x : C4} {o : Wr} (h : inB x o = true) : 0 ≤ o.v ∧ o.v < 4 ∧ o.s ≤ x.get o.v := by simpa [inB] using h
theorem badB_iff {x : C4} {l : List Wr} {k i : Nat} : badB x l k i = true ↔ inB x (wat l k) = true ∧ ahB (wat l i) (wat l k) = true ∧ inB x (wat l i) = false := by
  simp [badB]
/-- One round: the cut is lowered; no closed cut is lost. -/
theorem GrInv.step {l : List Wr} {c x : C4} {k i : Nat} (h : GrInv l c x) (hk : k < l.length) (hi : i < l.length) (hb : badB x l k i = true) : GrInv l c (x.setv (wat l k).v ((wat l k).s - 1)) := by
  obtain ⟨hin, hah, hni⟩ := badB_iff.1 hb
  obtain ⟨r0, r1, r2⟩ := inB_range hin
  have low : (x.setv (wat l k).v ((wat l k).s - 1)).le x := by
    unfold C4.get at r2
    refine ⟨?_, ?_, ?_, ?_⟩ <;> (simp only [C4.setv]; split <;> simp_all <;> omega)
  refine ⟨⟨Int.le_trans low.1 h.1.1, Int.le_trans low.2.1 h.1.2.1, Int.le_trans low.2.2.1 h.1.2.2.1, Int.le_trans low.2.2.2 h.1.2.2.2⟩, fun y hy hyc => ?_⟩
  have hyx := h.2 y hy hyc
  have hyk : inB y (wat l k) = false := by
    by_cases e : inB y (wat l k) = true
    · have hyi : inB y (wat l i) = false := by
        by_cases e2 : inB y (wat l i) = true
        · rw [inB_mono hyx e2] at hni; cases hni
        · simpa using e2
      have := hy k i hk hi
      rw [badB_iff.2 ⟨e, hah, hyi⟩] at this
      cases this
    · simpa using e
  have hy2 : y.get (wat l k).v ≤ (wat l k).s - 1 := by
    simp only [inB, decide_eq_false_iff_not] at hyk
    omega
  obtain ⟨h0, h1, h2, h3⟩ := hyx
  unfold C4.get at hy2
  refine ⟨?_, ?_, ?_, ?_⟩ <;> (simp only [C4.setv]; split <;> simp_all)
theorem msr_step {l : List Wr} {x : C4} {k i : Nat} (hb : badB x l k i = true) (hs : -1152921504606846976 ≤ (wat l k).s) : (x.setv (wat l k).v ((wat l k).s - 1)).msr < x.msr := by
  obtain ⟨hin, hah, hni⟩ := badB_iff.1 hb
  obtain ⟨r0, r1, r2⟩ := inB_range hin
  obtain h | h | h | h : (wat l k).v = 0 ∨ (wat l k).v = 1 ∨ (wat l k).v = 2 ∨ (wat l k).v = 3 := by omega
  all_goals
    simp only [C4.get, h] at r2
    simp only [C4.msr, C4.setv, h, pos]
    simp at r2 ⊢
    omega
theorem GrInv.done {l : List Wr} {c x : C4} {i k : Nat} (h : GrInv l c x) (hb : BadSpec x l i k false) : GrSpec l c x := by
  rcases hb with ⟨_, _, _, hn⟩ | ⟨h1, _⟩
  · exact ⟨hn, h.1, h.2⟩
  · cases h1

/-- A block of four numbers of a type. -/
def BoxI (w : World) (b : Nat) (T : TypeId) (x : C4) : Prop := w.heap[b]? = some (.cells #[.int .i64 x.c0, .int .i64 x.c1, .int .i64 x.c2, .int .i64 x.c3] T (0, 0))
theorem BoxI.cells {w : World} {b : Nat} {T : TypeId} {x : C4} (h : BoxI w b T x) : Box4 w b (.int .i64 x.c0) (.int .i64 x.c1) (.int .i64 x.c2) (.int .i64 x.c3) := by
  refine ⟨?_, ?_, ?_, ?_⟩ <;> simp [World.cell?, show w.heap[b]? = _ from h]
theorem BoxI.free {w : World} {b : Nat} {T : TypeId} {x : C4} (h : BoxI w b T x) (o : Nat) : w.frozen? ⟨b, o, none⟩ = false := by simp [World.frozen?, show w.heap[b]? = _ from h]
theorem BoxI.below {w w' : World} {b B : Nat} {T : TypeId} {x : C4} (h : BoxI w b T x) (hB : Below B w w') (hb : b < B) : BoxI w' b T x := (hB.block b hb).trans h
theorem BoxI.lt {w : World} {b : Nat} {T : TypeId} {x : C4} (h : BoxI w b T x) : b < w.heap.size := lt_of_block h
theorem BoxI.new (w : World) (T : TypeId) (x : C4) : BoxI (w.alloc (.cells #[.int .i64 x.c0, .int .i64 x.c1, .int .i64 x.c2, .int .i64 x.c3] T)) w.heap.size T x := by
  show (w.heap.push _)[w.heap.size]? = _
  simp
theorem heap_setCell_same {w : World} {b : Nat} {xs : Array Value} {T : TypeId} (h : w.heap[b]? = some (.cells xs T (0, 0))) (o : Nat) (u : Value) : (w.setCell ⟨b, o, none⟩ u).heap[b]? = some (.cells (xs.setIfInBounds o u) T (0, 0)) := by
  have hlt := lt_of_block h
  have h' : w.heap[b] = .cells xs T (0, 0) := by simpa [Array.getElem?_eq_getElem hlt] using h
  show (w.heap.modify b _)[b]? = _
  rw [Array.getElem?_eq_getElem (by simpa using hlt), Array.getElem_modify_self, h']
  rfl
theorem BoxI.set {w : World} {b : Nat} {T : TypeId} {x y : C4} (h : BoxI w b T x) (o : Nat) (u : Value) (he : #[Value.int .i64 x.c0, .int .i64 x.c1, .int .i64 x.c2, .int .i64 x.c3].setIfInBounds o u = #[.int .i64 y.c0, .int .i64 y.c1, .int .i64 y.c2, .int .i64 y.c3]) : BoxI (w.setCell ⟨b, o, none⟩ u) b T y := by
  unfold BoxI
  rw [heap_setCell_same (show w.heap[b]? = _ from h), he]
theorem BoxI.set_other {w : World} {b b' : Nat} {T : TypeId} {x : C4} (h : BoxI w b T x) (o : Nat) (u : Value) (hb : b ≠ b') : BoxI (w.setCell ⟨b', o, none⟩ u) b T x :=
  (Below.heap_setCell _ _ _ _ hb).trans h
theorem BoxI.drewN {w : World} {b : Nat} {T : TypeId} {x : C4} (h : BoxI w b T x) (n : Nat) : BoxI (w.drewN n) b T x := h
theorem BoxI.drew {w : World} {b : Nat} {T : TypeId} {x : C4} (h : BoxI w b T x) : BoxI w.drew b T x := h
theorem BoxI.alloc {w : World} {b : Nat} {T : TypeId} {x : C4} (h : BoxI w b T x) (o : Obj) : BoxI (w.alloc o) b T x :=
  (Below.heap_alloc _ _ _ h.lt).trans h

set_option maxHeartbeats 1600000 in
theorem gr_any (a : Option Addr) (b off cap : Nat) (l : List Wr) (c0 c1 c2 c3 : Int) (w : World) (ha : 0 < l.length → a = some ⟨b, off, none⟩) (hb : 0 < l.length → b < w.heap.size) (hl : l.length ≤ 9223372036854775807) (hc : LiesAt w b off l)
    (hs : ∀ k, k < l.length → -1152921504606846976 ≤ (wat l k).s ∧ (wat l k).s ≤ 9223372036854775807) :
    Calls Try.prog 12 #[.slice a l.length cap, .agg #[.int .i64 c0, .int .i64 c1, .int .i64 c2, .int .i64 c3]] w (GrPost ⟨c0, c1, c2, c3⟩ l w) := by
  have HA := Lib.hid ha
  clear ha
  have HB0 := Lib.hid hb
  clear hb
  have HC := Lib.hid hc
  clear hc
  have HS := Lib.hid hs
  clear hs
  go_enter Try.func12, Try.ntmps12
  go_wp2
  go_loopg [] (C4.msr ⟨c0, c1, c2, c3⟩) (fun n wr => ∃ (x y : C4), BoxI wr w.heap.size 33 x ∧ BoxI wr (w.heap.size + 1) 33 y ∧ GrInv l ⟨c0, c1, c2, c3⟩ x ∧ x.msr ≤ n ∧ Below w.heap.size w wr)
  case atStart => exact ⟨⟨c0, c1, c2, c3⟩, ⟨0, 0, 0, 0⟩, (BoxI.new w 33 ⟨c0, c1, c2, c3⟩).alloc _, by simpa using BoxI.new (w.alloc _) 33 ⟨0, 0, 0, 0⟩, GrInv.start _ _, Nat.le_refl _, (((Below.refl _ _).alloc (Nat.le_refl _) _).alloc (by simp) _)⟩
  case round =>
    obtain ⟨⟨x0, x1, x2, x3⟩, ⟨y0, y1, y2, y3⟩, hbx, hby, hinv, hm, hB⟩ := hrel
    have HX := Lib.hid hbx
    have HY := Lib.hid hby
    have HI := Lib.hid hinv
    have HM := Lib.hid hm
    have HB := Lib.hid hB
    have hsz := hby.lt
    obtain ⟨z0, z1, z2, z3⟩ := hbx.cells
    clear hbx hby hinv hm hB
    go_wp2_with fail
    refine (bad_any a b off cap l x0 x1 x2 x3 _ HA.out (fun h => by have := HB0.out h; omega) hl (fun k hk => HC.out.below HB.out (HB0.out (by omega)) k hk)).mono ?_
    rintro e w1 ⟨i, k, bd, rfl, hsp, hb1⟩
    have HX1 := Lib.hid (HX.out.below hb1 (by omega))
    have HY1 := Lib.hid (HY.out.below hb1 (by omega))
    have hsz1 : w.heap.size + 1 < w1.heap.size := by have := hb1.size; omega
    have HB1 := Lib.hid (HB.out.trans (hb1.mono (by omega)))
    have HSP := Lib.hid hsp
    clear z0 z1 z2 z3 hsp hb1
    obtain ⟨z0, z1, z2, z3⟩ := HX1.out.cells
    cases bd with
    | false =>
      obtain ⟨t0, t1, t2, t3⟩ := HY1.out.cells
      have p0 := HY1.out.free 0
      have p1 := HY1.out.free 1
      have p2 := HY1.out.free 2
      have p3 := HY1.out.free 3
      have HD := Lib.hid (HI.out.done HSP.out)
      go_wp2
      exact bodyPost_ret (v := .agg #[.int .i64 x0, .int .i64 x1, .int .i64 x2, .int .i64 x3]) (by simp [results, Try.results12, go_sem, t0, t1, t2, t3]) rfl ⟨x0, x1, x2, x3, rfl, HD.out, ((((HB1.out.setCell (by simp) _).setCell (by simp) _).setCell (by simp) _).setCell (by simp) _)⟩
    | true =>
      obtain ⟨_, _, _, h⟩ | ⟨_, hi, hk, hbad, _⟩ := HSP.out
      · rename_i h0 _ _
        cases h0
      obtain rfl := HA.out (by omega)
      have hb0 := HB0.out (by omega)
      have hb1 : b < w1.heap.size := by omega
      have hbne : b ≠ w.heap.size := by omega
      obtain ⟨e0, e1, e2, e3⟩ := HC.out.below HB1.out hb0 k hk
      clear e2 e3
      have hs := HS.out k hk
      have hs1 := hs.1
      have hs2 := hs.2
      clear hs
      have p0 := HX1.out.free 0
      have p1 := HX1.out.free 1
      have p2 := HX1.out.free 2
      have p3 := HX1.out.free 3
      have hr := inB_range (badB_iff.1 hbad).1
      have HSTEP := Lib.hid (HI.out.step hk hi hbad)
      have HMS := Lib.hid (msr_step hbad hs1)
      have HR := Lib.hid hr
      clear hr hbad
      obtain hv | hv | hv | hv : (wat l k).v = 0 ∨ (wat l k).v = 1 ∨ (wat l k).v = 2 ∨ (wat l k).v = 3 := by have := HR.out; omega
      · have HSV := Lib.hid (show C4.setv ⟨x0, x1, x2, x3⟩ (wat l k).v ((wat l k).s - 1) = ⟨((wat l k).s - 1), x1, x2, x3⟩ from by rw [hv]; rfl)
        rw [hv] at e0
        have HV := Lib.hid hv
        clear hv
        go_wp2
        go_region
        go_wp2
        go_roundg (C4.msr ⟨((wat l k).s - 1), x1, x2, x3⟩)
        case measure => have h1 := HMS.out; have h2 := HM.out; rw [HSV.out] at h1; exact Nat.lt_of_lt_of_le h1 h2
        case rel => exact ⟨⟨((wat l k).s - 1), x1, x2, x3⟩, ⟨y0, y1, y2, y3⟩, (HX1.out.set (y := ⟨((wat l k).s - 1), x1, x2, x3⟩) 0 (.int .i64 ((wat l k).s - 1)) rfl).drew, (HY1.out.set_other _ _ (by omega)).drew, (by have h1 := HSTEP.out; rw [HSV.out] at h1; exact h1), Nat.le_refl _, (HB1.out.setCell (Nat.le_refl _) _).drew⟩
      · have HSV := Lib.hid (show C4.setv ⟨x0, x1, x2, x3⟩ (wat l k).v ((wat l k).s - 1) = ⟨x0, ((wat l k).s - 1), x2, x3⟩ from by rw [hv]; rfl)
        rw [hv] at e0
        have HV := Lib.hid hv
        clear hv
        go_wp2
        go_region
        go_wp2
        go_roundg (C4.msr ⟨x0, ((wat l k).s - 1), x2, x3⟩)
        case measure => have h1 := HMS.out; have h2 := HM.out; rw [HSV.out] at h1; exact Nat.lt_of_lt_of_le h1 h2
        case rel => exact ⟨⟨x0, ((wat l k).s - 1), x2, x3⟩, ⟨y0, y1, y2, y3⟩, (HX1.out.set (y := ⟨x0, ((wat l k).s - 1), x2, x3⟩) 1 (.int .i64 ((wat l k).s - 1)) rfl).drew, (HY1.out.set_other _ _ (by omega)).drew, (by have h1 := HSTEP.out; rw [HSV.out] at h1; exact h1), Nat.le_refl _, (HB1.out.setCell (Nat.le_refl _) _).drew⟩
      · have HSV := Lib.hid (show C4.setv ⟨x0, x1, x2, x3⟩ (wat l k).v ((wat l k).s - 1) = ⟨x0, x1, ((wat l k).s - 1), x3⟩ from by rw [hv]; rfl)
        rw [hv] at e0
        have HV := Lib.hid hv
        clear hv
        go_wp2
        go_region
        go_wp2
        go_roundg (C4.msr ⟨x0, x1, ((wat l k).s - 1), x3⟩)
        case measure => have h1 := HMS.out; have h2 := HM.out; rw [HSV.out] at h1; exact Nat.lt_of_lt_of_le h1 h2
        case rel => exact ⟨⟨x0, x1, ((wat l k).s - 1), x3⟩, ⟨y0, y1, y2, y3⟩, (HX1.out.set (y := ⟨x0, x1, ((wat l k).s - 1), x3⟩) 2 (.int .i64 ((wat l k).s - 1)) rfl).drew, (HY1.out.set_other _ _ (by omega)).drew, (by have h1 := HSTEP.out; rw [HSV.out] at h1; exact h1), Nat.le_refl _, (HB1.out.setCell (Nat.le_refl _) _).drew⟩
      · have HSV := Lib.hid (show C4.setv ⟨x0, x1, x2, x3⟩ (wat l k).v ((wat l k).s - 1) = ⟨x0, x1, x2, ((wat l k).s - 1)⟩ from by rw [hv]; rfl)
        rw [hv] at e0
        have HV := Lib.hid hv
        clear hv
        go_wp2
        go_region
        go_wp2
        go_roundg (C4.msr ⟨x0, x1, x2, ((wat l k).s - 1)⟩)
        case measure => have h1 := HMS.out; have h2 := HM.out; rw [HSV.out] at h1; exact Nat.lt_of_lt_of_le h1 h2
        case rel => exact ⟨⟨x0, x1, x2, ((wat l k).s - 1)⟩, ⟨y0, y1, y2, y3⟩, (HX1.out.set (y := ⟨x0, x1, x2, ((wat l k).s - 1)⟩) 3 (.int .i64 ((wat l k).s - 1)) rfl).drew, (HY1.out.set_other _ _ (by omega)).drew, (by have h1 := HSTEP.out; rw [HSV.out] at h1; exact h1), Nat.le_refl _, (HB1.out.setCell (Nat.le_refl _) _).drew⟩

set_option maxHeartbeats 1600000 in
theorem rgr_any (a : Option Addr) (b off cap : Nat) (l : List Wr) (c0 c1 c2 c3 : Int) (w : World) (ha : 0 < l.length → a = some ⟨b, off, none⟩) (hb : 0 < l.length → b < w.heap.size) (hl : l.length ≤ 9223372036854775807) (hc : LiesAt w b off l)
    (hs : ∀ k, k < l.length → -1152921504606846976 ≤ (wat l k).s ∧ (wat l k).s ≤ 9223372036854775807) :
    Calls Try.prog 16 #[.slice a l.length cap, .agg #[.int .i64 c0, .int .i64 c1, .int .i64 c2, .int .i64 c3]] w (GrPost ⟨c0, c1, c2, c3⟩ l w) := by
  have HA := Lib.hid ha
  clear ha
  have HB0 := Lib.hid hb
  clear hb
  have HC := Lib.hid hc
  clear hc
  have HS := Lib.hid hs
  clear hs
  go_enter Try.func16, Try.ntmps16
  go_wp2
  go_loopg [] (C4.msr ⟨c0, c1, c2, c3⟩) (fun n wr => ∃ (x y : C4), BoxI wr w.heap.size 23 x ∧ BoxI wr (w.heap.size + 1) 23 y ∧ GrInv l ⟨c0, c1, c2, c3⟩ x ∧ x.msr ≤ n ∧ Below w.heap.size w wr)
  case atStart => exact ⟨⟨c0, c1, c2, c3⟩, ⟨0, 0, 0, 0⟩, (BoxI.new w 23 ⟨c0, c1, c2, c3⟩).alloc _, by simpa using BoxI.new (w.alloc _) 23 ⟨0, 0, 0, 0⟩, GrInv.start _ _, Nat.le_refl _, (((Below.refl _ _).alloc (Nat.le_refl _) _).alloc (by simp) _)⟩
  case round =>
    obtain ⟨⟨x0, x1, x2, x3⟩, ⟨y0, y1, y2, y3⟩, hbx, hby, hinv, hm, hB⟩ := hrel
    have HX := Lib.hid hbx
    have HY := Lib.hid hby
    have HI := Lib.hid hinv
    have HM := Lib.hid hm
    have HB := Lib.hid hB
    have hsz := hby.lt
    obtain ⟨z0, z1, z2, z3⟩ := hbx.cells
    clear hbx hby hinv hm hB
    go_wp2_with fail
    refine (rbad_any a b off cap l x0 x1 x2 x3 _ HA.out (fun h => by have := HB0.out h; omega) hl (fun k hk => HC.out.below HB.out (HB0.out (by omega)) k hk)).mono ?_
    rintro e w1 ⟨i, k, bd, rfl, hsp, hb1⟩
    have HX1 := Lib.hid (HX.out.below hb1 (by omega))
    have HY1 := Lib.hid (HY.out.below hb1 (by omega))
    have hsz1 : w.heap.size + 1 < w1.heap.size := by have := hb1.size; omega
    have HB1 := Lib.hid (HB.out.trans (hb1.mono (by omega)))
    have HSP := Lib.hid hsp
    clear z0 z1 z2 z3 hsp hb1
    obtain ⟨z0, z1, z2, z3⟩ := HX1.out.cells
    cases bd with
    | false =>
      obtain ⟨t0, t1, t2, t3⟩ := HY1.out.cells
      have p0 := HY1.out.free 0
      have p1 := HY1.out.free 1
      have p2 := HY1.out.free 2
      have p3 := HY1.out.free 3
      have HD := Lib.hid (HI.out.done HSP.out)
      go_wp2
      exact bodyPost_ret (v := .agg #[.int .i64 x0, .int .i64 x1, .int .i64 x2, .int .i64 x3]) (by simp [results, Try.results16, go_sem, t0, t1, t2, t3]) rfl ⟨x0, x1, x2, x3, rfl, HD.out, ((((HB1.out.setCell (by simp) _).setCell (by simp) _).setCell (by simp) _).setCell (by simp) _)⟩
    | true =>
      obtain ⟨_, _, _, h⟩ | ⟨_, hi, hk, hbad, _⟩ := HSP.out
      · rename_i h0 _ _
        cases h0
      obtain rfl := HA.out (by omega)
      have hb0 := HB0.out (by omega)
      have hb1 : b < w1.heap.size := by omega
      have hbne : b ≠ w.heap.size := by omega
      obtain ⟨e0, e1, e2, e3⟩ := HC.out.below HB1.out hb0 k hk
      clear e2 e3
      have hs := HS.out k hk
      have hs1 := hs.1
      have hs2 := hs.2
      clear hs
      have p0 := HX1.out.free 0
      have p1 := HX1.out.free 1
      have p2 := HX1.out.free 2
      have p3 := HX1.out.free 3
      have hr := inB_range (badB_iff.1 hbad).1
      have HSTEP := Lib.hid (HI.out.step hk hi hbad)
      have HMS := Lib.hid (msr_step hbad hs1)
      have HR := Lib.hid hr
      clear hr hbad
      obtain hv | hv | hv | hv : (wat l k).v = 0 ∨ (wat l k).v = 1 ∨ (wat l k).v = 2 ∨ (wat l k).v = 3 := by have := HR.out; omega
      · have HSV := Lib.hid (show C4.setv ⟨x0, x1, x2, x3⟩ (wat l k).v ((wat l k).s - 1) = ⟨((wat l k).s - 1), x1, x2, x3⟩ from by rw [hv]; rfl)
        rw [hv] at e0
        have HV := Lib.hid hv
        clear hv
        go_wp2
        go_region
        go_wp2
        go_roundg (C4.msr ⟨((wat l k).s - 1), x1, x2, x3⟩)
        case measure => have h1 := HMS.out; have h2 := HM.out; rw [HSV.out] at h1; exact Nat.lt_of_lt_of_le h1 h2
        case rel => exact ⟨⟨((wat l k).s - 1), x1, x2, x3⟩, ⟨y0, y1, y2, y3⟩, (HX1.out.set (y := ⟨((wat l k).s - 1), x1, x2, x3⟩) 0 (.int .i64 ((wat l k).s - 1)) rfl).drew, (HY1.out.set_other _ _ (by omega)).drew, (by have h1 := HSTEP.out; rw [HSV.out] at h1; exact h1), Nat.le_refl _, (HB1.out.setCell (Nat.le_refl _) _).drew⟩
      · have HSV := Lib.hid (show C4.setv ⟨x0, x1, x2, x3⟩ (wat l k).v ((wat l k).s - 1) = ⟨x0, ((wat l k).s - 1), x2, x3⟩ from by rw [hv]; rfl)
        rw [hv] at e0
        have HV := Lib.hid hv
        clear hv
        go_wp2
        go_region
        go_wp2
        go_roundg (C4.msr ⟨x0, ((wat l k).s - 1), x2, x3⟩)
        case measure => have h1 := HMS.out; have h2 := HM.out; rw [HSV.out] at h1; exact Nat.lt_of_lt_of_le h1 h2
        case rel => exact ⟨⟨x0, ((wat l k).s - 1), x2, x3⟩, ⟨y0, y1, y2, y3⟩, (HX1.out.set (y := ⟨x0, ((wat l k).s - 1), x2, x3⟩) 1 (.int .i64 ((wat l k).s - 1)) rfl).drew, (HY1.out.set_other _ _ (by omega)).drew, (by have h1 := HSTEP.out; rw [HSV.out] at h1; exact h1), Nat.le_refl _, (HB1.out.setCell (Nat.le_refl _) _).drew⟩
      · have HSV := Lib.hid (show C4.setv ⟨x0, x1, x2, x3⟩ (wat l k).v ((wat l k).s - 1) = ⟨x0, x1, ((wat l k).s - 1), x3⟩ from by rw [hv]; rfl)
        rw [hv] at e0
        have HV := Lib.hid hv
        clear hv
        go_wp2
        go_region
        go_wp2
        go_roundg (C4.msr ⟨x0, x1, ((wat l k).s - 1), x3⟩)
        case measure => have h1 := HMS.out; have h2 := HM.out; rw [HSV.out] at h1; exact Nat.lt_of_lt_of_le h1 h2
        case rel => exact ⟨⟨x0, x1, ((wat l k).s - 1), x3⟩, ⟨y0, y1, y2, y3⟩, (HX1.out.set (y := ⟨x0, x1, ((wat l k).s - 1), x3⟩) 2 (.int .i64 ((wat l k).s - 1)) rfl).drew, (HY1.out.set_other _ _ (by omega)).drew, (by have h1 := HSTEP.out; rw [HSV.out] at h1; exact h1), Nat.le_refl _, (HB1.out.setCell (Nat.le_refl _) _).drew⟩
      · have HSV := Lib.hid (show C4.setv ⟨x0, x1, x2, x3⟩ (wat l k).v ((wat l k).s - 1) = ⟨x0, x1, x2, ((wat l k).s - 1)⟩ from by rw [hv]; rfl)
        rw [hv] at e0
        have HV := Lib.hid hv
        clear hv
        go_wp2
        go_region
        go_wp2
        go_roundg (C4.msr ⟨x0, x1, x2, ((wat l k).s - 1)⟩)
        case measure => have h1 := HMS.out; have h2 := HM.out; rw [HSV.out] at h1; exact Nat.lt_of_lt_of_le h1 h2
        case rel => exact ⟨⟨x0, x1, x2, ((wat l k).s - 1)⟩, ⟨y0, y1, y2, y3⟩, (HX1.out.set (y := ⟨x0, x1, x2, ((wat l k).s - 1)⟩) 3 (.int .i64 ((wat l k).s - 1)) rfl).drew, (HY1.out.set_other _ _ (by omega)).drew, (by have h1 := HSTEP.out; rw [HSV.out] at h1; exact h1), Nat.le_refl _, (HB1.out.setCell (Nat.le_refl _) _).drew⟩

end Go.Proofs.Ytckijalkodpjhaa
