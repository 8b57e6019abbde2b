/- Bad: the program's. -/
import Derived.Test.YtckijalkodpjhaaA
import Derived.Deep.LoopGhost
import Derived.Deep.RegionHeld3
namespace Go.Proofs.Ytckijalkodpjhaa
open Go.RowKit

def wat (l : List Wr) (k : Nat) : Wr := l.getD k ⟨0, 0, 0, 0⟩
def badB (c : C4) (l : List Wr) (k i : Nat) : Bool := inB c (wat l k) && (ahB (wat l i) (wat l k) && !inB c (wat l i))
def BadSpec (c : C4) (l : List Wr) (i k : Nat) (b : Bool) : Prop :=
  (b = false ∧ i = 0 ∧ k = 0 ∧ ∀ k' i', k' < l.length → i' < l.length → badB c l k' i' = false) ∨
  (b = true ∧ i < l.length ∧ k < l.length ∧ badB c l k i = true ∧ (∀ k', k' < k → ∀ i', i' < l.length → badB c l k' i' = false) ∧ ∀ i', i' < i → badB c l k i' = false)
def BadPost (c : C4) (l : List Wr) (w : World) (e : Ending) (w' : World) : Prop :=
  ∃ (i k : Nat) (b : Bool), e = .returned (.tuple #[.int .i64 i, .int .i64 k, .bool b]) ∧ BadSpec c l i k b ∧ Below w.heap.size w w'

theorem in_at (c0 c1 c2 c3 : Int) (o : Wr) (w : World) : Calls Try.prog 13 #[.agg #[.int .i64 c0, .int .i64 c1, .int .i64 c2, .int .i64 c3], .agg #[.int .i64 o.v, .int .i64 o.s, .int .i64 o.i, .int .i64 o.a]] w fun e w' => e = .returned (.bool (inB ⟨c0, c1, c2, c3⟩ o)) ∧ Below w.heap.size w w' :=
  in_any c0 c1 c2 c3 o.v o.s o.i o.a w
theorem ahead_at (o p : Wr) (w : World) : Calls Try.prog 18 #[.agg #[.int .i64 o.v, .int .i64 o.s, .int .i64 o.i, .int .i64 o.a], .agg #[.int .i64 p.v, .int .i64 p.s, .int .i64 p.i, .int .i64 p.a]] w fun e w' => e = .returned (.bool (ahB o p)) ∧ Below w.heap.size w w' :=
  ahead_any o.v o.s o.i o.a p.v p.s p.i p.a w

/-- The writes lie in memory from a cell on. -/
def LiesAt (w : World) (b off : Nat) (l : List Wr) : Prop := ∀ k, k < l.length →
  w.cell? ⟨b, off + k * 4, none⟩ = some (.int .i64 (wat l k).v) ∧ w.cell? ⟨b, off + k * 4 + 1, none⟩ = some (.int .i64 (wat l k).s) ∧
  w.cell? ⟨b, off + k * 4 + 2, none⟩ = some (.int .i64 (wat l k).i) ∧ w.cell? ⟨b, off + k * 4 + 3, none⟩ = some (.int .i64 (wat l k).a)

theorem LiesAt.below {w w' : World} {B b off : Nat} {l : List Wr} (h : LiesAt w b off l) (hw : Below B w w') (hb : b < B) : LiesAt w' b off l := fun k hk => by
  obtain ⟨h0, h1, h2, h3⟩ := h k hk
  exact ⟨(hw.cell (p := ⟨_, _, none⟩) hb).trans h0, (hw.cell (p := ⟨_, _, none⟩) hb).trans h1, (hw.cell (p := ⟨_, _, none⟩) hb).trans h2, (hw.cell (p := ⟨_, _, none⟩) hb).trans h3⟩

theorem bcell {W w1 : World} (hb : Below W.heap.size W w1) : (∀ b o, b < W.heap.size → w1.cell? ⟨b, o, none⟩ = W.cell? ⟨b, o, none⟩) ∧ (∀ b o, b < W.heap.size → w1.frozen? ⟨b, o, none⟩ = W.frozen? ⟨b, o, none⟩) :=
  ⟨fun b o h => hb.cell (p := ⟨b, o, none⟩) h, fun b o h => hb.frozen (p := ⟨b, o, none⟩) h⟩

/-- A box of four cells, laid first: it holds what it held while what lies below the next block stays. -/
theorem box4 {w wr : World} {x0 x1 x2 x3 : Value} {T : TypeId} (hB : Below (w.heap.size + 1) (w.alloc (.cells #[x0, x1, x2, x3] T)) wr) :
    wr.cell? ⟨w.heap.size, 0, none⟩ = some x0 ∧ wr.cell? ⟨w.heap.size, 1, none⟩ = some x1 ∧ wr.cell? ⟨w.heap.size, 2, none⟩ = some x2 ∧ wr.cell? ⟨w.heap.size, 3, none⟩ = some x3 ∧
      w.heap.size < wr.heap.size ∧ Below w.heap.size w wr := by
  have hs := hB.size
  rw [World.size_alloc] at hs
  refine ⟨?_, ?_, ?_, ?_, by omega, ((Below.refl _ _).alloc (Nat.le_refl _) _).trans (hB.mono (by omega))⟩
  all_goals
    rw [hB.cell (p := ⟨w.heap.size, _, none⟩) (Nat.lt_succ_self _), World.cell?_alloc_at _ _ _ _ rfl]
    rfl

/-- A box of four cells. -/
def Box4 (w : World) (b : Nat) (x0 x1 x2 x3 : Value) : Prop :=
  w.cell? ⟨b, 0, none⟩ = some x0 ∧ w.cell? ⟨b, 1, none⟩ = some x1 ∧ w.cell? ⟨b, 2, none⟩ = some x2 ∧ w.cell? ⟨b, 3, none⟩ = some x3
theorem Box4.below {w w' : World} {b B : Nat} {x0 x1 x2 x3 : Value} (h : Box4 w b x0 x1 x2 x3) (hB : Below B w w') (hb : b < B) : Box4 w' b x0 x1 x2 x3 :=
  ⟨(hB.cell (p := ⟨_, _, none⟩) hb).trans h.1, (hB.cell (p := ⟨_, _, none⟩) hb).trans h.2.1, (hB.cell (p := ⟨_, _, none⟩) hb).trans h.2.2.1, (hB.cell (p := ⟨_, _, none⟩) hb).trans h.2.2.2⟩
theorem Box4.alloc {w : World} {b : Nat} {x0 x1 x2 x3 : Value} (h : Box4 w b x0 x1 x2 x3) (o : Obj) (hb : b < w.heap.size) : Box4 (w.alloc o) b x0 x1 x2 x3 :=
  h.below ((Below.refl w.heap.size w).alloc (Nat.le_refl _) o) hb
theorem Box4.new (w : World) (x0 x1 x2 x3 : Value) (T : TypeId) : Box4 (w.alloc (.cells #[x0, x1, x2, x3] T)) w.heap.size x0 x1 x2 x3 := by
  refine ⟨?_, ?_, ?_, ?_⟩ <;> (rw [World.cell?_alloc_at _ _ _ _ rfl]; rfl)
theorem LiesAt.alloc {w : World} {b off : Nat} {l : List Wr} (h : LiesAt w b off l) (o : Obj) (hb : b < w.heap.size) : LiesAt (w.alloc o) b off l :=
  h.below ((Below.refl w.heap.size w).alloc (Nat.le_refl _) o) hb

theorem bad_yes {c : C4} {l : List Wr} {k j : Nat} (h1 : inB c (wat l k) = true) (h2 : ahB (wat l j) (wat l k) = true) (h3 : inB c (wat l j) = false) : badB c l k j = true := by simp [badB, h1, h2, h3]
theorem bad_no1 {c : C4} {l : List Wr} {k j : Nat} (h1 : inB c (wat l k) = false) : badB c l k j = false := by simp [badB, h1]
theorem bad_no2 {c : C4} {l : List Wr} {k j : Nat} (h1 : ahB (wat l j) (wat l k) = false) : badB c l k j = false := by simp [badB, h1]
theorem bad_no3 {c : C4} {l : List Wr} {k j : Nat} (h1 : inB c (wat l j) = true) : badB c l k j = false := by simp [badB, h1]
theorem snoc_no {p : Nat → Prop} {j : Nat} (h : ∀ i, i < j → p i) (hj : p j) : ∀ i, i < j + 1 → p i := fun i hi => by
  by_cases e : i = j
  · rw [e]; exact hj
  · exact h i (by omega)

set_option maxHeartbeats 1600000 in
theorem bad_any (a : Option Addr) (b off cap : Nat) (l : List Wr) (c0 c1 c2 c3 : Int) (w : World) (ha : 0 < l.length → a = some ⟨b, off, none⟩) (hb : 0 < l.length → b < w.heap.size) (hl : l.length ≤ 9223372036854775807) (hc : LiesAt w b off l) :
    Calls Try.prog 10 #[.slice a l.length cap, .agg #[.int .i64 c0, .int .i64 c1, .int .i64 c2, .int .i64 c3]] w (BadPost ⟨c0, c1, c2, c3⟩ l w) := by
  have HA := Lib.hid ha
  clear ha
  have HB0 := Lib.hid hb
  clear hb
  have HC := Lib.hid hc
  clear hc
  go_enter Try.func10, Try.ntmps10
  go_wp2
  go_loopw [13] (fun t wr => ∃ k : Nat, k ≤ l.length ∧ t = .int .i64 k ∧ Below (w.heap.size + 1) (w.alloc (.cells #[.int .i64 c0, .int .i64 c1, .int .i64 c2, .int .i64 c3] 33)) wr ∧ ∀ k', k' < k → ∀ i', i' < l.length → badB ⟨c0, c1, c2, c3⟩ l k' i' = false) (fun t _ => l.length - (intOf t).toNat)
  case atStart => exact ⟨0, Nat.zero_le _, rfl, Below.refl _ _, fun _ h => by omega⟩
  case round =>
    obtain ⟨k, hk, rfl, hB, hbad⟩ := hrel
    have HB := Lib.hid hbad
    clear hbad
    by_cases hlt : k < l.length
    · obtain rfl := HA.out (by omega)
      have hb := HB0.out (by omega)
      clear HA HB0
      have hs : w.heap.size < wr.heap.size := by have := hB.size; rw [World.size_alloc] at this; omega
      have hbr : b < wr.heap.size := by omega
      have HCB := Lib.hid ((Box4.new w (.int .i64 c0) (.int .i64 c1) (.int .i64 c2) (.int .i64 c3) 33).below hB (Nat.lt_succ_self _))
      have HW := Lib.hid hB
      have HB' := Lib.hid (((Below.refl w.heap.size w).alloc (Nat.le_refl _) (.cells #[.int .i64 c0, .int .i64 c1, .int .i64 c2, .int .i64 c3] 33)).trans (hB.mono (Nat.le_succ _)))
      clear hB
      have HC1 := Lib.hid (HC.out.below HB'.out hb)
      obtain ⟨e0, e1, e2, e3⟩ := HC1.out k hlt
      obtain ⟨x0, x1, x2, x3⟩ := HCB.out
      by_cases hin : inB ⟨c0, c1, c2, c3⟩ (wat l k) = true
      · go_wp2_with fail
        refine (in_at c0 c1 c2 c3 (wat l k) _).mono ?_
        rintro e w1 ⟨rfl, hb1⟩
        have hz := hb1.size
        rw [World.size_alloc] at hz
        clear e0 e1 e2 e3 x0 x1 x2 x3
        have HCB1 := Lib.hid ((HCB.out.alloc (.cells #[.int .i64 (wat l k).v, .int .i64 (wat l k).s, .int .i64 (wat l k).i, .int .i64 (wat l k).a] 37) (by omega)).below hb1 (by simp; omega))
        have HKB1 := Lib.hid ((Box4.new wr (.int .i64 (wat l k).v) (.int .i64 (wat l k).s) (.int .i64 (wat l k).i) (.int .i64 (wat l k).a) 37).below hb1 (by simp))
        have HC2 := Lib.hid ((HC1.out.alloc (.cells #[.int .i64 (wat l k).v, .int .i64 (wat l k).s, .int .i64 (wat l k).i, .int .i64 (wat l k).a] 37) (by omega)).below hb1 (by simp; omega))
        have HB1 := Lib.hid hb1
        clear hb1
        go_wp2_with fail
        obtain ⟨wo, rfl⟩ : ∃ wo : World, wo = wr := ⟨_, rfl⟩
        go_loopw [24] (fun t wr => ∃ j : Nat, j ≤ l.length ∧ t = .int .i64 j ∧ Below w1.heap.size w1 wr ∧ ∀ i', i' < j → badB ⟨c0, c1, c2, c3⟩ l k i' = false) (fun t _ => l.length - (intOf t).toNat)
        case atStart => exact ⟨0, Nat.zero_le _, rfl, Below.refl _ _, fun _ h => by omega⟩
        case round =>
          obtain ⟨j, hj, rfl, hB2, hbad2⟩ := hrel
          have HB2 := Lib.hid hbad2
          clear hbad2
          have hz2 := hB2.size
          by_cases hjt : j < l.length
          · have hw1 : w.heap.size < wr.heap.size := by omega
            have hw2 : wo.heap.size < wr.heap.size := by omega
            have hw3 : b < wr.heap.size := by omega
            have HC3 := Lib.hid (HC2.out.below hB2 (by omega))
            obtain ⟨f0, f1, f2, f3⟩ := HC3.out j hjt
            have HCB3 := Lib.hid (HCB1.out.below hB2 (by omega))
            obtain ⟨x0, x1, x2, x3⟩ := HCB3.out
            have HKB3 := Lib.hid (HKB1.out.below hB2 (by omega))
            obtain ⟨y0, y1, y2, y3⟩ := HKB3.out
            have HBB := Lib.hid hB2
            clear hB2
            by_cases hah : ahB (wat l j) (wat l k) = true
            · by_cases hin2 : inB ⟨c0, c1, c2, c3⟩ (wat l j) = true
              · go_wp2_with fail
                refine (ahead_at (wat l j) (wat l k) _).mono ?_
                rintro e w3 ⟨rfl, hb3⟩
                have hz3 := hb3.size
                rw [World.size_alloc] at hz3
                clear f0 f1 f2 f3 x0 x1 x2 x3 y0 y1 y2 y3
                obtain ⟨x0, x1, x2, x3⟩ := (HCB3.out.alloc (.cells #[.int .i64 (wat l j).v, .int .i64 (wat l j).s, .int .i64 (wat l j).i, .int .i64 (wat l j).a] 37) (by omega)).below hb3 (by simp; omega)
                obtain ⟨y0, y1, y2, y3⟩ := (Box4.new wr (.int .i64 (wat l j).v) (.int .i64 (wat l j).s) (.int .i64 (wat l j).i) (.int .i64 (wat l j).a) 37).below hb3 (by simp)
                have HB3 := Lib.hid hb3
                clear hb3
                go_wp2_with fail
                refine (in_at c0 c1 c2 c3 (wat l j) _).mono ?_
                rintro e w4 ⟨rfl, hb4⟩
                have HB4 := Lib.hid hb4
                clear hb4 x0 x1 x2 x3 y0 y1 y2 y3
                go_wp2
                go_roundw
                case rel => exact ⟨j + 1, by omega, by go_num, (HBB.out.trans ((((Below.refl w1.heap.size wr).alloc hz2 _).trans (HB3.out.mono (by simp; omega))).trans (HB4.out.mono (by omega)))), snoc_no HB2.out (bad_no3 hin2)⟩
                case measure => simp [intOf]; omega
              · have hin2' : inB ⟨c0, c1, c2, c3⟩ (wat l j) = false := by simpa using hin2
                have HIN2 := Lib.hid hin2
                clear hin2
                go_wp2_with fail
                refine (ahead_at (wat l j) (wat l k) _).mono ?_
                rintro e w3 ⟨rfl, hb3⟩
                have hz3 := hb3.size
                rw [World.size_alloc] at hz3
                clear f0 f1 f2 f3 x0 x1 x2 x3 y0 y1 y2 y3
                obtain ⟨x0, x1, x2, x3⟩ := (HCB3.out.alloc (.cells #[.int .i64 (wat l j).v, .int .i64 (wat l j).s, .int .i64 (wat l j).i, .int .i64 (wat l j).a] 37) (by omega)).below hb3 (by simp; omega)
                obtain ⟨y0, y1, y2, y3⟩ := (Box4.new wr (.int .i64 (wat l j).v) (.int .i64 (wat l j).s) (.int .i64 (wat l j).i) (.int .i64 (wat l j).a) 37).below hb3 (by simp)
                have HB3 := Lib.hid hb3
                clear hb3
                go_wp2_with fail
                refine (in_at c0 c1 c2 c3 (wat l j) _).mono ?_
                rintro e w4 ⟨rfl, hb4⟩
                have HB4 := Lib.hid hb4
                clear hb4 x0 x1 x2 x3 y0 y1 y2 y3
                go_wp2
                go_ret3
                exact ⟨j, k, true, rfl, .inr ⟨rfl, hjt, hlt, bad_yes hin hah hin2', HB.out, HB2.out⟩, HB'.out.trans ((((((Below.refl w.heap.size wo).alloc (by omega) _).trans (HB1.out.mono (by simp; omega))).trans (HBB.out.mono (by omega))).trans (((Below.refl w.heap.size wr).alloc (by omega) _).trans (HB3.out.mono (by simp; omega)))).trans (HB4.out.mono (by omega)))⟩
            · have hah' : ahB (wat l j) (wat l k) = false := by simpa using hah
              have HAH := Lib.hid hah
              clear hah
              go_wp2_with fail
              refine (ahead_at (wat l j) (wat l k) _).mono ?_
              rintro e w3 ⟨rfl, hb3⟩
              have HB3 := Lib.hid hb3
              clear hb3
              go_wp2
              go_roundw
              case rel => exact ⟨j + 1, by omega, by go_num, (HBB.out.trans (((Below.refl w1.heap.size wr).alloc hz2 _).trans (HB3.out.mono (by simp; omega)))), snoc_no HB2.out (bad_no2 hah')⟩
              case measure => simp [intOf]; omega
          · obtain rfl : j = l.length := by omega
            have HBB := Lib.hid hB2
            clear hB2
            go_wp2
            go_roundw
            case rel => exact ⟨k + 1, by omega, by go_num, HW.out.trans ((((Below.refl (w.heap.size + 1) wo).alloc (by omega) _).trans (HB1.out.mono (by simp; omega))).trans (HBB.out.mono (by omega))), snoc_no HB.out HB2.out⟩
            case measure => simp [intOf]; omega
      · have hin' : inB ⟨c0, c1, c2, c3⟩ (wat l k) = false := by simpa using hin
        have HIN := Lib.hid hin
        clear hin
        go_wp2_with fail
        refine (in_at c0 c1 c2 c3 (wat l k) _).mono ?_
        rintro e w1 ⟨rfl, hb1⟩
        have HB1 := Lib.hid hb1
        clear hb1
        go_wp2
        go_roundw
        case rel => exact ⟨k + 1, by omega, by go_num, HW.out.trans (((Below.refl (w.heap.size + 1) wr).alloc (by omega) _).trans (HB1.out.mono (by simp; omega))), snoc_no HB.out (fun i' _ => bad_no1 hin')⟩
        case measure => simp [intOf]; omega
    · obtain rfl : k = l.length := by omega
      have HB' := Lib.hid (((Below.refl w.heap.size w).alloc (Nat.le_refl _) (.cells #[.int .i64 c0, .int .i64 c1, .int .i64 c2, .int .i64 c3] 33)).trans (hB.mono (Nat.le_succ _)))
      clear hB
      go_wp2
      go_ret3
      exact ⟨0, 0, false, rfl, .inl ⟨rfl, rfl, rfl, fun k' i' hk' hi' => HB.out k' hk' i' hi'⟩, HB'.out⟩

end Go.Proofs.Ytckijalkodpjhaa
