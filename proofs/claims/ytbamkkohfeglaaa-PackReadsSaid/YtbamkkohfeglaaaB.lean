/- A reader in memory; Err, Left, End, wrong. -/
import Derived.WalkKit
import Derived.RegionTactic
import Derived.ChangeAlike
import Derived.WalkSpells
import Derived.WalkLawsBesides
import Derived.WalkSmall
import Derived.Deep.QuietTactic
import Derived.BigQuiet
import Derived.Lib.Hide
import Derived.Lib.QuietBelow
import Derived.Laws.ResultCell
import Derived.OneCell
import Derived.Deep.LoopGhost
import Derived.Maps.AppendAt
import Derived.Deep.AppendSrc
import Derived.Deep.AppendLies
import Derived.Lib.AppendStr
import Derived.Lib.AppendZeros
import Derived.Lib.ConvBytes
import Derived.Laws.IdiomStrings
import Derived.IntWalk
import Derived.Test.YtbamkkohfeglaaaA
namespace Go.Proofs.Ytbamkkohfeglaaa
open Go.RowKit Go.Sort

def bat (l : List UInt8) (k : Nat) : UInt8 := l.getD k 0
def bs (l : List UInt8) : ByteArray := ⟨l.toArray⟩
def bl (s : ByteArray) : List UInt8 := s.data.toList
theorem bl_length (s : ByteArray) : (bl s).length = s.size := rfl
theorem bl_back (s : ByteArray) : bs (bl s) = s := rfl
theorem bl_bs (l : List UInt8) : bl (bs l) = l := rfl
/-- Bytes in memory from a cell on. -/
def LiesB (w : World) (b off : Nat) (l : List UInt8) : Prop := ∀ k, k < l.length → w.cell? ⟨b, off + k, none⟩ = some (.int .u8 (bat l k).toNat)
theorem LiesB.same {w w' : World} {b off : Nat} {l : List UInt8} (h : LiesB w b off l) (hw : w'.heap[b]? = w.heap[b]?) : LiesB w' b off l := fun k hk => (World.cell?_of_block (a := ⟨b, off + k, none⟩) hw).trans (h k hk)
theorem LiesB.drop {w : World} {b off : Nat} {l : List UInt8} (h : LiesB w b off l) (j : Nat) : LiesB w b (off + j) (l.drop j) := fun k hk => by
  rw [List.length_drop] at hk
  rw [Nat.add_assoc, h (j + k) (by omega)]
  simp [bat, List.getD]
theorem LiesB.take {w : World} {b off : Nat} {l : List UInt8} (h : LiesB w b off l) (j : Nat) : LiesB w b off (l.take j) := fun k hk => by
  rw [List.length_take] at hk
  rw [h k (by omega)]
  have : k < j := by omega
  simp [bat, List.getD, this]
/-- A slice holds bytes. -/
def Hb (B : Nat) (w : World) (a : Option Addr) (c : Nat) (l : List UInt8) : Prop :=
  (a = none ∧ c = 0 ∧ l = []) ∨ ∃ b off, a = some ⟨b, off, none⟩ ∧ b < B ∧ l.length ≤ c ∧ LiesB w b off l
theorem Hb.same {B : Nat} {w w' : World} {a : Option Addr} {c : Nat} {l : List UInt8} (h : Hb B w a c l) (hs : ∀ b, b < B → w'.heap[b]? = w.heap[b]?) : Hb B w' a c l :=
  h.imp id fun ⟨b, off, h1, h2, h3, h4⟩ => ⟨b, off, h1, h2, h3, h4.same (hs b h2)⟩
theorem Hb.mono {B B' : Nat} {w : World} {a : Option Addr} {c : Nat} {l : List UInt8} (h : Hb B w a c l) (hs : B ≤ B') : Hb B' w a c l :=
  h.imp id fun ⟨b, off, h1, h2, h3⟩ => ⟨b, off, h1, Nat.lt_of_lt_of_le h2 hs, h3⟩
theorem Hb.len {B : Nat} {w : World} {a : Option Addr} {c : Nat} {l : List UInt8} (h : Hb B w a c l) : l.length ≤ c := by
  rcases h with ⟨_, _, rfl⟩ | ⟨_, _, _, _, h, _⟩
  · exact Nat.zero_le _
  · exact h

/-- A reader in memory: what is left, and what was wrong. -/
def Rdr (w : World) (b : Nat) (l : List UInt8) (e : Nat) : Prop :=
  ∃ a c, w.heap[b]? = some (.cells #[.slice a l.length c, .int .i64 e] 46 (0, 0)) ∧ Hb b w a c l
theorem Rdr.lt {w : World} {b : Nat} {l : List UInt8} {e : Nat} (h : Rdr w b l e) : b < w.heap.size := by
  obtain ⟨a, c, h1, _⟩ := h
  exact lt_of_block h1
theorem Rdr.same {w w' : World} {b : Nat} {l : List UInt8} {e : Nat} (h : Rdr w b l e) (hs : ∀ k, k ≤ b → w'.heap[k]? = w.heap[k]?) : Rdr w' b l e := by
  obtain ⟨a, c, h1, h2⟩ := h
  exact ⟨a, c, (hs b (Nat.le_refl _)).trans h1, h2.same fun k hk => hs k (Nat.le_of_lt hk)⟩
theorem Rdr.below {w w' : World} {b : Nat} {l : List UInt8} {e : Nat} (h : Rdr w b l e) (hB : Below w.heap.size w w') : Rdr w' b l e :=
  h.same fun k hk => hB.block k (Nat.lt_of_le_of_lt hk h.lt)
theorem cells_of {w : World} {b : Nat} {x y : Value} {T : TypeId} (h : w.heap[b]? = some (.cells #[x, y] T (0, 0))) : w.cell? ⟨b, 0, none⟩ = some x ∧ w.cell? ⟨b, 1, none⟩ = some y ∧ ∀ o, w.frozen? ⟨b, o, none⟩ = false := by
  refine ⟨?_, ?_, fun o => ?_⟩
  all_goals first | simp [World.cell?, h] | simp [World.frozen?, h]
theorem grown_refl (w : World) (row : Option Nat) : w.grownBy w row := ⟨rfl, rfl, rfl, Nat.le_refl _, fun _ _ _ => rfl⟩
theorem grown_trans {a b c : World} {row : Option Nat} (h : a.grownBy b row) (k : b.grownBy c row) : a.grownBy c row :=
  ⟨k.os.trans h.os, k.tape.trans h.tape, k.output.trans h.output, Nat.le_trans h.size k.size, fun i hi hn => (k.block i (Nat.lt_of_lt_of_le hi h.size) hn).trans (h.block i hi hn)⟩
theorem grown_below {w w' : World} (h : Below w.heap.size w w') (row : Option Nat) : w.grownBy w' row := ⟨h.os, h.tape, h.output, h.size, fun k hk _ => h.block k hk⟩
theorem grown_set {a b : World} {g : Nat} (h : a.grownBy b (some g)) (o : Nat) (u : Value) : a.grownBy (b.setCell ⟨g, o, none⟩ u) (some g) := by
  refine grown_trans h ⟨rfl, rfl, rfl, by rw [World.size_setCell]; exact Nat.le_refl _, fun k hk hn => ?_⟩
  exact Below.heap_setCell _ _ _ _ (fun e => hn (by rw [e]))
theorem heap_setCell_same {w : World} {b : Nat} {xs : Array Value} {T : TypeId} (h : w.heap[b]? = some (.cells xs T (0, 0))) (o : Nat) (u : Value) : (w.setCell ⟨b, o, none⟩ u).heap[b]? = some (.cells (xs.setIfInBounds o u) T (0, 0)) := by
  have hlt := lt_of_block h
  have h' : w.heap[b] = .cells xs T (0, 0) := by simpa [Array.getElem?_eq_getElem hlt] using h
  show (w.heap.modify b _)[b]? = _
  rw [Array.getElem?_eq_getElem (by simpa using hlt), Array.getElem_modify_self, h']
  rfl

set_option maxHeartbeats 400000 in
theorem err_any {w : World} {b : Nat} {l : List UInt8} {e : Nat} (h : Rdr w b l e) : Calls Try.prog 20 #[.pointer (some ⟨b, 0, none⟩)] w fun en w' => en = .returned (.int .i64 e) ∧ w = w' := by
  obtain ⟨a, c, h1, _⟩ := h
  obtain ⟨c0, c1, f0⟩ := cells_of h1
  clear h1
  go_enter Try.func20, Try.ntmps20
  go_wp2
  go_ret
  exact ⟨rfl, rfl⟩
set_option maxHeartbeats 400000 in
theorem err_nil (w : World) : Calls Try.prog 20 #[.pointer none] w fun en w' => en = .returned (.int .i64 2) ∧ w = w' := by
  go_enter Try.func20, Try.ntmps20
  go_wp2
  go_ret
  exact ⟨rfl, rfl⟩
set_option maxHeartbeats 400000 in
theorem left_any {w : World} {b : Nat} {l : List UInt8} {e : Nat} (h : Rdr w b l e) : Calls Try.prog 18 #[.pointer (some ⟨b, 0, none⟩)] w fun en w' => en = .returned (.int .i64 l.length) ∧ w = w' := by
  obtain ⟨a, c, h1, _⟩ := h
  obtain ⟨c0, c1, f0⟩ := cells_of h1
  clear h1
  go_enter Try.func18, Try.ntmps18
  go_wp2
  go_ret
  exact ⟨rfl, rfl⟩
set_option maxHeartbeats 400000 in
theorem left_nil (w : World) : Calls Try.prog 18 #[.pointer none] w fun en w' => en = .returned (.int .i64 0) ∧ w = w' := by
  go_enter Try.func18, Try.ntmps18
  go_wp2
  go_ret
  exact ⟨rfl, rfl⟩
theorem ret_nat {a b : Nat} (h : a = b) : Ending.returned (.int .i64 (a : Int)) = .returned (.int .i64 (b : Int)) := by rw [h]
set_option maxHeartbeats 800000 in
theorem end_any {w : World} {b : Nat} {l : List UInt8} {e : Nat} (h : Rdr w b l e) : Calls Try.prog 17 #[.pointer (some ⟨b, 0, none⟩)] w fun en w' => en = .returned (.int .i64 (endOf l e)) ∧ w = w' := by
  have H := Lib.hid h
  clear h
  by_cases he : e = 0
  · subst he
    by_cases hl : l.length = 0
    · have HE := Lib.hid (show endOf l 0 = 0 from by rw [endOf, if_pos rfl, if_pos hl])
      have HL := Lib.hid hl
      clear hl
      go_enter Try.func17, Try.ntmps17
      go_wp2_with fail
      refine (err_any H.out).mono ?_
      rintro en w' ⟨rfl, rfl⟩
      go_wp2_with fail
      refine (left_any H.out).mono ?_
      rw [HL.out]
      rintro en w' ⟨rfl, rfl⟩
      go_wp2
      go_ret
      rw [HE.out]
      exact ⟨rfl, rfl⟩
    · have HE := Lib.hid (show endOf l 0 = 3 from by rw [endOf, if_pos rfl, if_neg hl])
      have hp : (0 : Int) < (l.length : Int) := by omega
      clear hl
      go_enter Try.func17, Try.ntmps17
      go_wp2_with fail
      refine (err_any H.out).mono ?_
      rintro en w' ⟨rfl, rfl⟩
      go_wp2_with fail
      refine (left_any H.out).mono ?_
      rintro en w' ⟨rfl, rfl⟩
      go_wp2
      go_ret
      rw [HE.out]
      exact ⟨rfl, rfl⟩
  · have HE := Lib.hid (show endOf l e = e from by rw [endOf, if_neg he])
    have hn : ((e : Int) == 0) = false := by rw [beq_eq_false_iff_ne]; omega
    have hn2 : ((e : Int) != 0) = true := by rw [bne, hn]; rfl
    clear he
    go_enter Try.func17, Try.ntmps17
    go_wp2_with fail
    refine (err_any H.out).mono ?_
    rintro en w' ⟨rfl, rfl⟩
    go_wp2
    go_ret
    rw [HE.out]
    exact ⟨rfl, rfl⟩
set_option maxHeartbeats 400000 in
theorem end_nil (w : World) : Calls Try.prog 17 #[.pointer none] w fun en w' => en = .returned (.int .i64 2) ∧ w = w' := by
  go_enter Try.func17, Try.ntmps17
  go_wp2_with fail
  refine (err_nil w).mono ?_
  rintro en w' ⟨rfl, rfl⟩
  go_wp2
  go_ret
  exact ⟨rfl, rfl⟩
def WrongPost (w : World) (b e : Nat) (en : Ending) (w' : World) : Prop := en = .returned (.int .i64 0) ∧ Rdr w' b [] e ∧ w.grownBy w' (some b)
set_option maxHeartbeats 400000 in
theorem wrong_any {w : World} {b : Nat} {l : List UInt8} {e : Nat} (h : Rdr w b l e) (e' : Nat) : Calls Try.prog 24 #[.pointer (some ⟨b, 0, none⟩), .int .i64 e'] w (WrongPost w b e') := by
  have hlt := h.lt
  obtain ⟨a, c, h1, _⟩ := h
  obtain ⟨c0, c1, f0⟩ := cells_of h1
  have H1 := Lib.hid h1
  clear h1
  go_enter Try.func24, Try.ntmps24
  go_wp2
  go_ret
  refine ⟨rfl, ⟨none, 0, ?_, .inl ⟨rfl, rfl, rfl⟩⟩, grown_set (grown_set (grown_refl _ _) _ _) _ _⟩
  rw [heap_setCell_same (heap_setCell_same H1.out _ _)]
  rfl
def ReadPost (w : World) (l : List UInt8) (en : Ending) (w' : World) : Prop := en = .returned (.pointer (some ⟨w.heap.size, 0, none⟩)) ∧ Rdr w' w.heap.size l 0 ∧ Below w.heap.size w w'
set_option maxHeartbeats 400000 in
theorem read_any {w : World} {a : Option Addr} {c : Nat} {l : List UInt8} (h : Hb w.heap.size w a c l) : Calls Try.prog 15 #[.slice a l.length c] w (ReadPost w l) := by
  have H := Lib.hid h
  clear h
  go_enter Try.func15, Try.ntmps15
  go_wp2
  go_ret
  have hb := (Below.refl w.heap.size w).alloc (Nat.le_refl _) (.cells #[.slice a l.length c, .int .i64 0] 46)
  exact ⟨rfl, ⟨a, c, heap_alloc_new w _, H.out.same fun k hk => hb.block k hk⟩, hb⟩

end Go.Proofs.Ytbamkkohfeglaaa
