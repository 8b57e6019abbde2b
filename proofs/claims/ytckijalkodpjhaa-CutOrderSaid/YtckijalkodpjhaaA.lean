/- The leaves of package cut: In (the program's and the document's), ahead, Below: what each answers, for every cut and every write; no memory that was there is turned. -/
import Derived.WalkKit
import Derived.RegionTactic
import Derived.ChangeAlike
import Derived.WalkSpells
import Derived.WalkLawsBesides
import Derived.WalkSmall
import Derived.Deep.QuietTactic
import Derived.BigQuiet
import Derived.Lib.Hide
import Derived.Test.YtckijalkodpjhaaProg
namespace Go.Proofs.Ytckijalkodpjhaa
open Go.RowKit

/-- A write's four numbers. -/
structure Wr where
  v : Int
  s : Int
  i : Int
  a : Int

/-- A cut's four numbers. -/
structure C4 where
  c0 : Int
  c1 : Int
  c2 : Int
  c3 : Int

def C4.get (c : C4) (v : Int) : Int := if v = 0 then c.c0 else if v = 1 then c.c1 else if v = 2 then c.c2 else c.c3
def inB (c : C4) (o : Wr) : Bool := decide (0 ≤ o.v ∧ o.v < 4 ∧ o.s ≤ c.get o.v)
def ahB (o w : Wr) : Bool := decide (o.a ≠ 0 ∧ o.a < w.i)
def blB (c o : C4) : Bool := decide (c.c0 ≤ o.c0 ∧ c.c1 ≤ o.c1 ∧ c.c2 ≤ o.c2 ∧ c.c3 ≤ o.c3)

theorem bel2 (w : World) (o o' : Obj) (n : Nat) : Below w.heap.size w (((w.alloc o).alloc o').drewN n) :=
  below_drewN (((Below.refl _ _).alloc (Nat.le_refl _) _).alloc (by simp) _) _
theorem bel2' (w : World) (o o' : Obj) : Below w.heap.size w ((w.alloc o).alloc o') :=
  (((Below.refl _ _).alloc (Nat.le_refl _) _).alloc (by simp) _)
theorem ret_bool {a b : Bool} (h : a = b) : Ending.returned (.bool a) = .returned (.bool b) := by rw [h]

section
variable (c0 c1 c2 c3 v s i a : Int) (w : World)

set_option maxHeartbeats 400000 in
theorem in_neg (hv : v < 0) :
    Calls Try.prog 13 #[.agg #[.int .i64 c0, .int .i64 c1, .int .i64 c2, .int .i64 c3], .agg #[.int .i64 v, .int .i64 s, .int .i64 i, .int .i64 a]] w fun e w' => e = .returned (.bool false) ∧ Below w.heap.size w w' := by
  have h0' : decide (0 ≤ v) = false := by simp; omega
  go_enter Try.func13, Try.ntmps13
  go_wp2
  go_quiet (fail)
  go_wp2
  go_ret
  exact ⟨rfl, bel2 _ _ _ _⟩

set_option maxHeartbeats 400000 in
theorem in_big (hv : 0 ≤ v) (hv4 : 4 ≤ v) :
    Calls Try.prog 13 #[.agg #[.int .i64 c0, .int .i64 c1, .int .i64 c2, .int .i64 c3], .agg #[.int .i64 v, .int .i64 s, .int .i64 i, .int .i64 a]] w fun e w' => e = .returned (.bool false) ∧ Below w.heap.size w w' := by
  have h0' : decide (0 ≤ v) = true := by simp; omega
  have h1' : decide (v < 4) = false := by simp; omega
  go_enter Try.func13, Try.ntmps13
  go_wp2
  go_quiet (fail)
  go_wp2
  go_ret
  exact ⟨rfl, bel2 _ _ _ _⟩

set_option maxHeartbeats 400000 in
theorem in_0 :
    Calls Try.prog 13 #[.agg #[.int .i64 c0, .int .i64 c1, .int .i64 c2, .int .i64 c3], .agg #[.int .i64 0, .int .i64 s, .int .i64 i, .int .i64 a]] w fun e w' => e = .returned (.bool (decide (s ≤ c0))) ∧ Below w.heap.size w w' := by
  go_enter Try.func13, Try.ntmps13
  go_wp2
  go_quiet (fail)
  go_wp2
  go_ret
  exact ⟨rfl, bel2 _ _ _ _⟩
set_option maxHeartbeats 400000 in
theorem in_1 :
    Calls Try.prog 13 #[.agg #[.int .i64 c0, .int .i64 c1, .int .i64 c2, .int .i64 c3], .agg #[.int .i64 1, .int .i64 s, .int .i64 i, .int .i64 a]] w fun e w' => e = .returned (.bool (decide (s ≤ c1))) ∧ Below w.heap.size w w' := by
  go_enter Try.func13, Try.ntmps13
  go_wp2
  go_quiet (fail)
  go_wp2
  go_ret
  exact ⟨rfl, bel2 _ _ _ _⟩
set_option maxHeartbeats 400000 in
theorem in_2 :
    Calls Try.prog 13 #[.agg #[.int .i64 c0, .int .i64 c1, .int .i64 c2, .int .i64 c3], .agg #[.int .i64 2, .int .i64 s, .int .i64 i, .int .i64 a]] w fun e w' => e = .returned (.bool (decide (s ≤ c2))) ∧ Below w.heap.size w w' := by
  go_enter Try.func13, Try.ntmps13
  go_wp2
  go_quiet (fail)
  go_wp2
  go_ret
  exact ⟨rfl, bel2 _ _ _ _⟩
set_option maxHeartbeats 400000 in
theorem in_3 :
    Calls Try.prog 13 #[.agg #[.int .i64 c0, .int .i64 c1, .int .i64 c2, .int .i64 c3], .agg #[.int .i64 3, .int .i64 s, .int .i64 i, .int .i64 a]] w fun e w' => e = .returned (.bool (decide (s ≤ c3))) ∧ Below w.heap.size w w' := by
  go_enter Try.func13, Try.ntmps13
  go_wp2
  go_quiet (fail)
  go_wp2
  go_ret
  exact ⟨rfl, bel2 _ _ _ _⟩

theorem in_any : Calls Try.prog 13 #[.agg #[.int .i64 c0, .int .i64 c1, .int .i64 c2, .int .i64 c3], .agg #[.int .i64 v, .int .i64 s, .int .i64 i, .int .i64 a]] w fun e w' => e = .returned (.bool (inB ⟨c0, c1, c2, c3⟩ ⟨v, s, i, a⟩)) ∧ Below w.heap.size w w' := by
  by_cases h0 : v < 0
  · exact (in_neg c0 c1 c2 c3 v s i a w h0).mono fun e w' ⟨h1, h2⟩ => ⟨h1.trans (ret_bool (by simp [inB]; omega)), h2⟩
  · by_cases h4 : 4 ≤ v
    · exact (in_big c0 c1 c2 c3 v s i a w (by omega) h4).mono fun e w' ⟨h1, h2⟩ => ⟨h1.trans (ret_bool (by simp [inB]; omega)), h2⟩
    · obtain rfl | rfl | rfl | rfl : v = 0 ∨ v = 1 ∨ v = 2 ∨ v = 3 := by omega
      · exact (in_0 c0 c1 c2 c3 s i a w).mono fun e w' ⟨h1, h2⟩ => ⟨h1.trans (ret_bool (by simp [inB, C4.get])), h2⟩
      · exact (in_1 c0 c1 c2 c3 s i a w).mono fun e w' ⟨h1, h2⟩ => ⟨h1.trans (ret_bool (by simp [inB, C4.get])), h2⟩
      · exact (in_2 c0 c1 c2 c3 s i a w).mono fun e w' ⟨h1, h2⟩ => ⟨h1.trans (ret_bool (by simp [inB, C4.get])), h2⟩
      · exact (in_3 c0 c1 c2 c3 s i a w).mono fun e w' ⟨h1, h2⟩ => ⟨h1.trans (ret_bool (by simp [inB, C4.get])), h2⟩
end

set_option maxHeartbeats 400000 in
theorem ahead_yes (v s i a v' s' i' a' : Int) (w : World) (h : a ≠ 0) :
    Calls Try.prog 18 #[.agg #[.int .i64 v, .int .i64 s, .int .i64 i, .int .i64 a], .agg #[.int .i64 v', .int .i64 s', .int .i64 i', .int .i64 a']] w fun e w' => e = .returned (.bool (decide (a < i'))) ∧ Below w.heap.size w w' := by
  have h0 : (a != 0) = true := by simpa using h
  have H := Lib.hid h
  clear h
  go_enter Try.func18, Try.ntmps18
  go_wp2
  go_ret
  exact ⟨rfl, bel2' _ _ _⟩

set_option maxHeartbeats 400000 in
theorem ahead_no (v s i v' s' i' a' : Int) (w : World)  :
    Calls Try.prog 18 #[.agg #[.int .i64 v, .int .i64 s, .int .i64 i, .int .i64 0], .agg #[.int .i64 v', .int .i64 s', .int .i64 i', .int .i64 a']] w fun e w' => e = .returned (.bool false) ∧ Below w.heap.size w w' := by
  go_enter Try.func18, Try.ntmps18
  go_wp2
  go_ret
  exact ⟨rfl, bel2' _ _ _⟩

theorem ahead_any (v s i a v' s' i' a' : Int) (w : World) :
    Calls Try.prog 18 #[.agg #[.int .i64 v, .int .i64 s, .int .i64 i, .int .i64 a], .agg #[.int .i64 v', .int .i64 s', .int .i64 i', .int .i64 a']] w fun e w' => e = .returned (.bool (ahB ⟨v, s, i, a⟩ ⟨v', s', i', a'⟩)) ∧ Below w.heap.size w w' := by
  by_cases h : a = 0
  · subst h
    exact (ahead_no v s i v' s' i' a' w).mono fun e w' ⟨h1, h2⟩ => ⟨h1.trans (ret_bool (by simp [ahB])), h2⟩
  · exact (ahead_yes v s i a v' s' i' a' w h).mono fun e w' ⟨h1, h2⟩ => ⟨h1.trans (ret_bool (by simp [ahB, h])), h2⟩


theorem idx0 (c0 c1 c2 c3 : Int) (w : World) : (Instr.index 33 (.agg #[.int .i64 c0, .int .i64 c1, .int .i64 c2, .int .i64 c3]) (.int .i64 0)).run Try.prog w = .ok (.int .i64 c0) w := by kernel_rfl
theorem idx1 (c0 c1 c2 c3 : Int) (w : World) : (Instr.index 33 (.agg #[.int .i64 c0, .int .i64 c1, .int .i64 c2, .int .i64 c3]) (.int .i64 1)).run Try.prog w = .ok (.int .i64 c1) w := by kernel_rfl
theorem idx2 (c0 c1 c2 c3 : Int) (w : World) : (Instr.index 33 (.agg #[.int .i64 c0, .int .i64 c1, .int .i64 c2, .int .i64 c3]) (.int .i64 2)).run Try.prog w = .ok (.int .i64 c2) w := by kernel_rfl
theorem idx3 (c0 c1 c2 c3 : Int) (w : World) : (Instr.index 33 (.agg #[.int .i64 c0, .int .i64 c1, .int .i64 c2, .int .i64 c3]) (.int .i64 3)).run Try.prog w = .ok (.int .i64 c3) w := by kernel_rfl

set_option maxHeartbeats 400000 in
theorem below_walk (c0 c1 c2 c3 o0 o1 o2 o3 : Int) (w : World) :
    Calls Try.prog 17 #[.agg #[.int .i64 c0, .int .i64 c1, .int .i64 c2, .int .i64 c3], .agg #[.int .i64 o0, .int .i64 o1, .int .i64 o2, .int .i64 o3]] w fun e w' => e = .returned (.bool (blB ⟨c0, c1, c2, c3⟩ ⟨o0, o1, o2, o3⟩)) ∧ Below w.heap.size w w' := by
  have j0 := idx0 c0 c1 c2 c3
  have j1 := idx1 c0 c1 c2 c3
  have j2 := idx2 c0 c1 c2 c3
  have j3 := idx3 c0 c1 c2 c3
  go_enter Try.func17, Try.ntmps17
  go_wp2
  refine wp_loop_rounds 5 ?_
  rw [rounds_succ]
  go_wp2
  all_goals (try (rw [rounds_succ]; go_wp2))
  all_goals (try (rw [rounds_succ]; go_wp2))
  all_goals (try (rw [rounds_succ]; go_wp2))
  all_goals (try (rw [rounds_succ]; go_wp2))
  all_goals (try (rw [rounds_succ]; go_wp2))
  all_goals go_ret
  all_goals exact ⟨ret_bool (by simp [blB]; omega), bel2' _ _ _⟩

end Go.Proofs.Ytckijalkodpjhaa
