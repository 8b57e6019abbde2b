/- How the arguments of the laws are opened: a slice of writes, an array of four numbers. -/
import Derived.Test.YtckijalkodpjhaaG
import Derived.Test.YtckijalkodpjhaaRows
import Derived.ProofKit
import Derived.OpenShut
import Derived.ChangeOld
import Derived.Deep.Slices
import Derived.Deep.Fields
import Derived.ChangeSame
import Derived.Lib.SmallJoins
import Derived.Laws.IdiomArrays
namespace Go.Proofs.Ytckijalkodpjhaa
open Go.ChangeShapes Go.WideShapes Go.ChangeAt Go.RowKit Go.Deep Go.Joins

theorem Try.own : ownKnob Try.prog.godebug = none := by kernel_rfl
theorem Try.laidOut : laidOutB Try.prog = true := by kernel_rfl

section
variable {H : Type} {enc : TypeId × Value → H} {w : World} {base : Nat} {spare : Nat → Bool} {held : Bool}
/-- A slice of writes: nil, or a row of which each element's four cells are numbers. -/
theorem open_writes {fuel : Nat} {cs : List Value} {x : DataW H × List MemPlace} (h : DataW.trod enc Try.prog w base spare held fuel 22 cs = some x) :
    cs = [.slice none 0 0] ∨ ∃ (a : Addr) (len cap : Nat), cs = [.slice (some a) len cap] ∧ len ≤ maxLen ∧
      ∀ i, i < len → ∀ j, j < 4 → ∃ n : Int, w.cell? (a.add (i * 4 + j)) = some (.int .i64 n) ∧ (Lit.int .i64 n).wf = true := by
  rcases open_slice Try.underlying22 h with ⟨h0, _⟩ | ⟨a, len, cap, m, n, D, Pl, hcs, _, hl, hm, hmm, _, hi⟩
  · exact .inl h0
  · refine .inr ⟨a, len, cap, hcs, Nat.le_trans hl hm, fun i hil j hj => ?_⟩
    obtain ⟨cs', hc, ht'⟩ := hi i (by rw [hmm]; split <;> omega)
    have hC : Try.prog.cellsOf 28 = 4 := by kernel_rfl
    have hC3 : Try.prog.cellsOf 3 = 1 := by kernel_rfl
    rw [hC] at hc
    obtain ⟨ys, n', _, _, _, hyl, hf⟩ := DataW.trod_struct Try.underlying28 ht'
    obtain ⟨_, hcl, hat⟩ := World.cells?_some hc
    have hcell := hat j hj
    have hl4 : cs'.length = 4 := hcl
    have hyj : ys[j]? = some (ys[j]'(by rw [hyl]; exact hj)) := List.getElem?_eq_getElem _
    have hread : DataW.trod enc Try.prog w base spare held n' 3 [cs'[j]'(by omega)] = ys[j]? := by
      have e : ∀ k (hk : k < 4), (cs'.drop k).take 1 = [cs'[k]'(by omega)] := fun k hk => by
        rw [List.drop_eq_getElem_cons (by omega)]
        rfl
      obtain rfl | rfl | rfl | rfl : j = 0 ∨ j = 1 ∨ j = 2 ∨ j = 3 := by omega
      · have h1 : DataW.trod enc Try.prog w base spare held n' 3 ((cs'.drop 0).take (Try.prog.cellsOf 3)) = ys[0]? := hf 0 _ rfl
        rw [hC3, e 0 (by omega)] at h1
        exact h1
      · have h1 : DataW.trod enc Try.prog w base spare held n' 3 ((cs'.drop 1).take (Try.prog.cellsOf 3)) = ys[1]? := hf 1 _ rfl
        rw [hC3, e 1 (by omega)] at h1
        exact h1
      · have h1 : DataW.trod enc Try.prog w base spare held n' 3 ((cs'.drop 2).take (Try.prog.cellsOf 3)) = ys[2]? := hf 2 _ rfl
        rw [hC3, e 2 (by omega)] at h1
        exact h1
      · have h1 : DataW.trod enc Try.prog w base spare held n' 3 ((cs'.drop 3).take (Try.prog.cellsOf 3)) = ys[3]? := hf 3 _ rfl
        rw [hC3, e 3 (by omega)] at h1
        exact h1
    obtain ⟨n0, e0, _, w0⟩ := DataW.trod_int Try.underlying3 (hread.trans hyj)
    simp at e0
    refine ⟨n0, ?_, w0⟩
    rw [← Go.Deep.add_add, hcell, List.getElem?_eq_getElem (by omega), e0]
end

theorem list_of (n : Nat) (P : Nat → Wr → Prop) (h : ∀ i, i < n → ∃ o, P i o) : ∃ l : List Wr, l.length = n ∧ ∀ i, i < n → P i (wat l i) := by
  induction n with
  | zero => exact ⟨[], rfl, fun i hi => by omega⟩
  | succ n ih =>
    obtain ⟨l, hl, hp⟩ := ih fun i hi => h i (by omega)
    obtain ⟨o, ho⟩ := h n (by omega)
    refine ⟨l ++ [o], by simp [hl], fun i hi => ?_⟩
    by_cases e : i = n
    · subst e
      have : wat (l ++ [o]) i = o := by simp [wat, List.getD, ← hl]
      rw [this]; exact ho
    · have : wat (l ++ [o]) i = wat l i := by simp [wat, List.getD, List.getElem?_append_left (show i < l.length by omega)]
      rw [this]; exact hp i (by omega)

theorem bounds_i64' {n : Int} (h : (Lit.int .i64 n).wf = true) : -9223372036854775808 ≤ n ∧ n ≤ 9223372036854775807 := by
  simp [Lit.wf, IntKind.min, IntKind.max, IntKind.signed, IntKind.bits] at h
  omega

section
variable {H : Type} {enc : TypeId × Value → H} {w : World} {base : Nat} {spare : Nat → Bool} {held : Bool}
theorem came_of {r : Reach} {b0 : Nat} {v : Value} {d : DataW H} {p : List MemPlace} (hv : Value.okWide Try.prog w r b0 22 v) (h : DataW.Trod enc Try.prog w base spare held 22 v d p) :
    ∃ (a : Option Addr) (b off cap : Nat) (l : List Wr), v = .slice a l.length cap ∧ Came w a b off l := by
  obtain ⟨a0, len, cap, rfl⟩ := okWide_slice Try.underlying22 hv
  obtain ⟨fuel, hf⟩ := h
  rcases open_writes hf with hcs | ⟨a, len', cap', hcs, hm, hi⟩
  · simp [Value.cells] at hcs
    obtain ⟨rfl, rfl, rfl⟩ := hcs
    exact ⟨none, 0, 0, 0, [], rfl, fun h => by simp at h, fun h => by simp at h, by simp, fun k hk => by simp at hk, fun k hk => by simp at hk⟩
  · simp [Value.cells] at hcs
    obtain ⟨rfl, rfl, rfl⟩ := hcs
    have hcell : ∀ i, i < len → ∃ o : Wr, w.cell? (a.add (i * 4)) = some (.int .i64 o.v) ∧ w.cell? (a.add (i * 4 + 1)) = some (.int .i64 o.s) ∧ w.cell? (a.add (i * 4 + 2)) = some (.int .i64 o.i) ∧ w.cell? (a.add (i * 4 + 3)) = some (.int .i64 o.a) ∧ o.s ≤ 9223372036854775807 := fun i hil => by
      obtain ⟨n0, c0, _⟩ := hi i hil 0 (by omega)
      obtain ⟨n1, c1, w1⟩ := hi i hil 1 (by omega)
      obtain ⟨n2, c2, _⟩ := hi i hil 2 (by omega)
      obtain ⟨n3, c3, _⟩ := hi i hil 3 (by omega)
      exact ⟨⟨n0, n1, n2, n3⟩, c0, c1, c2, c3, (bounds_i64' w1).2⟩
    obtain ⟨l, hll, hlc⟩ := list_of len _ hcell
    by_cases h0 : 0 < len
    · obtain ⟨b, off, spot⟩ := a
      have hspot : spot = none := by simpa [Addr.add] using World.cell?_spot (hlc 0 h0).1
      subst hspot
      refine ⟨some ⟨b, off, none⟩, b, off, cap, l, by rw [hll], fun _ => rfl, fun _ => ?_, by unfold maxLen at hm; omega, fun k hk => ?_, fun k hk => (hlc k (by omega)).2.2.2.2⟩
      · have := (hlc 0 h0).1
        have := World.block_lt_of_cell? w _ this
        simpa [Addr.add] using this
      · obtain ⟨c0, c1, c2, c3, _⟩ := hlc k (by omega)
        simp only [Addr.add_lit] at c0 c1 c2 c3
        exact ⟨c0, c1, c2, c3⟩
    · obtain rfl : len = 0 := by omega
      obtain rfl : l = [] := List.length_eq_zero_iff.1 hll
      exact ⟨some a, 0, 0, cap, [], rfl, fun h => by simp at h, fun h => by simp at h, by simp, fun k hk => by simp at hk, fun k hk => by simp at hk⟩

theorem arr4_of {r : Reach} {b0 : Nat} {v : Value} {d : DataW H} {p : List MemPlace} (hv : Value.okWide Try.prog w r b0 23 v) (h : DataW.Trod enc Try.prog w base spare held 23 v d p) :
    ∃ c0 c1 c2 c3 : Int, v = .agg #[.int .i64 c0, .int .i64 c1, .int .i64 c2, .int .i64 c3] := by
  have hv' : ∃ cs, v = .agg cs ∧ cs.size = Try.prog.cellsOf 23 := by
    simp only [Value.okWide, Try.underlying23] at hv
    obtain ⟨cs, h1, h2, _⟩ := hv
    exact ⟨cs, h1, h2⟩
  obtain ⟨cs, rfl, hsz⟩ := hv'
  obtain ⟨x0, x1, x2, x3, rfl⟩ := array4 (hsz.trans (by kernel_rfl))
  obtain ⟨fuel, hf⟩ := h
  obtain ⟨y0, y1, y2, y3, n, _, t0, t1, t2, t3⟩ := trod_array4 Try.underlying23 (by kernel_rfl) (by simpa [Value.cells] using hf)
  obtain ⟨n0, e0, _, _⟩ := DataW.trod_int Try.underlying3 t0
  obtain ⟨n1, e1, _, _⟩ := DataW.trod_int Try.underlying3 t1
  obtain ⟨n2, e2, _, _⟩ := DataW.trod_int Try.underlying3 t2
  obtain ⟨n3, e3, _, _⟩ := DataW.trod_int Try.underlying3 t3
  simp at e0 e1 e2 e3
  subst e0 e1 e2 e3
  exact ⟨n0, n1, n2, n3, rfl⟩
end

end Go.Proofs.Ytckijalkodpjhaa
