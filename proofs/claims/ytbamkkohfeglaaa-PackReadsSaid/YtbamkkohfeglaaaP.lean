/- How a script is opened. -/
import Derived.Test.YtbamkkohfeglaaaK
import Derived.Test.YtbamkkohfeglaaaO
import Derived.Deep.Slices
import Derived.Deep.Fields
namespace Go.Proofs.Ytbamkkohfeglaaa
open Go.ChangeShapes Go.WideShapes Go.ChangeAt Go.RowKit Go.Deep

section
variable {H : Type} {enc : TypeId × Value → H} {w : World} {base : Nat} {spare : Nat → Bool} {held : Bool}
/-- A slice of calls: nil, or a row of which each element's two cells are numbers. -/
theorem open_ops {fuel : Nat} {cs : List Value} {x : DataW H × List MemPlace} (h : DataW.trod enc Try.prog w base spare held fuel 38 cs = some x) :
    cs = [.slice none 0 0] ∨ ∃ (a : Addr) (len cap : Nat), cs = [.slice (some a) len cap] ∧ len ≤ maxLen ∧
      ∀ i, i < len → ∀ j, j < 2 → ∃ n : Int, w.cell? (a.add (i * 2 + j)) = some (.int .i64 n) := by
  rcases open_slice Try.underlying38 h with ⟨h0, _⟩ | ⟨a, len, cap, m, n, D, Pl, hcs, _, hl, hm, hmm, _, hi⟩
  · exact .inl h0
  · refine .inr ⟨a, len, cap, hcs, Nat.le_trans hl hm, fun i hil j hj => ?_⟩
    obtain ⟨cs', hc, ht'⟩ := hi i (by rw [hmm]; split <;> omega)
    have hC : Try.prog.cellsOf 43 = 2 := by kernel_rfl
    have hC3 : Try.prog.cellsOf 3 = 1 := by kernel_rfl
    rw [hC] at hc
    obtain ⟨ys, n', _, _, _, hyl, hf⟩ := DataW.trod_struct Try.underlying43 ht'
    obtain ⟨_, hcl, hat⟩ := World.cells?_some hc
    have hcell := hat j hj
    have hl4 : cs'.length = 2 := hcl
    have hyj : ys[j]? = some (ys[j]'(by rw [hyl]; exact hj)) := List.getElem?_eq_getElem _
    have hread : DataW.trod enc Try.prog w base spare held n' 3 [cs'[j]'(by omega)] = ys[j]? := by
      have e : ∀ k (hk : k < 2), (cs'.drop k).take 1 = [cs'[k]'(by omega)] := fun k hk => by
        rw [List.drop_eq_getElem_cons (by omega)]
        rfl
      obtain rfl | rfl : j = 0 ∨ j = 1 := by omega
      · have h1 : DataW.trod enc Try.prog w base spare held n' 3 ((cs'.drop 0).take (Try.prog.cellsOf 3)) = ys[0]? := hf 0 _ rfl
        rw [hC3, e 0 (by omega)] at h1
        exact h1
      · have h1 : DataW.trod enc Try.prog w base spare held n' 3 ((cs'.drop 1).take (Try.prog.cellsOf 3)) = ys[1]? := hf 1 _ rfl
        rw [hC3, e 1 (by omega)] at h1
        exact h1
    obtain ⟨n0, e0, _, _⟩ := DataW.trod_int Try.underlying3 (hread.trans hyj)
    simp at e0
    refine ⟨n0, ?_⟩
    rw [← Go.Deep.add_add, hcell, List.getElem?_eq_getElem (by omega), e0]
theorem came_ops {r : Reach} {b0 : Nat} {v : Value} {d : DataW H} {p : List MemPlace} (hv : Value.okWide Try.prog w r b0 38 v) (h : DataW.Trod enc Try.prog w base spare held 38 v d p) :
    ∃ (a : Option Addr) (b off cap : Nat) (l : List Stp), v = .slice a l.length cap ∧ CameO w a b off l := by
  obtain ⟨a0, len, cap, rfl⟩ := okWide_slice Try.underlying38 hv
  obtain ⟨fuel, hf⟩ := h
  rcases open_ops hf with hcs | ⟨a, len', cap', hcs, hm, hi⟩
  · simp [Value.cells] at hcs
    obtain ⟨rfl, rfl, rfl⟩ := hcs
    exact ⟨none, 0, 0, 0, [], rfl, fun h => absurd h (Nat.lt_irrefl _), fun h => absurd h (Nat.lt_irrefl _), by simp, fun k hk => absurd hk (Nat.not_lt_zero k)⟩
  · simp [Value.cells] at hcs
    obtain ⟨rfl, rfl, rfl⟩ := hcs
    obtain ⟨l, hll, hlc⟩ := list_of (⟨0, 0⟩ : Stp) len (fun i o => w.cell? (a.add (i * 2)) = some (.int .i64 o.k) ∧ w.cell? (a.add (i * 2 + 1)) = some (.int .i64 o.n)) fun i hil => by
      obtain ⟨n0, c0⟩ := hi i hil 0 (by omega)
      obtain ⟨n1, c1⟩ := hi i hil 1 (by omega)
      exact ⟨⟨n0, n1⟩, c0, c1⟩
    by_cases h0 : 0 < len
    · obtain ⟨b, off, spot⟩ := a
      have hspot : spot = none := by simpa [Addr.add] using World.cell?_spot (hlc 0 h0).1
      subst hspot
      refine ⟨some ⟨b, off, none⟩, b, off, cap, l, by rw [hll], fun _ => rfl, fun _ => ?_, by unfold maxLen at hm; omega, fun k hk => ?_⟩
      · have := World.block_lt_of_cell? w _ (hlc 0 h0).1
        simpa [Addr.add] using this
      · obtain ⟨c0, c1⟩ := hlc k (by omega)
        rw [Addr.add_lit] at c0 c1
        exact ⟨c0, c1⟩
    · obtain rfl : len = 0 := by omega
      obtain rfl : l = [] := List.length_eq_zero_iff.1 hll
      exact ⟨some a, 0, 0, cap, [], rfl, fun h => absurd h (Nat.lt_irrefl _), fun h => absurd h (Nat.lt_irrefl _), by simp, fun k hk => absurd hk (Nat.not_lt_zero k)⟩
end

end Go.Proofs.Ytbamkkohfeglaaa
