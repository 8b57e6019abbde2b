/- How slices of numbers and of texts are opened. -/
import Derived.Test.YtbamkkohfeglaaaL
import Derived.Test.YtbamkkohfeglaaaO
import Derived.Deep.Strs
namespace Go.Proofs.Ytbamkkohfeglaaa
open Go.ChangeShapes Go.WideShapes Go.ChangeAt Go.RowKit Go.Deep

theorem Try.cells3 : Try.prog.cellsOf 3 = 1 := by kernel_rfl
theorem Try.cells9 : Try.prog.cellsOf 9 = 1 := by kernel_rfl
section
variable {H : Type} {enc : TypeId × Value → H} {w : World} {base : Nat} {spare : Nat → Bool} {held : Bool}
theorem came_ints {r : Reach} {b0 : Nat} {v : Value} {d : DataW H} {p : List MemPlace} (hv : Value.okWide Try.prog w r b0 47 v) (h : DataW.Trod enc Try.prog w base spare held 47 v d p) :
    ∃ (a : Option Addr) (b off cap : Nat) (zs : List Int), v = .slice a zs.length cap ∧ CameI w a b off zs := by
  obtain ⟨a0, len, cap, rfl⟩ := okWide_slice Try.underlying47 hv
  obtain ⟨fuel, hf⟩ := h
  rcases open_ints Try.underlying47 Try.underlying3 Try.cells3 hf with ⟨hcs, _⟩ | ⟨a, len', cap', zs, hcs, _, hl, hm, hz, _, hcell, _⟩
  · simp [Value.cells] at hcs
    obtain ⟨rfl, rfl, rfl⟩ := hcs
    exact ⟨none, 0, 0, 0, [], rfl, fun h => absurd h (Nat.lt_irrefl _), fun h => absurd h (Nat.lt_irrefl _), by simp, fun k hk => absurd hk (Nat.not_lt_zero k)⟩
  · simp [Value.cells] at hcs
    obtain ⟨rfl, rfl, rfl⟩ := hcs
    have hlz : len ≤ zs.length := by rw [hz]; split <;> omega
    have htl : (zs.take len).length = len := by rw [List.length_take]; omega
    have hat : ∀ k, k < len → w.cell? (a.add k) = some (.int .i64 (iat (zs.take len) k)) := fun k hk => by
      rw [hcell k (by omega)]
      simp [iat, List.getD, hk]
    by_cases h0 : 0 < len
    · obtain ⟨b, off, spot⟩ := a
      have hspot : spot = none := by simpa [Addr.add] using World.cell?_spot (hat 0 h0)
      subst hspot
      refine ⟨some ⟨b, off, none⟩, b, off, cap, zs.take len, by rw [htl], fun _ => rfl, fun _ => ?_, by unfold maxLen at hm; omega, fun k hk => ?_⟩
      · have := World.block_lt_of_cell? w _ (hat 0 h0)
        simpa [Addr.add] using this
      · have := hat k (by omega)
        rwa [Addr.add_lit] at this
    · obtain rfl : len = 0 := by omega
      exact ⟨some a, 0, 0, cap, [], rfl, fun h => absurd h (Nat.lt_irrefl _), fun h => absurd h (Nat.lt_irrefl _), by simp, fun k hk => absurd hk (Nat.not_lt_zero k)⟩
theorem came_strs {r : Reach} {b0 : Nat} {v : Value} {d : DataW H} {p : List MemPlace} (hv : Value.okWide Try.prog w r b0 48 v) (h : DataW.Trod enc Try.prog w base spare held 48 v d p) :
    ∃ (a : Option Addr) (b off cap : Nat) (ss : List ByteArray), v = .slice a ss.length cap ∧ CameT w a b off ss := by
  obtain ⟨a0, len, cap, rfl⟩ := okWide_slice Try.underlying48 hv
  obtain ⟨fuel, hf⟩ := h
  rcases open_strs Try.underlying48 Try.underlying9 Try.cells9 hf with ⟨hcs, _⟩ | ⟨a, len', cap', m, Sx, hcs, _, hl, hm, hmm, _, hcell⟩
  · simp [Value.cells] at hcs
    obtain ⟨rfl, rfl, rfl⟩ := hcs
    exact ⟨none, 0, 0, 0, [], rfl, fun h => absurd h (Nat.lt_irrefl _), fun h => absurd h (Nat.lt_irrefl _), by simp, fun k hk => absurd hk (Nat.not_lt_zero k)⟩
  · simp [Value.cells] at hcs
    obtain ⟨rfl, rfl, rfl⟩ := hcs
    have hlm : len ≤ m := by rw [hmm]; split <;> omega
    obtain ⟨l, hll, hlc⟩ := list_of (⟨#[]⟩ : ByteArray) len (fun i s => w.cell? (a.add i) = some (.string s) ∧ s.size ≤ 9223372036854775807) fun i hil => ⟨Sx i, (hcell i (by omega)).1, by have := (hcell i (by omega)).2; unfold maxLen at this; omega⟩
    by_cases h0 : 0 < len
    · obtain ⟨b, off, spot⟩ := a
      have hspot : spot = none := by simpa [Addr.add] using World.cell?_spot (hlc 0 h0).1
      subst hspot
      refine ⟨some ⟨b, off, none⟩, b, off, cap, l, by rw [hll], fun _ => rfl, fun _ => ?_, by unfold maxLen at hm; omega, fun k hk => ?_⟩
      · have := World.block_lt_of_cell? w _ (hlc 0 h0).1
        simpa [Addr.add] using this
      · obtain ⟨c0, c1⟩ := hlc k (by omega)
        rw [Addr.add_lit] at c0
        exact ⟨c0, c1⟩
    · obtain rfl : len = 0 := by omega
      obtain rfl : l = [] := List.length_eq_zero_iff.1 hll
      exact ⟨some a, 0, 0, cap, [], rfl, fun h => absurd h (Nat.lt_irrefl _), fun h => absurd h (Nat.lt_irrefl _), by simp, fun k hk => absurd hk (Nat.not_lt_zero k)⟩
end

end Go.Proofs.Ytbamkkohfeglaaa
