/- How the arguments of the laws are opened: a slice of numbers. -/
import Derived.Test.YtpoelchjpnbgpaaD
import Derived.Test.YtpoelchjpnbgpaaRows
import Derived.ProofKit
import Derived.OpenShut
import Derived.ChangeOld
namespace Go.Proofs.Ytpoelchjpnbgpaa
open Go.ChangeShapes Go.WideShapes Go.ChangeAt Go.RowKit

theorem Try.own : ownKnob Try.prog.godebug = none := by kernel_rfl
theorem Try.laidOut : laidOutB Try.prog = true := by kernel_rfl
theorem Try.cells3 : Try.prog.cellsOf 3 = 1 := by kernel_rfl

section
variable {H : Type} {enc : TypeId × Value → H} {w : World} {base : Nat} {spare : Nat → Bool} {held : Bool}
theorem came_ints {r : Reach} {b0 : Nat} {v : Value} {d : DataW H} {p : List MemPlace} (hv : Value.okWide Try.prog w r b0 22 v) (h : DataW.Trod enc Try.prog w base spare held 22 v d p) :
    ∃ (a : Option Addr) (b off cap : Nat) (zs : List Int), v = .slice a zs.length cap ∧ CameI w a b off zs := by
  obtain ⟨a0, len, cap, rfl⟩ := okWide_slice Try.underlying22 hv
  obtain ⟨fuel, hf⟩ := h
  rcases open_ints Try.underlying22 Try.underlying3 Try.cells3 hf with ⟨hcs, _⟩ | ⟨a, len', cap', zs, hcs, _, hl, hm, hz, _, hcell, _⟩
  · simp [Value.cells] at hcs
    obtain ⟨rfl, rfl, rfl⟩ := hcs
    exact ⟨none, 0, 0, 0, [], rfl, fun h => by simp at h, fun h => by simp at h, by simp, fun k hk => by simp at hk⟩
  · simp [Value.cells] at hcs
    obtain ⟨rfl, rfl, rfl⟩ := hcs
    have hlz : len ≤ zs.length := by rw [hz]; split <;> omega
    have htl : (zs.take len).length = len := by rw [List.length_take]; omega
    have hat : ∀ k, k < len → w.cell? (a.add k) = some (.int .i64 (iat (zs.take len) k)) := fun k hk => by
      rw [hcell k (by omega)]
      simp [iat, List.getD, hk]
    by_cases h0 : 0 < len
    · obtain ⟨b, off, spot⟩ := a
      have hspot : spot = none := by simpa [Addr.add] using World.cell?_spot (hat 0 h0)
      subst hspot
      refine ⟨some ⟨b, off, none⟩, b, off, cap, zs.take len, by rw [htl], fun _ => rfl, fun _ => ?_, by unfold maxLen at hm; omega, fun k hk => ?_⟩
      · have := World.block_lt_of_cell? w _ (hat 0 h0)
        simpa [Addr.add] using this
      · have := hat k (by omega)
        rwa [Addr.add_lit] at this
    · obtain rfl : len = 0 := by omega
      exact ⟨some a, 0, 0, cap, [], rfl, fun h => by simp at h, fun h => by simp at h, by simp, fun k hk => by simp at hk⟩
end

end Go.Proofs.Ytpoelchjpnbgpaa
