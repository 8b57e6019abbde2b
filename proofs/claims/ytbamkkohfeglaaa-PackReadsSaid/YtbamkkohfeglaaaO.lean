/- How the arguments of the laws are opened: bytes. -/
import Derived.Test.YtbamkkohfeglaaaF
import Derived.Test.YtbamkkohfeglaaaRows
import Derived.ProofKit
import Derived.OpenShut
import Derived.ChangeOld
import Derived.ChangeMaps5
import Derived.SizedLaws
namespace Go.Proofs.Ytbamkkohfeglaaa
open Go.ChangeShapes Go.WideShapes Go.ChangeAt Go.RowKit

theorem Try.own : ownKnob Try.prog.godebug = none := by kernel_rfl
theorem Try.laidOut : laidOutB Try.prog = true := by kernel_rfl
theorem Try.cells5 : Try.prog.cellsOf 5 = 1 := by kernel_rfl
theorem Try.bytes5 : Try.prog.bytesOf 5 = 1 := by kernel_rfl

theorem list_of {α : Type} (z : α) (n : Nat) (P : Nat → α → Prop) (h : ∀ i, i < n → ∃ o, P i o) : ∃ l : List α, l.length = n ∧ ∀ i, i < n → P i (l.getD i z) := by
  induction n with
  | zero => exact ⟨[], rfl, fun i hi => by omega⟩
  | succ n ih =>
    obtain ⟨l, hl, hp⟩ := ih fun i hi => h i (by omega)
    obtain ⟨o, ho⟩ := h n (by omega)
    refine ⟨l ++ [o], by simp [hl], fun i hi => ?_⟩
    by_cases e : i = n
    · subst e
      have : (l ++ [o]).getD i z = o := by simp [List.getD, ← hl]
      rw [this]; exact ho
    · have : (l ++ [o]).getD i z = l.getD i z := by simp [List.getD, List.getElem?_append_left (show i < l.length by omega)]
      rw [this]; exact hp i (by omega)

section
variable {H : Type} {enc : TypeId × Value → H} {w : World} {base : Nat} {spare : Nat → Bool} {held : Bool}
theorem has_block {r : Reach} {b0 : Nat} {t e : TypeId} {a : Addr} {len cap : Nat} (ht : Try.prog.underlying t = some (.slice e)) (hv : Value.okWide Try.prog w r b0 t (.slice (some a) len cap)) : ∃ b off, a = ⟨b, off, none⟩ ∧ b < w.heap.size := by
  have hv' : w.has Try.prog r b0 a e cap := by
    simp only [Value.okWide, ht, Cell.okWide, Cell.ok] at hv
    exact hv.2.2
  obtain ⟨_, hs, row, cells, hsh, _⟩ := hv'
  obtain ⟨b, off, spot⟩ := a
  refine ⟨b, off, by rw [show spot = none from hs], ?_⟩
  by_cases hlt : b < w.heap.size
  · exact hlt
  · have hn : w.heap[b]? = none := by simpa using hlt
    simp [World.shape?, hn] at hsh
theorem came_bytes {r : Reach} {b0 : Nat} {v : Value} {d : DataW H} {p : List MemPlace} (hv : Value.okWide Try.prog w r b0 22 v) (h : DataW.Trod enc Try.prog w base spare held 22 v d p) :
    ∃ (a : Option Addr) (c : Nat) (l : List UInt8), v = .slice a l.length c ∧ Hb w.heap.size w a c l ∧ (l.length = 0 ∨ ∃ es sp, d = .slice es sp ∧ es.length = l.length) := by
  obtain ⟨a0, len, cap, rfl⟩ := okWide_slice Try.underlying22 hv
  obtain ⟨fuel, hf⟩ := h
  rcases open_ints Try.underlying22 Try.underlying5 Try.cells5 hf with ⟨hcs, _⟩ | ⟨a, len', cap', zs, hcs, _, hl, hm, hz, hd, hcell, hwf⟩
  · simp [Value.cells] at hcs
    obtain ⟨rfl, rfl, rfl⟩ := hcs
    exact ⟨none, 0, [], rfl, .inl ⟨rfl, rfl, rfl⟩, .inl rfl⟩
  · simp [Value.cells] at hcs
    obtain ⟨rfl, rfl, rfl⟩ := hcs
    have hlz : len ≤ zs.length := by rw [hz]; split <;> omega
    obtain ⟨l, hll, hlc⟩ := list_of (0 : UInt8) len (fun i x => w.cell? (a.add i) = some (.int .u8 x.toNat)) fun i hi => by
      have hw := hwf (zs.getD i 0) (by simp [List.getD, show i < zs.length from by omega])
      simp [Lit.wf, IntKind.min, IntKind.max, IntKind.signed, IntKind.bits] at hw
      refine ⟨UInt8.ofNat (zs.getD i 0).toNat, ?_⟩
      rw [hcell i (by omega)]
      congr 2
      rw [UInt8.toNat_ofNat']
      simp [List.getD] at hw ⊢
      omega
    have hdl : ∃ es sp, d = .slice es sp ∧ es.length = len := by
      simp only [Prod.mk.injEq] at hd
      exact ⟨_, _, hd.1, by simp [lits]; omega⟩
    by_cases h0 : 0 < len
    · obtain ⟨b, off, spot⟩ := a
      have hspot : spot = none := by simpa [Addr.add] using World.cell?_spot (hlc 0 h0)
      subst hspot
      refine ⟨some ⟨b, off, none⟩, cap, l, by rw [hll], .inr ⟨b, off, rfl, ?_, by omega, fun k hk => ?_⟩, .inr (by rw [hll]; exact hdl)⟩
      · have := World.block_lt_of_cell? w _ (hlc 0 h0)
        simpa [Addr.add] using this
      · have := hlc k (by omega)
        rwa [Addr.add_lit] at this
    · obtain rfl : len = 0 := by omega
      obtain rfl : l = [] := List.length_eq_zero_iff.1 hll
      obtain ⟨b, off, rfl, hb⟩ := has_block Try.underlying22 hv
      exact ⟨_, cap, [], rfl, .inr ⟨b, off, rfl, hb, Nat.zero_le _, fun k hk => absurd hk (Nat.not_lt_zero k)⟩, .inl rfl⟩
end

end Go.Proofs.Ytbamkkohfeglaaa
