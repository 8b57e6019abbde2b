/- A script of changes: how it lies, how it is opened; few. -/
import Derived.Test.YtpoelchjpnbgpaaO
import Derived.Test.YtpoelchjpnbgpaaM
import Derived.Deep.Slices
import Derived.Deep.Fields
import Derived.ChangeSame
import Derived.Lib.SmallJoins
namespace Go.Proofs.Ytpoelchjpnbgpaa
open Go.ChangeShapes Go.WideShapes Go.ChangeAt Go.RowKit Go.Deep Go.Joins

/-- A change. -/
structure Wo where
  k : Int
  x : Int
  a : Option Addr
  b : Nat
  off : Nat
  cap : Nat
  zs : List Int
def oat (l : List Wo) (k : Nat) : Wo := l.getD k ⟨0, 0, none, 0, 0, 0, []⟩
/-- The changes lie in memory from a cell on, and each one's list too. -/
def LiesO (w : World) (b off : Nat) (l : List Wo) : Prop := ∀ k, k < l.length →
  w.cell? ⟨b, off + k * 3, none⟩ = some (.int .i64 (oat l k).k) ∧ w.cell? ⟨b, off + k * 3 + 1, none⟩ = some (.int .i64 (oat l k).x) ∧
  w.cell? ⟨b, off + k * 3 + 2, none⟩ = some (.slice (oat l k).a (oat l k).zs.length (oat l k).cap) ∧ CameI w (oat l k).a (oat l k).b (oat l k).off (oat l k).zs
theorem LiesO.below {w w' : World} {b off : Nat} {l : List Wo} (h : LiesO w b off l) (hw : Below w.heap.size w w') (hb : 0 < l.length → b < w.heap.size) : LiesO w' b off l := fun k hk => by
  obtain ⟨h0, h1, h2, h3⟩ := h k hk
  exact ⟨(hw.cell (p := ⟨_, _, none⟩) (hb (by omega))).trans h0, (hw.cell (p := ⟨_, _, none⟩) (hb (by omega))).trans h1, (hw.cell (p := ⟨_, _, none⟩) (hb (by omega))).trans h2, h3.below hw⟩
def CameO (w : World) (a : Option Addr) (b off : Nat) (l : List Wo) : Prop :=
  (0 < l.length → a = some ⟨b, off, none⟩) ∧ (0 < l.length → b < w.heap.size) ∧ l.length ≤ 9223372036854775807 ∧ LiesO w b off l
theorem CameO.below {w w' : World} {a : Option Addr} {b off : Nat} {l : List Wo} (h : CameO w a b off l) (hB : Below w.heap.size w w') : CameO w' a b off l :=
  ⟨h.1, fun q => Nat.lt_of_lt_of_le (h.2.1 q) hB.size, h.2.2.1, h.2.2.2.below hB h.2.1⟩

section
variable {H : Type} {enc : TypeId × Value → H} {w : World} {base : Nat} {spare : Nat → Bool} {held : Bool}
theorem ints_trod {fuel : Nat} {v : Value} {x : DataW H × List MemPlace} (hf : DataW.trod enc Try.prog w base spare held fuel 22 [v] = some x) :
    ∃ (a : Option Addr) (b off cap : Nat) (zs : List Int), v = .slice a zs.length cap ∧ CameI w a b off zs := by
  rcases open_ints Try.underlying22 Try.underlying3 Try.cells3 hf with ⟨hcs, _⟩ | ⟨a, len', cap', zs, hcs, _, hl, hm, hz, _, hcell, _⟩
  · simp at hcs
    subst hcs
    exact ⟨none, 0, 0, 0, [], rfl, fun h => by simp at h, fun h => by simp at h, by simp, fun k hk => by simp at hk⟩
  · simp at hcs
    subst hcs
    have hlz : len' ≤ zs.length := by rw [hz]; split <;> omega
    have htl : (zs.take len').length = len' := by rw [List.length_take]; omega
    have hat : ∀ k, k < len' → w.cell? (a.add k) = some (.int .i64 (iat (zs.take len') k)) := fun k hk => by
      rw [hcell k (by omega)]
      simp [iat, List.getD, hk]
    by_cases h0 : 0 < len'
    · obtain ⟨b, off, spot⟩ := a
      have hspot : spot = none := by simpa [Addr.add] using World.cell?_spot (hat 0 h0)
      subst hspot
      refine ⟨some ⟨b, off, none⟩, b, off, cap', zs.take len', by rw [htl], fun _ => rfl, fun _ => ?_, by unfold maxLen at hm; omega, fun k hk => ?_⟩
      · have := World.block_lt_of_cell? w _ (hat 0 h0)
        simpa [Addr.add] using this
      · have := hat k (by omega)
        rwa [Addr.add_lit] at this
    · obtain rfl : len' = 0 := by omega
      exact ⟨some a, 0, 0, cap', [], rfl, fun h => by simp at h, fun h => by simp at h, by simp, fun k hk => by simp at hk⟩
theorem open_ops {fuel : Nat} {cs : List Value} {x : DataW H × List MemPlace} (h : DataW.trod enc Try.prog w base spare held fuel 39 cs = some x) :
    cs = [.slice none 0 0] ∨ ∃ (a : Addr) (len cap : Nat), cs = [.slice (some a) len cap] ∧ len ≤ maxLen ∧
      ∀ i, i < len → ∃ o : Wo, w.cell? (a.add (i * 3)) = some (.int .i64 o.k) ∧ w.cell? (a.add (i * 3 + 1)) = some (.int .i64 o.x) ∧ w.cell? (a.add (i * 3 + 2)) = some (.slice o.a o.zs.length o.cap) ∧ CameI w o.a o.b o.off o.zs := by
  rcases open_slice Try.underlying39 h with ⟨h0, _⟩ | ⟨a, len, cap, m, n, D, Pl, hcs, _, hl, hm, hmm, _, hi⟩
  · exact .inl h0
  · refine .inr ⟨a, len, cap, hcs, Nat.le_trans hl hm, fun i hil => ?_⟩
    obtain ⟨cs', hc, ht'⟩ := hi i (by rw [hmm]; split <;> omega)
    have hC : Try.prog.cellsOf 42 = 3 := by kernel_rfl
    have hC3 : Try.prog.cellsOf 3 = 1 := by kernel_rfl
    have hC22 : Try.prog.cellsOf 22 = 1 := by kernel_rfl
    rw [hC] at hc
    obtain ⟨ys, n', _, _, _, hyl, hf⟩ := DataW.trod_struct Try.underlying42 ht'
    obtain ⟨_, hcl, hat⟩ := World.cells?_some hc
    have hl3 : cs'.length = 3 := hcl
    have hyl3 : ys.length = 3 := hyl
    have e : ∀ k (hk : k < 3), (cs'.drop k).take 1 = [cs'[k]'(by omega)] := fun k hk => by
      rw [List.drop_eq_getElem_cons (by omega)]
      rfl
    have r0 : DataW.trod enc Try.prog w base spare held n' 3 [cs'[0]'(by omega)] = ys[0]? := by
      have h1 : DataW.trod enc Try.prog w base spare held n' 3 ((cs'.drop 0).take (Try.prog.cellsOf 3)) = ys[0]? := hf 0 _ rfl
      rw [hC3, e 0 (by omega)] at h1
      exact h1
    have r1 : DataW.trod enc Try.prog w base spare held n' 3 [cs'[1]'(by omega)] = ys[1]? := by
      have h1 : DataW.trod enc Try.prog w base spare held n' 3 ((cs'.drop 1).take (Try.prog.cellsOf 3)) = ys[1]? := hf 1 _ rfl
      rw [hC3, e 1 (by omega)] at h1
      exact h1
    have r2 : DataW.trod enc Try.prog w base spare held n' 22 [cs'[2]'(by omega)] = ys[2]? := by
      have h1 : DataW.trod enc Try.prog w base spare held n' 22 ((cs'.drop 2).take (Try.prog.cellsOf 22)) = ys[2]? := hf 2 _ rfl
      rw [hC22, e 2 (by omega)] at h1
      exact h1
    rw [List.getElem?_eq_getElem (by omega)] at r0 r1 r2
    obtain ⟨n0, e0, _, _⟩ := DataW.trod_int Try.underlying3 r0
    obtain ⟨n1, e1, _, _⟩ := DataW.trod_int Try.underlying3 r1
    obtain ⟨a2, b2, off2, cap2, zs2, e2, came2⟩ := ints_trod r2
    simp at e0 e1
    have c0 := hat 0 (by omega)
    have c1 := hat 1 (by omega)
    have c2 := hat 2 (by omega)
    rw [List.getElem?_eq_getElem (by omega), Go.Deep.add_add] at c0 c1 c2
    rw [e0] at c0
    rw [e1] at c1
    rw [e2] at c2
    exact ⟨⟨n0, n1, a2, b2, off2, cap2, zs2⟩, c0, c1, c2, came2⟩
theorem list_of (n : Nat) (P : Nat → Wo → Prop) (h : ∀ i, i < n → ∃ o, P i o) : ∃ l : List Wo, l.length = n ∧ ∀ i, i < n → P i (oat l i) := by
  induction n with
  | zero => exact ⟨[], rfl, fun i hi => by omega⟩
  | succ n ih =>
    obtain ⟨l, hl, hp⟩ := ih fun i hi => h i (by omega)
    obtain ⟨o, ho⟩ := h n (by omega)
    refine ⟨l ++ [o], by simp [hl], fun i hi => ?_⟩
    by_cases e : i = n
    · subst e
      have : oat (l ++ [o]) i = o := by simp [oat, List.getD, ← hl]
      rw [this]; exact ho
    · have : oat (l ++ [o]) i = oat l i := by simp [oat, List.getD, List.getElem?_append_left (show i < l.length by omega)]
      rw [this]; exact hp i (by omega)
theorem came_ops {r : Reach} {b0 : Nat} {v : Value} {d : DataW H} {p : List MemPlace} (hv : Value.okWide Try.prog w r b0 39 v) (h : DataW.Trod enc Try.prog w base spare held 39 v d p) :
    ∃ (a : Option Addr) (b off cap : Nat) (l : List Wo), v = .slice a l.length cap ∧ CameO w a b off l := by
  obtain ⟨a0, len, cap, rfl⟩ := okWide_slice Try.underlying39 hv
  obtain ⟨fuel, hf⟩ := h
  rcases open_ops hf with hcs | ⟨a, len', cap', hcs, hm, hi⟩
  · simp [Value.cells] at hcs
    obtain ⟨rfl, rfl, rfl⟩ := hcs
    exact ⟨none, 0, 0, 0, [], rfl, fun h => by simp at h, fun h => by simp at h, by simp, fun k hk => by simp at hk⟩
  · simp [Value.cells] at hcs
    obtain ⟨rfl, rfl, rfl⟩ := hcs
    obtain ⟨l, hll, hlc⟩ := list_of len _ hi
    by_cases h0 : 0 < len
    · obtain ⟨b, off, spot⟩ := a
      have hspot : spot = none := by simpa [Addr.add] using World.cell?_spot (hlc 0 h0).1
      subst hspot
      refine ⟨some ⟨b, off, none⟩, b, off, cap, l, by rw [hll], fun _ => rfl, fun _ => ?_, by unfold maxLen at hm; omega, fun k hk => ?_⟩
      · have := (hlc 0 h0).1
        have := World.block_lt_of_cell? w _ this
        simpa [Addr.add] using this
      · obtain ⟨c0, c1, c2, c3⟩ := hlc k (by omega)
        simp only [Addr.add_lit] at c0 c1 c2
        exact ⟨c0, c1, c2, c3⟩
    · obtain rfl : len = 0 := by omega
      obtain rfl : l = [] := List.length_eq_zero_iff.1 hll
      exact ⟨some a, 0, 0, cap, [], rfl, fun h => by simp at h, fun h => by simp at h, by simp, fun k hk => by simp at hk⟩
end

def FewPost (w : World) (e : Ending) (w' : World) : Prop := ∃ f : Bool, e = .returned (.bool f) ∧ Below w.heap.size w w'
set_option maxHeartbeats 1600000 in
theorem few_any (a : Option Addr) (b off cap : Nat) (l : List Wo) (w : World) (hc : CameO w a b off l) :
    Calls Try.prog 16 #[.slice a l.length cap] w (FewPost w) := by
  have HA := Lib.hid hc.1
  have HB0 := Lib.hid hc.2.1
  have hl := hc.2.2.1
  have HC := Lib.hid hc
  clear hc
  go_enter Try.func16, Try.ntmps16
  by_cases hbig : (l.length : Int) > 200
  · go_wp2
    go_ret
    exact ⟨false, rfl, Below.refl _ _⟩
  go_wp2
  go_loopg [9] l.length (fun n t wr => ∃ k : Nat, k ≤ l.length ∧ l.length - k ≤ n ∧ t = .int .i64 k ∧ Below w.heap.size w wr)
  case atStart => exact ⟨0, Nat.zero_le _, by omega, rfl, Below.refl _ _⟩
  case round =>
    obtain ⟨k, hk, hn, rfl, hB⟩ := hrel
    have HB := Lib.hid hB
    by_cases hlt : k < l.length
    · obtain rfl := HA.out (by omega)
      obtain ⟨_, _, e2, _⟩ := (HC.out.below hB).2.2.2 k hlt
      clear hB
      by_cases hbg : ((oat l k).zs.length : Int) > 50
      · go_wp2
        go_ret
        exact ⟨false, rfl, HB.out⟩
      · go_wp2
        go_roundg (l.length - (k + 1))
        case measure => omega
        case rel => exact ⟨k + 1, by omega, Nat.le_refl _, by go_num, HB.out⟩
    · obtain rfl : k = l.length := by omega
      clear hB
      go_wp2
      go_ret
      exact ⟨true, rfl, HB.out⟩

end Go.Proofs.Ytpoelchjpnbgpaa
