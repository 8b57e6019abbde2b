/- small and made: whether the writes are few and their numbers not too small; the same writes, of the program's own type. -/
import Derived.Test.YtckijalkodpjhaaD
import Derived.Maps.AppendAt
namespace Go.Proofs.Ytckijalkodpjhaa
open Go.RowKit Go.Sort

def smB (l : List Wr) : Bool := decide (l.length ≤ 40 ∧ ∀ k, k < l.length → -1152921504606846976 ≤ (wat l k).s)
theorem ret_bool' {a b : Bool} (h : a = b) : Ending.returned (.bool a) = .returned (.bool b) := by rw [h]

set_option maxHeartbeats 800000 in
theorem small_any (a : Option Addr) (b off cap : Nat) (l : List Wr) (w : World) (ha : 0 < l.length → a = some ⟨b, off, none⟩) (hl : l.length ≤ 9223372036854775807) (hc : LiesAt w b off l) :
    Calls Try.prog 9 #[.slice a l.length cap] w fun e w' => e = .returned (.bool (smB l)) ∧ Below w.heap.size w w' := by
  have HA := Lib.hid ha
  clear ha
  have HC := Lib.hid hc
  clear hc
  by_cases h40 : 40 < l.length
  · have HF := Lib.hid (show smB l = false from by simp [smB]; omega)
    go_enter Try.func9, Try.ntmps9
    go_wp2
    go_ret
    exact ⟨ret_bool HF.out.symm, Below.refl _ _⟩
  · have h40' : l.length ≤ 40 := by omega
    go_enter Try.func9, Try.ntmps9
    go_wp2
    go_loop [9] (fun t => ∃ k : Nat, k ≤ l.length ∧ t = .int .i64 k ∧ ∀ k', k' < k → -1152921504606846976 ≤ (wat l k').s) (fun t => l.length - (intOf t).toNat)
    case atStart => exact ⟨0, Nat.zero_le _, rfl, fun _ h => by omega⟩
    case round =>
      obtain ⟨k, hk, rfl, hbad⟩ := hrel
      have HB := Lib.hid hbad
      clear hbad
      by_cases hlt : k < l.length
      · obtain rfl := HA.out (by omega)
        obtain ⟨e0, e1, e2, e3⟩ := HC.out k hlt
        by_cases hs : (wat l k).s < -1152921504606846976
        · have HF := Lib.hid (show smB l = false from by
            simp only [smB, decide_eq_false_iff_not]
            intro h
            have := h.2 k hlt
            omega)
          go_wp2
          go_ret
          exact ⟨ret_bool HF.out.symm, Below.refl _ _⟩
        · have hs' : -1152921504606846976 ≤ (wat l k).s := by omega
          clear hs
          go_wp2
          go_round
          case rel => exact ⟨k + 1, by omega, by go_num, snoc_no HB.out hs'⟩
          case measure => simp [intOf]; omega
      · obtain rfl : k = l.length := by omega
        have HF := Lib.hid (show smB l = true from by
          simp only [smB, decide_eq_true_eq]
          exact ⟨h40', HB.out⟩)
        go_wp2
        go_ret
        exact ⟨ret_bool HF.out.symm, Below.refl _ _⟩

def wcells (o : Wr) : List Value := [.int .i64 o.v, .int .i64 o.s, .int .i64 o.i, .int .i64 o.a]
def flat (l : List Wr) : List Value := l.flatMap wcells
theorem flat_length (l : List Wr) : (flat l).length = l.length * 4 := by
  induction l with
  | nil => rfl
  | cons o l ih => simp only [flat, List.flatMap_cons, List.length_append, wcells, List.length_cons, List.length_nil] at *; omega
theorem flat_append (l m : List Wr) : flat (l ++ m) = flat l ++ flat m := List.flatMap_append
theorem flat_get (l : List Wr) : ∀ k, k < l.length → (flat l)[k * 4]? = some (.int .i64 (wat l k).v) ∧ (flat l)[k * 4 + 1]? = some (.int .i64 (wat l k).s) ∧ (flat l)[k * 4 + 2]? = some (.int .i64 (wat l k).i) ∧ (flat l)[k * 4 + 3]? = some (.int .i64 (wat l k).a) := by
  induction l with
  | nil => intro k hk; simp at hk
  | cons o l ih =>
    intro k hk
    cases k with
    | zero => exact ⟨rfl, rfl, rfl, rfl⟩
    | succ k =>
      obtain ⟨h0, h1, h2, h3⟩ := ih k (by simpa using hk)
      have e : ∀ j, (flat (o :: l))[4 + j]? = (flat l)[j]? := fun j => by
        rw [show flat (o :: l) = wcells o ++ flat l from rfl, List.getElem?_append_right (by simp [wcells])]
        simp [wcells]
      rw [show (k + 1) * 4 = 4 + k * 4 by omega, e, Nat.add_assoc, e, Nat.add_assoc, e, Nat.add_assoc, e]
      exact ⟨h0, h1, h2, h3⟩
theorem flat_one (l : List Wr) : ∀ u ∈ flat l, u.oneCell' = true := by
  intro u hu
  obtain ⟨o, _, h⟩ := List.mem_flatMap.1 hu
  simp only [wcells, List.mem_cons, List.not_mem_nil, or_false] at h
  rcases h with rfl | rfl | rfl | rfl <;> rfl
/-- A row of writes that is owned lies in memory. -/
theorem lies_of_owns {w : World} {base : Nat} {e : TypeId} {v : Value} {l : List Wr} (h : w.ownsRow base e 4 v l.length (flat l)) :
    ∃ (a : Option Addr) (b cap : Nat), v = .slice a l.length cap ∧ (0 < l.length → a = some ⟨b, 0, none⟩) ∧ (0 < l.length → b < w.heap.size) ∧ LiesAt w b 0 l ∧ (0 < l.length → base ≤ b) := by
  have h' := h
  obtain ⟨_, ⟨rfl, hn⟩ | ⟨g, cap, cur, rfl, hg, hh, r⟩⟩ := h
  · exact ⟨none, 0, 0, by rw [hn], fun h => by omega, fun h => by omega, fun k hk => by omega, fun h => by omega⟩
  · refine ⟨some ⟨g, 0, none⟩, g, cap, rfl, fun _ => rfl, fun _ => lt_of_block hh, fun k hk => ?_, fun _ => hg⟩
    obtain ⟨h0, h1, h2, h3⟩ := flat_get l k hk
    have c := fun j hj => h'.cellAt j (by omega : j < l.length * 4)
    rw [Nat.zero_add]
    exact ⟨(c _ (by omega)).trans h0, (c _ (by omega)).trans h1, (c _ (by omega)).trans h2, (c _ (by omega)).trans h3⟩
theorem LiesAt.news {w : World} {b off : Nat} {l : List Wr} (h : LiesAt w b off l) : ∀ j u, (flat l)[j]? = some u → w.cell? ((⟨b, off, none⟩ : Addr).add j) = some u := by
  intro j u hj
  have hl := (List.getElem?_eq_some_iff.1 hj).1
  rw [flat_length] at hl
  have hk : j / 4 < l.length := by omega
  obtain ⟨h0, h1, h2, h3⟩ := h (j / 4) hk
  obtain ⟨g0, g1, g2, g3⟩ := flat_get l (j / 4) hk
  have e : ∀ m, (⟨b, off, none⟩ : Addr).add m = ⟨b, off + m, none⟩ := fun m => by simp [Addr.add]
  rw [e]
  obtain hm | hm | hm | hm : j = j / 4 * 4 ∨ j = j / 4 * 4 + 1 ∨ j = j / 4 * 4 + 2 ∨ j = j / 4 * 4 + 3 := by omega
  all_goals rw [hm] at hj ⊢
  · rw [g0] at hj; rw [← hj]; exact h0
  · rw [g1] at hj; rw [← hj]; exact h1
  · rw [g2] at hj; rw [← hj]; exact h2
  · rw [g3] at hj; rw [← hj]; exact h3
theorem take_flat (l : List Wr) (k : Nat) (h : k < l.length) : flat (l.take (k + 1)) = flat (l.take k) ++ [.int .i64 (wat l k).v, .int .i64 (wat l k).s, .int .i64 (wat l k).i, .int .i64 (wat l k).a] := by
  rw [List.take_succ_eq_append_getElem h, flat_append]
  simp [flat, wcells, wat, List.getD, h]

theorem new4 (w : World) (x0 x1 x2 x3 : Value) (T : TypeId) : ∀ j u, [x0, x1, x2, x3][j]? = some u → (w.alloc (.cells #[x0, x1, x2, x3] T)).cell? ((⟨w.heap.size, 0, none⟩ : Addr).add j) = some u := by
  intro j u h
  rw [Addr.add_lit, Nat.zero_add, World.cell?_alloc_at _ _ _ _ rfl]
  simpa using h

def MadePost (l : List Wr) (w : World) (e : Ending) (w' : World) : Prop :=
  ∃ (a : Option Addr) (b cap : Nat), e = .returned (.slice a l.length cap) ∧ (0 < l.length → a = some ⟨b, 0, none⟩) ∧ (0 < l.length → b < w'.heap.size) ∧ LiesAt w' b 0 l ∧ Below w.heap.size w w'

theorem Try.info37 : (Try.prog.info? 37).map (fun i => (i.zero, i.size, i.bytes)) = some (some (.agg #[.int .i64 0, .int .i64 0, .int .i64 0, .int .i64 0]), 4, 32) := by kernel_rfl

set_option maxHeartbeats 1600000 in
theorem made_any (a : Option Addr) (b off cap : Nat) (l : List Wr) (w : World) (ha : 0 < l.length → a = some ⟨b, off, none⟩) (hb : 0 < l.length → b < w.heap.size) (hl : l.length ≤ 1000) (hc : LiesAt w b off l) :
    Calls Try.prog 11 #[.slice a l.length cap] w (MadePost l w) := by
  obtain ⟨i0, hi, hz0, hz1, hz2⟩ := info_parts Try.info37
  have HA := Lib.hid ha
  clear ha
  have HB0 := Lib.hid hb
  clear hb
  have HC := Lib.hid hc
  clear hc
  go_enter Try.func11, Try.ntmps11
  go_wp2
  go_loopg [3, 7] l.length (fun n v t wr => ∃ k : Nat, k ≤ l.length ∧ l.length - k ≤ n ∧ t = .int .i64 k ∧ wr.ownsRow w.heap.size 37 4 v k (flat (l.take k)) ∧ Below w.heap.size w wr)
  case atStart => exact ⟨0, Nat.zero_le _, by omega, rfl, World.ownsRow_nil _ _ _ _, Below.refl _ _⟩
  case round =>
    obtain ⟨k, hk, hn, rfl, hown, hB⟩ := hrel
    have hsz := hB.size
    by_cases hlt : k < l.length
    · obtain rfl := HA.out (by omega)
      have hb := HB0.out (by omega)
      obtain ⟨e0, e1, e2, e3⟩ := HC.out.below hB hb k hlt
      have HBB := Lib.hid hB
      clear hB
      go_wp2_with (at_builtin; refine wpList_append_own _ rfl _ _ 31 rfl w.heap.size 37 i0 (.agg #[.int .i64 0, .int .i64 0, .int .i64 0, .int .i64 0]) 4 32 Try.underlying31 hi hz0 hz1 hz2 rfl (by decide) _ _ _ rfl (hown.alloc _) ⟨wr.heap.size, 0, none⟩ 1 1 [.int .i64 (wat l k).v, .int .i64 (wat l k).s, .int .i64 (wat l k).i, .int .i64 (wat l k).a] rfl rfl ?c1 ?c2 ?c3 ?c4 ?c5 ?_)
      case c2 => exact ⟨rfl, rfl, rfl, rfl⟩
      case c3 => unfold maxLen; omega
      case c4 => omega
      case c5 => omega
      intro v' w1 hown' hgrow _
      have HO := Lib.hid (show w1.ownsRow w.heap.size 37 4 v' (k + 1) (flat (l.take (k + 1))) from by rw [take_flat l k hlt]; exact hown')
      have HB1 := Lib.hid ((HBB.out.alloc hsz _).grown hgrow (by simp; omega) (fun j e => (hown.lt j e).1))
      clear hown' hown hgrow
      go_wp2
      go_roundg (l.length - (k + 1))
      case measure => omega
      case rel => exact ⟨k + 1, by omega, Nat.le_refl _, by go_num, HO.out, HB1.out⟩
    · obtain rfl : k = l.length := by omega
      rw [List.take_length] at hown
      obtain ⟨a', b', cap', rfl, h1, h2, h3, _⟩ := lies_of_owns hown
      have H := Lib.hid (And.intro h1 (And.intro h2 (And.intro h3 hB)))
      clear h1 h2 h3 hB hown
      go_wp2
      go_ret
      exact ⟨a', b', cap', rfl, H.out⟩

end Go.Proofs.Ytckijalkodpjhaa
