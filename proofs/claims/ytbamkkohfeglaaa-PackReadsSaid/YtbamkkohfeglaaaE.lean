/- Numbers and texts laid behind bytes: Number, Text. -/
import Derived.Deep.Onto
import Derived.Test.YtbamkkohfeglaaaD
namespace Go.Proofs.Ytbamkkohfeglaaa
open Go.RowKit Go.Sort

/-- Bytes, as cells. -/
def bvals (l : List UInt8) : List Value := l.map fun x => .int .u8 x.toNat
theorem bvals_length (l : List UInt8) : (bvals l).length = l.length := List.length_map _
theorem bvals_append (l m : List UInt8) : bvals (l ++ m) = bvals l ++ bvals m := List.map_append
theorem LiesB.news {w : World} {b off : Nat} {l : List UInt8} (h : LiesB w b off l) : ∀ j u, (bvals l)[j]? = some u → w.cell? ((⟨b, off, none⟩ : Addr).add j) = some u := by
  intro j u hu
  have hj : j < l.length := by
    have := (List.getElem?_eq_some_iff.1 hu).1
    rwa [bvals_length] at this
  rw [show ((⟨b, off, none⟩ : Addr).add j) = ⟨b, off + j, none⟩ from by unfold Addr.add; split <;> simp_all, h j hj, ← hu]
  simp [bvals, bat, List.getD, hj]
theorem Try.info5 : (Try.prog.info? 5).map (fun i => (i.zero, i.size, i.bytes)) = some (some (.int .u8 0), 1, 1) := by kernel_rfl
/-- A slice of the call's own. -/
abbrev Own (B : Nat) (w : World) (v : Value) (l : List UInt8) : Prop := w.ownsRow B 5 1 v l.length (bvals l)
/-- What is appended to: a slice of the call's own, or one that has no room. -/
def Dst (B : Nat) (w : World) (v : Value) (l : List UInt8) : Prop :=
  Own B w v l ∨ ∃ g off, v = .slice (some ⟨g, off, none⟩) l.length l.length ∧ g < w.heap.size ∧ LiesB w g off l
theorem own_form {B : Nat} {w : World} {v : Value} {l : List UInt8} (h : Own B w v l) : ∃ a c, v = .slice a l.length c ∧ Hb w.heap.size w a c l := by
  rcases h.2 with ⟨rfl, h0⟩ | ⟨g, cap, cur, rfl, _, hg, hc, _⟩
  · rw [h0]
    exact ⟨none, 0, rfl, .inl ⟨rfl, rfl, List.length_eq_zero_iff.1 h0⟩⟩
  · refine ⟨_, cap, rfl, .inr ⟨g, 0, rfl, ?_, hc, ?_⟩⟩
    · exact (Array.getElem?_eq_some_iff.1 hg).1
    · intro k hk
      have := h.cells rfl k (.int .u8 (bat l k).toNat) (by simp [bvals, bat, List.getD, hk])
      rwa [Addr.add_lit] at this
theorem own_below {B B2 : Nat} {w w' : World} {v : Value} {l : List UInt8} (h : Own B w v l) (hB : Below B2 w w') (h2 : w.heap.size ≤ B2) : Own B w' v l := by
  refine ⟨h.1, h.2.imp id ?_⟩
  rintro ⟨g, cap, cur, h1, h2, h3, h4⟩
  exact ⟨g, cap, cur, h1, h2, (hB.block g (Nat.lt_of_lt_of_le (Array.getElem?_eq_some_iff.1 h3).1 (by assumption))).trans h3, h4⟩
theorem own_str {B : Nat} {w : World} {v : Value} {l : List UInt8} (h : Own B w v l) : (convert 22 9 v).run Try.prog w = .ok (.string (bs l)) w := by
  rcases h.2 with ⟨rfl, h0⟩ | ⟨g, cap, cur, rfl, _⟩
  · obtain rfl : l = [] := List.length_eq_zero_iff.1 h0
    kernel_rfl
  · refine run_convert_bytes_back (P := Try.prog) w 22 9 5 ⟨g, 0, none⟩ cap l Try.underlying22 Try.underlying5 Try.underlying9 (fun j hj => ?_)
    exact h.cells rfl j _ (by simp [bvals, hj])
/-- append of some bytes. -/
theorem app_bytes {B g2 c2 : Nat} {w : World} {v : Value} {l m : List UInt8} (h : Dst B w v l) (hB : B ≤ w.heap.size) (hm : LiesB w g2 0 m) (hm0 : 0 < m.length) (hl : l.length + m.length ≤ 1000000) :
    ∃ v' w', (Builtin.append_ #[22, 22] 22 #[v, .slice (some ⟨g2, 0, none⟩) m.length c2]).run Try.prog w = .ok v' w' ∧ Own B w' v' (l ++ m) ∧ Below B w w' := by
  obtain ⟨i0, hi, hz0, hz1, hz2⟩ := info_parts Try.info5
  have hone : ∀ u ∈ bvals m, u.oneCell' = true := by
    intro u hu
    obtain ⟨x, _, rfl⟩ := List.mem_map.1 hu
    rfl
  have hml : (bvals m).length = m.length * 1 := by rw [bvals_length, Nat.mul_one]
  rcases h with h | ⟨g, off, rfl, hg, hlies⟩
  · obtain ⟨v', w', h1, h2, h3, _⟩ := run_append_own (P := Try.prog) w B 22 22 5 i0 (.int .u8 0) 1 1 Try.underlying22 hi hz0 hz1 hz2 rfl (by decide) v l.length (bvals l) h ⟨g2, 0, none⟩ m.length c2 (bvals m) hml hm.news hone (by unfold maxLen; omega) (by omega) hB
    refine ⟨v', w', h1, ?_, (Below.refl B w).grown h3 hB (fun k e => (h.lt k e).1)⟩
    rw [Own, List.length_append, bvals_append]
    exact h2
  · obtain ⟨v', w', h1, h2, h3⟩ := run_append_arg_grows (P := Try.prog) w 22 22 5 i0 (.int .u8 0) 1 1 Try.underlying22 hi hz0 hz1 hz2 rfl (by decide) ⟨g, off, none⟩ l.length l.length (bvals l) (by rw [bvals_length, Nat.mul_one]) hlies.news ⟨g2, 0, none⟩ m.length c2 (bvals m) hml hm.news (by omega) (by unfold maxLen; omega) (by omega)
    refine ⟨v', w', h1, ?_, (Below.refl B w).grown h3 hB (fun k e => by cases e)⟩
    rw [Own, List.length_append, bvals_append]
    exact World.ownsRow.mono h2 hB
theorem one_lies (w : World) (x : UInt8) : LiesB (w.alloc (.cells #[.int .u8 x.toNat] 5)) w.heap.size 0 [x] := fun k hk => by
  obtain rfl : k = 0 := by simpa using hk
  rw [World.cell?_alloc_at _ _ _ _ rfl]
  rfl
theorem Dst.alloc {B : Nat} {w : World} {v : Value} {l : List UInt8} (h : Dst B w v l) (o : Obj) : Dst B (w.alloc o) v l := by
  rcases h with h | ⟨g, off, rfl, hg, hlies⟩
  · exact .inl (own_below h ((Below.refl _ w).alloc (Nat.le_refl _) o) (Nat.le_refl _))
  · exact .inr ⟨g, off, rfl, by rw [World.size_alloc]; omega, hlies.same (Below.heap_alloc _ _ _ hg)⟩
/-- append of one byte. -/
theorem app_one {B : Nat} {w : World} {v : Value} {l : List UInt8} (h : Dst B w v l) (hB : B ≤ w.heap.size) (x : UInt8) (hl : l.length + 1 ≤ 1000000) :
    ∃ v' w', (Builtin.append_ #[22, 22] 22 #[v, .slice (some ⟨w.heap.size, 0, none⟩) 1 1]).run Try.prog (w.alloc (.cells #[.int .u8 x.toNat] 5)) = .ok v' w' ∧ Own B w' v' (l ++ [x]) ∧ Below B w w' := by
  obtain ⟨v', w', h1, h2, h3⟩ := app_bytes (c2 := 1) (h.alloc (.cells #[.int .u8 x.toNat] 5)) (by rw [World.size_alloc]; omega) (one_lies w x) (by simp) (by simpa using hl)
  exact ⟨v', w', h1, h2, ((Below.refl B w).alloc hB _).trans h3⟩
theorem run_min2 (w : World) (ts : Array TypeId) (t : TypeId) (k k' : IntKind) (x y : Int) : (Builtin.min_ ts t #[.int k x, .int k' y]).run Try.prog w = .ok (.int k (min x y)) w := by
  simp [Builtin.min_, Builtin.min2]
  split <;> omega
theorem run_max2 (w : World) (ts : Array TypeId) (t : TypeId) (k k' : IntKind) (x y : Int) : (Builtin.max_ ts t #[.int k x, .int k' y]).run Try.prog w = .ok (.int k (max x y)) w := by
  simp [Builtin.max_, Builtin.max2]
  split <;> omega
attribute [local go_sem ↓] run_min2 run_max2
theorem byte_more (m : Nat) : bits .or .u8 ((m : Int) % 256) 128 = ((UInt8.ofNat (m % 128 + 128)).toNat : Int) := by
  have h : ∀ n : Nat, n < 256 → n ||| 128 = n % 128 + 128 := by decide +kernel
  have h2 := u8_or_nat (m % 256) 128 (by omega) (by decide)
  rw [h _ (by omega)] at h2
  rw [UInt8.toNat_ofNat']
  rw [show ((m : Int) % 256) = ((m % 256 : Nat) : Int) from by omega, show (128 : Int) = ((128 : Nat) : Int) from rfl, h2]
  omega

def LaidPost (B : Nat) (w : World) (l : List UInt8) (e : Ending) (w' : World) : Prop := ∃ v, e = .returned v ∧ Own B w' v l ∧ Below B w w'
set_option maxRecDepth 20000 in
set_option maxHeartbeats 1600000 in
theorem lay_any {B : Nat} {w : World} {v : Value} {l : List UInt8} (h : Dst B w v l) (hB : B ≤ w.heap.size) (hl : l.length ≤ 900000) (z : Int) :
    Calls Try.prog 11 #[v, .int .i64 z] w (LaidPost B w (l ++ num (clamp z))) := by
  have hz := (clamp_eq z).symm
  have hw := clamp_le z
  generalize clamp z = n at hz hw
  have H := Lib.hid h
  have HW := Lib.hid hw
  clear h hw
  go_enter Try.func11, Try.ntmps11
  go_wp2_with fail
  go_loopg [0, 1] n (fun q v t wr => ∃ (f m : Nat) (pre : List UInt8), f + pre.length = 8 ∧ m ≤ q ∧ t = .int .i64 m ∧ m < 16 * 128 ^ f ∧ pre ++ numF f m = num n ∧ Dst B wr v (l ++ pre) ∧ Below B w wr)
  case atStart => exact ⟨8, n, [], rfl, Nat.le_refl _, rfl, by have := HW.out; unfold wid at this; omega, rfl, by rw [List.append_nil]; exact H.out, Below.refl _ _⟩
  case round =>
    obtain ⟨f, m, pre, hf, hq, rfl, hm, hn, hd, hb⟩ := hrel
    have hpl : pre.length ≤ 8 := by omega
    have hsz := hb.size
    have HF := Lib.hid hf
    have HM := Lib.hid hm
    have HN := Lib.hid hn
    have HBB := Lib.hid hb
    have hll : (l ++ pre).length + 1 ≤ 1000000 := by rw [List.length_append]; omega
    clear hf hm hn hb
    by_cases hge : 128 ≤ m
    · obtain ⟨v', w', hrun, hown, hbel⟩ := app_one hd (by omega) (UInt8.ofNat (m % 128 + 128)) hll
      have hby := byte_more m
      rw [← hby] at hrun
      have HO := Lib.hid hown
      have HBel := Lib.hid hbel
      clear hd hown hbel hby
      go_wp2_with (at_builtin; refine Lib.wpList_append_run _ rfl _ _ _ _ rfl _ _ rfl rfl _ _ hrun ?_)
      go_roundg (m / 128)
      case measure => omega
      case rel =>
        obtain ⟨f', rfl⟩ : ∃ f', f = f' + 1 := ⟨f - 1, by
          have := HM.out
          by_cases h0 : f = 0
          · subst h0
            omega
          · omega⟩
        refine ⟨f', m / 128, pre ++ [UInt8.ofNat (m % 128 + 128)], by have := HF.out; simp; omega, Nat.le_refl _, by rw [Int.natCast_ediv]; rfl, by have := HM.out; rw [Nat.pow_succ] at this; omega, ?_, .inl (by rw [← List.append_assoc]; exact HO.out), HBB.out.trans HBel.out⟩
        have hn := HN.out
        rw [numF, if_neg (by omega)] at hn
        rw [List.append_assoc]
        exact hn
    · obtain ⟨v', w', hrun, hown, hbel⟩ := app_one hd (by omega) (UInt8.ofNat m) hll
      have hby : ((UInt8.ofNat m).toNat : Int) = (m : Int) := by rw [UInt8.toNat_ofNat']; omega
      rw [hby] at hrun
      have HO := Lib.hid hown
      have HBel := Lib.hid hbel
      clear hd hown hbel hby
      go_wp2_with (at_builtin; refine Lib.wpList_append_run _ rfl _ _ _ _ rfl _ _ rfl rfl _ _ hrun ?_)
      go_ret
      refine ⟨_, rfl, ?_, HBB.out.trans HBel.out⟩
      have hn : numF f m = [UInt8.ofNat m] := by
        cases f with
        | zero => rfl
        | succ f => rw [numF, if_pos (by omega)]
      have hn2 := HN.out
      rw [hn] at hn2
      have ho := HO.out
      rw [List.append_assoc, hn2] at ho
      exact ho

end Go.Proofs.Ytbamkkohfeglaaa
