/- The law CutOrder, walked: true at every list of writes, every cut and every turn. -/
import Derived.Test.YtckijalkodpjhaaK
namespace Go.Proofs.Ytckijalkodpjhaa
open Go.RowKit Go.Sort
attribute [local go_sem] eqIn33

set_option maxHeartbeats 800000 in
theorem co_large (a : Option Addr) (b off cap : Nat) (l : List Wr) (c0 c1 c2 c3 : Int) (by_ : Nat) (w : World) (hc : Came w a b off l) (hsm : smB l = false) :
    Calls Try.prog 3 #[.slice a l.length cap, .agg #[.int .i64 c0, .int .i64 c1, .int .i64 c2, .int .i64 c3], .int .u64 by_] w fun e w' => e = .returned (.bool true) ∧ Below w.heap.size w w' := by
  have HA := Lib.hid hc
  clear hc
  go_enter Try.func3, Try.ntmps3
  go_wp2_with fail
  refine (awake_any _).mono ?_
  rintro e w1 ⟨rfl, hb1⟩
  have HB1 := Lib.hid (((Below.refl _ w).alloc (Nat.le_refl _) (.cells #[.int .i64 c0, .int .i64 c1, .int .i64 c2, .int .i64 c3] 23)).trans (hb1.mono (by simp)))
  clear hb1
  go_wp2_with fail
  refine (small_any a b off cap l _ HA.out.1 HA.out.2.2.1 (HA.out.2.2.2.1.below' HB1.out HA.out.2.1)).mono ?_
  rintro e w2 ⟨rfl, hb2⟩
  have HB2 := Lib.hid (HB1.out.trans (hb2.mono HB1.out.size))
  clear hb2
  go_wp2_with fail
  refine (awake_any _).mono ?_
  rintro e w3 ⟨rfl, hb3⟩
  have HB3 := Lib.hid (HB2.out.trans (hb3.mono HB2.out.size))
  clear hb3
  go_wp2
  go_ret
  exact ⟨rfl, HB3.out⟩

set_option maxHeartbeats 800000 in
theorem co_none (a : Option Addr) (b off cap : Nat) (l : List Wr) (c0 c1 c2 c3 : Int) (by_ : Nat) (w : World) (hc : Came w a b off l) (hl0 : l = []) :
    Calls Try.prog 3 #[.slice a l.length cap, .agg #[.int .i64 c0, .int .i64 c1, .int .i64 c2, .int .i64 c3], .int .u64 by_] w fun e w' => e = .returned (.bool true) ∧ Below w.heap.size w w' := by
  subst hl0
  have HA := Lib.hid hc
  clear hc
  go_enter Try.func3, Try.ntmps3
  go_wp2_with fail
  refine (awake_any _).mono ?_
  rintro e w1 ⟨rfl, hb1⟩
  have HB1 := Lib.hid (((Below.refl _ w).alloc (Nat.le_refl _) (.cells #[.int .i64 c0, .int .i64 c1, .int .i64 c2, .int .i64 c3] 23)).trans (hb1.mono (by simp)))
  clear hb1
  go_wp2_with fail
  refine (small_any a b off cap [] _ HA.out.1 HA.out.2.2.1 (HA.out.2.2.2.1.below' HB1.out HA.out.2.1)).mono ?_
  rintro e w2 ⟨rfl, hb2⟩
  have HB2 := Lib.hid (HB1.out.trans (hb2.mono HB1.out.size))
  clear hb2
  have hsm : smB [] = true := by decide
  go_wp2_with fail
  refine (awake_any _).mono ?_
  rintro e w3 ⟨rfl, hb3⟩
  have HB3 := Lib.hid (HB2.out.trans (hb3.mono HB2.out.size))
  clear hb3
  go_wp2
  go_ret
  exact ⟨rfl, HB3.out⟩

theorem Try.info28 : (Try.prog.info? 28).map (fun i => (i.zero, i.size, i.bytes)) = some (some (.agg #[.int .i64 0, .int .i64 0, .int .i64 0, .int .i64 0]), 4, 32) := by kernel_rfl
/-- The writes, turned: the first j of them. -/
def rot (l : List Wr) (k j : Nat) : List Wr := (List.range j).map fun i => wat l ((l.length - 1 - i + k) % l.length)

theorem rot_snoc (l : List Wr) (k j : Nat) : flat (rot l k (j + 1)) = flat (rot l k j) ++ wcells (wat l ((l.length - 1 - j + k) % l.length)) := by
  rw [rot, List.range_succ, List.map_append, flat_append]
  rfl

theorem rot_length (l : List Wr) (k j : Nat) : (rot l k j).length = j := by simp [rot]
theorem rot_wat (l : List Wr) (k j i : Nat) (h : i < j) : wat (rot l k j) i = wat l ((l.length - 1 - i + k) % l.length) := by
  simp [wat, rot, List.getD, h]
/-- The writes, turned, are the same writes. -/
def SameW (l t : List Wr) : Prop := (∀ k, k < l.length → ∃ j, j < t.length ∧ wat t j = wat l k) ∧ ∀ j, j < t.length → ∃ k, k < l.length ∧ wat l k = wat t j
theorem rot_perm (l : List Wr) (k : Nat) (hk : k < l.length) : SameW l (rot l k l.length) := by
  refine ⟨fun m hm => ?_, fun j hj => ?_⟩
  · by_cases h : l.length - 1 + k - m < l.length
    · refine ⟨l.length - 1 + k - m, by rw [rot_length]; exact h, ?_⟩
      rw [rot_wat _ _ _ _ h, show l.length - 1 - (l.length - 1 + k - m) + k = m by omega, Nat.mod_eq_of_lt hm]
    · have h2 : l.length - 1 + k - m - l.length < l.length := by omega
      refine ⟨l.length - 1 + k - m - l.length, by rw [rot_length]; exact h2, ?_⟩
      rw [rot_wat _ _ _ _ h2, show l.length - 1 - (l.length - 1 + k - m - l.length) + k = m + l.length by omega, Nat.add_mod_right, Nat.mod_eq_of_lt hm]
  · rw [rot_length] at hj
    exact ⟨_, Nat.mod_lt _ (by omega), (rot_wat _ _ _ _ hj).symm⟩
theorem closed_perm {l t : List Wr} (h : SameW l t) {x : C4} (hx : Closed l x) : Closed t x := by
  intro k i hk hi
  obtain ⟨k', hk', ek⟩ := h.2 k hk
  obtain ⟨i', hi', ei⟩ := h.2 i hi
  have := hx k' i' hk' hi'
  simp only [badB, ek, ei] at this ⊢
  exact this
theorem SameW.symm {l t : List Wr} (h : SameW l t) : SameW t l := ⟨fun k hk => h.2 k hk, fun j hj => h.1 j hj⟩
theorem gr_perm {l t : List Wr} (h : SameW l t) {c g : C4} (hg : GrSpec l c g) : GrSpec t c g :=
  ⟨closed_perm h hg.1, hg.2.1, fun x hx hc => hg.2.2 x (closed_perm h.symm hx) hc⟩
theorem bad_iff {l : List Wr} {c : C4} {i k : Nat} {b : Bool} (h : BadSpec c l i k b) : b = false ↔ Closed l c := by
  rcases h with ⟨h, _, _, hn⟩ | ⟨h, hi, hk, hy, _⟩
  · exact ⟨fun _ => hn, fun _ => h⟩
  · constructor
    · intro h'
      rw [h] at h'
      cases h'
    · intro hc
      rw [hc k i hk hi] at hy
      cases hy
theorem bad_perm {l t : List Wr} (h : SameW l t) {c : C4} {i k i' k' : Nat} {b b' : Bool} (hb : BadSpec c l i k b) (hb' : BadSpec c t i' k' b') : b = b' := by
  have h1 := bad_iff hb
  have h2 := bad_iff hb'
  cases b <;> cases b'
  · rfl
  · exact (h2.2 (closed_perm h (h1.1 rfl))).symm
  · exact h1.2 (closed_perm h.symm (h2.1 rfl))
  · rfl
theorem made_at {w V : World} {a : Option Addr} {b off : Nat} {l : List Wr} (h : Laid w a b off l) (cap : Nat) (hB : RowKit.Below w.heap.size w V) : Calls Try.prog 11 #[.slice a l.length cap] V fun e w' =>
    ∃ (a : Option Addr) (b cap : Nat), e = .returned (.slice a l.length cap) ∧ Laid w' a b 0 l ∧ RowKit.Below w.heap.size w w' :=
  ((h.below hB).made cap).mono fun _ _ ⟨a', b', cap', he, h1, h2⟩ => ⟨a', b', cap', he, h1, below_chain h2 hB⟩

set_option maxHeartbeats 3200000 in
theorem co_few (a : Option Addr) (b off cap : Nat) (l : List Wr) (c0 c1 c2 c3 : Int) (by_ : Nat) (w : World) (hby : by_ < 18446744073709551616) (hL : Laid w a b off l) (hsm : smB l = true) (hl0 : 0 < l.length) :
    Calls Try.prog 3 #[.slice a l.length cap, .agg #[.int .i64 c0, .int .i64 c1, .int .i64 c2, .int .i64 c3], .int .u64 by_] w fun e w' => e = .returned (.bool true) ∧ Below w.heap.size w w' := by
  obtain ⟨i0, hi, hz0, hz1, hz2⟩ := info_parts Try.info28
  obtain ⟨⟨g0, g1, g2, g3⟩, hg⟩ := hL.gr_some ⟨c0, c1, c2, c3⟩
  obtain ⟨bi, bk, bd, hbd⟩ := hL.bad_some ⟨c0, c1, c2, c3⟩
  have HG := Lib.hid hg
  have HBD := Lib.hid hbd
  clear hg hbd
  have hlen := hL.hl
  obtain rfl := hL.ha hl0
  have hb := hL.hb hl0
  have HL := Lib.hid hL
  clear hL
  have hne : ((l.length : Int) == 0) = false := by rw [beq_eq_false_iff_ne]; omega
  have hlp : (0 : Int) < (l.length : Int) := by omega
  go_enter Try.func3, Try.ntmps3
  go_wp2_with fail
  refine (awake_any _).mono ?_
  rintro e w1 ⟨rfl, hb1⟩
  have hz1' : w.heap.size < w1.heap.size := by have := hb1.size; simp at this; omega
  have HC := Lib.hid ((Box4.new w (.int .i64 c0) (.int .i64 c1) (.int .i64 c2) (.int .i64 c3) 23).below hb1 (by simp))
  have HL1 := Lib.hid ((HL.out.alloc (.cells #[.int .i64 c0, .int .i64 c1, .int .i64 c2, .int .i64 c3] 23)).below hb1)
  have HB1 := Lib.hid (((Below.refl _ w).alloc (Nat.le_refl _) (.cells #[.int .i64 c0, .int .i64 c1, .int .i64 c2, .int .i64 c3] 23)).trans (hb1.mono (by simp)))
  clear hb1
  go_wp2_with fail
  refine (small_any _ b off cap l _ HL1.out.ha (by omega) HL1.out.hc).mono ?_
  rintro e w2 ⟨rfl, hb2⟩
  have hz2' : w.heap.size < w2.heap.size := by have := hb2.size; omega
  have HC2 := Lib.hid (HC.out.below hb2 (by omega))
  have HL2 := Lib.hid (HL1.out.below hb2)
  have HB2 := Lib.hid (HB1.out.trans (hb2.mono (by omega)))
  clear hb2
  obtain ⟨kk, hkk, hkl⟩ : ∃ kk : Nat, wrap64 ((by_ : Int) % (l.length : Int)) = kk ∧ kk < l.length := by
    refine ⟨by_ % l.length, ?_, Nat.mod_lt _ hl0⟩
    have h1 : by_ % l.length < l.length := Nat.mod_lt _ hl0
    have h2 : ((by_ : Int) % (l.length : Int)) = ((by_ % l.length : Nat) : Int) := by simp
    rw [h2]
    unfold wrap64
    omega
  have HKK := Lib.hid hkk
  clear hkk
  go_wp2_with fail
  rw [HKK.out]
  go_loopg [8, 37] l.length (fun n v t wr => ∃ j : Nat, j ≤ l.length ∧ l.length - j ≤ n ∧ t = .int .i64 j ∧ wr.ownsRow w2.heap.size 28 4 v j (flat (rot l kk j)) ∧ Below w2.heap.size w2 wr)
  case atStart => exact ⟨0, Nat.zero_le _, by omega, rfl, World.ownsRow_nil _ _ _ _, Below.refl _ _⟩
  case round =>
    obtain ⟨j, hj, hn, rfl, hown, hB⟩ := hrel
    have hsz := hB.size
    by_cases hlt : j < l.length
    · have hpl : (l.length - 1 - j + kk) % l.length < l.length := Nat.mod_lt _ hl0
      have hx0 : (0 : Int) ≤ ((l.length : Int) - 1 - (j : Int) + (kk : Int)) % (l.length : Int) := Int.emod_nonneg _ (by omega)
      have hx1 : ((l.length : Int) - 1 - (j : Int) + (kk : Int)) % (l.length : Int) < (l.length : Int) := Int.emod_lt_of_pos _ (by omega)
      obtain ⟨e0, e1, e2, e3⟩ := (HL2.out.below hB).hc _ hpl
      clear hpl
      have HBB := Lib.hid hB
      clear hB
      have hwr : w2.heap.size ≤ wr.heap.size := hsz
      have hro : flat (rot l kk (j + 1)) = flat (rot l kk j) ++ [.int .i64 (wat l ((l.length - 1 - j + kk) % l.length)).v, .int .i64 (wat l ((l.length - 1 - j + kk) % l.length)).s, .int .i64 (wat l ((l.length - 1 - j + kk) % l.length)).i, .int .i64 (wat l ((l.length - 1 - j + kk) % l.length)).a] := rot_snoc l kk j
      have HRO := Lib.hid hro
      clear hro
      generalize hp : wat l ((l.length - 1 - j + kk) % l.length) = p at *
      clear hp
      go_wp2_with (at_builtin; refine wpList_append_own _ rfl _ _ 22 rfl w2.heap.size 28 i0 (.agg #[.int .i64 0, .int .i64 0, .int .i64 0, .int .i64 0]) 4 32 Try.underlying22 hi hz0 hz1 hz2 rfl (by decide) _ _ _ rfl (hown.alloc _) ⟨wr.heap.size, 0, none⟩ 1 1 [.int .i64 p.v, .int .i64 p.s, .int .i64 p.i, .int .i64 p.a] rfl rfl ?c1 ?c2 ?c3 ?c4 ?c5 ?_)
      case c1 => exact new4 _ _ _ _ _ _
      case c2 => intro u hu; simp only [List.mem_cons, List.not_mem_nil, or_false] at hu; rcases hu with rfl | rfl | rfl | rfl <;> rfl
      case c3 => unfold maxLen; omega
      case c4 => omega
      case c5 => simp; omega
      intro v' w3 hown' hgrow _
      have HO := Lib.hid (show w3.ownsRow w2.heap.size 28 4 v' (j + 1) (flat (rot l kk (j + 1))) from by rw [HRO.out]; exact hown')
      have HB3 := Lib.hid ((HBB.out.alloc hsz _).grown hgrow (by simp; omega) (fun m e => (hown.lt m e).1))
      clear hown' hown hgrow
      go_wp2
      go_roundg (l.length - (j + 1))
      case measure => omega
      case rel => exact ⟨j + 1, by omega, Nat.le_refl _, by go_num, HO.out, HB3.out⟩
    · obtain rfl : j = l.length := by omega
      have hrl : (rot l kk l.length).length = l.length := by simp [rot]
      rw [← hrl] at hown
      have hown2 : wr.ownsRow w2.heap.size 28 4 u8 (rot l kk l.length).length (flat (rot l kk l.length)) := by rw [hrl] at hown ⊢; exact hown
      obtain ⟨a3, b3, cap3, rfl, ha3, hb3, hc3, _⟩ := lies_of_owns hown2
      have HPERM := Lib.hid (rot_perm l kk hkl)
      have HT := Lib.hid (Laid.mk ha3 hb3 (by omega) hc3 (fun i hi => by
        obtain ⟨q, hq, e⟩ := HPERM.out.2 i hi
        rw [← e]; exact HL.out.hs q hq))
      have hlen3 : (rot l kk l.length).length ≤ 1000 := by omega
      have HRL := Lib.hid hrl
      clear hown hown2 ha3 hb3 hc3 hrl
      generalize rot l kk l.length = t at *
      have HGT := Lib.hid (gr_perm HPERM.out HG.out)
      obtain ⟨ti, tk, td, htd⟩ := HT.out.bad_some ⟨c0, c1, c2, c3⟩
      obtain rfl : bd = td := bad_perm HPERM.out HBD.out htd
      have HTD := Lib.hid htd
      have HLr := Lib.hid (HL2.out.below hB)
      have HBr := Lib.hid (HB2.out.trans (hB.mono (by omega)))
      have HCr := Lib.hid (HC2.out.below hB (by omega))
      clear htd
      have HK : Hid (∀ W, RowKit.Below wr.heap.size wr W → RowKit.Below wr.heap.size wr W ∧ W.cell? ⟨w.heap.size, 0, none⟩ = some (.int .i64 c0) ∧ W.cell? ⟨w.heap.size, 1, none⟩ = some (.int .i64 c1) ∧ W.cell? ⟨w.heap.size, 2, none⟩ = some (.int .i64 c2) ∧ W.cell? ⟨w.heap.size, 3, none⟩ = some (.int .i64 c3)) := fun W hW => by
        obtain ⟨x0, x1, x2, x3⟩ := HCr.out.below hW (by omega)
        exact ⟨hW, x0, x1, x2, x3⟩
      have HBB := Lib.hid hB
      clear hB
      have bb : (bd == bd) = true := by simp
      have he := eqC_self g0 g1 g2 g3
      go_wp2_with fail
      go_region_held3 (fun w' => RowKit.Below wr.heap.size wr w' ∧ w'.cell? ⟨w.heap.size, 0, none⟩ = some (.int .i64 c0) ∧ w'.cell? ⟨w.heap.size, 1, none⟩ = some (.int .i64 c1) ∧ w'.cell? ⟨w.heap.size, 2, none⟩ = some (.int .i64 c2) ∧ w'.cell? ⟨w.heap.size, 3, none⟩ = some (.int .i64 c3)) (first | (with_reducible exact hS) | exact HK.out _ ((RowKit.Below.refl _ _).drew) | (refine HK.out _ (RowKit.Below.drew ?_); go_split_ands; with_reducible assumption))
        (first
          | (go_at_call_of 11 (Value.slice (some ⟨b, off, none⟩) l.length cap); refine (made_at HLr.out cap (by go_split_ands; with_reducible assumption)).mono ?_; rintro e wA ⟨aA, bA, capA, rfl, hLA, hbA⟩; have HLA := Lib.hid hLA; have hS := HK.out wA hbA; clear hLA hbA)
          | (go_at_call 10; refine (HLA.out.bad_is capA c0 c1 c2 c3 bi bk bd HBD.out).mono ?_; rintro e wB ⟨rfl, hbB⟩; have hS := HK.out wB (below_chain hbB (by go_split_ands; with_reducible assumption)); clear hbB))
      go_wp2_with fail
      go_region_held3 (fun w' => RowKit.Below wr.heap.size wr w' ∧ w'.cell? ⟨w.heap.size, 0, none⟩ = some (.int .i64 c0) ∧ w'.cell? ⟨w.heap.size, 1, none⟩ = some (.int .i64 c1) ∧ w'.cell? ⟨w.heap.size, 2, none⟩ = some (.int .i64 c2) ∧ w'.cell? ⟨w.heap.size, 3, none⟩ = some (.int .i64 c3)) (first | (with_reducible exact hS) | exact HK.out _ ((RowKit.Below.refl _ _).drew) | (refine HK.out _ (RowKit.Below.drew ?_); go_split_ands; with_reducible assumption))
        (first
          | (go_at_call_of 11 (Value.slice a3 t.length cap3); refine (made_at HT.out cap3 (by go_split_ands; with_reducible assumption)).mono ?_; rintro e wC ⟨aC, bC, capC, rfl, hLC, hbC⟩; have HLC := Lib.hid hLC; have hS := HK.out wC hbC; clear hLC hbC)
          | (go_at_call 10; refine (HLC.out.bad_is capC c0 c1 c2 c3 ti tk bd HTD.out).mono ?_; rintro e wD ⟨rfl, hbD⟩; have hS := HK.out wD (below_chain hbD (by go_split_ands; with_reducible assumption)); clear hbD))
      go_wp2_with fail
      go_region_held3 (fun w' => RowKit.Below wr.heap.size wr w' ∧ w'.cell? ⟨w.heap.size, 0, none⟩ = some (.int .i64 c0) ∧ w'.cell? ⟨w.heap.size, 1, none⟩ = some (.int .i64 c1) ∧ w'.cell? ⟨w.heap.size, 2, none⟩ = some (.int .i64 c2) ∧ w'.cell? ⟨w.heap.size, 3, none⟩ = some (.int .i64 c3)) (first | (with_reducible exact hS) | exact HK.out _ ((RowKit.Below.refl _ _).drew) | (refine HK.out _ (RowKit.Below.drew ?_); go_split_ands; with_reducible assumption))
        (first
          | (go_at_call_of 11 (Value.slice (some ⟨b, off, none⟩) l.length cap); refine (made_at HLr.out cap (by go_split_ands; with_reducible assumption)).mono ?_; rintro e wE ⟨aE, bE, capE, rfl, hLE, hbE⟩; have HLE := Lib.hid hLE; have hS := HK.out wE hbE; clear hLE hbE)
          | (go_at_call_of 11 (Value.slice a3 t.length cap3); refine (made_at HT.out cap3 (by go_split_ands; with_reducible assumption)).mono ?_; rintro e wF ⟨aF, bF, capF, rfl, hLF, hbF⟩; have HLF := Lib.hid hLF; have hS := HK.out wF hbF; clear hLF hbF)
          | (go_at_call_of 12 (Value.slice aE l.length capE); refine (HLE.out.gr_is capE c0 c1 c2 c3 g0 g1 g2 g3 HG.out).mono ?_; rintro e wG ⟨rfl, hbG⟩; have hS := HK.out wG (below_chain hbG (by go_split_ands; with_reducible assumption)); clear hbG)
          | (go_at_call_of 12 (Value.slice aF t.length capF); refine (HLF.out.gr_is capF c0 c1 c2 c3 g0 g1 g2 g3 HGT.out).mono ?_; rintro e wH ⟨rfl, hbH⟩; have hS := HK.out wH (below_chain hbH (by go_split_ands; with_reducible assumption)); clear hbH))
      have hfin : RowKit.Below wr.heap.size wr wH := hS.1
      have HFIN := Lib.hid hfin
      clear hfin hS
      go_wp2
      go_ret
      exact ⟨rfl, HBr.out.trans (HFIN.out.mono (by omega))⟩

theorem co_all (a : Option Addr) (b off cap : Nat) (l : List Wr) (c0 c1 c2 c3 : Int) (by_ : Nat) (w : World) (hby : by_ < 18446744073709551616) (h : Came w a b off l) :
    Calls Try.prog 3 #[.slice a l.length cap, .agg #[.int .i64 c0, .int .i64 c1, .int .i64 c2, .int .i64 c3], .int .u64 by_] w fun e w' => e = .returned (.bool true) ∧ Below w.heap.size w w' := by
  cases hs : smB l with
  | false => exact co_large a b off cap l c0 c1 c2 c3 by_ w h hs
  | true =>
    by_cases h0 : 0 < l.length
    · exact co_few a b off cap l c0 c1 c2 c3 by_ w hby (h.laid hs) hs h0
    · exact co_none a b off cap l c0 c1 c2 c3 by_ w h (List.length_eq_zero_iff.1 (by omega))

end Go.Proofs.Ytckijalkodpjhaa
