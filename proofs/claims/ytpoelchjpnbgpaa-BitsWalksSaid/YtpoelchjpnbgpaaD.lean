/- The law BitsOrder, walked: true at every list of blocks and every turn. -/
import Derived.Test.YtpoelchjpnbgpaaC
import Derived.Deep.RegionHeld3
import Derived.Deep.AppendLies
import Derived.IntWalk
namespace Go.Proofs.Ytpoelchjpnbgpaa
open Go.RowKit Go.Sort
attribute [local go_sem ↓] eq27

/-- Numbers that came in. -/
def CameI (w : World) (a : Option Addr) (b off : Nat) (zs : List Int) : Prop :=
  (0 < zs.length → a = some ⟨b, off, none⟩) ∧ (0 < zs.length → b < w.heap.size) ∧ zs.length ≤ 9223372036854775807 ∧ LiesI w b off zs
theorem CameI.below {w w' : World} {a : Option Addr} {b off : Nat} {zs : List Int} (h : CameI w a b off zs) (hB : Below w.heap.size w w') : CameI w' a b off zs :=
  ⟨h.1, fun hp => Nat.lt_of_lt_of_le (h.2.1 hp) hB.size, h.2.2.1, h.2.2.2.below hB h.2.1⟩
theorem CameI.of {w : World} {a : Option Addr} {b off : Nat} {zs : List Int} (h : CameI w a b off zs) (cap : Nat) : Calls Try.prog 9 #[.slice a zs.length cap] w fun e w' => e = .returned (.agg #[.bool (ofL zs).b0, .bool (ofL zs).b1, .bool (ofL zs).b2, .bool (ofL zs).b3, .bool (ofL zs).b4, .bool (ofL zs).b5, .bool (ofL zs).b6, .bool (ofL zs).b7]) ∧ Below w.heap.size w w' :=
  of_any a b off cap zs w h.1 h.2.1 h.2.2.1 h.2.2.2

section
variable (a : Option Addr) (b off cap : Nat) (zs : List Int) (by_ : Nat) (w : World)
set_option maxHeartbeats 400000 in
theorem bo_large (h : 100 < zs.length) : Calls Try.prog 3 #[.slice a zs.length cap, .int .u64 by_] w fun e w' => e = .returned (.bool true) ∧ Below w.heap.size w w' := by
  go_enter Try.func3, Try.ntmps3
  go_wp2_with fail
  refine (awake_any _).mono ?_
  rintro e w1 ⟨rfl, hb1⟩
  have HB1 := Lib.hid hb1
  clear hb1
  go_wp2_with fail
  refine (awake_any _).mono ?_
  rintro e w2 ⟨rfl, hb2⟩
  have HB2 := Lib.hid (HB1.out.trans (hb2.mono HB1.out.size))
  clear hb2
  go_wp2
  go_ret
  exact ⟨rfl, HB2.out⟩
set_option maxHeartbeats 400000 in
theorem bo_none : Calls Try.prog 3 #[.slice a 0 cap, .int .u64 by_] w fun e w' => e = .returned (.bool true) ∧ Below w.heap.size w w' := by
  go_enter Try.func3, Try.ntmps3
  go_wp2_with fail
  refine (awake_any _).mono ?_
  rintro e w1 ⟨rfl, hb1⟩
  have HB1 := Lib.hid hb1
  clear hb1
  go_wp2_with fail
  refine (awake_any _).mono ?_
  rintro e w2 ⟨rfl, hb2⟩
  have HB2 := Lib.hid (HB1.out.trans (hb2.mono HB1.out.size))
  clear hb2
  go_wp2
  go_ret
  exact ⟨rfl, HB2.out⟩
end

theorem Try.info3 : (Try.prog.info? 3).map (fun i => (i.zero, i.size, i.bytes)) = some (some (.int .i64 0), 1, 8) := by kernel_rfl
/-- The blocks, told turned and again: the first j rounds. -/
def tl (zs : List Int) (k j : Nat) : List Int := (List.range j).flatMap fun i => [iat zs ((zs.length - 1 - i + k) % zs.length), iat zs i]
theorem tl_snoc (zs : List Int) (k j : Nat) : (tl zs k (j + 1)).map (Value.int .i64) = (tl zs k j).map (Value.int .i64) ++ [.int .i64 (iat zs ((zs.length - 1 - j + k) % zs.length)), .int .i64 (iat zs j)] := by
  rw [tl, List.range_succ, List.flatMap_append, List.map_append]
  rfl
theorem tl_length (zs : List Int) (k j : Nat) : (tl zs k j).length = 2 * j := by
  have h := fun j => congrArg List.length (tl_snoc zs k j)
  induction j with
  | zero => rfl
  | succ j ih =>
    have := h j
    simp only [List.length_map, List.length_append, List.length_cons, List.length_nil] at this
    omega
theorem iat_mem (zs : List Int) (k : Nat) (h : k < zs.length) : iat zs k ∈ zs := by simp [iat, List.getD, h]
theorem tl_same (zs : List Int) (k : Nat) : ∀ i, i ∈ tl zs k zs.length ↔ i ∈ zs := by
  intro i
  simp only [tl, List.mem_flatMap, List.mem_range, List.mem_cons, List.not_mem_nil, or_false]
  constructor
  · rintro ⟨j, hj, rfl | rfl⟩
    · exact iat_mem zs _ (Nat.mod_lt _ (by omega))
    · exact iat_mem zs _ hj
  · intro h
    obtain ⟨j, hj, rfl⟩ := List.mem_iff_getElem.1 h
    exact ⟨j, hj, .inr (by simp [iat, List.getD, hj])⟩
theorem lies_of_owns {w : World} {base : Nat} {v : Value} {zs : List Int} (h : w.ownsRow base 3 1 v zs.length (zs.map (Value.int .i64))) :
    ∃ (a : Option Addr) (b cap : Nat), v = .slice a zs.length cap ∧ (0 < zs.length → a = some ⟨b, 0, none⟩) ∧ (0 < zs.length → b < w.heap.size) ∧ LiesI w b 0 zs ∧ (0 < zs.length → base ≤ b) := by
  have h' := h
  obtain ⟨_, ⟨rfl, hn⟩ | ⟨g, cap, cur, rfl, hg, hh, r⟩⟩ := h
  · exact ⟨none, 0, 0, by rw [hn], fun h => by omega, fun h => by omega, fun k hk => by omega, fun h => by omega⟩
  · refine ⟨some ⟨g, 0, none⟩, g, cap, rfl, fun _ => rfl, fun _ => lt_of_block hh, fun k hk => ?_, fun _ => hg⟩
    rw [Nat.zero_add, h'.cellAt k (by omega)]
    simp [iat, List.getD, hk]
theorem new2 (w : World) (x0 x1 : Value) (T : TypeId) : ∀ j u, [x0, x1][j]? = some u → (w.alloc (.cells #[x0, x1] T)).drew.cell? ((⟨w.heap.size, 0, none⟩ : Addr).add j) = some u := by
  intro j u h
  rw [Addr.add_lit, Nat.zero_add]
  show (w.alloc _).cell? _ = _
  rw [World.cell?_alloc_at _ _ _ _ rfl]
  simpa using h

set_option maxHeartbeats 1600000 in
theorem bo_few (a : Option Addr) (b off cap : Nat) (zs : List Int) (by_ : Nat) (w : World) (hc : CameI w a b off zs) (h100 : zs.length ≤ 100) (h0 : 0 < zs.length) :
    Calls Try.prog 3 #[.slice a zs.length cap, .int .u64 by_] w fun e w' => e = .returned (.bool true) ∧ Below w.heap.size w w' := by
  obtain ⟨i0, hi, hz0, hz1, hz2⟩ := info_parts Try.info3
  obtain rfl := hc.1 h0
  have hb := hc.2.1 h0
  have HC := Lib.hid hc
  clear hc
  have hne : ((zs.length : Int) == 0) = false := by rw [beq_eq_false_iff_ne]; omega
  have hlp : (0 : Int) < (zs.length : Int) := by omega
  obtain ⟨kk, hkk, hkl⟩ : ∃ kk : Nat, wrap64 ((by_ : Int) % (zs.length : Int)) = kk ∧ kk < zs.length := by
    refine ⟨by_ % zs.length, ?_, Nat.mod_lt _ h0⟩
    have h1 : by_ % zs.length < zs.length := Nat.mod_lt _ h0
    have h2 : ((by_ : Int) % (zs.length : Int)) = ((by_ % zs.length : Nat) : Int) := by simp
    rw [h2]
    unfold wrap64
    omega
  have HKK := Lib.hid hkk
  clear hkk
  go_enter Try.func3, Try.ntmps3
  go_wp2_with fail
  refine (awake_any _).mono ?_
  rintro e w1 ⟨rfl, hb1⟩
  have hbw : b < w1.heap.size := Nat.lt_of_lt_of_le hb hb1.size
  have HC1 := Lib.hid (HC.out.below hb1)
  have HB1 := Lib.hid hb1
  clear hb1
  go_wp2_with fail
  rw [HKK.out]
  go_loopg [6, 29] zs.length (fun n v t wr => ∃ j : Nat, j ≤ zs.length ∧ zs.length - j ≤ n ∧ t = .int .i64 j ∧ wr.ownsRow w1.heap.size 3 1 v (2 * j) ((tl zs kk j).map (Value.int .i64)) ∧ Below w1.heap.size w1 wr)
  case atStart => exact ⟨0, Nat.zero_le _, by omega, rfl, World.ownsRow_nil _ _ _ _, Below.refl _ _⟩
  case round =>
    obtain ⟨j, hj, hn, rfl, hown, hB⟩ := hrel
    have hsz := hB.size
    by_cases hlt : j < zs.length
    · have hpl : (zs.length - 1 - j + kk) % zs.length < zs.length := Nat.mod_lt _ h0
      have hx0 : (0 : Int) ≤ ((zs.length : Int) - 1 - (j : Int) + (kk : Int)) % (zs.length : Int) := Int.emod_nonneg _ (by omega)
      have hx1 : ((zs.length : Int) - 1 - (j : Int) + (kk : Int)) % (zs.length : Int) < (zs.length : Int) := Int.emod_lt_of_pos _ (by omega)
      have e0 := HC1.out.2.2.2 _ hpl
      have f0 := HC1.out.2.2.2 j hlt
      have HS := Lib.hid (tl_snoc zs kk j)
      have hqi : (((zs.length : Int) - 1 - (j : Int) + (kk : Int)).tmod (zs.length : Int)) = (((zs.length - 1 - j + kk) % zs.length : Nat) : Int) := by
        rw [show (zs.length : Int) - 1 - (j : Int) + (kk : Int) = ((zs.length - 1 - j + kk : Nat) : Int) from by omega]
        rfl
      generalize (zs.length - 1 - j + kk) % zs.length = q at *
      generalize hp : iat zs q = p at *
      clear hp hx0 hx1
      have s1 : IntKind.i64.wrap ((zs.length : Int) - 1) = (zs.length : Int) - 1 := IntWalk.i64_in _ (by omega)
      have s2 : IntKind.i64.wrap ((zs.length : Int) - 1 - (j : Int)) = (zs.length : Int) - 1 - (j : Int) := IntWalk.i64_in _ (by omega)
      have s3 : IntKind.i64.wrap ((zs.length : Int) - 1 - (j : Int) + (kk : Int)) = (zs.length : Int) - 1 - (j : Int) + (kk : Int) := IntWalk.i64_in _ (by omega)
      have s5 : IntKind.i64.wrap (q : Int) = (q : Int) := IntWalk.i64_in _ (by omega)
      have hnil : ¬ zs = [] := fun h => by rw [h] at h0; simp at h0
      have hq1 : (q : Int) < (zs.length : Int) := by omega
      have hj1 : (j : Int) < (zs.length : Int) := by omega
      have hbr : b < wr.heap.size := Nat.lt_of_lt_of_le hbw hsz
      have HK : Hid (∀ W, Below w1.heap.size w1 W → W.cell? ⟨b, off + q, none⟩ = some (.int .i64 p) ∧ W.cell? ⟨b, off + j, none⟩ = some (.int .i64 (iat zs j))) := fun W hW =>
        ⟨(hW.cell (p := ⟨_, _, none⟩) hbw).trans e0, (hW.cell (p := ⟨_, _, none⟩) hbw).trans f0⟩
      have hS0 := HK.out wr.drew hB.drew
      have HBn := Lib.hid ((hB.alloc hsz (.cells #[.int .i64 p, .int .i64 (iat zs j)] 3)).drew)
      have hS1 := HK.out _ HBn.out
      have hone : ∀ u ∈ [Value.int .i64 p, Value.int .i64 (iat zs j)], u.oneCell' = true := by
        intro u hu
        simp only [List.mem_cons, List.not_mem_nil, or_false] at hu
        rcases hu with rfl | rfl <;> rfl
      have HONE := Lib.hid hone
      have h63 : 2 * j + 2 ≤ maxLen := by unfold maxLen; omega
      have hby : (2 * j + 2) * 8 ≤ 140737488355328 := by omega
      have hba : w1.heap.size ≤ (wr.alloc (.cells #[.int .i64 p, .int .i64 (iat zs j)] 3)).drew.heap.size := by simp; omega
      have HBA := Lib.hid hba
      have HOWN := Lib.hid hown
      have HB := Lib.hid hB
      clear hone hba e0 f0 hown hB
      have S1 := Lib.hid s1
      have S2 := Lib.hid s2
      have S3 := Lib.hid s3
      have S4 := Lib.hid hqi
      have S5 := Lib.hid s5
      clear s1 s2 s3 s5 hqi
      go_wp2_with fail
      have s1 := S1.out
      have s2 := S2.out
      have s3 := S3.out
      have s4 := S4.out
      have s5 := S5.out
      go_region_held3 (fun w' => w'.cell? ⟨b, off + q, none⟩ = some (.int .i64 p) ∧ w'.cell? ⟨b, off + j, none⟩ = some (.int .i64 (iat zs j))) (first | (with_reducible exact hS) | (with_reducible exact hS0) | (with_reducible exact hS1))
        (first
          | (refine step_append_lies _ rfl (.tmp 32) (.tmp 50) 22 rfl w1.heap.size 3 i0 (.int .i64 0) 1 8 Try.underlying22 hi hz0 hz1 hz2 rfl (by decide) u6 (2 * j) ((tl zs kk j).map (Value.int .i64)) rfl ((HOWN.out.alloc _).drew) ⟨wr.heap.size, 0, none⟩ 2 2 [.int .i64 p, .int .i64 (iat zs j)] rfl rfl (new2 wr _ _ 3) HONE.out (by decide) h63 hby HBA.out _ rfl ?_; intro g cap' w3 hown' hgrow hat hlt'; have HB3 := Lib.hid (HBn.out.grown hgrow HBA.out (fun m e => (HOWN.out.lt m e).1)); have hS := HK.out w3 HB3.out))
      have HO := Lib.hid (show w3.ownsRow w1.heap.size 3 1 (.slice (some ⟨g, 0, none⟩) (2 * j + 2) cap') (2 * (j + 1)) ((tl zs kk (j + 1)).map (Value.int .i64)) from by rw [HS.out]; exact hown')
      clear hown' hgrow hat hlt' hS
      go_wp2
      go_roundg (zs.length - (j + 1))
      case measure => omega
      case rel => exact ⟨j + 1, by omega, Nat.le_refl _, by go_num, HO.out, HB3.out⟩
    · obtain rfl : j = zs.length := by omega
      have hown2 : wr.ownsRow w1.heap.size 3 1 u6 (tl zs kk zs.length).length ((tl zs kk zs.length).map (Value.int .i64)) := by rw [tl_length]; exact hown
      have hsame := ofL_same (tl_same zs kk)
      have htl : (tl zs kk zs.length).length ≤ 200 := by rw [tl_length]; omega
      obtain ⟨a3, b3, cap3, rfl, ha3, hb3, hc3, _⟩ := lies_of_owns hown2
      have HT := Lib.hid (show CameI wr a3 b3 0 (tl zs kk zs.length) from ⟨ha3, hb3, by omega, hc3⟩)
      have HZ := Lib.hid (HC1.out.below hB)
      have HBr := Lib.hid (HB1.out.trans (hB.mono HB1.out.size))
      have HSAME := Lib.hid hsame
      clear hown hown2 ha3 hb3 hc3 hB hsame htl
      generalize tl zs kk zs.length = t at *
      have hdd : decide (ofL t = ofL zs) = true := by simpa using HSAME.out
      go_wp2_with fail
      refine (HT.out.of cap3).mono ?_
      rintro e w5 ⟨rfl, hb5⟩
      have HZ5 := Lib.hid (HZ.out.below hb5)
      have HB5 := Lib.hid (HBr.out.trans (hb5.mono HBr.out.size))
      clear hb5
      go_wp2_with fail
      refine (HZ5.out.of cap).mono ?_
      rintro e w6 ⟨rfl, hb6⟩
      have HB6 := Lib.hid (HB5.out.trans (hb6.mono HB5.out.size))
      clear hb6
      go_wp2
      go_ret
      exact ⟨ret_bool (by simp), HB6.out⟩

theorem bo_all (a : Option Addr) (b off cap : Nat) (zs : List Int) (by_ : Nat) (w : World) (hc : CameI w a b off zs) :
    Calls Try.prog 3 #[.slice a zs.length cap, .int .u64 by_] w fun e w' => e = .returned (.bool true) ∧ Below w.heap.size w w' := by
  by_cases h : 100 < zs.length
  · exact bo_large a cap zs by_ w h
  · by_cases h0 : 0 < zs.length
    · exact bo_few a b off cap zs by_ w hc (by omega) h0
    · rw [show zs.length = 0 by omega]
      exact bo_none a cap by_ w

end Go.Proofs.Ytpoelchjpnbgpaa
