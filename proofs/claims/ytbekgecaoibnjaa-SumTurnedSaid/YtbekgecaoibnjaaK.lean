/- SumTurned's walk. -/
import Derived.Test.YtbekgecaoibnjaaI
import Derived.Test.YtbekgecaoibnjaaJ
import Derived.IntWalk
namespace Go.Proofs.Ytbekgecaoibnjaa
open Go.RowKit Go.Sort

theorem flips_sized (l : List UInt8) (k : Nat) (t : BitVec 32) (i n : Nat) (h : l.length = n) : (flips l k t i).length = n := by rw [flips_length, h]
/-- Whether a bit is to be turned. -/
theorem turn_bit (t : BitVec 32) (i : Nat) : bits .and .u32 ((t.toNat : Int) / 2 ^ i) 1 = if t.getLsbD i then 1 else 0 := by
  have hi : (t.toNat : Int) / 2 ^ i = ((t.toNat / 2 ^ i : Nat) : Int) := by
    rw [Int.natCast_ediv, Int.natCast_pow]
    rfl
  have hlt : t.toNat / 2 ^ i < 4294967296 := Nat.lt_of_le_of_lt (Nat.div_le_self _ _) t.isLt
  have h := u32_and_nat (t.toNat / 2 ^ i) 1 hlt (by decide)
  rw [show ((1 : Nat) : Int) = 1 from rfl, ← hi] at h
  rw [h, Nat.and_one_is_mod, BitVec.getLsbD, Nat.testBit_eq_decide_div_mod_eq]
  by_cases h1 : t.toNat / 2 ^ i % 2 = 1
  · simp [h1]
  · have h2 : t.toNat / 2 ^ i % 2 = 0 := by omega
    simp [h2]

theorem bit8 : ∀ r : Nat, r < 8 → ((1 <<< UInt8.ofNat r : UInt8).toNat : Int) = 2 ^ r % 256 := by decide +kernel

set_option maxHeartbeats 6400000 in
theorem turned_walk (s : ByteArray) (at_ : Nat) (t : BitVec 32) (w : World) : Calls Try.prog 7 #[.string s, .int .u64 at_, .int .u32 t.toNat] w fun e w' => e = .returned (.bool true) ∧ Below w.heap.size w w' := by
  go_enter Try.func7, Try.ntmps7
  go_wp2_with fail
  refine (awake_any w).mono ?_
  rintro e w1 ⟨rfl, hb1⟩
  have HB1 := Lib.hid hb1
  clear hb1
  by_cases hbig : (s.size : Int) > 1000
  · go_wp2_with fail
    refine (awake_any w1).mono ?_
    rintro e w2 ⟨rfl, hb2⟩
    have HB2 := Lib.hid (HB1.out.trans (hb2.mono HB1.out.size))
    clear hb2
    go_wp2
    go_ret
    exact ⟨rfl, HB2.out⟩
  by_cases ht0 : t = 0
  · subst ht0
    have e0 : (((0 : BitVec 32).toNat : Nat) : Int) = 0 := rfl
    go_wp2_with fail
    refine (awake_any w1).mono ?_
    rintro e w2 ⟨rfl, hb2⟩
    have HB2 := Lib.hid (HB1.out.trans (hb2.mono HB1.out.size))
    clear hb2
    go_wp2
    go_ret
    exact ⟨rfl, HB2.out⟩
  have ht1 : ((t.toNat : Int) == 0) = false := by
    rw [beq_eq_false_iff_ne]
    intro h
    exact ht0 (BitVec.eq_of_toNat_eq (Int.ofNat.inj h))
  have HT0 := Lib.hid ht0
  clear ht0
  obtain ⟨w2, cap, hcv, hlies, hlt, hb2, hcap⟩ := conv_any s w1
  have HL := Lib.hid hlies
  have HB2 := Lib.hid (HB1.out.trans (hb2.mono HB1.out.size))
  clear hlies hb2
  go_wp2_with fail
  refine (seal_any _ cap (bl s) w2 (Hb.mk hlt HL.out) (by rw [bl_length]; omega)).mono ?_
  rintro e w3 ⟨v, rfl, hown3, hb3⟩
  obtain ⟨g, cap3, rfl, hg3, hlies3, hcap3, hge⟩ := own_form hown3 (by simp [tl])
  have hrow : RowB w3 g (sealed s) := RowB.own rfl hown3
  have HR := Lib.hid hrow
  have HB3 := Lib.hid (HB2.out.trans (hb3.mono HB2.out.size))
  have HGE : Hid (w.heap.size ≤ g) := Nat.le_trans HB2.out.size hge
  rw [show (bl s ++ tl (crc (bl s))).length = s.size + 4 from sealed_length s] at hcap3 ⊢
  clear hown3 hlies3 hb3 hcv hcap hlt hrow hge
  obtain ⟨k, hk, hk2⟩ : ∃ k : Nat, wrap64 ((at_ : Int) % (8 * ((s.size : Int) + 4) - 31)) = k ∧ k + 32 ≤ 8 * (s.size + 4) := by
    have h0 : (0 : Int) ≤ (at_ : Int) % (8 * ((s.size : Int) + 4) - 31) := Int.emod_nonneg _ (by omega)
    have h1 : (at_ : Int) % (8 * ((s.size : Int) + 4) - 31) < 8 * ((s.size : Int) + 4) - 31 := Int.emod_lt_of_pos _ (by omega)
    refine ⟨((at_ : Int) % (8 * ((s.size : Int) + 4) - 31)).toNat, ?_, ?_⟩
    · unfold wrap64
      omega
    · omega
  have HK := Lib.hid hk
  have HK2 := Lib.hid hk2
  clear hk hk2
  go_wp2_with fail
  rw [HK.out]
  go_loopg [9] 32 (fun q u wr => ∃ i : Nat, i ≤ 32 ∧ 32 - i ≤ q ∧ u = .int .i64 i ∧ RowB wr g (flips (sealed s) k t i) ∧ Below w.heap.size w wr)
  case atStart => exact ⟨0, Nat.zero_le _, by omega, rfl, HR.out, HB3.out⟩
  case round =>
    obtain ⟨i, hi, hq, rfl, hr, hB⟩ := hrel
    have HB := Lib.hid hB
    have HRR := Lib.hid hr
    clear hB hr
    by_cases hlt : i < 32
    · have hj := HK2.out
      obtain ⟨q, hqd⟩ : ∃ q, q = (k + i) / 8 := ⟨_, rfl⟩
      obtain ⟨r, hrd⟩ : ∃ r, r = (k + i) % 8 := ⟨_, rfl⟩
      have HQD := Lib.hid hqd
      have HRD := Lib.hid hrd
      have q1 : ((k : Int) + (i : Int)) / 8 = (q : Int) := by omega
      have r1 : ((k : Int) + (i : Int)) % 8 = (r : Int) := by omega
      have q2 : (q : Int) < (s.size : Int) + 4 := by omega
      have r2 : r < 8 := by omega
      have hl := flips_length (sealed s) k t i
      rw [sealed_length] at hl
      have f0 : wr.frozen? ⟨g, q, none⟩ = false := HRR.out.free q (by omega)
      have f1 := HRR.out.lies q (by omega)
      rw [Nat.zero_add] at f1
      have hgl := HRR.out.lt
      have hx := turn_bit t i
      have Q1 := Lib.hid q1
      have R1 := Lib.hid r1
      clear hj hqd hrd hl q1 r1
      cases ht : t.getLsbD i with
      | true =>
        rw [ht, if_pos rfl] at hx
        go_wp2
        have s1 : IntKind.i64.wrap ((k : Int) + (i : Int)) = (k : Int) + (i : Int) := IntWalk.i64_in _ (by have := HK2.out; omega)
        have q1 : ((k : Int) + (i : Int)).tdiv 8 = (q : Int) := by rw [Int.tdiv_eq_ediv_of_nonneg (by omega)]; exact Q1.out
        have r1 : ((k : Int) + (i : Int)).tmod 8 = (r : Int) := by rw [Int.tmod_eq_emod_of_nonneg (by omega)]; exact R1.out
        have s2 : IntKind.i64.wrap (q : Int) = (q : Int) := IntWalk.i64_in _ (by omega)
        have s3 : IntKind.i64.wrap (r : Int) = (r : Int) := IntWalk.i64_in _ (by omega)
        go_region
        go_wp2
        go_roundg (32 - (i + 1))
        case measure => omega
        case rel =>
          refine ⟨i + 1, by omega, Nat.le_refl _, by go_num, ?_, (HB.out.setCell HGE.out _).drew⟩
          have hn := (HRR.out.set (k := q) (by rw [flips_length, sealed_length]; have := HK2.out; have := HQD.out; omega) (bat (flips (sealed s) k t i) q ^^^ (1 <<< UInt8.ofNat r))).drew
          rw [← xor8, bit8 r r2] at hn
          rw [flips, if_pos ht, flip, ← HQD.out, ← HRD.out]
          exact hn
      | false =>
        rw [ht, if_neg (by decide)] at hx
        go_wp2
        go_roundg (32 - (i + 1))
        case measure => omega
        case rel => exact ⟨i + 1, by omega, Nat.le_refl _, by go_num, by rw [flips, ht, if_neg (by decide)]; exact HRR.out, HB.out⟩
    · obtain rfl : i = 32 := by omega
      have hl : (flips (sealed s) k t 32).length = s.size + 4 := by rw [flips_length, sealed_length]
      obtain ⟨p', q', hpq, hq'⟩ : ∃ p' q', flips (sealed s) k t 32 = p' ++ q' ∧ q'.length = 4 := ⟨(flips (sealed s) k t 32).take s.size, (flips (sealed s) k t 32).drop s.size, (List.take_append_drop _ _).symm, by rw [List.length_drop, hl]; omega⟩
      have hp' : p'.length = s.size := by
        rw [hpq, List.length_append, hq'] at hl
        omega
      have HNE := Lib.hid (turned_ne (bl s) p' q' k t HT0.out (by have := HK2.out; rw [show (bl s ++ tl (crc (bl s))).length = s.size + 4 from sealed_length s]; exact this) hpq)
      have hop := open_at g 0 cap3 p' q' wr hq' HRR.out.lt (by rw [← hpq]; exact HRR.out.lies) (by omega) (by omega)
      rw [hp'] at hop
      clear hl hpq hq' hp'
      go_wp2_with fail
      refine hop.mono ?_
      rintro e w5 (⟨he, _⟩ | ⟨_, rfl, hb5⟩)
      · exact absurd he HNE.out
      · have HB5 := Lib.hid (HB.out.trans (hb5.mono HB.out.size))
        clear hb5 hop
        go_wp2
        go_ret
        exact ⟨rfl, HB5.out⟩

theorem turned_all (s : ByteArray) (at_ n : Nat) (hn : n < 4294967296) (w : World) : Calls Try.prog 7 #[.string s, .int .u64 at_, .int .u32 n] w fun e w' => e = .returned (.bool true) ∧ Below w.heap.size w w' := by
  have h := turned_walk s at_ (BitVec.ofNat 32 n) w
  rwa [show (BitVec.ofNat 32 n).toNat = n from by simp [BitVec.toNat_ofNat]; omega] at h

end Go.Proofs.Ytbekgecaoibnjaa
