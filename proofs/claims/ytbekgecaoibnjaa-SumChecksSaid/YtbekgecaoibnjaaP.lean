/- The document's answer: its Of, Seal, Open, Sector, walked. -/
import Derived.Test.YtbekgecaoibnjaaI
import Derived.Test.YtbekgecaoibnjaaJ
import Derived.IntWalk
namespace Go.Proofs.Ytbekgecaoibnjaa
open Go.RowKit Go.Sort

theorem ms_succ (n : Nat) (c : BitVec 32) : ms (n + 1) c = mm (ms n c) := ms_add n 1 c
theorem mm_odd (c : BitVec 32) (h : c.toNat % 2 = 1) : bits .xor .u32 ((c.toNat : Int) / 2) 2197175160 = ((mm c).toNat : Int) := by
  have hb : c.getLsbD 0 = true := by
    rw [BitVec.getLsbD, Nat.testBit_eq_decide_div_mod_eq]
    simp [h]
  rw [mm, if_pos hb, ← xor32]
  rw [BitVec.toNat_ushiftRight, Nat.shiftRight_eq_div_pow]
  rfl
theorem mm_even (c : BitVec 32) (h : c.toNat % 2 = 0) : (c.toNat : Int) / 2 = ((mm c).toNat : Int) := by
  have hb : c.getLsbD 0 = false := by
    rw [BitVec.getLsbD, Nat.testBit_eq_decide_div_mod_eq]
    simp [h]
  rw [mm, if_neg (by rw [hb]; decide), x0]
  rw [BitVec.toNat_ushiftRight, Nat.shiftRight_eq_div_pow]
  rfl
theorem ones_sub (c : BitVec 32) : 4294967295 - (c.toNat : Int) = ((ones ^^^ c).toNat : Int) := by
  have h1 : ones ^^^ c = ~~~ c := by
    rw [show ones = BitVec.allOnes 32 from rfl, BitVec.allOnes_xor]
  rw [h1, BitVec.toNat_not]
  have := c.isLt
  omega

set_option maxHeartbeats 1600000 in
theorem rof_any (s : ByteArray) (w : World) (hs : s.size ≤ 1000000) : Calls Try.prog 15 #[.string s] w fun e w' => e = .returned (.int .u32 (crc (bl s)).toNat) ∧ w = w' := by
  go_enter Try.func15, Try.ntmps15
  go_wp2
  go_loop [3, 4] (fun c t => ∃ k : Nat, k ≤ s.size ∧ t = .int .i64 k ∧ c = .int .u32 (run ones ((bl s).take k)).toNat) (fun _ t => s.size - (intOf t).toNat)
  case atStart => exact ⟨0, Nat.zero_le _, rfl, rfl⟩
  case round =>
    obtain ⟨k, hk, rfl, rfl⟩ := hrel
    by_cases hlt : k < s.size
    · have HS := Lib.hid (run_snoc ones (bl s) k hlt)
      have hb := bat_get hlt
      obtain ⟨c0, hc0⟩ : ∃ c0, c0 = run ones ((bl s).take k) ^^^ wd (bat (bl s) k) := ⟨_, rfl⟩
      have e2 : bits .xor .u32 ((run ones ((bl s).take k)).toNat : Int) (((s[k]'hlt).toNat : Int) % 4294967296) = (c0.toNat : Int) := by
        rw [hc0, ← xor32, wd_toNat, hb]
        congr 1
        have := (s[k]'hlt).toNat_lt
        omega
      have HC := Lib.hid hc0
      clear hc0
      have hlt2 : (k : Int) < (s.size : Int) := by omega
      have HB := Lib.hid hb
      clear hb
      go_wp2
      go_loop [3, 5] (fun c t => ∃ j : Nat, j ≤ 8 ∧ t = .int .i64 j ∧ c = .int .u32 (ms j c0).toNat) (fun _ t => 8 - (intOf t).toNat)
      case atStart => exact ⟨0, Nat.zero_le _, rfl, rfl⟩
      case round =>
        obtain ⟨j, hj, rfl, rfl⟩ := hrel
        by_cases hlt8 : j < 8
        · have hms := Lib.hid (ms_succ j c0)
          by_cases hp : (ms j c0).toNat % 2 = 1
          · have h1 := mm_odd _ hp
            have h0 : ((ms j c0).toNat : Int) % 2 = 1 := by omega
            clear hp
            go_wp2
            go_round
            case rel => exact ⟨j + 1, by omega, by go_num, by rw [hms.out]⟩
            case measure => simp [intOf]; omega
          · have h1 := mm_even (ms j c0) (by omega)
            have h0 : ((ms j c0).toNat : Int) % 2 = 0 := by omega
            clear hp
            go_wp2
            go_round
            case rel => exact ⟨j + 1, by omega, by go_num, by rw [hms.out]⟩
            case measure => simp [intOf]; omega
        · obtain rfl : j = 8 := by omega
          go_wp2
          go_round
          case rel => exact ⟨k + 1, by omega, by go_num, by rw [HS.out, stp_ms, ← HC.out]⟩
          case measure => simp [intOf]; omega
    · obtain rfl : k = s.size := by omega
      have h1 := Lib.hid (ones_sub (run ones (bl s)))
      have h2 : IntKind.u32.wrap (4294967295 - ((run ones (bl s)).toNat : Int)) = 4294967295 - ((run ones (bl s)).toNat : Int) := by
        have := (run ones (bl s)).isLt
        rw [IntKind.wrap_u32']
        omega
      rw [List.take_of_length_le (by rw [bl_length]; exact Nat.le_refl _)]
      go_wp2
      go_ret
      exact ⟨by rw [crc, ← h1.out]; rfl, rfl⟩

/-! ### Seal -/
def bs (l : List UInt8) : ByteArray := ⟨l.toArray⟩
theorem u8mod (n : Nat) : ((UInt8.ofNat n).toNat : Int) = (n : Int) % 256 := by
  rw [UInt8.toNat_ofNat']
  omega
theorem conv_four (W : World) (x : BitVec 32) : (convert 23 9 (.slice (some ⟨W.heap.size, 0, none⟩) 4 4)).run Try.prog (W.alloc (.cells #[.int .u8 ((x.toNat : Int) % 256), .int .u8 ((x.toNat : Int) / 256 % 256), .int .u8 ((x.toNat : Int) / 65536 % 256), .int .u8 ((x.toNat : Int) / 16777216)] 5)) =
    .ok (.string (bs (tl x))) (W.alloc (.cells #[.int .u8 ((x.toNat : Int) % 256), .int .u8 ((x.toNat : Int) / 256 % 256), .int .u8 ((x.toNat : Int) / 65536 % 256), .int .u8 ((x.toNat : Int) / 16777216)] 5)) := by
  have h := LiesB.new W (tl x) 5 (0, 0)
  have hx := x.isLt
  have hb : (bvals (tl x)).toArray = #[.int .u8 ((x.toNat : Int) % 256), .int .u8 ((x.toNat : Int) / 256 % 256), .int .u8 ((x.toNat : Int) / 65536 % 256), .int .u8 ((x.toNat : Int) / 16777216)] := by
    simp only [bvals, tl, List.map_cons, List.map_nil, u8mod]
    rw [show (((x.toNat / 256 : Nat) : Int)) = (x.toNat : Int) / 256 from rfl, show (((x.toNat / 65536 : Nat) : Int)) = (x.toNat : Int) / 65536 from rfl, show (((x.toNat / 16777216 : Nat) : Int)) = (x.toNat : Int) / 16777216 from rfl]
    rw [show (x.toNat : Int) / 16777216 % 256 = (x.toNat : Int) / 16777216 from by omega]
  rw [hb] at h
  exact str_lies (cap := 4) h
theorem bs_sealed (s : ByteArray) : s ++ bs (tl (crc (bl s))) = bs (sealed s) := by
  apply ByteArray.ext
  rw [ByteArray.data_append]
  simp [bs, sealed, bl]
set_option maxHeartbeats 1600000 in
theorem rseal_any (s : ByteArray) (w : World) (hs : s.size ≤ 1000000) : Calls Try.prog 17 #[.string s] w fun e w' => e = .returned (.string (bs (sealed s))) ∧ Below w.heap.size w w' := by
  have hcv := conv_four w (crc (bl s))
  go_enter Try.func17, Try.ntmps17
  go_wp2_with fail
  refine (rof_any s w hs).mono ?_
  rintro e w1 ⟨rfl, rfl⟩
  have hsz : ¬ 9223372036854775807 < s.size + (bs (tl (crc (bl s)))).size := by
    rw [show (bs (tl (crc (bl s)))).size = 4 from rfl]
    omega
  go_wp2
  go_ret
  exact ⟨by rw [← bs_sealed]; rfl, (Below.refl _ _).alloc (Nat.le_refl _) _⟩

/-! ### Open -/
def ROpen (s : ByteArray) (e : Ending) : Prop :=
  (∃ p q, bl s = p ++ q ∧ q.length = 4 ∧ tl (crc p) = q ∧ e = .returned (.tuple #[.string (bs p), .bool true])) ∨
  ((∀ p q, bl s = p ++ q → q.length = 4 → tl (crc p) ≠ q) ∧ e = .returned (.tuple #[.string ⟨#[]⟩, .bool false]))
set_option maxHeartbeats 1600000 in
theorem ropen_any (s : ByteArray) (w : World) (hs : s.size ≤ 1000000) : Calls Try.prog 11 #[.string s] w fun e w' => ROpen s e ∧ Below w.heap.size w w' := by
  go_enter Try.func11, Try.ntmps11
  by_cases h4 : s.size < 4
  · have h4' : (s.size : Int) < 4 := by omega
    have HN : Hid (∀ p q, bl s = p ++ q → q.length = 4 → tl (crc p) ≠ q) := fun p q h1 h2 => by
      have h3 := congrArg List.length h1
      rw [bl_length, List.length_append, h2] at h3
      omega
    go_wp2
    go_ret2
    exact ⟨.inr ⟨HN.out, rfl⟩, Below.refl _ _⟩
  · have h4' : ¬ ((s.size : Int) < 4) := by omega
    obtain ⟨p, q, hpq, hq⟩ : ∃ p q, bl s = p ++ q ∧ q.length = 4 := ⟨(bl s).take (s.size - 4), (bl s).drop (s.size - 4), (List.take_append_drop _ _).symm, by rw [List.length_drop, bl_length]; omega⟩
    have hsz : s.size = p.length + 4 := by rw [← bl_length, hpq, List.length_append, hq]
    have hex : s.extract 0 p.length = bs p := by
      have h := ext_bl (a := s) (k := p.length) (by omega)
      rw [hpq, List.take_left] at h
      rw [← bl_back (s.extract 0 p.length), h]
      rfl
    have hi : (s.size : Int) - 4 = (p.length : Int) := by omega
    have hi2 : (p.length : Int) ≤ (s.size : Int) := by omega
    have hps : (bs p).size ≤ 1000000 := by
      rw [show (bs p).size = p.length from rfl]
      omega
    have HPQ := Lib.hid hpq
    have HQ := Lib.hid hq
    clear hpq hq hsz
    by_cases he : tl (crc p) = q
    · have hse : bs (sealed (bs p)) = s := by
        rw [sealed, show bl (bs p) = p from rfl, he, ← HPQ.out]
        rfl
      have HE := Lib.hid he
      clear he
      go_wp2_with fail
      refine (rseal_any (bs p) w hps).mono ?_
      rw [hse]
      rintro e w1 ⟨rfl, hb1⟩
      have HB := Lib.hid hb1
      clear hse hb1
      go_wp2
      go_ret2
      exact ⟨.inl ⟨p, q, HPQ.out, HQ.out, HE.out, rfl⟩, HB.out⟩
    · have hse : ((bs (sealed (bs p))).toList == s.toList) = false := by
        rw [beq_eq_false_iff_ne, ByteArray.toList_eq, ByteArray.toList_eq]
        intro h
        have h2 : p ++ tl (crc p) = bl s := h
        rw [HPQ.out] at h2
        exact he (List.append_cancel_left h2)
      have HE : Hid (∀ p q, bl s = p ++ q → q.length = 4 → tl (crc p) ≠ q) := fun p2 q2 h1 h2 => by
        rw [HPQ.out] at h1
        have h3 := List.append_inj' h1 (by rw [HQ.out, h2])
        rw [← h3.1, ← h3.2]
        exact he
      clear he
      go_wp2_with fail
      refine (rseal_any (bs p) w hps).mono ?_
      rintro e w1 ⟨rfl, hb1⟩
      have HB := Lib.hid hb1
      clear hb1
      go_wp2
      go_ret2
      exact ⟨.inr ⟨HE.out, rfl⟩, HB.out⟩

/-! ### Sector -/
def RSector (s : ByteArray) (e : Ending) : Prop :=
  (s.size ≤ 60 ∧ e = .returned (.tuple #[.string (bs (sct (bl s))), .bool true])) ∨ (60 < s.size ∧ e = .returned (.tuple #[.string ⟨#[]⟩, .bool false]))
theorem rsize (s : ByteArray) (k : Nat) : (bs (bl s ++ List.replicate k 0)).size = s.size + k := by
  rw [show (bs (bl s ++ List.replicate k 0)).size = (bl s ++ List.replicate k 0).length from rfl, List.length_append, List.length_replicate, bl_length]
set_option maxHeartbeats 1600000 in
theorem rsector_any (s : ByteArray) (w : World) : Calls Try.prog 13 #[.string s] w fun e w' => RSector s e ∧ Below w.heap.size w w' := by
  go_enter Try.func13, Try.ntmps13
  by_cases h60 : (60 : Int) < (s.size : Int)
  · have hn : 60 < s.size := by omega
    go_wp2
    go_ret2
    exact ⟨.inr ⟨hn, rfl⟩, Below.refl _ _⟩
  · have hn : s.size ≤ 60 := by omega
    go_wp2
    go_loop [0] (fun t => ∃ k : Nat, s.size + k ≤ 60 ∧ t = .string (bs (bl s ++ List.replicate k 0))) (fun t => match t with | .string x => 60 - x.size | _ => 0)
    case atStart => exact ⟨0, hn, by simp [bs, bl]⟩
    case round =>
      obtain ⟨k, hk, rfl⟩ := hrel
      have hz := rsize s k
      by_cases hlt : s.size + k < 60
      · have hx : bs (bl s ++ List.replicate k 0) ++ ⟨#[0]⟩ = bs (bl s ++ List.replicate (k + 1) 0) := by
          apply ByteArray.ext
          rw [ByteArray.data_append]
          simp [bs, List.replicate_succ']
        go_wp2
        go_round
        case rel => exact ⟨k + 1, by omega, rfl⟩
        case measure =>
          have hz1 := rsize s (k + 1)
          simp
          omega
      · have hp : bs (bl s ++ List.replicate k 0) = bs (pad (bl s)) := by
          rw [pad, bl_length, show 60 - s.size = k from by omega]
        have hps : (bs (pad (bl s))).size ≤ 1000000 := by
          rw [← hp, hz]
          omega
        have HN := Lib.hid hn
        have HP := Lib.hid hp
        clear hn hp
        go_wp2_with fail
        rw [HP.out]
        refine (rseal_any (bs (pad (bl s))) w hps).mono ?_
        rintro e w1 ⟨rfl, hb1⟩
        have HB := Lib.hid hb1
        clear hb1
        go_wp2
        go_ret2
        exact ⟨.inl ⟨HN.out, rfl⟩, HB.out⟩

end Go.Proofs.Ytbekgecaoibnjaa
