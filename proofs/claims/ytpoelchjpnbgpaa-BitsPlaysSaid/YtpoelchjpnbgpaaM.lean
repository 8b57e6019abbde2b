/- The document's Has, Len, Or, But: of texts. -/
import Derived.Test.YtpoelchjpnbgpaaI
namespace Go.Proofs.Ytpoelchjpnbgpaa
open Go.RowKit Go.Sort

theorem dg_beq (b : Bool) : (((dg b).toNat : Int) == 49) = b := by cases b <;> rfl
set_option maxHeartbeats 800000 in
theorem rhas_out (s : B8) (b : Int) (hb : b < 0 ∨ 8 ≤ b) (w : World) : Calls Try.prog 25 #[.string (txt s), .int .i64 b] w fun e w' => e = .returned (.bool false) ∧ Below w.heap.size w w' := by
  rcases hb with hb | hb
  · have h1 : ¬ 0 ≤ b := by omega
    clear hb
    go_enter Try.func25, Try.ntmps25
    go_wp2
    go_ret
    exact ⟨rfl, Below.refl _ _⟩
  · have h1 : ¬ b ≤ 7 := by omega
    have h2 : 0 ≤ b := by omega
    clear hb
    go_enter Try.func25, Try.ntmps25
    go_wp2
    go_ret
    exact ⟨rfl, Below.refl _ _⟩
set_option maxHeartbeats 800000 in
theorem rhas_0 (s : B8) (w : World) : Calls Try.prog 25 #[.string (txt s), .int .i64 0] w fun e w' => e = .returned (.bool (s.get 0)) ∧ Below w.heap.size w w' := by
  have hz := txt_size' s
  go_enter Try.func25, Try.ntmps25
  go_wp2
  go_ret
  exact ⟨ret_bool (dg_beq s.b0), Below.refl _ _⟩
set_option maxHeartbeats 800000 in
theorem rhas_1 (s : B8) (w : World) : Calls Try.prog 25 #[.string (txt s), .int .i64 1] w fun e w' => e = .returned (.bool (s.get 1)) ∧ Below w.heap.size w w' := by
  have hz := txt_size' s
  go_enter Try.func25, Try.ntmps25
  go_wp2
  go_ret
  exact ⟨ret_bool (dg_beq s.b1), Below.refl _ _⟩
set_option maxHeartbeats 800000 in
theorem rhas_2 (s : B8) (w : World) : Calls Try.prog 25 #[.string (txt s), .int .i64 2] w fun e w' => e = .returned (.bool (s.get 2)) ∧ Below w.heap.size w w' := by
  have hz := txt_size' s
  go_enter Try.func25, Try.ntmps25
  go_wp2
  go_ret
  exact ⟨ret_bool (dg_beq s.b2), Below.refl _ _⟩
set_option maxHeartbeats 800000 in
theorem rhas_3 (s : B8) (w : World) : Calls Try.prog 25 #[.string (txt s), .int .i64 3] w fun e w' => e = .returned (.bool (s.get 3)) ∧ Below w.heap.size w w' := by
  have hz := txt_size' s
  go_enter Try.func25, Try.ntmps25
  go_wp2
  go_ret
  exact ⟨ret_bool (dg_beq s.b3), Below.refl _ _⟩
set_option maxHeartbeats 800000 in
theorem rhas_4 (s : B8) (w : World) : Calls Try.prog 25 #[.string (txt s), .int .i64 4] w fun e w' => e = .returned (.bool (s.get 4)) ∧ Below w.heap.size w w' := by
  have hz := txt_size' s
  go_enter Try.func25, Try.ntmps25
  go_wp2
  go_ret
  exact ⟨ret_bool (dg_beq s.b4), Below.refl _ _⟩
set_option maxHeartbeats 800000 in
theorem rhas_5 (s : B8) (w : World) : Calls Try.prog 25 #[.string (txt s), .int .i64 5] w fun e w' => e = .returned (.bool (s.get 5)) ∧ Below w.heap.size w w' := by
  have hz := txt_size' s
  go_enter Try.func25, Try.ntmps25
  go_wp2
  go_ret
  exact ⟨ret_bool (dg_beq s.b5), Below.refl _ _⟩
set_option maxHeartbeats 800000 in
theorem rhas_6 (s : B8) (w : World) : Calls Try.prog 25 #[.string (txt s), .int .i64 6] w fun e w' => e = .returned (.bool (s.get 6)) ∧ Below w.heap.size w w' := by
  have hz := txt_size' s
  go_enter Try.func25, Try.ntmps25
  go_wp2
  go_ret
  exact ⟨ret_bool (dg_beq s.b6), Below.refl _ _⟩
set_option maxHeartbeats 800000 in
theorem rhas_7 (s : B8) (w : World) : Calls Try.prog 25 #[.string (txt s), .int .i64 7] w fun e w' => e = .returned (.bool (s.get 7)) ∧ Below w.heap.size w w' := by
  have hz := txt_size' s
  go_enter Try.func25, Try.ntmps25
  go_wp2
  go_ret
  exact ⟨ret_bool (dg_beq s.b7), Below.refl _ _⟩

theorem rhas_any (s : B8) (b : Int) (w : World) : Calls Try.prog 25 #[.string (txt s), .int .i64 b] w fun e w' => e = .returned (.bool (s.get b)) ∧ Below w.heap.size w w' := by
  by_cases h : b < 0 ∨ 8 ≤ b
  · rw [B8.get_out s b h]
    exact rhas_out s b h w
  · obtain rfl | rfl | rfl | rfl | rfl | rfl | rfl | rfl : b = 0 ∨ b = 1 ∨ b = 2 ∨ b = 3 ∨ b = 4 ∨ b = 5 ∨ b = 6 ∨ b = 7 := by omega
    · exact rhas_0 s w
    · exact rhas_1 s w
    · exact rhas_2 s w
    · exact rhas_3 s w
    · exact rhas_4 s w
    · exact rhas_5 s w
    · exact rhas_6 s w
    · exact rhas_7 s w
theorem elsTo_len (s : B8) (k : Nat) : (elsTo s (k + 1)).length = (elsTo s k).length + if s.get k = true then 1 else 0 := by
  rw [elsTo, List.length_append]
  split <;> rfl
set_option maxHeartbeats 1600000 in
theorem rlen_any (s : B8) (w : World) : Calls Try.prog 24 #[.string (txt s)] w fun e w' => e = .returned (.int .i64 (els s).length) ∧ Below w.heap.size w w' := by
  go_enter Try.func24, Try.ntmps24
  go_wp2
  go_loopg [3, 4] 8 (fun n v t wr => ∃ k : Nat, k ≤ 8 ∧ 8 - k ≤ n ∧ t = .int .i64 k ∧ v = .int .i64 (elsTo s k).length ∧ Below w.heap.size w wr)
  case atStart => exact ⟨0, Nat.zero_le _, by omega, rfl, rfl, Below.refl _ _⟩
  case round =>
    obtain ⟨k, hk, hn, rfl, rfl, hB⟩ := hrel
    have HB := Lib.hid hB
    clear hB
    by_cases hlt : k < 8
    · have hlt' : (k : Int) < 8 := by omega
      have HL := Lib.hid (elsTo_len s k)
      have HLE := Lib.hid (elsTo_length s k)
      go_wp2_with fail
      refine (rhas_any s k _).mono ?_
      rintro e w1 ⟨rfl, hb1⟩
      have HB1 := Lib.hid (HB.out.trans (hb1.mono HB.out.size))
      clear hb1
      cases hg : s.get (k : Int) with
      | true =>
        have HL2 := Lib.hid (show (elsTo s (k + 1)).length = (elsTo s k).length + 1 from by rw [HL.out, hg]; rfl)
        clear hg
        have s1 : IntKind.i64.wrap (((elsTo s k).length : Int) + 1) = ((elsTo s k).length : Int) + 1 := IntWalk.i64_in _ (by have := HLE.out; omega)
        go_wp2
        go_roundg (8 - (k + 1))
        case measure => omega
        case rel => exact ⟨k + 1, by omega, Nat.le_refl _, by go_num, by rw [HL2.out]; go_num, HB1.out⟩
      | false =>
        have HL2 := Lib.hid (show (elsTo s (k + 1)).length = (elsTo s k).length from by rw [HL.out, hg]; rfl)
        clear hg
        go_wp2
        go_roundg (8 - (k + 1))
        case measure => omega
        case rel => exact ⟨k + 1, by omega, Nat.le_refl _, by go_num, by rw [HL2.out], HB1.out⟩
    · obtain rfl : k = 8 := by omega
      go_wp2
      go_ret
      exact ⟨rfl, HB.out⟩
theorem orF_snoc (s o : B8) (k : Nat) : orF s (elsTo o (k + 1)) = if o.get k = true then (orF s (elsTo o k)).set k true else orF s (elsTo o k) := by
  rw [elsTo]
  split
  · rw [orF, List.foldl_append]; rfl
  · rw [List.append_nil]
set_option maxHeartbeats 1600000 in
theorem ror_any (s o : B8) (w : World) : Calls Try.prog 21 #[.string (txt s), .string (txt o)] w fun e w' => e = .returned (.string (txt (orS s o))) ∧ Below w.heap.size w w' := by
  go_enter Try.func21, Try.ntmps21
  go_wp2
  go_loopg [0, 5] 8 (fun n v t wr => ∃ k : Nat, k ≤ 8 ∧ 8 - k ≤ n ∧ t = .int .i64 k ∧ v = .string (txt (orF s (elsTo o k))) ∧ Below w.heap.size w wr)
  case atStart => exact ⟨0, Nat.zero_le _, by omega, rfl, rfl, Below.refl _ _⟩
  case round =>
    obtain ⟨k, hk, hn, rfl, rfl, hB⟩ := hrel
    have HB := Lib.hid hB
    clear hB
    by_cases hlt : k < 8
    · have hlt' : (k : Int) < 8 := by omega
      have HL := Lib.hid (orF_snoc s o k)
      go_wp2_with fail
      refine (rhas_any o k _).mono ?_
      rintro e w1 ⟨rfl, hb1⟩
      have HB1 := Lib.hid (HB.out.trans (hb1.mono HB.out.size))
      clear hb1
      cases hg : o.get (k : Int) with
      | true =>
        have HL2 := Lib.hid (show orF s (elsTo o (k + 1)) = (orF s (elsTo o k)).set k true from by rw [HL.out, hg]; rfl)
        clear hg
        go_wp2_with fail
        refine (rwith_any _ k _).mono ?_
        rintro e w2 ⟨rfl, hb2⟩
        have HB2 := Lib.hid (HB1.out.trans (hb2.mono HB1.out.size))
        clear hb2
        go_wp2
        go_roundg (8 - (k + 1))
        case measure => omega
        case rel => exact ⟨k + 1, by omega, Nat.le_refl _, by go_num, by rw [HL2.out], HB2.out⟩
      | false =>
        have HL2 := Lib.hid (show orF s (elsTo o (k + 1)) = orF s (elsTo o k) from by rw [HL.out, hg]; rfl)
        clear hg
        go_wp2
        go_roundg (8 - (k + 1))
        case measure => omega
        case rel => exact ⟨k + 1, by omega, Nat.le_refl _, by go_num, by rw [HL2.out], HB1.out⟩
    · obtain rfl : k = 8 := by omega
      go_wp2
      go_ret
      exact ⟨rfl, HB.out⟩
theorem butF_snoc (s o : B8) (k : Nat) : butF s (elsTo o (k + 1)) = if o.get k = true then (butF s (elsTo o k)).set k false else butF s (elsTo o k) := by
  rw [elsTo]
  split
  · rw [butF, List.foldl_append]; rfl
  · rw [List.append_nil]
set_option maxHeartbeats 1600000 in
theorem rbut_any (s o : B8) (w : World) : Calls Try.prog 22 #[.string (txt s), .string (txt o)] w fun e w' => e = .returned (.string (txt (butS s o))) ∧ Below w.heap.size w w' := by
  go_enter Try.func22, Try.ntmps22
  go_wp2
  go_loopg [0, 5] 8 (fun n v t wr => ∃ k : Nat, k ≤ 8 ∧ 8 - k ≤ n ∧ t = .int .i64 k ∧ v = .string (txt (butF s (elsTo o k))) ∧ Below w.heap.size w wr)
  case atStart => exact ⟨0, Nat.zero_le _, by omega, rfl, rfl, Below.refl _ _⟩
  case round =>
    obtain ⟨k, hk, hn, rfl, rfl, hB⟩ := hrel
    have HB := Lib.hid hB
    clear hB
    by_cases hlt : k < 8
    · have hlt' : (k : Int) < 8 := by omega
      have HL := Lib.hid (butF_snoc s o k)
      go_wp2_with fail
      refine (rhas_any o k _).mono ?_
      rintro e w1 ⟨rfl, hb1⟩
      have HB1 := Lib.hid (HB.out.trans (hb1.mono HB.out.size))
      clear hb1
      cases hg : o.get (k : Int) with
      | true =>
        have HL2 := Lib.hid (show butF s (elsTo o (k + 1)) = (butF s (elsTo o k)).set k false from by rw [HL.out, hg]; rfl)
        clear hg
        go_wp2_with fail
        refine (rwithout_any _ k _).mono ?_
        rintro e w2 ⟨rfl, hb2⟩
        have HB2 := Lib.hid (HB1.out.trans (hb2.mono HB1.out.size))
        clear hb2
        go_wp2
        go_roundg (8 - (k + 1))
        case measure => omega
        case rel => exact ⟨k + 1, by omega, Nat.le_refl _, by go_num, by rw [HL2.out], HB2.out⟩
      | false =>
        have HL2 := Lib.hid (show butF s (elsTo o (k + 1)) = butF s (elsTo o k) from by rw [HL.out, hg]; rfl)
        clear hg
        go_wp2
        go_roundg (8 - (k + 1))
        case measure => omega
        case rel => exact ⟨k + 1, by omega, Nat.le_refl _, by go_num, by rw [HL2.out], HB1.out⟩
    · obtain rfl : k = 8 := by omega
      go_wp2
      go_ret
      exact ⟨rfl, HB.out⟩

end Go.Proofs.Ytpoelchjpnbgpaa
