/- The document's sets, as texts: put, With, Without, Has, of. -/
import Derived.Test.YtpoelchjpnbgpaaG
namespace Go.Proofs.Ytpoelchjpnbgpaa
open Go.RowKit Go.Sort

theorem txt_size' (s : B8) : (txt s).size = 8 := rfl
set_option maxHeartbeats 800000 in
theorem rput_out (s : B8) (b : Int) (hb : b < 0 ∨ 8 ≤ b) (v : Bool) (w : World) : Calls Try.prog 28 #[.string (txt s), .int .i64 b, .string ⟨#[dg v]⟩] w fun e w' => e = .returned (.string (txt s)) ∧ Below w.heap.size w w' := by
  rcases hb with hb | hb
  · go_enter Try.func28, Try.ntmps28
    go_wp2
    go_ret
    exact ⟨rfl, Below.refl _ _⟩
  · have h1 : 7 < b := by omega
    have h2 : ¬ b < 0 := by omega
    clear hb
    go_enter Try.func28, Try.ntmps28
    go_wp2
    go_ret
    exact ⟨rfl, Below.refl _ _⟩
set_option maxHeartbeats 800000 in
theorem rput_0 (s : B8) (v : Bool) (w : World) : Calls Try.prog 28 #[.string (txt s), .int .i64 0, .string ⟨#[dg v]⟩] w fun e w' => e = .returned (.string (txt (s.set 0 v))) ∧ Below w.heap.size w w' := by
  have e1 : (txt s).extract 0 0 ++ ⟨#[dg v]⟩ ++ (txt s).extract 1 8 = txt (s.set 0 v) := by kernel_rfl
  have E1 := Lib.hid e1
  have hz := txt_size' s
  have h1 : ((txt s).extract 0 0).size = 0 := by kernel_rfl
  have h2 : ((txt s).extract 0 0 ++ ⟨#[dg v]⟩).size = 1 := by kernel_rfl
  have h3 : ((txt s).extract 1 8).size = 7 := by kernel_rfl
  have h4 : (⟨#[dg v]⟩ : ByteArray).size = 1 := rfl
  clear e1
  go_enter Try.func28, Try.ntmps28
  go_wp2
  go_quiet (fail)
  go_wp2
  go_ret
  exact ⟨by rw [← E1.out]; rfl, below_drewN (Below.refl _ _) _⟩
set_option maxHeartbeats 800000 in
theorem rput_1 (s : B8) (v : Bool) (w : World) : Calls Try.prog 28 #[.string (txt s), .int .i64 1, .string ⟨#[dg v]⟩] w fun e w' => e = .returned (.string (txt (s.set 1 v))) ∧ Below w.heap.size w w' := by
  have e1 : (txt s).extract 0 1 ++ ⟨#[dg v]⟩ ++ (txt s).extract 2 8 = txt (s.set 1 v) := by kernel_rfl
  have E1 := Lib.hid e1
  have hz := txt_size' s
  have h1 : ((txt s).extract 0 1).size = 1 := by kernel_rfl
  have h2 : ((txt s).extract 0 1 ++ ⟨#[dg v]⟩).size = 2 := by kernel_rfl
  have h3 : ((txt s).extract 2 8).size = 6 := by kernel_rfl
  have h4 : (⟨#[dg v]⟩ : ByteArray).size = 1 := rfl
  clear e1
  go_enter Try.func28, Try.ntmps28
  go_wp2
  go_quiet (fail)
  go_wp2
  go_ret
  exact ⟨by rw [← E1.out]; rfl, below_drewN (Below.refl _ _) _⟩
set_option maxHeartbeats 800000 in
theorem rput_2 (s : B8) (v : Bool) (w : World) : Calls Try.prog 28 #[.string (txt s), .int .i64 2, .string ⟨#[dg v]⟩] w fun e w' => e = .returned (.string (txt (s.set 2 v))) ∧ Below w.heap.size w w' := by
  have e1 : (txt s).extract 0 2 ++ ⟨#[dg v]⟩ ++ (txt s).extract 3 8 = txt (s.set 2 v) := by kernel_rfl
  have E1 := Lib.hid e1
  have hz := txt_size' s
  have h1 : ((txt s).extract 0 2).size = 2 := by kernel_rfl
  have h2 : ((txt s).extract 0 2 ++ ⟨#[dg v]⟩).size = 3 := by kernel_rfl
  have h3 : ((txt s).extract 3 8).size = 5 := by kernel_rfl
  have h4 : (⟨#[dg v]⟩ : ByteArray).size = 1 := rfl
  clear e1
  go_enter Try.func28, Try.ntmps28
  go_wp2
  go_quiet (fail)
  go_wp2
  go_ret
  exact ⟨by rw [← E1.out]; rfl, below_drewN (Below.refl _ _) _⟩
set_option maxHeartbeats 800000 in
theorem rput_3 (s : B8) (v : Bool) (w : World) : Calls Try.prog 28 #[.string (txt s), .int .i64 3, .string ⟨#[dg v]⟩] w fun e w' => e = .returned (.string (txt (s.set 3 v))) ∧ Below w.heap.size w w' := by
  have e1 : (txt s).extract 0 3 ++ ⟨#[dg v]⟩ ++ (txt s).extract 4 8 = txt (s.set 3 v) := by kernel_rfl
  have E1 := Lib.hid e1
  have hz := txt_size' s
  have h1 : ((txt s).extract 0 3).size = 3 := by kernel_rfl
  have h2 : ((txt s).extract 0 3 ++ ⟨#[dg v]⟩).size = 4 := by kernel_rfl
  have h3 : ((txt s).extract 4 8).size = 4 := by kernel_rfl
  have h4 : (⟨#[dg v]⟩ : ByteArray).size = 1 := rfl
  clear e1
  go_enter Try.func28, Try.ntmps28
  go_wp2
  go_quiet (fail)
  go_wp2
  go_ret
  exact ⟨by rw [← E1.out]; rfl, below_drewN (Below.refl _ _) _⟩
set_option maxHeartbeats 800000 in
theorem rput_4 (s : B8) (v : Bool) (w : World) : Calls Try.prog 28 #[.string (txt s), .int .i64 4, .string ⟨#[dg v]⟩] w fun e w' => e = .returned (.string (txt (s.set 4 v))) ∧ Below w.heap.size w w' := by
  have e1 : (txt s).extract 0 4 ++ ⟨#[dg v]⟩ ++ (txt s).extract 5 8 = txt (s.set 4 v) := by kernel_rfl
  have E1 := Lib.hid e1
  have hz := txt_size' s
  have h1 : ((txt s).extract 0 4).size = 4 := by kernel_rfl
  have h2 : ((txt s).extract 0 4 ++ ⟨#[dg v]⟩).size = 5 := by kernel_rfl
  have h3 : ((txt s).extract 5 8).size = 3 := by kernel_rfl
  have h4 : (⟨#[dg v]⟩ : ByteArray).size = 1 := rfl
  clear e1
  go_enter Try.func28, Try.ntmps28
  go_wp2
  go_quiet (fail)
  go_wp2
  go_ret
  exact ⟨by rw [← E1.out]; rfl, below_drewN (Below.refl _ _) _⟩
set_option maxHeartbeats 800000 in
theorem rput_5 (s : B8) (v : Bool) (w : World) : Calls Try.prog 28 #[.string (txt s), .int .i64 5, .string ⟨#[dg v]⟩] w fun e w' => e = .returned (.string (txt (s.set 5 v))) ∧ Below w.heap.size w w' := by
  have e1 : (txt s).extract 0 5 ++ ⟨#[dg v]⟩ ++ (txt s).extract 6 8 = txt (s.set 5 v) := by kernel_rfl
  have E1 := Lib.hid e1
  have hz := txt_size' s
  have h1 : ((txt s).extract 0 5).size = 5 := by kernel_rfl
  have h2 : ((txt s).extract 0 5 ++ ⟨#[dg v]⟩).size = 6 := by kernel_rfl
  have h3 : ((txt s).extract 6 8).size = 2 := by kernel_rfl
  have h4 : (⟨#[dg v]⟩ : ByteArray).size = 1 := rfl
  clear e1
  go_enter Try.func28, Try.ntmps28
  go_wp2
  go_quiet (fail)
  go_wp2
  go_ret
  exact ⟨by rw [← E1.out]; rfl, below_drewN (Below.refl _ _) _⟩
set_option maxHeartbeats 800000 in
theorem rput_6 (s : B8) (v : Bool) (w : World) : Calls Try.prog 28 #[.string (txt s), .int .i64 6, .string ⟨#[dg v]⟩] w fun e w' => e = .returned (.string (txt (s.set 6 v))) ∧ Below w.heap.size w w' := by
  have e1 : (txt s).extract 0 6 ++ ⟨#[dg v]⟩ ++ (txt s).extract 7 8 = txt (s.set 6 v) := by kernel_rfl
  have E1 := Lib.hid e1
  have hz := txt_size' s
  have h1 : ((txt s).extract 0 6).size = 6 := by kernel_rfl
  have h2 : ((txt s).extract 0 6 ++ ⟨#[dg v]⟩).size = 7 := by kernel_rfl
  have h3 : ((txt s).extract 7 8).size = 1 := by kernel_rfl
  have h4 : (⟨#[dg v]⟩ : ByteArray).size = 1 := rfl
  clear e1
  go_enter Try.func28, Try.ntmps28
  go_wp2
  go_quiet (fail)
  go_wp2
  go_ret
  exact ⟨by rw [← E1.out]; rfl, below_drewN (Below.refl _ _) _⟩
set_option maxHeartbeats 800000 in
theorem rput_7 (s : B8) (v : Bool) (w : World) : Calls Try.prog 28 #[.string (txt s), .int .i64 7, .string ⟨#[dg v]⟩] w fun e w' => e = .returned (.string (txt (s.set 7 v))) ∧ Below w.heap.size w w' := by
  have e1 : (txt s).extract 0 7 ++ ⟨#[dg v]⟩ ++ (txt s).extract 8 8 = txt (s.set 7 v) := by kernel_rfl
  have E1 := Lib.hid e1
  have hz := txt_size' s
  have h1 : ((txt s).extract 0 7).size = 7 := by kernel_rfl
  have h2 : ((txt s).extract 0 7 ++ ⟨#[dg v]⟩).size = 8 := by kernel_rfl
  have h3 : ((txt s).extract 8 8).size = 0 := by kernel_rfl
  have h4 : (⟨#[dg v]⟩ : ByteArray).size = 1 := rfl
  clear e1
  go_enter Try.func28, Try.ntmps28
  go_wp2
  go_quiet (fail)
  go_wp2
  go_ret
  exact ⟨by rw [← E1.out]; rfl, below_drewN (Below.refl _ _) _⟩

theorem rput_any (s : B8) (b : Int) (v : Bool) (w : World) : Calls Try.prog 28 #[.string (txt s), .int .i64 b, .string ⟨#[dg v]⟩] w fun e w' => e = .returned (.string (txt (s.set b v))) ∧ Below w.heap.size w w' := by
  by_cases h : b < 0 ∨ 8 ≤ b
  · rw [B8.set_out s b v h]
    exact rput_out s b h v w
  · obtain rfl | rfl | rfl | rfl | rfl | rfl | rfl | rfl : b = 0 ∨ b = 1 ∨ b = 2 ∨ b = 3 ∨ b = 4 ∨ b = 5 ∨ b = 6 ∨ b = 7 := by omega
    · exact rput_0 s v w
    · exact rput_1 s v w
    · exact rput_2 s v w
    · exact rput_3 s v w
    · exact rput_4 s v w
    · exact rput_5 s v w
    · exact rput_6 s v w
    · exact rput_7 s v w
set_option maxHeartbeats 400000 in
theorem rwith_any (s : B8) (b : Int) (w : World) : Calls Try.prog 18 #[.string (txt s), .int .i64 b] w fun e w' => e = .returned (.string (txt (s.set b true))) ∧ Below w.heap.size w w' := by
  go_enter Try.func18, Try.ntmps18
  go_wp2_with fail
  refine (rput_any s b true w).mono ?_
  rintro e w1 ⟨rfl, hb⟩
  have HB := Lib.hid hb
  clear hb
  go_wp2
  go_ret
  exact ⟨rfl, HB.out⟩
set_option maxHeartbeats 400000 in
theorem rwithout_any (s : B8) (b : Int) (w : World) : Calls Try.prog 20 #[.string (txt s), .int .i64 b] w fun e w' => e = .returned (.string (txt (s.set b false))) ∧ Below w.heap.size w w' := by
  go_enter Try.func20, Try.ntmps20
  go_wp2_with fail
  refine (rput_any s b false w).mono ?_
  rintro e w1 ⟨rfl, hb⟩
  have HB := Lib.hid hb
  clear hb
  go_wp2
  go_ret
  exact ⟨rfl, HB.out⟩
set_option maxHeartbeats 1600000 in
theorem rof_any (a : Option Addr) (b off cap : Nat) (zs : List Int) (w : World) (ha : 0 < zs.length → a = some ⟨b, off, none⟩) (hb : 0 < zs.length → b < w.heap.size) (hl : zs.length ≤ 9223372036854775807) (hc : LiesI w b off zs) :
    Calls Try.prog 13 #[.slice a zs.length cap] w fun e w' => e = .returned (.string (txt (ofL zs))) ∧ Below w.heap.size w w' := by
  have HA := Lib.hid ha
  have HB0 := Lib.hid hb
  have HC := Lib.hid hc
  clear ha hb hc
  have h0 : (⟨#[48, 48, 48, 48, 48, 48, 48, 48]⟩ : ByteArray) = txt B8.zero := rfl
  have H0 := Lib.hid h0
  clear h0
  go_enter Try.func13, Try.ntmps13
  go_wp2
  go_loopg [3, 7] zs.length (fun n v t wr => ∃ k : Nat, k ≤ zs.length ∧ zs.length - k ≤ n ∧ t = .int .i64 k ∧ v = .string (txt (ofL (zs.take k))) ∧ Below w.heap.size w wr)
  case atStart => exact ⟨0, Nat.zero_le _, by omega, rfl, by rw [H0.out]; rfl, Below.refl _ _⟩
  case round =>
    obtain ⟨k, hk, hn, rfl, rfl, hB⟩ := hrel
    have HB := Lib.hid hB
    by_cases hlt : k < zs.length
    · obtain rfl := HA.out (by omega)
      have e0 := (HC.out.below hB HB0.out) k hlt
      have HS := Lib.hid (ofL_snoc zs k hlt)
      clear hB
      go_wp2_with fail
      refine (rwith_any (ofL (zs.take k)) (iat zs k) _).mono ?_
      rintro e w1 ⟨rfl, hb1⟩
      have HB1 := Lib.hid (HB.out.trans (hb1.mono HB.out.size))
      clear hb1 e0
      go_wp2
      go_roundg (zs.length - (k + 1))
      case measure => omega
      case rel => exact ⟨k + 1, by omega, Nat.le_refl _, by go_num, by rw [HS.out], HB1.out⟩
    · obtain rfl : k = zs.length := by omega
      clear hB
      rw [List.take_length]
      go_wp2
      go_ret
      exact ⟨rfl, HB.out⟩

end Go.Proofs.Ytpoelchjpnbgpaa
