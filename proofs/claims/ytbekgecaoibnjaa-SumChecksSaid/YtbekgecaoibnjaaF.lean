/- Sector; SumSectors' walk. -/
import Derived.Test.YtbekgecaoibnjaaE
namespace Go.Proofs.Ytbekgecaoibnjaa
open Go.RowKit Go.Sort

/-- Filled up. -/
def pad (l : List UInt8) : List UInt8 := l ++ List.replicate (60 - l.length) 0
theorem pad_length {l : List UInt8} (h : l.length ≤ 60) : (pad l).length = 60 := by rw [pad, List.length_append, List.length_replicate]; omega
def sct (l : List UInt8) : List UInt8 := pad l ++ tl (crc (pad l))
theorem sct_length {l : List UInt8} (h : l.length ≤ 60) : (sct l).length = 64 := by rw [sct, List.length_append, pad_length h]; rfl
def SectPost (l : List UInt8) (w : World) (e : Ending) (w' : World) : Prop := ∃ v, e = .returned (.tuple #[v, .bool true]) ∧ w'.ownsRow w.heap.size 5 1 v (sct l).length (bvals (sct l)) ∧ Below w.heap.size w w'

theorem sector_none (a : Option Addr) (n cap : Nat) (w : World) (hn : 60 < n) (hm : n ≤ 500000) :
    Calls Try.prog 12 #[.slice a n cap] w fun e w' => e = .returned (.tuple #[.slice none 0 0, .bool false]) ∧ Below w.heap.size w w' := by
  have h1 : IntKind.i64.wrap (60 - (n : Int)) = 60 - (n : Int) := by
    rw [IntKind.wrap_i64]
    omega
  have h2 : 60 - (n : Int) < 0 := by omega
  have h3 : 60 < (n : Int) := by omega
  go_enter Try.func12, Try.ntmps12
  go_wp2
  go_ret2
  exact ⟨rfl, Below.refl _ _⟩

theorem make_any (r : Nat) (w : World) (hr : r ≤ 100000) : ∃ w', (Instr.makeSlice 23 (.int .i64 r) (.int .i64 r)).run Try.prog w = .ok (.slice (some ⟨w.heap.size, 0, none⟩) r r) w' ∧
    w'.ownsRow w.heap.size 5 1 (.slice (some ⟨w.heap.size, 0, none⟩) r r) r (bvals (List.replicate r 0)) ∧ Below w.heap.size w w' := by
  obtain ⟨i0, hi, hz0, hz1, hz2⟩ := info_parts Try.info5
  have h := run_makeSlice (P := Try.prog) w 23 5 i0 (.int .u8 0) Try.underlying23 hi hz0 .i64 .i64 (r : Int) (r : Int) (by omega) (Int.le_refl _) (by rw [hz1, Int.toNat_natCast]; omega) (by rw [hz2]; omega) (by omega)
  rw [hz1, Int.toNat_natCast, Nat.mul_one] at h
  refine ⟨_, h, ?_, (Below.refl _ w).alloc (Nat.le_refl _) _⟩
  refine ⟨by simp [bvals], .inr ⟨w.heap.size, r, _, rfl, Nat.le_refl _, heap_alloc_new w _, Nat.le_refl _, by unfold maxLen; omega, by simp [madeCells], ?_⟩⟩
  refine List.ext_getElem (by simp [madeCells, bvals]) fun j h1 h2 => ?_
  have hz : (Value.int .u8 0).cells = #[.int .u8 0] := rfl
  simp [madeCells, bvals, hz, Nat.mod_one]

set_option maxHeartbeats 3200000 in
theorem sector_some (b cap : Nat) (l : List UInt8) (w : World) (hl : l.length ≤ 60) (hb : b < w.heap.size) (hc : LiesB w b 0 l) :
    Calls Try.prog 12 #[.slice (some ⟨b, 0, none⟩) l.length cap] w (SectPost l w) := by
  obtain ⟨i0, hi, hz0, hz1, hz2⟩ := info_parts Try.info5
  obtain ⟨r, hr⟩ : ∃ r, l.length + r = 60 := ⟨60 - l.length, by omega⟩
  have h1 : IntKind.i64.wrap (60 - (l.length : Int)) = (r : Int) := by
    rw [IntKind.wrap_i64]
    omega
  have h2 : 60 - (l.length : Int) = (r : Int) := by omega
  have h3 : ¬ ((r : Int) < 0) := by omega
  have HC := Lib.hid hc
  obtain ⟨w1, hmk, hown, hb1⟩ := make_any r w (by omega)
  have hown2 : w1.ownsRow w.heap.size 5 1 (.slice (some ⟨w.heap.size, 0, none⟩) r r) (List.replicate r (0 : UInt8)).length (bvals (List.replicate r 0)) := by rw [List.length_replicate]; exact hown
  obtain ⟨a2, c2, he2, hz⟩ := Hb.own hown2
  rw [List.length_replicate] at he2
  injection he2 with ea _ ec
  subst ea ec
  have HZ := Lib.hid hz
  have HB1 := Lib.hid hb1
  have hb1' := hb1.size
  have HW := Lib.hid ((Hb.mk (c := cap) hb hc).below hb1 (Nat.le_refl _))
  have hpad : l ++ List.replicate r 0 = pad l := by rw [pad, show 60 - l.length = r from by omega]
  have HPAD := Lib.hid hpad
  clear hc hown hown2 hz hb1 hpad
  go_enter Try.func12, Try.ntmps12
  go_wp2_with fail
  refine (concat_any _ _ (some ⟨b, 0, none⟩) (some ⟨w.heap.size, 0, none⟩) cap r l (List.replicate r 0) _ ?c1 ?c2 ?c3 ?c4 ?c5 ?c6 ?c7 ?c8).mono ?_
  case c1 => simp
  case c2 => simp
  case c3 => simp
  case c4 => exact HW.out.alloc _
  case c5 => exact HZ.out.alloc _
  case c6 => rw [List.length_replicate]; omega
  case c7 => omega
  case c8 => rw [List.length_replicate]; omega
  rintro e w2 ⟨v, rfl, hown, hb2⟩
  rw [HPAD.out] at hown
  have HB2 := Lib.hid ((HB1.out.alloc hb1' _).trans (hb2.mono (by simp; omega)))
  obtain ⟨a3, c3, rfl, hz3⟩ := Hb.own hown
  have HZ3 := Lib.hid hz3
  clear hown hb2 hz3
  go_wp2_with fail
  refine (seal_any a3 c3 (pad l) w2 HZ3.out (by rw [pad_length hl]; decide)).mono ?_
  rintro e w3 ⟨v, rfl, hown, hb3⟩
  have HO := Lib.hid hown
  have HB3 := Lib.hid (HB2.out.trans (hb3.mono HB2.out.size))
  clear hown hb3
  go_wp2
  go_ret2
  exact ⟨_, rfl, HO.out.mono HB2.out.size, HB3.out⟩


end Go.Proofs.Ytbekgecaoibnjaa
