/- half and Of: the check's walk; what it computes, bit by bit. -/
import Derived.WalkKit
import Derived.RegionTactic
import Derived.ChangeAlike
import Derived.WalkSpells
import Derived.WalkLawsBesides
import Derived.WalkSmall
import Derived.Deep.QuietTactic
import Derived.BigQuiet
import Derived.Lib.Hide
import Derived.Lib.QuietBelow
import Derived.Laws.ResultCell
import Derived.OneCell
import Derived.Deep.LoopGhost
import Derived.Test.YtbekgecaoibnjaaProg
namespace Go.Proofs.Ytbekgecaoibnjaa
open Go.RowKit Go.Sort

def tbl : List (BitVec 32) := [0x00000000, 0x105ec76f, 0x20bd8ede, 0x30e349b1, 0x417b1dbc, 0x5125dad3, 0x61c69362, 0x7198540d, 0x82f63b78, 0x92a8fc17, 0xa24bb5a6, 0xb21572c9, 0xc38d26c4, 0xd3d3e1ab, 0xe330a81a, 0xf36e6f75]
def tb (k : Nat) : BitVec 32 := tbl.getD k 0
/-- What half a byte does. -/
def hf (c : BitVec 32) : BitVec 32 := (c >>> 4) ^^^ tb (c.toNat % 16)

theorem xor32 (a b : BitVec 32) : bits .xor .u32 (a.toNat : Int) (b.toNat : Int) = ((a ^^^ b).toNat : Int) := by
  rw [BitVec.toNat_xor]
  exact u32_xor_nat _ _ a.isLt b.isLt
theorem and15 (c : BitVec 32) : bits .and .u32 (c.toNat : Int) 15 = ((c.toNat % 16 : Nat) : Int) := by
  rw [← nat_mask4]
  exact u32_and_nat _ _ c.isLt (by decide)
theorem shr4 (c : BitVec 32) : (c.toNat : Int) / (16 : Int) = ((c >>> 4).toNat : Int) := by
  rw [BitVec.toNat_ushiftRight, Nat.shiftRight_eq_div_pow]
  rfl

theorem tcell (k : Nat) (hk : k < 16) : (([.int .u32 0, .int .u32 274646895, .int .u32 549293790, .int .u32 820201905, .int .u32 1098587580, .int .u32 1361435347, .int .u32 1640403810, .int .u32 1905808397, .int .u32 2197175160, .int .u32 2460548119, .int .u32 2722870694, .int .u32 2987750089, .int .u32 3280807620, .int .u32 3553878443, .int .u32 3811616794, .int .u32 4084100981] : List Value)[k]'hk) = .int .u32 (tb k).toNat := by
  obtain rfl | rfl | rfl | rfl | rfl | rfl | rfl | rfl | rfl | rfl | rfl | rfl | rfl | rfl | rfl | rfl : k = 0 ∨ k = 1 ∨ k = 2 ∨ k = 3 ∨ k = 4 ∨ k = 5 ∨ k = 6 ∨ k = 7 ∨ k = 8 ∨ k = 9 ∨ k = 10 ∨ k = 11 ∨ k = 12 ∨ k = 13 ∨ k = 14 ∨ k = 15 := by omega
  all_goals rfl

set_option maxHeartbeats 1600000 in
theorem half_any (c : BitVec 32) (w : World) : Calls Try.prog 22 #[.int .u32 c.toNat] w fun e w' => e = .returned (.int .u32 (hf c).toNat) ∧ Below w.heap.size w w' := by
  obtain ⟨k, hk⟩ : ∃ k, k = c.toNat % 16 := ⟨_, rfl⟩
  have hk16 : k < 16 := by omega
  have e1 := and15 c
  rw [← hk] at e1
  have e3 := xor32 (c >>> 4) (tb k)
  have e4 : ((c >>> 4) ^^^ tb k) = hf c := by rw [hf, ← hk]
  rw [e4, ← shr4 c] at e3
  clear hk e4
  have e5 := tcell k hk16
  go_enter Try.func22, Try.ntmps22
  go_wp2
  go_ret
  exact ⟨rfl, (Below.refl _ _).alloc (Nat.le_refl _) _⟩


/-! ### Of -/
/-- Bytes in memory from a cell on. -/
def bat (l : List UInt8) (k : Nat) : UInt8 := l.getD k 0
def LiesB (w : World) (b off : Nat) (l : List UInt8) : Prop := ∀ k, k < l.length → w.cell? ⟨b, off + k, none⟩ = some (.int .u8 (bat l k).toNat)
theorem LiesB.below {w w' : World} {B b off : Nat} {l : List UInt8} (h : LiesB w b off l) (hw : Below B w w') (hb : 0 < l.length → b < B) : LiesB w' b off l := fun k hk => (hw.cell (p := ⟨_, _, none⟩) (hb (by omega))).trans (h k hk)
/-- A byte, as 32 bits. -/
def wd (x : UInt8) : BitVec 32 := BitVec.ofNat 32 x.toNat
theorem wd_toNat (x : UInt8) : (wd x).toNat = x.toNat := by
  have := x.toNat_lt
  simp [wd]
/-- What a byte does. -/
def stp (c : BitVec 32) (x : UInt8) : BitVec 32 := hf (hf (c ^^^ wd x))
def run (c : BitVec 32) (l : List UInt8) : BitVec 32 := l.foldl stp c
def ones : BitVec 32 := 0xffffffff
/-- The check of bytes. -/
def crc (l : List UInt8) : BitVec 32 := ones ^^^ run ones l
theorem run_snoc (c : BitVec 32) (l : List UInt8) (k : Nat) (h : k < l.length) : run c (l.take (k + 1)) = stp (run c (l.take k)) (bat l k) := by
  rw [List.take_succ_eq_append_getElem h, run, List.foldl_append]
  simp [run, bat, List.getD, h]

set_option maxHeartbeats 1600000 in
theorem of_any (a : Option Addr) (b off cap : Nat) (l : List UInt8) (w : World) (ha : 0 < l.length → a = some ⟨b, off, none⟩) (hb : 0 < l.length → b < w.heap.size) (hl : l.length ≤ 9223372036854775807) (hc : LiesB w b off l) :
    Calls Try.prog 14 #[.slice a l.length cap] w fun e w' => e = .returned (.int .u32 (crc l).toNat) ∧ Below w.heap.size w w' := by
  have HA := Lib.hid ha
  have HB0 := Lib.hid hb
  have HC := Lib.hid hc
  clear ha hb hc
  go_enter Try.func14, Try.ntmps14
  go_wp2
  go_loopg [3, 8] l.length (fun n c t wr => ∃ k : Nat, k ≤ l.length ∧ l.length - k ≤ n ∧ t = .int .i64 k ∧ c = .int .u32 (run ones (l.take k)).toNat ∧ Below w.heap.size w wr)
  case atStart => exact ⟨0, Nat.zero_le _, by omega, rfl, rfl, Below.refl _ _⟩
  case round =>
    obtain ⟨k, hk, hn, rfl, rfl, hB⟩ := hrel
    have HB := Lib.hid hB
    by_cases hlt : k < l.length
    · obtain rfl := HA.out (by omega)
      have e0 := (HC.out.below hB HB0.out) k hlt
      have hsz := hB.size
      clear hB
      have e1 := xor32 (run ones (l.take k)) (wd (bat l k))
      rw [wd_toNat] at e1
      have hw8 : IntKind.u32.wrap ((bat l k).toNat : Int) = ((bat l k).toNat : Int) := by
        have := (bat l k).toNat_lt
        rw [IntKind.wrap_u32']
        omega
      have HS := Lib.hid (run_snoc ones l k hlt)
      go_wp2_with fail
      refine (half_any (run ones (l.take k) ^^^ wd (bat l k)) _).mono ?_
      rintro e w1 ⟨rfl, hb1⟩
      have HB1 := Lib.hid (HB.out.trans (hb1.mono hsz))
      clear e0 e1 hw8
      go_wp2_with fail
      refine (half_any (hf (run ones (l.take k) ^^^ wd (bat l k))) _).mono ?_
      rintro e w2 ⟨rfl, hb2⟩
      have HB2 := Lib.hid (HB1.out.trans (hb2.mono (Nat.le_trans hsz hb1.size)))
      clear hb1 hb2
      go_wp2
      go_roundg (l.length - (k + 1))
      case measure => omega
      case rel => exact ⟨k + 1, by omega, Nat.le_refl _, by go_num, by rw [HS.out]; rfl, HB2.out⟩
    · obtain rfl : k = l.length := by omega
      clear hB
      rw [List.take_length]
      have e1 := xor32 ones (run ones l)
      rw [show (ones.toNat : Int) = 4294967295 from rfl] at e1
      go_wp2
      go_ret
      exact ⟨congrArg (fun z => Ending.returned (.int .u32 z)) e1, HB.out⟩

end Go.Proofs.Ytbekgecaoibnjaa
