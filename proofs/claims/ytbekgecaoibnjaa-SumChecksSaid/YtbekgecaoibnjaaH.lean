/- The check is linear over xor. -/
import Derived.Test.YtbekgecaoibnjaaA
namespace Go.Proofs.Ytbekgecaoibnjaa
open Go.RowKit Go.Sort

theorem tb_xor : ∀ x, x < 16 → ∀ y, y < 16 → tb (x ^^^ y) = tb x ^^^ tb y := by decide +kernel
theorem hf_xor (a b : BitVec 32) : hf (a ^^^ b) = hf a ^^^ hf b := by
  have h1 : (a ^^^ b).toNat % 16 = (a.toNat % 16) ^^^ (b.toNat % 16) := by
    rw [BitVec.toNat_xor]
    exact Nat.xor_mod_two_pow (n := 4)
  rw [hf, h1, tb_xor _ (Nat.mod_lt _ (by decide)) _ (Nat.mod_lt _ (by decide)), BitVec.ushiftRight_xor_distrib, hf, hf]
  ac_rfl
theorem wd_xor (x y : UInt8) : wd (x ^^^ y) = wd x ^^^ wd y := by
  apply BitVec.eq_of_toNat_eq
  rw [BitVec.toNat_xor, wd_toNat, wd_toNat, wd_toNat, UInt8.toNat_xor]
theorem stp_xor (c d : BitVec 32) (x y : UInt8) : stp (c ^^^ d) (x ^^^ y) = stp c x ^^^ stp d y := by
  rw [stp, wd_xor, show (c ^^^ d ^^^ (wd x ^^^ wd y)) = (c ^^^ wd x) ^^^ (d ^^^ wd y) from by ac_rfl, hf_xor, hf_xor, stp, stp]
/-- Two texts, turned one by the other. -/
def xl (a b : List UInt8) : List UInt8 := List.zipWith (· ^^^ ·) a b
theorem run_xor : ∀ (a b : List UInt8) (c d : BitVec 32), a.length = b.length → run (c ^^^ d) (xl a b) = run c a ^^^ run d b
  | [], [], _, _, _ => rfl
  | x :: a, y :: b, c, d, h => by
    have ih := run_xor a b (stp c x) (stp d y) (by simpa using h)
    rw [← stp_xor] at ih
    exact ih
theorem xl_length {a b : List UInt8} (h : a.length = b.length) : (xl a b).length = a.length := by simp [xl, h]
theorem crc_three (a b c : List UInt8) (h1 : a.length = b.length) (h2 : b.length = c.length) : crc (xl (xl a b) c) = crc a ^^^ crc b ^^^ crc c := by
  have e1 := run_xor (xl a b) c (ones ^^^ ones) ones (by rw [xl_length h1, h1, h2])
  rw [run_xor a b ones ones h1] at e1
  rw [show ones ^^^ ones ^^^ ones = ones from by decide] at e1
  rw [crc, e1, crc, crc, crc]
  have h : ∀ p q r : BitVec 32, ones ^^^ (p ^^^ q ^^^ r) = (ones ^^^ p) ^^^ (ones ^^^ q) ^^^ (ones ^^^ r) := fun p q r => by
    rw [show (ones ^^^ p) ^^^ (ones ^^^ q) ^^^ (ones ^^^ r) = (ones ^^^ ones ^^^ ones) ^^^ (p ^^^ q ^^^ r) from by ac_rfl]
    rw [show ones ^^^ ones ^^^ ones = ones from by decide]
  rw [h]
theorem bat_xl {a b : List UInt8} {k : Nat} (ha : k < a.length) (hb : k < b.length) : bat (xl a b) k = bat a k ^^^ bat b k := by
  simp [bat, xl, List.getD, ha, hb, List.getElem?_zipWith]

end Go.Proofs.Ytbekgecaoibnjaa
