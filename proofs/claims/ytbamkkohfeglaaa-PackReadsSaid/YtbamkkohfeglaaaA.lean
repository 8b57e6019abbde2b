/- Numbers as bytes, and how they are read: the plain law. -/
import Derived.Test.YtbamkkohfeglaaaProg
import Derived.WalkKit
namespace Go.Proofs.Ytbamkkohfeglaaa
open Go.RowKit

/-- The greatest number. -/
def wid : Nat := 1152921504606846975
/-- A number's bytes. -/
def numF : Nat → Nat → List UInt8
  | 0, n => [UInt8.ofNat n]
  | f + 1, n => if n < 128 then [UInt8.ofNat n] else UInt8.ofNat (n % 128 + 128) :: numF f (n / 128)
def num (n : Nat) : List UInt8 := numF 8 n
/-- A number that isn't too small, nor too great. -/
def clamp (z : Int) : Nat := (max 0 (min z 1152921504606846975)).toNat
theorem clamp_le (z : Int) : clamp z ≤ wid := by unfold clamp wid; omega
theorem clamp_eq (z : Int) : ((clamp z : Nat) : Int) = max 0 (min z 1152921504606846975) := by unfold clamp; omega
theorem clamp_nat {n : Nat} (h : n ≤ wid) : clamp n = n := by unfold clamp; unfold wid at h; omega
theorem numF_length : ∀ f n, (numF f n).length ≤ f + 1 ∧ 0 < (numF f n).length
  | 0, n => ⟨Nat.le_refl _, Nat.succ_pos _⟩
  | f + 1, n => by
    rw [numF]
    split
    · simp
    · have := numF_length f (n / 128)
      simp
      omega
/-- What is read of bytes: the number, what is left, what was wrong. -/
def rdn : Nat → Nat → List UInt8 → Nat × List UInt8 × Nat
  | _, _, [] => (0, [], 2)
  | i, n, c :: r =>
    if (i = 8 ∧ (128 ≤ c.toNat ∨ wid < n + c.toNat % 128 * 128 ^ i)) ∨ (0 < i ∧ c.toNat = 0) then (0, [], 1)
    else if c.toNat < 128 then (n + c.toNat % 128 * 128 ^ i, r, 0) else rdn (i + 1) (n + c.toNat % 128 * 128 ^ i) r
def number (l : List UInt8) (e : Nat) : Nat × List UInt8 × Nat := if e = 0 then rdn 0 0 l else (0, l, e)
def text (most : Int) (l : List UInt8) (e : Nat) : List UInt8 × List UInt8 × Nat :=
  if (number l e).2.2 = 0 then
    if most < ((number l e).1 : Int) then ([], [], 1)
    else if (number l e).2.1.length < (number l e).1 then ([], [], 2)
    else ((number l e).2.1.take (number l e).1, (number l e).2.1.drop (number l e).1, 0)
  else ([], (number l e).2.1, (number l e).2.2)
def endOf (l : List UInt8) (e : Nat) : Nat := if e = 0 then (if l.length = 0 then 0 else 3) else e
theorem rdn_lt : ∀ (l : List UInt8) i n, i ≤ 8 → n < 128 ^ i → (rdn i n l).1 ≤ wid ∧ (rdn i n l).2.1.length ≤ l.length ∧ (rdn i n l).2.2 ≤ 2
  | [], _, _, _, _ => by simp [rdn]
  | c :: r, i, n, hi, hn => by
    rw [rdn]
    split
    · simp
    · rename_i h
      split
      · rename_i h2
        refine ⟨?_, by simp, by simp⟩
        show n + c.toNat % 128 * 128 ^ i ≤ wid
        by_cases h8 : i = 8
        · have : ¬ wid < n + c.toNat % 128 * 128 ^ i := fun q => h (.inl ⟨h8, .inr q⟩)
          omega
        · have h1 : c.toNat % 128 * 128 ^ i ≤ 127 * 128 ^ i := Nat.mul_le_mul_right _ (by omega)
          have h2 : 128 ^ i ≤ 128 ^ 7 := Nat.pow_le_pow_right (by decide) (by omega)
          have h3 : (128 : Nat) ^ 7 = 562949953421312 := by decide
          unfold wid
          omega
      · have h8 : i ≠ 8 := fun q => h (.inl ⟨q, .inl (by omega)⟩)
        have h1 : c.toNat % 128 * 128 ^ i ≤ 127 * 128 ^ i := Nat.mul_le_mul_right _ (by omega)
        have ih := rdn_lt r (i + 1) (n + c.toNat % 128 * 128 ^ i) (by omega) (by rw [Nat.pow_succ]; omega)
        rw [List.length_cons]
        omega
/-- What is laid is read. -/
theorem rdn_num : ∀ (f i n m : Nat) (r : List UInt8), i + f = 8 → n < 128 ^ i → m < 16 * 128 ^ f → (i = 0 ∨ 0 < m) → rdn i n (numF f m ++ r) = (n + m * 128 ^ i, r, 0)
  | 0, i, n, m, r, hi, hn, hm, h0 => by
    obtain rfl : i = 8 := by omega
    have hm' : m < 16 := by omega
    have hc : (UInt8.ofNat m).toNat = m := by rw [UInt8.toNat_ofNat']; omega
    have h8 : (128 : Nat) ^ 8 = 72057594037927936 := by decide
    rw [numF, List.singleton_append, rdn, hc, if_neg, if_pos (by omega), Nat.mod_eq_of_lt (by omega)]
    rw [Nat.mod_eq_of_lt (by omega), h8]
    rw [h8] at hn
    unfold wid
    omega
  | f + 1, i, n, m, r, hi, hn, hm, h0 => by
    rw [numF]
    split
    · rename_i hlt
      have hc : (UInt8.ofNat m).toNat = m := by rw [UInt8.toNat_ofNat']; omega
      rw [List.singleton_append, rdn, hc, if_neg (by omega), if_pos hlt, Nat.mod_eq_of_lt hlt]
    · rename_i hge
      have hc : (UInt8.ofNat (m % 128 + 128)).toNat = m % 128 + 128 := by rw [UInt8.toNat_ofNat']; omega
      have hmod : (m % 128 + 128) % 128 = m % 128 := by omega
      have h1 : m % 128 * 128 ^ i ≤ 127 * 128 ^ i := Nat.mul_le_mul_right _ (by omega)
      rw [List.cons_append, rdn, hc, if_neg (by omega), if_neg (by omega), hmod]
      rw [rdn_num f (i + 1) _ (m / 128) r (by omega) (by rw [Nat.pow_succ]; omega) (by rw [Nat.pow_succ] at hm; omega) (.inr (by omega))]
      congr 1
      rw [Nat.pow_succ, Nat.add_assoc, Nat.add_left_cancel_iff]
      rw [show m / 128 * (128 ^ i * 128) = (128 * (m / 128)) * 128 ^ i from by ac_rfl, ← Nat.add_mul]
      congr 1
      omega
theorem number_num (m : Nat) (h : m ≤ wid) (r : List UInt8) : number (num m ++ r) 0 = (m, r, 0) := by
  rw [number, if_pos rfl, num, rdn_num 8 0 0 m r rfl (by decide) (by unfold wid at h; omega) (.inl rfl)]
  simp

end Go.Proofs.Ytbamkkohfeglaaa
