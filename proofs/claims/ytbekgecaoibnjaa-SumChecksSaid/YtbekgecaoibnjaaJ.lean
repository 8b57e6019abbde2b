/- The check, bit by bit: one bit's step is linear and lets nothing vanish; turned bits tell. -/
import Derived.Test.YtbekgecaoibnjaaB
import Derived.Test.YtbekgecaoibnjaaH
namespace Go.Proofs.Ytbekgecaoibnjaa
open Go.RowKit Go.Sort

theorem x0 (c : BitVec 32) : c ^^^ 0 = c := BitVec.xor_zero
theorem zx (c : BitVec 32) : 0 ^^^ c = c := BitVec.zero_xor
theorem xself (c d : BitVec 32) : c ^^^ (c ^^^ d) = d := by rw [← BitVec.xor_assoc, BitVec.xor_self, BitVec.zero_xor]
/-- One bit's step. -/
def mm (c : BitVec 32) : BitVec 32 := (c >>> 1) ^^^ (if c.getLsbD 0 then 0x82f63b78 else 0)
/-- And back. -/
def nn (c : BitVec 32) : BitVec 32 := (c <<< 1) ^^^ (if c.getLsbD 31 then 0x05ec76f1 else 0)
def Lin (f : BitVec 32 → BitVec 32) : Prop := ∀ a b, f (a ^^^ b) = f a ^^^ f b
theorem Lin.zero {f : BitVec 32 → BitVec 32} (h : Lin f) : f 0 = 0 := by
  have h1 := h 0 0
  rw [BitVec.xor_self, BitVec.xor_self] at h1
  exact h1
theorem Lin.comp {f g : BitVec 32 → BitVec 32} (hf : Lin f) (hg : Lin g) : Lin fun c => f (g c) := fun a b => by
  show f (g (a ^^^ b)) = _
  rw [hg, hf]
theorem Lin.xor {f g : BitVec 32 → BitVec 32} (hf : Lin f) (hg : Lin g) : Lin fun c => f c ^^^ g c := fun a b => by
  show f (a ^^^ b) ^^^ g (a ^^^ b) = (f a ^^^ g a) ^^^ (f b ^^^ g b)
  rw [hg, hf]
  ac_rfl
theorem lin_id : Lin fun c => c := fun _ _ => rfl
/-- The low bits of t. -/
def low (t : BitVec 32) : Nat → BitVec 32
  | 0 => 0
  | i + 1 => low t i ^^^ (if t.getLsbD i then 1#32 <<< i else 0)
theorem low_bit (t : BitVec 32) (j : Nat) : ∀ i, i ≤ 32 → (low t i).getLsbD j = (decide (j < i) && t.getLsbD j)
  | 0, _ => by simp [low]
  | i + 1, h => by
    rw [low, BitVec.getLsbD_xor, low_bit t j i (by omega)]
    have hb : (1#32 <<< i).getLsbD j = decide (j = i) := by
      rw [BitVec.getLsbD_shiftLeft, BitVec.getLsbD_one]
      by_cases e : j = i
      · subst e
        simp
        omega
      · by_cases e2 : j < i
        · simp [e, e2]
        · have : j - i ≠ 0 := by omega
          simp [e, this]
    by_cases e : j = i
    · subst e
      by_cases ht : t.getLsbD j = true
      · simp [ht, hb]
      · simp [ht]
    · have e2 : (j < i + 1) ↔ (j < i) := by omega
      by_cases ht : t.getLsbD i = true
      · simp [ht, hb, e, e2]
      · simp [ht, e2]
theorem low_all (t : BitVec 32) : low t 32 = t := by
  apply BitVec.eq_of_getLsbD_eq
  intro j hj
  rw [low_bit t j 32 (Nat.le_refl _)]
  simp [hj]
theorem Lin.eq {f g : BitVec 32 → BitVec 32} (hf : Lin f) (hg : Lin g) (h : ∀ i, i < 32 → f (1#32 <<< i) = g (1#32 <<< i)) (c : BitVec 32) : f c = g c := by
  rw [← low_all c]
  have : ∀ i, i ≤ 32 → f (low c i) = g (low c i) := by
    intro i
    induction i with
    | zero => intro _; rw [low, hf.zero, hg.zero]
    | succ i ih =>
      intro hi
      rw [low, hf, hg, ih (by omega)]
      split
      · rw [h i (by omega)]
      · rw [hf.zero, hg.zero]
  exact this 32 (Nat.le_refl _)
theorem lin_mm : Lin mm := fun a b => by
  rw [mm, mm, mm, BitVec.ushiftRight_xor_distrib, BitVec.getLsbD_xor]
  generalize a >>> 1 = x
  generalize b >>> 1 = y
  have h : ∀ p : BitVec 32, x ^^^ y = x ^^^ p ^^^ (y ^^^ p) := fun p => by
    rw [show x ^^^ p ^^^ (y ^^^ p) = p ^^^ (p ^^^ (x ^^^ y)) from by ac_rfl, xself]
  cases a.getLsbD 0 <;> cases b.getLsbD 0 <;> simp <;> first | exact h _ | ac_rfl
theorem lin_nn : Lin nn := fun a b => by
  rw [nn, nn, nn, BitVec.shiftLeft_xor_distrib, BitVec.getLsbD_xor]
  generalize a <<< 1 = x
  generalize b <<< 1 = y
  have h : ∀ p : BitVec 32, x ^^^ y = x ^^^ p ^^^ (y ^^^ p) := fun p => by
    rw [show x ^^^ p ^^^ (y ^^^ p) = p ^^^ (p ^^^ (x ^^^ y)) from by ac_rfl, xself]
  cases a.getLsbD 31 <;> cases b.getLsbD 31 <;> simp <;> first | exact h _ | ac_rfl
theorem lin_hf : Lin hf := hf_xor
theorem nn_mm (c : BitVec 32) : nn (mm c) = c := Lin.eq (lin_nn.comp lin_mm) lin_id (by decide +kernel) c
/-- Steps. -/
def ms : Nat → BitVec 32 → BitVec 32
  | 0, c => c
  | n + 1, c => ms n (mm c)
theorem lin_ms : ∀ n, Lin (ms n)
  | 0 => lin_id
  | n + 1 => (lin_ms n).comp lin_mm
theorem ms_add : ∀ m n c, ms (m + n) c = ms n (ms m c)
  | 0, n, c => by rw [Nat.zero_add]; rfl
  | m + 1, n, c => by
    rw [show m + 1 + n = (m + n) + 1 from by omega]
    exact ms_add m n (mm c)
theorem ms_ne : ∀ n c, ms n c = 0 → c = 0
  | 0, _, h => h
  | n + 1, c, h => by
    have h1 := ms_ne n (mm c) h
    rw [← nn_mm c, h1]
    rfl
theorem hf_ms (c : BitVec 32) : hf c = ms 4 c := Lin.eq lin_hf (lin_ms 4) (by decide +kernel) c
theorem stp_ms (c : BitVec 32) (x : UInt8) : stp c x = ms 8 (c ^^^ wd x) := by
  rw [stp, hf_ms, hf_ms, ← ms_add]
theorem wd_zero : wd 0 = 0 := rfl
/-- A bit at a place, of n bytes. -/
def flip (l : List UInt8) (j : Nat) : List UInt8 := l.set (j / 8) (bat l (j / 8) ^^^ (1 <<< UInt8.ofNat (j % 8)))
theorem flip_length (l : List UInt8) (j : Nat) : (flip l j).length = l.length := by rw [flip, List.length_set]
theorem ms_bit : ∀ r, r < 32 → ms r (1#32 <<< r) = 1#32 := by decide +kernel
theorem wd_bit : ∀ r, r < 8 → wd (1 <<< UInt8.ofNat r) = 1#32 <<< r := by decide +kernel
theorem run_flip : ∀ (l : List UInt8) (c : BitVec 32) (j : Nat), j < 8 * l.length → run c (flip l j) = run c l ^^^ ms (8 * l.length - j) 1#32
  | [], _, j, h => by simp at h
  | x :: l, c, j, h => by
    rw [List.length_cons] at h
    have hrun : ∀ (y : UInt8) (m : List UInt8) (d : BitVec 32), run d (y :: m) = run (stp d y) m := fun _ _ _ => rfl
    have hlin : ∀ (m : List UInt8) (d e : BitVec 32), run (d ^^^ e) m = run d m ^^^ ms (8 * m.length) e := by
      intro m
      induction m with
      | nil => intro d e; rfl
      | cons y m ih =>
        intro d e
        rw [hrun, hrun]
        have hs : stp (d ^^^ e) y = stp d y ^^^ ms 8 e := by
          rw [stp_ms, stp_ms, ← lin_ms 8]
          congr 1
          ac_rfl
        rw [hs, ih, ← ms_add]
        rw [List.length_cons, show 8 + 8 * m.length = 8 * (m.length + 1) from by omega]
    by_cases h8 : j < 8
    · have e1 : j / 8 = 0 := by omega
      have e2 : j % 8 = j := by omega
      have hf1 : flip (x :: l) j = (x ^^^ (1 <<< UInt8.ofNat j)) :: l := by
        rw [flip, e1, e2]
        rfl
      rw [hf1, hrun, hrun]
      have hs : stp c (x ^^^ (1 <<< UInt8.ofNat j)) = stp c x ^^^ ms (8 - j) 1#32 := by
        rw [stp_ms, stp_ms, wd_xor, wd_bit j h8]
        rw [show c ^^^ (wd x ^^^ 1#32 <<< j) = (c ^^^ wd x) ^^^ 1#32 <<< j from by ac_rfl, lin_ms 8]
        congr 1
        rw [← ms_bit j (by omega), ← ms_add, ms_bit j (by omega)]
        rw [show j + (8 - j) = 8 from by omega]
      rw [hs, hlin, ← ms_add, List.length_cons]
      rw [show 8 - j + 8 * l.length = 8 * (l.length + 1) - j from by omega]
    · have e1 : j / 8 = (j - 8) / 8 + 1 := by omega
      have e2 : j % 8 = (j - 8) % 8 := by omega
      have hf1 : flip (x :: l) j = x :: flip l (j - 8) := by
        rw [flip, e1, e2]
        rfl
      rw [hf1, hrun, hrun, run_flip l (stp c x) (j - 8) (by omega), List.length_cons]
      rw [show 8 * (l.length + 1) - j = 8 * l.length - (j - 8) from by omega]
/-- The bits of t from place k on, the first i of them. -/
def flips (l : List UInt8) (k : Nat) (t : BitVec 32) : Nat → List UInt8
  | 0 => l
  | i + 1 => if t.getLsbD i then flip (flips l k t i) (k + i) else flips l k t i
theorem flips_length (l : List UInt8) (k : Nat) (t : BitVec 32) : ∀ i, (flips l k t i).length = l.length
  | 0 => rfl
  | i + 1 => by
    rw [flips]
    split
    · rw [flip_length, flips_length l k t i]
    · exact flips_length l k t i
theorem run_flips (l : List UInt8) (c : BitVec 32) (k : Nat) (t : BitVec 32) (h : k + 32 ≤ 8 * l.length) : ∀ i, i ≤ 32 → run c (flips l k t i) = run c l ^^^ ms (8 * l.length - k) (low t i)
  | 0, _ => by rw [flips, low, (lin_ms _).zero, x0]
  | i + 1, hi => by
    rw [flips, low, lin_ms]
    split
    · rw [run_flip _ _ _ (by rw [flips_length]; omega), run_flips l c k t h i (by omega), flips_length, BitVec.xor_assoc]
      congr 2
      rw [show 8 * l.length - k = i + (8 * l.length - (k + i)) from by omega, ms_add, ms_bit i (by omega)]
    · rw [run_flips l c k t h i (by omega), (lin_ms _).zero, x0]
theorem run_append (c : BitVec 32) (a b : List UInt8) : run c (a ++ b) = run (run c a) b := List.foldl_append
/-- What is sealed leaves the same, whatever the bytes. -/
def res : BitVec 32 := run 0 (tl ones)
theorem tlx (x : BitVec 32) : tl x = [UInt8.ofNat x.toNat, UInt8.ofNat (x.toNat / 256), UInt8.ofNat (x.toNat / 65536), UInt8.ofNat (x.toNat / 16777216)] := rfl
theorem tl_len (x y : BitVec 32) : (tl x).length = (tl y).length := by simp [tl]
theorem ofNat_xor (x y : Nat) : UInt8.ofNat (x ^^^ y) = UInt8.ofNat x ^^^ UInt8.ofNat y := by
  apply UInt8.toNat_inj.1
  rw [UInt8.toNat_xor, UInt8.toNat_ofNat', UInt8.toNat_ofNat', UInt8.toNat_ofNat']
  exact Nat.xor_mod_two_pow (n := 8)
theorem tl_xor (a b : BitVec 32) : tl (a ^^^ b) = xl (tl a) (tl b) := by
  have h : ∀ n, (a.toNat ^^^ b.toNat) / 2 ^ n = (a.toNat / 2 ^ n) ^^^ (b.toNat / 2 ^ n) := fun n => by
    rw [← Nat.shiftRight_eq_div_pow, ← Nat.shiftRight_eq_div_pow, ← Nat.shiftRight_eq_div_pow, Nat.shiftRight_xor_distrib]
  rw [tlx, tlx, tlx, BitVec.toNat_xor, xl]
  rw [show (256 : Nat) = 2 ^ 8 from rfl, show (65536 : Nat) = 2 ^ 16 from rfl, show (16777216 : Nat) = 2 ^ 24 from rfl, h, h, h]
  rw [ofNat_xor, ofNat_xor, ofNat_xor, ofNat_xor]
  rfl
theorem run_tl (c : BitVec 32) : run c (tl c) = 0 := by
  refine Lin.eq (f := fun c => run c (tl c)) (g := fun _ => 0) ?_ ?_ (by decide +kernel) c
  · intro a b
    show run (a ^^^ b) (tl (a ^^^ b)) = run a (tl a) ^^^ run b (tl b)
    rw [tl_xor, run_xor (tl a) (tl b) a b (tl_len _ _)]
  · intro a b
    exact (x0 0).symm
theorem run_sealed (p : List UInt8) : run ones (p ++ tl (crc p)) = res := by
  rw [run_append, crc]
  generalize run ones p = c
  rw [show ones ^^^ c = c ^^^ ones from BitVec.xor_comm _ _, tl_xor]
  have h := run_xor (tl c) (tl ones) c 0 (tl_len _ _)
  rw [x0] at h
  rw [run_tl] at h
  exact h.trans (zx _)
/-- What has bits turned isn't sealed. -/
theorem turned_ne (p p' q' : List UInt8) (k : Nat) (t : BitVec 32) (ht : t ≠ 0) (hk : k + 32 ≤ 8 * (p ++ tl (crc p)).length) (he : flips (p ++ tl (crc p)) k t 32 = p' ++ q') : tl (crc p') ≠ q' := by
  intro hq
  have h1 := run_flips (p ++ tl (crc p)) ones k t hk 32 (Nat.le_refl _)
  rw [he, ← hq, run_sealed, run_sealed, low_all] at h1
  apply ht
  apply ms_ne (8 * (p ++ tl (crc p)).length - k) t
  have h2 : res ^^^ res = res ^^^ (res ^^^ ms (8 * (p ++ tl (crc p)).length - k) t) := by rw [← h1]
  rw [← BitVec.xor_assoc, BitVec.xor_self, BitVec.zero_xor] at h2
  exact h2.symm

end Go.Proofs.Ytbekgecaoibnjaa
