/- PackCut's walk. -/
import Derived.Test.YtbamkkohfeglaaaH
namespace Go.Proofs.Ytbamkkohfeglaaa
open Go.RowKit Go.Sort

/-- A number's bytes, cut off. -/
theorem rdn_cut : ∀ (f i n m j : Nat), i + f = 8 → m < 16 * 128 ^ f → j < (numF f m).length → rdn i n ((numF f m).take j) = (0, [], 2)
  | f, i, n, m, 0, _, _, _ => by rw [List.take_zero, rdn]
  | 0, i, n, m, j + 1, _, _, hj => by
    rw [numF] at hj
    simp at hj
  | f + 1, i, n, m, j + 1, hi, hm, hj => by
    rw [numF] at hj ⊢
    split at hj
    · simp at hj
    · rename_i hge
      have hc : (UInt8.ofNat (m % 128 + 128)).toNat = m % 128 + 128 := by rw [UInt8.toNat_ofNat']; omega
      rw [if_neg hge, List.take_succ_cons, rdn, hc, if_neg (by omega), if_neg (by omega)]
      exact rdn_cut f (i + 1) _ (m / 128) j (by omega) (by rw [Nat.pow_succ] at hm; omega) (by simpa using hj)
theorem number_cut (m j : Nat) (h : m ≤ wid) (hj : j < (num m).length) : number ((num m).take j) 0 = (0, [], 2) := by
  rw [number, if_pos rfl, num, rdn_cut 8 0 0 m j rfl (by unfold wid at h; omega) hj]
theorem text_cut (s : ByteArray) (j : Nat) (most : Int) (hs : s.size ≤ 3000) (hm : (s.size : Int) ≤ most) (hj : j < (txt s).length) : text most ((txt s).take j) 0 = ([], [], 2) := by
  by_cases h : j < (num s.size).length
  · have ht : (txt s).take j = (num s.size).take j := by rw [txt, List.take_append_of_le_length (by omega)]
    rw [ht, text_eq most _ 0 (number_cut s.size j (by unfold wid; omega) h), if_neg (by decide)]
  · have ht : (txt s).take j = num s.size ++ (bl s).take (j - (num s.size).length) := by rw [txt, List.take_append, List.take_of_length_le (by omega)]
    rw [txt, List.length_append, bl_length] at hj
    rw [ht, text_eq most _ 0 (number_num s.size (by unfold wid; omega) _), if_pos rfl, if_neg (by omega), if_pos (by rw [List.length_take, bl_length]; omega)]
theorem read_take {w : World} {g c : Nat} {l : List UInt8} (hg : g < w.heap.size) (hc : l.length ≤ c) (h : LiesB w g 0 l) (j : Nat) (hj : j ≤ l.length) : Calls Try.prog 15 #[.slice (some ⟨g, 0, none⟩) j c] w (ReadPost w (l.take j)) := by
  have h2 := read_any (w := w) (a := some ⟨g, 0, none⟩) (c := c) (l := l.take j) (.inr ⟨g, 0, rfl, hg, by rw [List.length_take]; omega, h.take j⟩)
  rwa [List.length_take, Nat.min_eq_left hj] at h2
theorem cut_at (n q : Nat) (h0 : 0 < n) (hn : n ≤ 100000) : ∃ k j : Nat, wrap64 ((q : Int) % (n : Int)) = k ∧ (n : Int) - 1 - (k : Int) = j ∧ j < n ∧ k < n := by
  have h1 : q % n < n := Nat.mod_lt _ h0
  refine ⟨q % n, n - 1 - q % n, ?_, by omega, by omega, h1⟩
  rw [show ((q : Int) % (n : Int)) = ((q % n : Nat) : Int) from by simp]
  unfold wrap64
  omega

set_option maxRecDepth 20000 in
set_option maxHeartbeats 6400000 in
theorem cut_walk (n : Int) (s : ByteArray) (by_ : Nat) (w : World) :
    Calls Try.prog 6 #[.int .i64 n, .string s, .int .u64 by_] w fun e w' => e = .returned (.bool true) ∧ Below w.heap.size w w' := by
  go_enter Try.func6, Try.ntmps6
  go_wp2_with fail
  refine (awake_any w).mono ?_
  rintro e w1 ⟨rfl, hb1⟩
  have HB1 := Lib.hid hb1
  clear hb1
  by_cases hbig : (s.size : Int) > 300
  · go_wp2_with fail
    refine (awake_any w1).mono ?_
    rintro e w2 ⟨rfl, hb2⟩
    have HB2 := Lib.hid (HB1.out.trans (hb2.mono HB1.out.size))
    clear hb2
    go_wp2
    go_ret
    exact ⟨rfl, HB2.out⟩
  have hs : s.size ≤ 300 := by omega
  go_wp2_with fail
  refine (lay_nil w1 n).mono ?_
  rintro e w2 ⟨av, rfl, ha, hb2⟩
  have hal0 := num_pos (clamp n)
  have hal := num_len (clamp n)
  have hac : ∀ j, j < (num (clamp n)).length → number ((num (clamp n)).take j) 0 = (0, [], 2) := fun j hj => number_cut _ j (clamp_le n) hj
  generalize num (clamp n) = A at ha hal0 hal hac
  obtain ⟨ga, ca, rfl, _, hga, hca, hla⟩ := own_some ha hal0
  have HB2 := Lib.hid (HB1.out.trans (hb2.mono HB1.out.size))
  have HA := Lib.hid hla
  have HAC := Lib.hid hac
  clear ha hb2 hla hac
  go_wp2_with fail
  refine (laytext_nil w2 s (by omega)).mono ?_
  rintro e w3 ⟨bv, rfl, hb, hb3⟩
  have hbl0 : 0 < (txt s).length := by rw [txt, List.length_append]; have := num_pos s.size; omega
  have hbl : (txt s).length ≤ 1000 := by rw [txt, List.length_append, bl_length]; have := num_len s.size; omega
  have hbc : ∀ j, j < (txt s).length → text 300 ((txt s).take j) 0 = ([], [], 2) := fun j hj => text_cut s j 300 (by omega) (by omega) hj
  generalize txt s = T at hb hbl0 hbl hbc
  obtain ⟨gb, cb, rfl, _, hgb, hcb, hlb⟩ := own_some hb hbl0
  have HB3 := Lib.hid (HB2.out.trans (hb3.mono HB2.out.size))
  have HA3 := Lib.hid (HA.out.same (hb3.block ga hga))
  have hga3 : ga < w3.heap.size := Nat.lt_of_lt_of_le hga hb3.size
  have HBb := Lib.hid hlb
  have HBC := Lib.hid hbc
  clear hb hb3 hlb hbc
  obtain ⟨ka, ja, ka1, ja1, hja, hka⟩ := cut_at A.length by_ hal0 (by omega)
  obtain ⟨kb, jb, kb1, jb1, hjb, hkb⟩ := cut_at T.length by_ hbl0 (by omega)
  have i1 : (ja : Int) ≤ (ca : Int) := by omega
  have i2 : (jb : Int) ≤ (cb : Int) := by omega
  go_wp2_with fail
  refine (read_take hga3 hca HA3.out ja (by omega)).mono ?_
  rintro e w4 ⟨rfl, hr, hb4⟩
  have HR4 := Lib.hid hr
  have HB4 := Lib.hid (HB3.out.trans (hb4.mono HB3.out.size))
  have HT4 := Lib.hid (HBb.out.same (hb4.block gb hgb))
  have hgb4 : gb < w4.heap.size := Nat.lt_of_lt_of_le hgb hb4.size
  have hbg := HB3.out.size
  clear hr hb4
  go_wp2_with fail
  refine (number_any HR4.out (by rw [List.length_take]; omega)).mono ?_
  rw [HAC.out ja hja]
  rintro e w5 ⟨rfl, hr, hg⟩
  have HR5 := Lib.hid (show Rdr w5 w3.heap.size [] 2 from hr)
  have HB5 := Lib.hid (HB4.out.grown hg HB4.out.size (fun k e => by injection e with e; subst e; exact hbg))
  have HT5 := Lib.hid (HT4.out.same (hg.block gb hgb4 (fun e => by injection e with e; omega)))
  have hgb5 : gb < w5.heap.size := Nat.lt_of_lt_of_le hgb4 hg.size
  clear hr hg
  go_wp2_with fail
  refine (read_take hgb5 hcb HT5.out jb (by omega)).mono ?_
  rintro e w6 ⟨rfl, hr, hb6⟩
  have HR6 := Lib.hid hr
  have HB6 := Lib.hid (HB5.out.trans (hb6.mono HB5.out.size))
  have HQ6 := Lib.hid (HR5.out.below hb6)
  have hq5 := HR5.out.lt
  have hbg5 := HB5.out.size
  clear hr hb6
  go_wp2_with fail
  refine (text_any HR6.out (by rw [List.length_take]; omega) 300).mono ?_
  rw [HBC.out jb hjb]
  rintro e w7 ⟨rfl, hr, hg⟩
  have HR7 := Lib.hid (show Rdr w7 w5.heap.size [] 2 from hr)
  have HB7 := Lib.hid (HB6.out.grown hg HB6.out.size (fun k e => by injection e with e; subst e; exact hbg5))
  rw [show bs (([] : List UInt8), ([] : List UInt8), 2).1 = (⟨#[]⟩ : ByteArray) from rfl]
  have HQ7 := Lib.hid (HQ6.out.same fun k hk => hg.block k (Nat.lt_of_le_of_lt hk HQ6.out.lt) (fun e => by injection e with e; omega))
  clear hr hg
  go_wp2_with fail
  refine (err_any HQ7.out).mono ?_
  rintro e w8 ⟨rfl, rfl⟩
  go_wp2_with fail
  refine (err_any HR7.out).mono ?_
  rintro e w8 ⟨rfl, rfl⟩
  go_wp2
  go_ret
  exact ⟨rfl, HB7.out⟩

end Go.Proofs.Ytbamkkohfeglaaa
