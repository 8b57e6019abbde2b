/- The document's Text. -/
import Derived.Test.YtbamkkohfeglaaaM
namespace Go.Proofs.Ytbamkkohfeglaaa
open Go.RowKit Go.Sort

def RText (w : World) (b : Nat) (r : List UInt8 × List UInt8 × Nat) (en : Ending) (w' : World) : Prop := en = .returned (.string (bs r.1)) ∧ RefR w' b r.2.1 r.2.2 ∧ w.grownBy w' (some b)
theorem bs_take (l : List UInt8) (n : Nat) : (bs l).extract 0 n = bs (l.take n) := by
  apply ByteArray.ext
  rw [ByteArray.data_extract]
  show l.toArray.extract 0 n = (l.take n).toArray
  simp
set_option maxRecDepth 20000 in
set_option maxHeartbeats 3200000 in
theorem rreadtext_any {w : World} {b : Nat} {l : List UInt8} {e : Nat} (h : RefR w b l e) (hl : l.length ≤ 1000000) (most : Int) : Calls Try.prog 22 #[.pointer (some ⟨b, 0, none⟩), .int .i64 most] w (RText w b (text most l e)) := by
  have hc := rnumber_any h hl
  have hn := number_cases l e
  have ht := fun n r e' => text_eq most l e (n := n) (r := r) (e' := e')
  revert hc hn ht
  generalize number l e = nr
  obtain ⟨n, r, e'⟩ := nr
  intro hc hn ht
  replace ht := ht n r e' rfl
  have HT := Lib.hid ht
  have HN := Lib.hid hn
  clear h ht hn
  go_enter Try.func22, Try.ntmps22
  go_wp2_with fail
  refine hc.mono ?_
  rintro en w1 ⟨rfl, hr, hg⟩
  have hr' : RefR w1 b r e' := hr
  have HR := Lib.hid hr'
  have HG := Lib.hid hg
  have hlt := hr'.lt
  obtain ⟨c0, c1, f0⟩ := cells_of hr'
  have hz : (bs r).size = r.length := rfl
  have hrl : r.length ≤ 1000000 := Nat.le_trans HN.out.2 hl
  clear hc hr hr' hg
  by_cases he : e' = 0
  · subst he
    have HT2 := Lib.hid (HT.out.trans (if_pos rfl))
    by_cases hm : most < (n : Int)
    · have HE := Lib.hid (HT2.out.trans (if_pos hm))
      go_wp2_with fail
      refine (rwrong_any HR.out 1).mono ?_
      rintro en w' ⟨⟨v0, rfl⟩, hr1, hg1⟩
      have HR1 := Lib.hid hr1
      have HG1 := Lib.hid (grown_trans HG.out hg1)
      clear hr1 hg1
      go_wp2
      go_ret
      rw [HE.out]
      exact ⟨rfl, HR1.out, HG1.out⟩
    · have HT3 := Lib.hid (HT2.out.trans (if_neg hm))
      by_cases hlen : r.length < n
      · have HE := Lib.hid (HT3.out.trans (if_pos hlen))
        have hlen2 : ((bs r).size : Int) < (n : Int) := by omega
        clear hz
        go_wp2_with fail
        refine (rwrong_any HR.out 2).mono ?_
        rintro en w' ⟨⟨v0, rfl⟩, hr1, hg1⟩
        have HR1 := Lib.hid hr1
        have HG1 := Lib.hid (grown_trans HG.out hg1)
        clear hr1 hg1
        go_wp2
        go_ret
        rw [HE.out]
        exact ⟨rfl, HR1.out, HG1.out⟩
      · have HE := Lib.hid (HT3.out.trans (if_neg hlen))
        have hlen2 : ¬ (((bs r).size : Int) < (n : Int)) := by omega
        have hlen3 : ((n : Int) ≤ ((bs r).size : Int)) := by omega
        have hlen4 : n ≤ (bs r).size := by omega
        clear hz hlen
        go_wp2
        go_ret
        rw [HE.out, bs_take]
        exact ⟨rfl, rref_cut HR.out n, grown_set HG.out _ _⟩
  · have HE := Lib.hid (HT.out.trans (if_neg he))
    have hn : ((e' : Int) == 0) = false := by rw [beq_eq_false_iff_ne]; omega
    have hn2 : ((e' : Int) != 0) = true := by rw [bne, hn]; rfl
    clear he
    go_wp2
    go_ret
    rw [HE.out]
    exact ⟨rfl, HR.out, HG.out⟩

end Go.Proofs.Ytbamkkohfeglaaa
