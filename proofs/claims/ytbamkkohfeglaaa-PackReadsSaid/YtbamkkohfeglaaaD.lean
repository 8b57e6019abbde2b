/- A reader's Text, walked. -/
import Derived.Test.YtbamkkohfeglaaaC
namespace Go.Proofs.Ytbamkkohfeglaaa
open Go.RowKit Go.Sort

theorem number_any {w : World} {b : Nat} {l : List UInt8} {e : Nat} (h : Rdr w b l e) (hl : l.length ≤ 1000000) : Calls Try.prog 16 #[.pointer (some ⟨b, 0, none⟩)] w (NumPost w b (number l e)) := by
  by_cases he : e = 0
  · subst he
    exact number_ok h hl
  · exact number_bad h he
theorem str_lies {w : World} {g off cap : Nat} {l : List UInt8} (h : LiesB w g off l) : (convert 22 9 (.slice (some ⟨g, off, none⟩) l.length cap)).run Try.prog w = .ok (.string (bs l)) w :=
  run_convert_bytes_back (P := Try.prog) w 22 9 5 ⟨g, off, none⟩ cap l Try.underlying22 Try.underlying5 Try.underlying9 (fun j hj => by
    rw [Addr.add_lit, h j hj]
    simp [bat, List.getD, hj])
theorem str_nil (w : World) : (convert 22 9 (.slice none 0 0)).run Try.prog w = .ok (.string (bs [])) w := by kernel_rfl
theorem number_cases (l : List UInt8) (e : Nat) : (number l e).1 ≤ wid ∧ (number l e).2.1.length ≤ l.length := by
  rw [number]
  split
  · have h := rdn_lt l 0 0 (by decide) (by decide)
    exact ⟨h.1, h.2.1⟩
  · exact ⟨Nat.zero_le _, Nat.le_refl _⟩
def TextPost (w : World) (b : Nat) (r : List UInt8 × List UInt8 × Nat) (en : Ending) (w' : World) : Prop := en = .returned (.string (bs r.1)) ∧ Rdr w' b r.2.1 r.2.2 ∧ w.grownBy w' (some b)
theorem text_eq (most : Int) (l : List UInt8) (e : Nat) {n : Nat} {r : List UInt8} {e' : Nat} (h : number l e = (n, r, e')) :
    text most l e = if e' = 0 then (if most < (n : Int) then ([], [], 1) else if r.length < n then ([], [], 2) else (r.take n, r.drop n, 0)) else ([], r, e') := by
  rw [text, h]

set_option maxRecDepth 20000 in
set_option maxHeartbeats 3200000 in
theorem text_any {w : World} {b : Nat} {l : List UInt8} {e : Nat} (h : Rdr w b l e) (hl : l.length ≤ 1000000) (most : Int) : Calls Try.prog 19 #[.pointer (some ⟨b, 0, none⟩), .int .i64 most] w (TextPost w b (text most l e)) := by
  have hc := number_any h hl
  have hn := number_cases l e
  have ht := fun n r e' => text_eq most l e (n := n) (r := r) (e' := e')
  revert hc hn ht
  generalize number l e = nr
  obtain ⟨n, r, e'⟩ := nr
  intro hc hn ht
  replace ht := ht n r e' rfl
  have HT := Lib.hid ht
  have HN := Lib.hid hn
  clear h ht hn
  go_enter Try.func19, Try.ntmps19
  go_wp2_with fail
  refine hc.mono ?_
  rintro en w1 ⟨rfl, hr, hg⟩
  have hr' : Rdr w1 b r e' := hr
  have HR := Lib.hid hr'
  have HG := Lib.hid hg
  clear hc hr hr' hg
  by_cases he : e' = 0
  · subst he
    have HT2 := Lib.hid (HT.out.trans (if_pos rfl))
    go_wp2_with fail
    refine (err_any HR.out).mono ?_
    rintro en w' ⟨rfl, rfl⟩
    by_cases hm : most < (n : Int)
    · have HE := Lib.hid (HT2.out.trans (if_pos hm))
      go_wp2_with fail
      refine (wrong_any HR.out 1).mono ?_
      rintro en w' ⟨rfl, hr1, hg1⟩
      have HR1 := Lib.hid hr1
      have HG1 := Lib.hid (grown_trans HG.out hg1)
      clear hr1 hg1
      go_wp2
      go_ret
      rw [HE.out]
      exact ⟨rfl, HR1.out, HG1.out⟩
    · have HT3 := Lib.hid (HT2.out.trans (if_neg hm))
      have hlt := HR.out.lt
      obtain ⟨a, c, h1, h2⟩ := HR.out
      obtain ⟨c0, c1, f0⟩ := cells_of h1
      have H1 := Lib.hid h1
      clear h1
      by_cases hlen : r.length < n
      · have HE := Lib.hid (HT3.out.trans (if_pos hlen))
        have hlen2 : (r.length : Int) < (n : Int) := by omega
        clear h2 hlen
        go_wp2_with fail
        refine (wrong_any HR.out 2).mono ?_
        rintro en w' ⟨rfl, hr1, hg1⟩
        have HR1 := Lib.hid hr1
        have HG1 := Lib.hid (grown_trans HG.out hg1)
        clear hr1 hg1
        go_wp2
        go_ret
        rw [HE.out]
        exact ⟨rfl, HR1.out, HG1.out⟩
      · have HE := Lib.hid (HT3.out.trans (if_neg hlen))
        have hlen2 : ¬ ((r.length : Int) < (n : Int)) := by omega
        have hrl := HN.out.2
        have hrl' : r.length ≤ 1000000 := Nat.le_trans hrl hl
        rcases h2 with ⟨rfl, rfl, rfl⟩ | ⟨g, off, rfl, hgb, hcl, hlies⟩
        · obtain rfl : n = 0 := by simp at hlen; omega
          have hcv := str_nil w1
          clear hlen hrl
          go_wp2
          go_ret
          rw [HE.out]
          refine ⟨rfl, ⟨none, 0, ?_, .inl ⟨rfl, rfl, rfl⟩⟩, grown_set HG.out _ _⟩
          rw [heap_setCell_same H1.out]
          rfl
        · have hcv := str_lies (cap := c) (hlies.take n)
          rw [List.length_take, Nat.min_eq_left (by omega)] at hcv
          have HL := Lib.hid hlies
          have i1 : (n : Int) ≤ (c : Int) := by omega
          have HLN := Lib.hid hlen
          clear hlies hlen hrl
          by_cases hcap : n = c
          · obtain rfl := hcap
            have hrn : (r.length : Int) = (n : Int) := by have := HLN.out; omega
            have HC := Lib.hid hrn
            clear hrn
            go_wp2
            go_ret
            rw [HE.out]
            refine ⟨rfl, ?_, grown_set HG.out _ _⟩
            exact Rdr.cut0 H1.out hgb HL.out n rfl hcl
          · have hcap2 : ¬ (n : Int) = (c : Int) := by omega
            have HC := Lib.hid hcap
            clear hcap
            go_wp2
            go_ret
            rw [HE.out]
            refine ⟨rfl, ?_, grown_set HG.out _ _⟩
            exact Rdr.cut H1.out hgb hcl HL.out n (by have := HLN.out; omega)
  · have HE := Lib.hid (HT.out.trans (if_neg he))
    have hn : ((e' : Int) == 0) = false := by rw [beq_eq_false_iff_ne]; omega
    have hn2 : ((e' : Int) != 0) = true := by rw [bne, hn]; rfl
    clear he
    go_wp2_with fail
    refine (err_any HR.out).mono ?_
    rintro en w' ⟨rfl, rfl⟩
    go_wp2
    go_ret
    rw [HE.out]
    exact ⟨rfl, HR.out, HG.out⟩

set_option maxHeartbeats 400000 in
theorem text_nil (w : World) (most : Int) : Calls Try.prog 19 #[.pointer none, .int .i64 most] w fun en w' => en = .returned (.string (bs [])) ∧ w = w' := by
  go_enter Try.func19, Try.ntmps19
  go_wp2_with fail
  refine (number_nil w).mono ?_
  rintro en w' ⟨rfl, rfl⟩
  go_wp2_with fail
  refine (err_nil w).mono ?_
  rintro en w' ⟨rfl, rfl⟩
  go_wp2
  go_ret
  exact ⟨rfl, rfl⟩

end Go.Proofs.Ytbamkkohfeglaaa
