/- PackStops' walk. -/
import Derived.Test.YtbamkkohfeglaaaF
namespace Go.Proofs.Ytbamkkohfeglaaa
open Go.RowKit Go.Sort

/-- A call of the script. -/
structure Stp where
  k : Int
  n : Int
def sat (l : List Stp) (i : Nat) : Stp := l.getD i ⟨0, 0⟩
/-- The script lies in memory. -/
def CameO (w : World) (a : Option Addr) (b off : Nat) (l : List Stp) : Prop :=
  (0 < l.length → a = some ⟨b, off, none⟩) ∧ (0 < l.length → b < w.heap.size) ∧ l.length ≤ 9223372036854775807 ∧
    ∀ i, i < l.length → w.cell? ⟨b, off + i * 2, none⟩ = some (.int .i64 (sat l i).k) ∧ w.cell? ⟨b, off + i * 2 + 1, none⟩ = some (.int .i64 (sat l i).n)
theorem CameO.same {w w' : World} {a : Option Addr} {b off : Nat} {l : List Stp} (h : CameO w a b off l) (hs : ∀ k, k < w.heap.size → w'.heap[k]? = w.heap[k]?) (hz : w.heap.size ≤ w'.heap.size) : CameO w' a b off l := by
  refine ⟨h.1, fun h0 => Nat.lt_of_lt_of_le (h.2.1 h0) hz, h.2.2.1, fun i hi => ?_⟩
  have hb := hs b (h.2.1 (by omega))
  exact ⟨(World.cell?_of_block (a := ⟨b, _, none⟩) hb).trans (h.2.2.2 i hi).1, (World.cell?_of_block (a := ⟨b, _, none⟩) hb).trans (h.2.2.2 i hi).2⟩
theorem CameO.below {w w' : World} {a : Option Addr} {b off : Nat} {l : List Stp} (h : CameO w a b off l) (hB : Below w.heap.size w w') : CameO w' a b off l := h.same hB.block hB.size
/-- Reading lowers what is left, or stops. -/
theorem rdn_less : ∀ (l : List UInt8) i n, (rdn i n l).2.2 = 0 → (rdn i n l).2.1.length < l.length
  | [], _, _, h => by simp [rdn] at h
  | c :: r, i, n, h => by
    rw [rdn] at h ⊢
    split
    · rename_i hw
      rw [if_pos hw] at h
      cases h
    · rename_i hw
      rw [if_neg hw] at h
      split
      · simp
      · rename_i hc
        rw [if_neg hc] at h
        have := rdn_less r (i + 1) _ h
        simp
        omega
theorem rdn_stop : ∀ (l : List UInt8) i n, (rdn i n l).2.2 ≠ 0 → (rdn i n l).2.1 = []
  | [], _, _, _ => by simp [rdn]
  | c :: r, i, n, h => by
    rw [rdn] at h ⊢
    split
    · rfl
    · rename_i hw
      rw [if_neg hw] at h
      split
      · rename_i hc
        rw [if_pos hc] at h
        exact absurd rfl h
      · rename_i hc
        rw [if_neg hc] at h
        exact rdn_stop r (i + 1) _ h
theorem number_stopped (e : Nat) (he : e ≠ 0) : number [] e = (0, [], e) := by rw [number, if_neg he]
theorem text_stopped (most : Int) (e : Nat) (he : e ≠ 0) : text most [] e = ([], [], e) := by rw [text_eq most [] e (number_stopped e he), if_neg he]

set_option maxRecDepth 20000 in
set_option maxHeartbeats 6400000 in
theorem stops_walk (a : Option Addr) (c : Nat) (l : List UInt8) (a2 : Option Addr) (b2 off2 c2 : Nat) (sc : List Stp) (w : World) (hin : Hb w.heap.size w a c l) (hsc : CameO w a2 b2 off2 sc) :
    Calls Try.prog 8 #[.slice a l.length c, .slice a2 sc.length c2] w fun e w' => e = .returned (.bool true) ∧ Below w.heap.size w w' := by
  have HIN := Lib.hid hin
  have HSC := Lib.hid hsc
  have hscl := hsc.2.2.1
  clear hin hsc
  go_enter Try.func8, Try.ntmps8
  go_wp2_with fail
  refine (awake_any w).mono ?_
  rintro e w1 ⟨rfl, hb1⟩
  have HB1 := Lib.hid hb1
  have HI1 := Lib.hid ((HIN.out.same fun b hb => hb1.block b hb).mono hb1.size)
  clear hb1
  by_cases hbig : (l.length : Int) > 2000
  · go_wp2_with fail
    refine (awake_any w1).mono ?_
    rintro e w2 ⟨rfl, hb2⟩
    have HB2 := Lib.hid (HB1.out.trans (hb2.mono HB1.out.size))
    clear hb2
    go_wp2
    go_ret
    exact ⟨rfl, HB2.out⟩
  by_cases hbig2 : (sc.length : Int) > 100
  · go_wp2_with fail
    refine (awake_any w1).mono ?_
    rintro e w2 ⟨rfl, hb2⟩
    have HB2 := Lib.hid (HB1.out.trans (hb2.mono HB1.out.size))
    clear hb2
    go_wp2
    go_ret
    exact ⟨rfl, HB2.out⟩
  have hl : l.length ≤ 2000 := by omega
  go_wp2_with fail
  refine (read_any HI1.out).mono ?_
  rintro e w2 ⟨rfl, hr, hb2⟩
  have HR2 := Lib.hid hr
  have HB2 := Lib.hid (HB1.out.trans (hb2.mono HB1.out.size))
  have hbg := HB1.out.size
  clear hr hb2
  obtain ⟨gr, hgr⟩ : ∃ gr, gr = w1.heap.size := ⟨_, rfl⟩
  rw [← hgr] at hbg HR2 ⊢
  clear hgr
  go_wp2_with fail
  go_loopg [] 2002 (fun q wr => ∃ (l' : List UInt8) (e : Nat), Rdr wr gr l' e ∧ l'.length ≤ 2000 ∧ l'.length + (if e = 0 then 1 else 0) ≤ q ∧ (e ≠ 0 → l' = []) ∧ Below w.heap.size w wr)
  case atStart => exact ⟨l, 0, HR2.out, hl, by rw [if_pos rfl]; omega, fun h => absurd rfl h, HB2.out⟩
  case round =>
    obtain ⟨l', e, hr, hl', hq, he, hB⟩ := hrel
    have HR := Lib.hid hr
    have HB := Lib.hid hB
    have HE := Lib.hid he
    clear hr hB he
    by_cases h0 : e = 0
    · subst h0
      rw [if_pos rfl] at hq
      have hn0 := number_any HR.out (by omega)
      have hnc := number_cases l' 0
      have hne : number l' 0 = rdn 0 0 l' := if_pos rfl
      have h1 := rdn_less l' 0 0
      have h2 := rdn_stop l' 0 0
      rw [hne] at hn0 hnc
      revert hn0 hnc h1 h2
      generalize rdn 0 0 l' = nr
      obtain ⟨u, l2, e2⟩ := nr
      intro hn0 hnc h1 h2
      have HNC := Lib.hid hnc.2
      have H1 := Lib.hid h1
      have H2 := Lib.hid h2
      clear hne hnc h1 h2
      go_wp2_with fail
      refine (err_any HR.out).mono ?_
      rintro en w' ⟨rfl, rfl⟩
      go_wp2_with fail
      refine hn0.mono ?_
      rintro en w3 ⟨rfl, hr3, hg3⟩
      have HR3 := Lib.hid (show Rdr w3 gr l2 e2 from hr3)
      have HB3 := Lib.hid (HB.out.grown hg3 HB.out.size (fun k e => by injection e with e; subst e; exact hbg))
      clear hr3 hg3 hn0
      go_wp2
      go_roundg (l2.length + (if e2 = 0 then 1 else 0))
      case measure =>
        have h1 := H1.out
        have h2 := H2.out
        by_cases hz : e2 = 0
        · have h3 : l2.length < l'.length := h1 hz
          rw [if_pos hz]
          omega
        · have h3 : l2 = [] := h2 hz
          rw [if_neg hz, h3, List.length_nil]
          omega
      case rel => exact ⟨l2, e2, HR3.out, by have h3 : l2.length ≤ l'.length := HNC.out; omega, Nat.le_refl _, fun h => H2.out h, HB3.out⟩
    · obtain rfl := HE.out h0
      have hn : ((e : Int) == 0) = false := by rw [beq_eq_false_iff_ne]; omega
      have hn2 : ((e : Int) != 0) = true := by rw [bne, hn]; rfl
      have H0 := Lib.hid h0
      clear h0 hq hl'
      go_wp2_with fail
      refine (err_any HR.out).mono ?_
      rintro en w' ⟨rfl, rfl⟩
      go_wp2_with fail
      refine (err_any HR.out).mono ?_
      rintro en w' ⟨rfl, rfl⟩
      have hB3 := (Below.refl wr.heap.size wr).alloc (Nat.le_refl _) (.cells #[.slice none 0 0, .int .i64 0] 46)
      have hz3 : Rdr (wr.alloc (.cells #[.slice none 0 0, .int .i64 0] 46)) wr.heap.size [] 0 := ⟨none, 0, heap_alloc_new wr _, .inl ⟨rfl, rfl, rfl⟩⟩
      have HZ3 := Lib.hid hz3
      have HR3 := Lib.hid (HR.out.below hB3)
      have HB3 := Lib.hid (HB.out.trans (hB3.mono HB.out.size))
      have hgrz : gr < wr.heap.size := HR.out.lt
      have hEz : endOf [] 0 = 0 := rfl
      clear hB3 hz3
      go_wp2_with fail
      refine (err_nil _).mono ?_
      rintro en w' ⟨rfl, rfl⟩
      go_wp2_with fail
      refine (end_nil _).mono ?_
      rintro en w' ⟨rfl, rfl⟩
      go_wp2_with fail
      refine (left_nil _).mono ?_
      rintro en w' ⟨rfl, rfl⟩
      go_wp2_with fail
      refine (number_nil _).mono ?_
      rintro en w' ⟨rfl, rfl⟩
      go_wp2_with fail
      refine (end_any HZ3.out).mono ?_
      rw [hEz]
      rintro en w' ⟨rfl, rfl⟩
      go_wp2_with fail
      refine (left_any HZ3.out).mono ?_
      rintro en w' ⟨rfl, rfl⟩
      go_wp2_with fail
      obtain ⟨gz, hgz⟩ : ∃ gz, gz = wr.heap.size := ⟨_, rfl⟩
      have hz3 : (wr.alloc (.cells #[.slice none 0 0, .int .i64 0] 46)).heap[gz]? = some (.cells #[.slice none 0 0, .int .i64 0] 46 (0, 0)) := by rw [hgz]; exact heap_alloc_new wr _
      have HZ := Lib.hid hz3
      rw [← hgz] at hgrz ⊢
      have HBG : Hid (w.heap.size ≤ gz) := by rw [hgz]; exact HB.out.size
      have HEN := Lib.hid (show endOf [] e = e from by rw [endOf, if_neg H0.out])
      have HNE := Lib.hid (number_stopped e H0.out)
      have HTE := Lib.hid (fun most => text_stopped most e H0.out)
      clear HZ3 hgz hz3
      go_loopg [64] sc.length (fun q t wx => ∃ i : Nat, i ≤ sc.length ∧ sc.length - i ≤ q ∧ t = .int .i64 i ∧ Rdr wx gr [] e ∧ wx.heap[gz]? = some (.cells #[.slice none 0 0, .int .i64 0] 46 (0, 0)) ∧ Below w.heap.size w wx)
      case atStart => exact ⟨0, Nat.zero_le _, by omega, rfl, HR3.out, HZ.out, HB3.out⟩
      case round =>
        obtain ⟨i, hi, hq, rfl, hr, hz, hB⟩ := hrel
        have HRx := Lib.hid hr
        have HZx := Lib.hid hz
        have HBx := Lib.hid hB
        clear hr hz hB
        by_cases hlt : i < sc.length
        · obtain rfl := HSC.out.1 (by omega)
          have hsb := HSC.out.2.1 (by omega)
          go_wp2_with fail
          refine (number_any HRx.out (by decide)).mono ?_
          rw [HNE.out]
          rintro en w4 ⟨rfl, hr, hg⟩
          have HR4 := Lib.hid (show Rdr w4 gr [] e from hr)
          have HB4 := Lib.hid (HBx.out.grown hg HBx.out.size (fun k e => by injection e with e; subst e; exact hbg))
          have HZ4 := Lib.hid ((hg.block gz (lt_of_block HZx.out) (fun e => by injection e with e; omega)).trans HZx.out)
          have c4 := ((HSC.out.below HB4.out).2.2.2 i hlt).2
          clear hr hg
          go_wp2_with fail
          refine (text_any HR4.out (by decide) (sat sc i).n).mono ?_
          rw [HTE.out]
          rintro en w5 ⟨rfl, hr, hg⟩
          rw [show bs (([] : List UInt8), ([] : List UInt8), e).1 = (⟨#[]⟩ : ByteArray) from rfl]
          have HR5 := Lib.hid (show Rdr w5 gr [] e from hr)
          have HB5 := Lib.hid (HB4.out.grown hg HB4.out.size (fun k e => by injection e with e; subst e; exact hbg))
          have HZ5 := Lib.hid ((hg.block gz (lt_of_block HZ4.out) (fun e => by injection e with e; omega)).trans HZ4.out)
          have c5 := ((HSC.out.below HB5.out).2.2.2 i hlt).2
          clear hr hg c4
          go_wp2_with fail
          refine (text_nil w5 (sat sc i).n).mono ?_
          rintro en w' ⟨rfl, rfl⟩
          rw [show bs ([] : List UInt8) = (⟨#[]⟩ : ByteArray) from rfl]
          go_wp2_with fail
          refine (err_any HR5.out).mono ?_
          rintro en w' ⟨rfl, rfl⟩
          go_wp2_with fail
          refine (end_any HR5.out).mono ?_
          rw [HEN.out]
          rintro en w' ⟨rfl, rfl⟩
          go_wp2_with fail
          refine (left_any HR5.out).mono ?_
          rintro en w' ⟨rfl, rfl⟩
          go_wp2
          go_roundg (sc.length - (i + 1))
          case measure => omega
          case rel => exact ⟨i + 1, by omega, Nat.le_refl _, by go_num, HR5.out, HZ5.out, HB5.out⟩
        · obtain rfl : i = sc.length := by omega
          have hzr : Rdr _ gz [] 0 := ⟨none, 0, HZx.out, .inl ⟨rfl, rfl, rfl⟩⟩
          have HZR := Lib.hid hzr
          clear hzr
          go_wp2_with fail
          refine (number_any HZR.out (by decide)).mono ?_
          rw [show number [] 0 = (0, [], 2) from rfl]
          rintro en w4 ⟨rfl, hr, hg⟩
          have HR4 := Lib.hid (show Rdr w4 gz [] 2 from hr)
          have HB4 := Lib.hid (HBx.out.grown hg HBx.out.size (fun k e => by injection e with e; subst e; exact HBG.out))
          clear hr hg
          go_wp2_with fail
          refine (err_any HR4.out).mono ?_
          rintro en w' ⟨rfl, rfl⟩
          go_wp2
          go_ret
          exact ⟨rfl, HB4.out⟩

end Go.Proofs.Ytbamkkohfeglaaa
