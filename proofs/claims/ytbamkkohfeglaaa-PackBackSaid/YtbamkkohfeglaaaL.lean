/- PackBack's walk. -/
import Derived.Test.YtbamkkohfeglaaaT
import Derived.Test.YtbamkkohfeglaaaH
namespace Go.Proofs.Ytbamkkohfeglaaa
open Go.RowKit Go.Sort
attribute [local go_sem ↓] run_min2 run_max2

def iat (zs : List Int) (k : Nat) : Int := zs.getD k 0
def tat (ss : List ByteArray) (k : Nat) : ByteArray := ss.getD k ⟨#[]⟩
/-- Numbers that came in. -/
def CameI (w : World) (a : Option Addr) (b off : Nat) (zs : List Int) : Prop :=
  (0 < zs.length → a = some ⟨b, off, none⟩) ∧ (0 < zs.length → b < w.heap.size) ∧ zs.length ≤ 9223372036854775807 ∧ ∀ k, k < zs.length → w.cell? ⟨b, off + k, none⟩ = some (.int .i64 (iat zs k))
theorem CameI.below {w w' : World} {a : Option Addr} {b off : Nat} {zs : List Int} (h : CameI w a b off zs) (hB : Below w.heap.size w w') : CameI w' a b off zs :=
  ⟨h.1, fun h0 => Nat.lt_of_lt_of_le (h.2.1 h0) hB.size, h.2.2.1, fun k hk => (World.cell?_of_block (a := ⟨b, _, none⟩) (hB.block b (h.2.1 (by omega)))).trans (h.2.2.2 k hk)⟩
/-- Texts that came in. -/
def CameT (w : World) (a : Option Addr) (b off : Nat) (ss : List ByteArray) : Prop :=
  (0 < ss.length → a = some ⟨b, off, none⟩) ∧ (0 < ss.length → b < w.heap.size) ∧ ss.length ≤ 9223372036854775807 ∧ ∀ k, k < ss.length → w.cell? ⟨b, off + k, none⟩ = some (.string (tat ss k)) ∧ (tat ss k).size ≤ 9223372036854775807
theorem CameT.below {w w' : World} {a : Option Addr} {b off : Nat} {ss : List ByteArray} (h : CameT w a b off ss) (hB : Below w.heap.size w w') : CameT w' a b off ss :=
  ⟨h.1, fun h0 => Nat.lt_of_lt_of_le (h.2.1 h0) hB.size, h.2.2.1, fun k hk => ⟨(World.cell?_of_block (a := ⟨b, _, none⟩) (hB.block b (h.2.1 (by omega)))).trans (h.2.2.2 k hk).1, (h.2.2.2 k hk).2⟩⟩
/-- All numbers, laid. -/
def lN : List Int → List UInt8
  | [] => []
  | z :: zs => num (clamp z) ++ lN zs
def lT : List ByteArray → List UInt8
  | [] => []
  | s :: ss => txt s ++ lT ss
theorem lN_append : ∀ a b, lN (a ++ b) = lN a ++ lN b
  | [], _ => rfl
  | z :: a, b => by rw [List.cons_append, lN, lN, lN_append a b, List.append_assoc]
theorem lT_append : ∀ a b, lT (a ++ b) = lT a ++ lT b
  | [], _ => rfl
  | z :: a, b => by rw [List.cons_append, lT, lT, lT_append a b, List.append_assoc]
theorem take_snocI {zs : List Int} {k : Nat} (h : k < zs.length) : zs.take (k + 1) = zs.take k ++ [iat zs k] := by
  rw [List.take_succ_eq_append_getElem h]
  simp [iat, List.getD, h]
theorem take_snocT {zs : List ByteArray} {k : Nat} (h : k < zs.length) : zs.take (k + 1) = zs.take k ++ [tat zs k] := by
  rw [List.take_succ_eq_append_getElem h]
  simp [tat, List.getD, h]
theorem drop_consI {zs : List Int} {k : Nat} (h : k < zs.length) : zs.drop k = iat zs k :: zs.drop (k + 1) := by
  rw [List.drop_eq_getElem_cons h]
  simp [iat, List.getD, h]
theorem drop_consT {zs : List ByteArray} {k : Nat} (h : k < zs.length) : zs.drop k = tat zs k :: zs.drop (k + 1) := by
  rw [List.drop_eq_getElem_cons h]
  simp [tat, List.getD, h]
theorem lN_len : ∀ zs, (lN zs).length ≤ 9 * zs.length
  | [] => Nat.le_refl _
  | z :: zs => by
    rw [lN, List.length_append, List.length_cons]
    have := lN_len zs
    have := num_len (clamp z)
    omega
theorem txt_len {s : ByteArray} (h : s.size ≤ 200) : (txt s).length ≤ 209 := by
  rw [txt, List.length_append, bl_length]
  have := num_len s.size
  omega
theorem lT_len : ∀ ss : List ByteArray, (∀ s ∈ ss, s.size ≤ 200) → (lT ss).length ≤ 209 * ss.length
  | [], _ => Nat.le_refl _
  | s :: ss, h => by
    rw [lT, List.length_append, List.length_cons]
    have := lT_len ss (fun x hx => h x (List.mem_cons_of_mem _ hx))
    have := txt_len (h s List.mem_cons_self)
    omega
theorem tat_mem {ss : List ByteArray} {P : ByteArray → Prop} {n : Nat} (hn : n ≤ ss.length) (h : ∀ j, j < n → P (tat ss j)) : ∀ s ∈ ss.take n, P s := by
  intro s hs
  obtain ⟨j, hj, rfl⟩ := List.mem_iff_getElem.1 hs
  rw [List.length_take] at hj
  have h1 := h j (by omega)
  simpa [tat, List.getD, show j < ss.length from by omega] using h1
def Few (ss : List ByteArray) (i : Nat) : Prop := ∀ j, j < i → (tat ss j).size ≤ 200
/-- No operation stands behind a guard. -/
def noneB (ops : Array Oper) : Bool := (List.range ops.size).all fun i => match ops[i]? with | some o => o.guard.isNone | none => true
theorem GuardsJ.none {ops : Array Oper} {V : Nat → Value → Prop} {J : (Nat → Bool) → World → Prop} (h : noneB ops = true) : GuardsJ ops (fun _ => true) V J := by
  refine ⟨fun i o j b ho hg => ?_, fun _ _ _ _ => rfl, fun i hi => by cases hi⟩
  have hi : i < ops.size := (Array.getElem?_eq_some_iff.1 ho).1
  have h1 := List.all_eq_true.1 h i (List.mem_range.2 hi)
  rw [ho] at h1
  have h2 : o.guard.isNone = true := h1
  rw [hg] at h2
  cases h2
/-- What holds in the region of the third loop. -/
structure J20 (wB : World) (kc gr cb co : Nat) (cv : Value) (r0 r1 : List UInt8) (done : Nat → Bool) (w : World) : Prop where
  pre : done kc = false → Rdr w gr r0 0
  post : done kc = true → Rdr w gr r1 0
  below : Below wB.heap.size wB w
  cell : w.cell? ⟨cb, co, none⟩ = some cv
theorem J20.skip {wB : World} {kc gr cb co : Nat} {cv : Value} {r0 r1 : List UInt8} {done : Nat → Bool} {w : World} (h : J20 wB kc gr cb co cv r0 r1 done w) {k : Nat} (hk : kc ≠ k) : J20 wB kc gr cb co cv r0 r1 (mark done k) w :=
  ⟨fun e => h.pre (by rwa [mark, if_neg hk] at e), fun e => h.post (by rwa [mark, if_neg hk] at e), h.below, h.cell⟩
theorem J20.done {wB : World} {kc gr cb co : Nat} {cv : Value} {r0 r1 : List UInt8} {done : Nat → Bool} {w w' : World} (h : J20 wB kc gr cb co cv r0 r1 done w) (hr : Rdr w' gr r1 0) (hg2 : w.grownBy w' (some gr)) (hg : wB.heap.size ≤ gr) (hn : cb ≠ gr) : J20 wB kc gr cb co cv r0 r1 (mark done kc) w' := by
  refine ⟨fun e => by simp [mark] at e, fun _ => hr, h.below.grown hg2 h.below.size (fun k e => by injection e with e; subst e; exact hg), ?_⟩
  refine (World.cell?_of_block (a := ⟨cb, _, none⟩) (hg2.block cb ?_ (fun e => hn (by injection e)))).trans h.cell
  exact World.block_lt_of_cell? w _ h.cell
theorem j_number {wB : World} {gr cb co : Nat} {cv : Value} {z : Int} {r : List UInt8} {done : Nat → Bool} {w : World} (h : J20 wB 1 gr cb co cv (num (clamp z) ++ r) r done w) (hdn : done 1 = false) (hl : r.length ≤ 900000 := by assumption) (hg : wB.heap.size ≤ gr := by assumption) (hn : cb ≠ gr := by assumption) {V : Value → Prop} (hV : V (.int .i64 (clamp z)) := by exact rfl) :
    jUpon Try.prog V (J20 wB 1 gr cb co cv (num (clamp z) ++ r) r (mark done 1)) (.ok (.enter 16 #[.pointer (some ⟨gr, 0, none⟩)]) w) := by
  refine (number_any (h.pre hdn) (by rw [List.length_append]; have := num_len (clamp z); omega)).mono ?_
  rw [number_num _ (clamp_le z)]
  rintro e w' ⟨rfl, hr, hg2⟩
  exact ⟨_, rfl, hV, h.done hr hg2 hg hn⟩
theorem j_text {wB : World} {gr cb co : Nat} {cv : Value} {s : ByteArray} {r : List UInt8} {done : Nat → Bool} {w : World} (h : J20 wB 6 gr cb co cv (txt s ++ r) r done w) (hdn : done 6 = false) (hs : s.size ≤ 200 := by assumption) (hl : r.length ≤ 900000 := by assumption) (hg : wB.heap.size ≤ gr := by assumption) (hn : cb ≠ gr := by assumption) {V : Value → Prop} (hV : V (.string s) := by exact rfl) :
    jUpon Try.prog V (J20 wB 6 gr cb co cv (txt s ++ r) r (mark done 6)) (.ok (.enter 19 #[.pointer (some ⟨gr, 0, none⟩), .int .i64 s.size]) w) := by
  refine (text_any (h.pre hdn) (by rw [List.length_append]; have := txt_len hs; omega) s.size).mono ?_
  rw [text_txt s r s.size (by omega) (Int.le_refl _)]
  rintro e w' ⟨rfl, hr, hg2⟩
  exact ⟨_, rfl, hV, h.done hr hg2 hg hn⟩
def V20 (nv : Value) (g b off ii : Nat) (z : Int) (i : Nat) (v : Value) : Prop :=
  match i with
  | 0 => v = .pointer (some ⟨g, 0, none⟩)
  | 1 => v = .int .i64 (clamp z)
  | 2 => v = nv
  | 3 => v = .int .i64 ii
  | 4 => v = .pointer (some ⟨b, off + ii, none⟩)
  | 5 => v = .int .i64 z
  | 6 => v = .int .i64 (min z 1152921504606846975)
  | 7 => v = .int .i64 (clamp z)
  | 8 => v = .bool false
  | _ => True
def V26 (tv : Value) (g b off ii : Nat) (s : ByteArray) (i : Nat) (v : Value) : Prop :=
  match i with
  | 0 => v = .pointer (some ⟨g, 0, none⟩)
  | 1 => v = tv
  | 2 => v = .int .i64 ii
  | 3 => v = .pointer (some ⟨b, off + ii, none⟩)
  | 4 => v = .string s
  | 5 => v = .int .i64 s.size
  | 6 => v = .string s
  | 7 => v = tv
  | 8 => v = .int .i64 ii
  | 9 => v = .pointer (some ⟨b, off + ii, none⟩)
  | 10 => v = .string s
  | 11 => v = .bool false
  | _ => True

set_option maxRecDepth 20000 in
set_option maxHeartbeats 6400000 in
theorem back_walk (a : Option Addr) (nb noff nc : Nat) (zs : List Int) (a2 : Option Addr) (tb toff tc : Nat) (ss : List ByteArray) (w : World) (hz : CameI w a nb noff zs) (hs : CameT w a2 tb toff ss) :
    Calls Try.prog 9 #[.slice a zs.length nc, .slice a2 ss.length tc] w fun e w' => e = .returned (.bool true) ∧ Below w.heap.size w w' := by
  have HZ := Lib.hid hz
  have HS := Lib.hid hs
  have hzl := hz.2.2.1
  have hsl := hs.2.2.1
  clear hz hs
  go_enter Try.func9, Try.ntmps9
  go_wp2_with fail
  refine (awake_any w).mono ?_
  rintro e w1 ⟨rfl, hb1⟩
  have HB1 := Lib.hid hb1
  clear hb1
  by_cases hbig : (zs.length : Int) > 100
  · go_wp2_with fail
    refine (awake_any w1).mono ?_
    rintro e w2 ⟨rfl, hb2⟩
    have HB2 := Lib.hid (HB1.out.trans (hb2.mono HB1.out.size))
    clear hb2
    go_wp2
    go_ret
    exact ⟨rfl, HB2.out⟩
  by_cases hbig2 : (ss.length : Int) > 100
  · go_wp2_with fail
    refine (awake_any w1).mono ?_
    rintro e w2 ⟨rfl, hb2⟩
    have HB2 := Lib.hid (HB1.out.trans (hb2.mono HB1.out.size))
    clear hb2
    go_wp2
    go_ret
    exact ⟨rfl, HB2.out⟩
  have hz100 : zs.length ≤ 100 := by omega
  have hs100 : ss.length ≤ 100 := by omega
  have hw1 := HB1.out.size
  go_wp2_with fail
  go_loopg [5, 26] zs.length (fun q v t wr => ∃ i : Nat, i ≤ zs.length ∧ zs.length - i ≤ q ∧ t = .int .i64 i ∧ Own w1.heap.size wr v (lN (zs.take i)) ∧ Below w1.heap.size w1 wr)
  case atStart => exact ⟨0, Nat.zero_le _, by omega, rfl, own_nil _ _, Below.refl _ _⟩
  case round =>
    obtain ⟨i, hi, hq, rfl, hown, hB⟩ := hrel
    have HB := Lib.hid (HB1.out.trans (hB.mono hw1))
    have hwr := hB.size
    have hlen := lN_len (zs.take i)
    rw [List.length_take] at hlen
    by_cases hlt : i < zs.length
    · obtain rfl := HZ.out.1 (by omega)
      have c0 := (HZ.out.below HB.out).2.2.2 i hlt
      have HS2 := Lib.hid (show lN (zs.take (i + 1)) = lN (zs.take i) ++ num (clamp (iat zs i)) from by rw [take_snocI hlt, lN_append, lN, lN, List.append_nil])
      have HL := lay_any (.inl hown) hwr (by omega) (iat zs i)
      have HBB := Lib.hid hB
      clear hown hB hlen
      go_wp2_with fail
      refine HL.mono ?_
      rintro e w2 ⟨v2, rfl, hown2, hb2⟩
      have HO := Lib.hid hown2
      have HB2 := Lib.hid (HBB.out.trans hb2)
      clear HL hown2 hb2 c0
      go_wp2
      go_roundg (zs.length - (i + 1))
      case measure => omega
      case rel => exact ⟨i + 1, by omega, Nat.le_refl _, by go_num, by rw [HS2.out]; exact HO.out, HB2.out⟩
    · obtain rfl : i = zs.length := by omega
      rw [List.take_length] at hown
      have HO1 := Lib.hid hown
      have HBB := Lib.hid hB
      have hnl := lN_len zs
      clear hown hB hlen
      go_wp2_with fail
      go_loopg [5, 38] ss.length (fun q v t wr => ∃ i : Nat, i ≤ ss.length ∧ ss.length - i ≤ q ∧ t = .int .i64 i ∧ Few ss i ∧ Own w1.heap.size wr v (lN zs ++ lT (ss.take i)) ∧ Below w1.heap.size w1 wr)
      case atStart => exact ⟨0, Nat.zero_le _, by omega, rfl, fun j hj => absurd hj (Nat.not_lt_zero j), by rw [List.take_zero, lT, List.append_nil]; exact HO1.out, HBB.out⟩
      case round =>
        obtain ⟨i, hi, hq, rfl, hfew, hown, hB⟩ := hrel
        have HB := Lib.hid (HB1.out.trans (hB.mono hw1))
        have hwr := hB.size
        have hlen := lT_len (ss.take i) (tat_mem (P := fun s => s.size ≤ 200) hi hfew)
        rw [List.length_take] at hlen
        have HF := Lib.hid hfew
        by_cases hlt : i < ss.length
        · obtain rfl := HS.out.1 (by omega)
          have c0 := ((HS.out.below HB.out).2.2.2 i hlt).1
          have hsz9 := ((HS.out.below HB.out).2.2.2 i hlt).2
          have HS2 := Lib.hid (show lN zs ++ lT (ss.take (i + 1)) = (lN zs ++ lT (ss.take i)) ++ txt (tat ss i) from by rw [take_snocT hlt, lT_append, lT, lT, List.append_nil, List.append_assoc])
          by_cases h200 : ((tat ss i).size : Int) > 200
          · clear hown hB hlen hfew
            go_wp2
            go_ret
            exact ⟨rfl, HB.out⟩
          · have h200' : (tat ss i).size ≤ 200 := by omega
            have HL := laytext_any (.inl hown) hwr (by rw [List.length_append]; omega) (tat ss i) (by omega)
            have HBB := Lib.hid hB
            clear hown hB hlen hfew
            go_wp2_with fail
            refine HL.mono ?_
            rintro e w2 ⟨v2, rfl, hown2, hb2⟩
            have HO := Lib.hid hown2
            have HB2 := Lib.hid (HBB.out.trans hb2)
            clear HL hown2 hb2 c0
            go_wp2
            go_roundg (ss.length - (i + 1))
            case measure => omega
            case rel =>
              refine ⟨i + 1, by omega, Nat.le_refl _, by go_num, fun j hj => ?_, by rw [HS2.out]; exact HO.out, HB2.out⟩
              by_cases hji : j = i
              · rw [hji]
                exact h200'
              · exact HF.out j (by omega)
        · obtain rfl : i = ss.length := by omega
          rw [List.take_length] at hown hlen
          have hLL : (lN zs ++ lT ss).length ≤ 100000 := by rw [List.length_append]; omega
          have hTL : (lT ss).length ≤ 100000 := by omega
          have HTL := Lib.hid hTL
          have hLL2 := Lib.hid hLL
          obtain ⟨L, hL⟩ : ∃ L, L = lN zs ++ lT ss := ⟨_, rfl⟩
          rw [← hL] at hown hLL
          obtain ⟨a8, c8, rfl, hhb⟩ := own_form hown
          have HH := Lib.hid hhb
          have HL := Lib.hid hL
          clear hown hB hlen hhb hL hfew hTL
          go_wp2_with fail
          refine (read_any HH.out).mono ?_
          rintro e w3 ⟨rfl, hr, hb3⟩
          have HR3 := Lib.hid hr
          have HB3 := Lib.hid (HB.out.trans (hb3.mono HB.out.size))
          have hwg := HB.out.size
          clear hr hb3
          go_wp2_with fail
          obtain ⟨gr, hgr⟩ : ∃ gr, gr = wr.heap.size := ⟨_, rfl⟩
          rw [← hgr] at hwg HR3 ⊢
          clear hgr
          go_loopg [58] zs.length (fun q t wr => ∃ i : Nat, i ≤ zs.length ∧ zs.length - i ≤ q ∧ t = .int .i64 i ∧ Rdr wr gr (lN (zs.drop i) ++ lT ss) 0 ∧ Below w.heap.size w wr)
          case atStart => exact ⟨0, Nat.zero_le _, by omega, rfl, by rw [List.drop_zero, ← HL.out]; exact HR3.out, HB3.out⟩
          case round =>
            obtain ⟨i, hi, hq, rfl, hr, hB⟩ := hrel
            have HB := Lib.hid hB
            have HR := Lib.hid hr
            clear hr hB
            by_cases hlt : i < zs.length
            · obtain rfl := HZ.out.1 (by omega)
              have hdl := lN_len (zs.drop (i + 1))
              rw [List.length_drop] at hdl
              have hrl : (lN (zs.drop (i + 1)) ++ lT ss).length ≤ 900000 := by rw [List.length_append]; have := HTL.out; omega
              have hnb := HZ.out.2.1 (by omega)
              have hng : nb ≠ gr := by omega
              have hrr : Rdr wr.drew gr (num (clamp (iat zs i)) ++ (lN (zs.drop (i + 1)) ++ lT ss)) 0 := by
                have h := HR.out
                rw [drop_consI hlt, lN, List.append_assoc] at h
                exact h.same fun _ _ => rfl
              have HJ := Lib.hid (show J20 w 1 gr nb (noff + i) (.int .i64 (iat zs i)) (num (clamp (iat zs i)) ++ (lN (zs.drop (i + 1)) ++ lT ss)) (lN (zs.drop (i + 1)) ++ lT ss) (fun i => decide (9 ≤ i)) wr.drew from ⟨fun _ => hrr, fun e => absurd e (by decide), HB.out.drew, (HZ.out.below HB.out).2.2.2 i hlt⟩)
              have hcz := (clamp_eq (iat zs i)).symm
              have ix1 : (0 : Int) ≤ (i : Int) := by omega
              have ix2 : (i : Int) < (zs.length : Int) := by omega
              clear hrr hdl
              have HCZ := Lib.hid hcz
              clear hcz
              go_wp2_with fail
              have hcz := HCZ.out
              refine wp_region_inv (V20 (.slice (some ⟨nb, noff, none⟩) zs.length nc) gr nb noff i (iat zs i)) (J20 w 1 gr nb (noff + i) (.int .i64 (iat zs i)) (num (clamp (iat zs i)) ++ (lN (zs.drop (i + 1)) ++ lT ss)) (lN (zs.drop (i + 1)) ++ lT ss)) (fun _ => true) [61, 62, 63, 64, 65, 66, 67, 68, 69] (GuardsJ.none (by kernel_rfl)) (by kernel_rfl) (by kernel_rfl) (by kernel_rfl) (by decide) (by kernel_rfl) HJ.out ?_ ?_
              · intro i' o ho _
                match i', ho with
                | 0, ho =>
                  obtain rfl := Option.some.inj ho
                  intro x wx done hj hdn hrest hd
                  have h : x.tmps.getD 8 undef = .pointer (some ⟨gr, 0, none⟩) := hrest 8 (by decide)
                  exact ⟨h, hj.skip (by decide)⟩
                | 1, ho =>
                  obtain rfl := Option.some.inj ho
                  intro x wx done hj hdn hrest hd
                  have h0 : x.tmps.getD 61 undef = .pointer (some ⟨gr, 0, none⟩) := (hd 0 (by decide)).2
                  simp [execOp, Act.eval, h0, go_sem]
                  exact j_number hj hdn
                | 2, ho =>
                  obtain rfl := Option.some.inj ho
                  intro x wx done hj hdn hrest hd
                  have h : x.tmps.getD 0 undef = .slice (some ⟨nb, noff, none⟩) zs.length nc := hrest 0 (by decide)
                  exact ⟨h, hj.skip (by decide)⟩
                | 3, ho =>
                  obtain rfl := Option.some.inj ho
                  intro x wx done hj hdn hrest hd
                  have h : x.tmps.getD 9 undef = .int .i64 i := hrest 9 (by decide)
                  exact ⟨h, hj.skip (by decide)⟩
                | 4, ho =>
                  obtain rfl := Option.some.inj ho
                  intro x wx done hj hdn hrest hd
                  have h0 : x.tmps.getD 63 undef = .slice (some ⟨nb, noff, none⟩) zs.length nc := (hd 2 (by decide)).2
                  have h1 : x.tmps.getD 64 undef = .int .i64 i := (hd 3 (by decide)).2
                  simp [execOp, Act.eval, h0, h1, hlt, go_sem]
                  exact ⟨rfl, hj.skip (by decide)⟩
                | 5, ho =>
                  obtain rfl := Option.some.inj ho
                  intro x wx done hj hdn hrest hd
                  have h0 : x.tmps.getD 65 undef = .pointer (some ⟨nb, noff + i, none⟩) := (hd 4 (by decide)).2
                  have hc := hj.cell
                  simp [execOp, Act.eval, h0, hc, go_sem]
                  exact ⟨rfl, hj.skip (by decide)⟩
                | 6, ho =>
                  obtain rfl := Option.some.inj ho
                  intro x wx done hj hdn hrest hd
                  have h0 : x.tmps.getD 66 undef = .int .i64 (iat zs i) := (hd 5 (by decide)).2
                  simp [execOp, Act.eval, h0, go_sem]
                  exact ⟨rfl, hj.skip (by decide)⟩
                | 7, ho =>
                  obtain rfl := Option.some.inj ho
                  intro x wx done hj hdn hrest hd
                  have h0 : x.tmps.getD 67 undef = .int .i64 (min (iat zs i) 1152921504606846975) := (hd 6 (by decide)).2
                  simp [execOp, Act.eval, h0, hcz, go_sem]
                  exact ⟨rfl, hj.skip (by decide)⟩
                | 8, ho =>
                  obtain rfl := Option.some.inj ho
                  intro x wx done hj hdn hrest hd
                  have h0 : x.tmps.getD 62 undef = .int .i64 (clamp (iat zs i)) := (hd 1 (by decide)).2
                  have h1 : x.tmps.getD 68 undef = .int .i64 (clamp (iat zs i)) := (hd 7 (by decide)).2
                  simp [execOp, Act.eval, h0, h1, go_sem]
                  exact ⟨rfl, hj.skip (by decide)⟩
                | n + 9, ho => cases ho
              · intro vs wx hvl hv hj
                match vs, hvl, hv with
                | [v0, v1, v2, v3, v4, v5, v6, v7, v8], _, hv =>
                  have h8 : v8 = .bool false := hv 8 (by simp)
                  subst h8
                  have HR2 := Lib.hid (hj.post rfl)
                  have HB2 := Lib.hid hj.below
                  clear hv hj
                  simp only [setF, List.setIfInBounds_toArray, List.set_cons_succ, List.set_cons_zero]
                  go_wp2
                  go_roundg (zs.length - (i + 1))
                  case measure => omega
                  case rel => exact ⟨i + 1, by omega, Nat.le_refl _, by go_num, HR2.out, HB2.out⟩
            · obtain rfl : i = zs.length := by omega
              have HR0 := Lib.hid (show Rdr wr gr (lT ss) 0 from by have h := HR.out; rwa [List.drop_length, lN, List.nil_append] at h)
              clear HR
              go_wp2_with fail
              go_loopg [73] ss.length (fun q t wr => ∃ i : Nat, i ≤ ss.length ∧ ss.length - i ≤ q ∧ t = .int .i64 i ∧ Rdr wr gr (lT (ss.drop i)) 0 ∧ Below w.heap.size w wr)
              case atStart => exact ⟨0, Nat.zero_le _, by omega, rfl, by rw [List.drop_zero]; exact HR0.out, HB.out⟩
              case round =>
                obtain ⟨i, hi, hq, rfl, hr, hB⟩ := hrel
                have HB := Lib.hid hB
                have HR := Lib.hid hr
                clear hr hB
                by_cases hlt : i < ss.length
                · obtain rfl := HS.out.1 (by omega)
                  have h200 : (tat ss i).size ≤ 200 := HF.out i hlt
                  have hrl : (lT (ss.drop (i + 1))).length ≤ 900000 := by
                    have hd := lT_len (ss.drop (i + 1)) (fun s hs => by
                      obtain ⟨j, hj, rfl⟩ := List.mem_iff_getElem.1 hs
                      rw [List.length_drop] at hj
                      have h1 := HF.out (i + 1 + j) (by omega)
                      simpa [tat, List.getD, show i + 1 + j < ss.length from by omega] using h1)
                    rw [List.length_drop] at hd
                    omega
                  have hnb := HS.out.2.1 (by omega)
                  have hng : tb ≠ gr := by omega
                  have hrr : Rdr wr.drew gr (txt (tat ss i) ++ lT (ss.drop (i + 1))) 0 := by
                    have h := HR.out
                    rw [drop_consT hlt, lT] at h
                    exact h.same fun _ _ => rfl
                  have HJ := Lib.hid (show J20 w 6 gr tb (toff + i) (.string (tat ss i)) (txt (tat ss i) ++ lT (ss.drop (i + 1))) (lT (ss.drop (i + 1))) (fun i => decide (12 ≤ i)) wr.drew from ⟨fun _ => hrr, fun e => absurd e (by decide), HB.out.drew, ((HS.out.below HB.out).2.2.2 i hlt).1⟩)
                  have ix1 : (0 : Int) ≤ (i : Int) := by omega
                  have ix2 : (i : Int) < (ss.length : Int) := by omega
                  clear hrr
                  go_wp2_with fail
                  refine wp_region_inv (V26 (.slice (some ⟨tb, toff, none⟩) ss.length tc) gr tb toff i (tat ss i)) (J20 w 6 gr tb (toff + i) (.string (tat ss i)) (txt (tat ss i) ++ lT (ss.drop (i + 1))) (lT (ss.drop (i + 1)))) (fun _ => true) [76, 77, 78, 79, 80, 81, 82, 83, 84, 85, 86, 87] (GuardsJ.none (by kernel_rfl)) (by kernel_rfl) (by kernel_rfl) (by kernel_rfl) (by decide) (by kernel_rfl) HJ.out ?_ ?_
                  · intro i' o ho _
                    match i', ho with
                    | 0, ho =>
                      obtain rfl := Option.some.inj ho
                      intro x wx done hj hdn hrest hd
                      have h : x.tmps.getD 8 undef = .pointer (some ⟨gr, 0, none⟩) := hrest 8 (by decide)
                      exact ⟨h, hj.skip (by decide)⟩
                    | 1, ho =>
                      obtain rfl := Option.some.inj ho
                      intro x wx done hj hdn hrest hd
                      have h : x.tmps.getD 1 undef = .slice (some ⟨tb, toff, none⟩) ss.length tc := hrest 1 (by decide)
                      exact ⟨h, hj.skip (by decide)⟩
                    | 2, ho =>
                      obtain rfl := Option.some.inj ho
                      intro x wx done hj hdn hrest hd
                      have h : x.tmps.getD 10 undef = .int .i64 i := hrest 10 (by decide)
                      exact ⟨h, hj.skip (by decide)⟩
                    | 3, ho =>
                      obtain rfl := Option.some.inj ho
                      intro x wx done hj hdn hrest hd
                      have h0 : x.tmps.getD 77 undef = .slice (some ⟨tb, toff, none⟩) ss.length tc := (hd 1 (by decide)).2
                      have h1 : x.tmps.getD 78 undef = .int .i64 i := (hd 2 (by decide)).2
                      simp [execOp, Act.eval, h0, h1, hlt, go_sem]
                      exact ⟨rfl, hj.skip (by decide)⟩
                    | 4, ho =>
                      obtain rfl := Option.some.inj ho
                      intro x wx done hj hdn hrest hd
                      have h0 : x.tmps.getD 79 undef = .pointer (some ⟨tb, toff + i, none⟩) := (hd 3 (by decide)).2
                      have hc := hj.cell
                      simp [execOp, Act.eval, h0, hc, go_sem]
                      exact ⟨rfl, hj.skip (by decide)⟩
                    | 5, ho =>
                      obtain rfl := Option.some.inj ho
                      intro x wx done hj hdn hrest hd
                      have h0 : x.tmps.getD 80 undef = .string (tat ss i) := (hd 4 (by decide)).2
                      simp [execOp, Act.eval, h0, go_sem]
                      exact ⟨rfl, hj.skip (by decide)⟩
                    | 6, ho =>
                      obtain rfl := Option.some.inj ho
                      intro x wx done hj hdn hrest hd
                      have h0 : x.tmps.getD 76 undef = .pointer (some ⟨gr, 0, none⟩) := (hd 0 (by decide)).2
                      have h1 : x.tmps.getD 81 undef = .int .i64 (tat ss i).size := (hd 5 (by decide)).2
                      simp [execOp, Act.eval, h0, h1, go_sem]
                      exact j_text hj hdn
                    | 7, ho =>
                      obtain rfl := Option.some.inj ho
                      intro x wx done hj hdn hrest hd
                      have h : x.tmps.getD 1 undef = .slice (some ⟨tb, toff, none⟩) ss.length tc := hrest 1 (by decide)
                      exact ⟨h, hj.skip (by decide)⟩
                    | 8, ho =>
                      obtain rfl := Option.some.inj ho
                      intro x wx done hj hdn hrest hd
                      have h : x.tmps.getD 10 undef = .int .i64 i := hrest 10 (by decide)
                      exact ⟨h, hj.skip (by decide)⟩
                    | 9, ho =>
                      obtain rfl := Option.some.inj ho
                      intro x wx done hj hdn hrest hd
                      have h0 : x.tmps.getD 83 undef = .slice (some ⟨tb, toff, none⟩) ss.length tc := (hd 7 (by decide)).2
                      have h1 : x.tmps.getD 84 undef = .int .i64 i := (hd 8 (by decide)).2
                      simp [execOp, Act.eval, h0, h1, hlt, go_sem]
                      exact ⟨rfl, hj.skip (by decide)⟩
                    | 10, ho =>
                      obtain rfl := Option.some.inj ho
                      intro x wx done hj hdn hrest hd
                      have h0 : x.tmps.getD 85 undef = .pointer (some ⟨tb, toff + i, none⟩) := (hd 9 (by decide)).2
                      have hc := hj.cell
                      simp [execOp, Act.eval, h0, hc, go_sem]
                      exact ⟨rfl, hj.skip (by decide)⟩
                    | 11, ho =>
                      obtain rfl := Option.some.inj ho
                      intro x wx done hj hdn hrest hd
                      have h0 : x.tmps.getD 82 undef = .string (tat ss i) := (hd 6 (by decide)).2
                      have h1 : x.tmps.getD 86 undef = .string (tat ss i) := (hd 10 (by decide)).2
                      simp [execOp, Act.eval, h0, h1, go_sem]
                      exact ⟨rfl, hj.skip (by decide)⟩
                    | n + 12, ho => cases ho
                  · intro vs wx hvl hv hj
                    match vs, hvl, hv with
                    | [v0, v1, v2, v3, v4, v5, v6, v7, v8, v9, v10, v11], _, hv =>
                      have h8 : v11 = .bool false := hv 11 (by simp)
                      subst h8
                      have HR2 := Lib.hid (hj.post rfl)
                      have HB2 := Lib.hid hj.below
                      clear hv hj
                      simp only [setF, List.setIfInBounds_toArray, List.set_cons_succ, List.set_cons_zero]
                      go_wp2
                      go_roundg (ss.length - (i + 1))
                      case measure => omega
                      case rel => exact ⟨i + 1, by omega, Nat.le_refl _, by go_num, HR2.out, HB2.out⟩
                · obtain rfl : i = ss.length := by omega
                  have HR0 := Lib.hid (show Rdr wr gr [] 0 from by have h := HR.out; rwa [List.drop_length, lT] at h)
                  clear HR
                  go_wp2_with fail
                  refine (end_any HR0.out).mono ?_
                  rw [show endOf [] 0 = 0 from rfl]
                  rintro en w' ⟨rfl, rfl⟩
                  go_wp2_with fail
                  refine (left_any HR0.out).mono ?_
                  rintro en w' ⟨rfl, rfl⟩
                  go_wp2
                  go_ret
                  exact ⟨rfl, HB.out⟩

end Go.Proofs.Ytbamkkohfeglaaa
