/- Of, Text and == of package bits; the law's own awake. -/
import Derived.Test.YtpoelchjpnbgpaaA
import Derived.ChangeKeysEq
import Derived.Maps.AppendAt
import Derived.Deep.AppendLies
import Derived.Laws.IdiomStrings
namespace Go.Proofs.Ytpoelchjpnbgpaa
open Go.RowKit Go.Sort

def iat (zs : List Int) (k : Nat) : Int := zs.getD k 0
/-- Numbers lie in memory from a cell on. -/
def LiesI (w : World) (b off : Nat) (zs : List Int) : Prop := ∀ k, k < zs.length → w.cell? ⟨b, off + k, none⟩ = some (.int .i64 (iat zs k))
theorem LiesI.below {w w' : World} {B b off : Nat} {zs : List Int} (h : LiesI w b off zs) (hw : Below B w w') (hb : 0 < zs.length → b < B) : LiesI w' b off zs := fun k hk => (hw.cell (p := ⟨_, _, none⟩) (hb (by omega))).trans (h k hk)
/-- The set of some numbers. -/
def ofL (zs : List Int) : B8 := zs.foldl (fun s b => s.set b true) B8.zero
theorem ofL_snoc (zs : List Int) (k : Nat) (h : k < zs.length) : ofL (zs.take (k + 1)) = (ofL (zs.take k)).set (iat zs k) true := by
  rw [List.take_succ_eq_append_getElem h, ofL, List.foldl_append]
  simp [ofL, iat, List.getD, h]
theorem BoxS.zero1 (w : World) (o : Obj) : BoxS ((w.alloc o).alloc (.cells #[.bool false, .bool false, .bool false, .bool false, .bool false, .bool false, .bool false, .bool false] 27)) (w.heap.size + 1) B8.zero := by
  have h := BoxS.new (w.alloc o) B8.zero
  rw [World.size_alloc] at h
  exact h
def OfPost (zs : List Int) (w : World) (e : Ending) (w' : World) : Prop := e = (ofL zs).ret ∧ Below w.heap.size w w'

set_option maxHeartbeats 1600000 in
theorem of_any (a : Option Addr) (b off cap : Nat) (zs : List Int) (w : World) (ha : 0 < zs.length → a = some ⟨b, off, none⟩) (hb : 0 < zs.length → b < w.heap.size) (hl : zs.length ≤ 9223372036854775807) (hc : LiesI w b off zs) :
    Calls Try.prog 9 #[.slice a zs.length cap] w fun e w' => e = .returned (.agg #[.bool (ofL zs).b0, .bool (ofL zs).b1, .bool (ofL zs).b2, .bool (ofL zs).b3, .bool (ofL zs).b4, .bool (ofL zs).b5, .bool (ofL zs).b6, .bool (ofL zs).b7]) ∧ Below w.heap.size w w' := by
  have HA := Lib.hid ha
  have HB0 := Lib.hid hb
  have HC := Lib.hid hc
  clear ha hb hc
  go_enter Try.func9, Try.ntmps9
  go_wp2
  go_loopg [8] zs.length (fun n t wr => ∃ k : Nat, k ≤ zs.length ∧ zs.length - k ≤ n ∧ t = .int .i64 k ∧ BoxS wr w.heap.size B8.zero ∧ BoxS wr (w.heap.size + 1) (ofL (zs.take k)) ∧ Below w.heap.size w wr)
  case atStart => exact ⟨0, Nat.zero_le _, by omega, rfl, (BoxS.new w B8.zero).alloc _, BoxS.zero1 w _, bel2 _ _ _⟩
  case round =>
    obtain ⟨k, hk, hn, rfl, hz, hx, hB⟩ := hrel
    have HZ := Lib.hid hz
    have HX := Lib.hid hx
    have hsz := hx.lt
    have HB := Lib.hid hB
    clear hz hx
    by_cases hlt : k < zs.length
    · obtain rfl := HA.out (by omega)
      have e0 := (HC.out.below hB HB0.out) k hlt
      clear hB
      obtain ⟨t0, t1, t2, t3, t4, t5, t6, t7, ff⟩ := HX.out.cells
      have HS := Lib.hid (ofL_snoc zs k hlt)
      go_wp2_with fail
      refine (with_any (ofL (zs.take k)) (iat zs k) _).mono ?_
      rintro e w1 ⟨rfl, hb1⟩
      have hsz1 : w.heap.size + 1 < w1.heap.size := Nat.lt_of_lt_of_le hsz hb1.size
      have HZ1 := Lib.hid (HZ.out.below hb1 (by omega))
      have HX1 := Lib.hid (HX.out.below hb1 hsz)
      have HB1 := Lib.hid (HB.out.trans (hb1.mono (by omega)))
      clear hb1 t0 t1 t2 t3 t4 t5 t6 t7 ff
      obtain ⟨t0, t1, t2, t3, t4, t5, t6, t7, ff⟩ := HX1.out.cells
      go_wp2
      go_roundg (zs.length - (k + 1))
      case measure => omega
      case rel => exact ⟨k + 1, by omega, Nat.le_refl _, by go_num, HZ1.out.put_other (by omega) _, by rw [HS.out]; exact HX1.out.put _, putS_below HB1.out (by omega) _⟩
    · obtain rfl : k = zs.length := by omega
      clear hB
      rw [List.take_length] at HX
      obtain ⟨t0, t1, t2, t3, t4, t5, t6, t7, ff⟩ := HX.out.cells
      obtain ⟨u0, u1, u2, u3, u4, u5, u6, u7, gg⟩ := HZ.out.cells
      go_wp2
      exact bodyPost_ret (v := .agg #[.bool (ofL zs).b0, .bool (ofL zs).b1, .bool (ofL zs).b2, .bool (ofL zs).b3, .bool (ofL zs).b4, .bool (ofL zs).b5, .bool (ofL zs).b6, .bool (ofL zs).b7]) (by simp [results, Try.results9, go_sem, u0, u1, u2, u3, u4, u5, u6, u7]) rfl ⟨rfl, putS_below HB.out (Nat.le_refl _) _⟩

/-! ### Text -/
def dg (b : Bool) : UInt8 := if b then 49 else 48
def txtL (s : B8) : List UInt8 := [dg s.b0, dg s.b1, dg s.b2, dg s.b3, dg s.b4, dg s.b5, dg s.b6, dg s.b7]
def txt (s : B8) : ByteArray := ⟨(txtL s).toArray⟩
def tcells (s : B8) : List Value := [.int .u8 (dg s.b0).toNat, .int .u8 (dg s.b1).toNat, .int .u8 (dg s.b2).toNat, .int .u8 (dg s.b3).toNat, .int .u8 (dg s.b4).toNat, .int .u8 (dg s.b5).toNat, .int .u8 (dg s.b6).toNat, .int .u8 (dg s.b7).toNat]
theorem idx_any (s : B8) (k : Nat) (hk : k < 8) (w : World) : (Instr.index 25 (.agg #[.bool s.b0, .bool s.b1, .bool s.b2, .bool s.b3, .bool s.b4, .bool s.b5, .bool s.b6, .bool s.b7]) (.int .i64 k)).run Try.prog w = .ok (.bool (s.get k)) w := by
  obtain rfl | rfl | rfl | rfl | rfl | rfl | rfl | rfl : k = 0 ∨ k = 1 ∨ k = 2 ∨ k = 3 ∨ k = 4 ∨ k = 5 ∨ k = 6 ∨ k = 7 := by omega
  all_goals kernel_rfl
theorem tcells_snoc (s : B8) (k : Nat) (hk : k < 8) : (tcells s).take (k + 1) = (tcells s).take k ++ [.int .u8 (dg (s.get k)).toNat] := by
  obtain rfl | rfl | rfl | rfl | rfl | rfl | rfl | rfl : k = 0 ∨ k = 1 ∨ k = 2 ∨ k = 3 ∨ k = 4 ∨ k = 5 ∨ k = 6 ∨ k = 7 := by omega
  all_goals rfl
theorem Try.info5 : (Try.prog.info? 5).map (fun i => (i.zero, i.size, i.bytes)) = some (some (.int .u8 0), 1, 1) := by kernel_rfl

set_option maxHeartbeats 1600000 in
theorem text_any (s : B8) (w : World) : Calls Try.prog 23 #[.agg #[.bool s.b0, .bool s.b1, .bool s.b2, .bool s.b3, .bool s.b4, .bool s.b5, .bool s.b6, .bool s.b7]] w fun e w' => e = .returned (.string (txt s)) ∧ Below w.heap.size w w' := by
  obtain ⟨i0, hi, hz0, hz1, hz2⟩ := info_parts Try.info5
  go_enter Try.func23, Try.ntmps23
  go_wp2
  go_loopg [3, 9] 8 (fun n v t wr => ∃ k : Nat, k ≤ 8 ∧ 8 - k ≤ n ∧ t = .int .i64 k ∧ wr.ownsRow (w.heap.size + 1) 5 1 v k ((tcells s).take k) ∧ Below (w.heap.size + 1) (w.alloc (.cells #[.bool s.b0, .bool s.b1, .bool s.b2, .bool s.b3, .bool s.b4, .bool s.b5, .bool s.b6, .bool s.b7] 27)) wr)
  case atStart => exact ⟨0, Nat.zero_le _, by omega, rfl, World.ownsRow_nil _ _ _ _, Below.refl _ _⟩
  case round =>
    obtain ⟨k, hk, hn, rfl, hown, hB⟩ := hrel
    have hsz := hB.size
    rw [World.size_alloc] at hsz
    by_cases hlt : k < 8
    · have hix := idx_any s k hlt
      have HS := Lib.hid (tcells_snoc s k hlt)
      have HBB := Lib.hid hB
      clear hB
      cases hb : s.get k with
      | true =>
        rw [hb] at hix HS
        have HQ := Lib.hid hb
        clear hb
        go_wp2_with (at_builtin; refine wpList_append_own _ rfl _ _ 52 rfl (w.heap.size + 1) 5 i0 (.int .u8 0) 1 1 Try.underlying52 hi hz0 hz1 hz2 rfl (by decide) _ _ _ rfl (hown.alloc _) ⟨wr.heap.size, 0, none⟩ 1 1 [.int .u8 49] rfl rfl ?c1 ?c2 ?c3 ?c4 ?c5 ?_)
        case c1 => exact cell_one_new _ _ _
        case c2 => intro u hu; simp only [List.mem_cons, List.not_mem_nil, or_false] at hu; subst hu; rfl
        case c3 => unfold maxLen; omega
        case c4 => omega
        case c5 => simp; omega
        intro v' w3 hown' hgrow _
        have HO := Lib.hid (show w3.ownsRow (w.heap.size + 1) 5 1 v' (k + 1) ((tcells s).take (k + 1)) from by rw [HS.out]; exact hown')
        have HB3 := Lib.hid ((HBB.out.alloc hsz _).grown hgrow (by simp; omega) (fun m e => (hown.lt m e).1))
        clear hown' hown hgrow
        go_wp2
        go_roundg (8 - (k + 1))
        case measure => omega
        case rel => exact ⟨k + 1, by omega, Nat.le_refl _, by go_num, HO.out, HB3.out⟩
      | false =>
        rw [hb] at hix HS
        have HQ := Lib.hid hb
        clear hb
        go_wp2_with (at_builtin; refine wpList_append_own _ rfl _ _ 52 rfl (w.heap.size + 1) 5 i0 (.int .u8 0) 1 1 Try.underlying52 hi hz0 hz1 hz2 rfl (by decide) _ _ _ rfl (hown.alloc _) ⟨wr.heap.size, 0, none⟩ 1 1 [.int .u8 48] rfl rfl ?c1 ?c2 ?c3 ?c4 ?c5 ?_)
        case c1 => exact cell_one_new _ _ _
        case c2 => intro u hu; simp only [List.mem_cons, List.not_mem_nil, or_false] at hu; subst hu; rfl
        case c3 => unfold maxLen; omega
        case c4 => omega
        case c5 => simp; omega
        intro v' w3 hown' hgrow _
        have HO := Lib.hid (show w3.ownsRow (w.heap.size + 1) 5 1 v' (k + 1) ((tcells s).take (k + 1)) from by rw [HS.out]; exact hown')
        have HB3 := Lib.hid ((HBB.out.alloc hsz _).grown hgrow (by simp; omega) (fun m e => (hown.lt m e).1))
        clear hown' hown hgrow
        go_wp2
        go_roundg (8 - (k + 1))
        case measure => omega
        case rel => exact ⟨k + 1, by omega, Nat.le_refl _, by go_num, HO.out, HB3.out⟩
    · obtain rfl : k = 8 := by omega
      have HBB := Lib.hid (((Below.refl _ w).alloc (Nat.le_refl _) (.cells #[.bool s.b0, .bool s.b1, .bool s.b2, .bool s.b3, .bool s.b4, .bool s.b5, .bool s.b6, .bool s.b7] 27)).trans (hB.mono (Nat.le_succ _)))
      clear hB
      obtain ⟨g, cap, rfl, _⟩ := hown.form (by omega)
      have hconv := run_convert_bytes_back (P := Try.prog) wr 52 9 5 ⟨g, 0, none⟩ cap (txtL s) Try.underlying52 Try.underlying5 Try.underlying9 (fun j hj => by
        have hj' : j < 8 := hj
        rw [Addr.add_lit, Nat.zero_add, hown.cellAt j (by omega)]
        obtain rfl | rfl | rfl | rfl | rfl | rfl | rfl | rfl : j = 0 ∨ j = 1 ∨ j = 2 ∨ j = 3 ∨ j = 4 ∨ j = 5 ∨ j = 6 ∨ j = 7 := by omega
        all_goals rfl)
      have hlen : (txtL s).length = 8 := rfl
      rw [hlen] at hconv
      have HL := Lib.hid hlen
      clear hlen hown
      go_wp2
      go_ret
      exact ⟨rfl, HBB.out⟩

end Go.Proofs.Ytpoelchjpnbgpaa
