/- BitsWalks' walk: two loops over All, of which the second may be left, and a region that draws its order. -/
import Derived.Deep.DeepCutAuto
import Derived.Test.YtpoelchjpnbgpaaW
namespace Go.Proofs.Ytpoelchjpnbgpaa
open Go.RowKit Go.Sort Go.Shelf
attribute [local go_sem] Oper.semAt_some
attribute [local go_sem ↓] eq27
def V14 (s : B8) (a3 : Option Addr) (cap3 n most : Nat) (i : Nat) (v : Value) : Prop :=
  match i with
  | 0 => v = .slice a3 (els s).length cap3
  | 1 => v = .int .i64 (els s).length
  | 2 => v = .agg #[.bool s.b0, .bool s.b1, .bool s.b2, .bool s.b3, .bool s.b4, .bool s.b5, .bool s.b6, .bool s.b7]
  | 3 => v = .int .i64 (els s).length
  | 4 => v = .bool true
  | 5 => v = .bool true
  | 6 => v = .slice a3 (els s).length cap3
  | 7 => v = .agg #[.bool s.b0, .bool s.b1, .bool s.b2, .bool s.b3, .bool s.b4, .bool s.b5, .bool s.b6, .bool s.b7]
  | 8 => v = .agg #[.bool s.b0, .bool s.b1, .bool s.b2, .bool s.b3, .bool s.b4, .bool s.b5, .bool s.b6, .bool s.b7]
  | 9 => v = .bool true
  | 10 => v = .bool true
  | 11 => v = .bool true
  | 12 => v = .int .i64 n
  | 13 => v = .agg #[.bool s.b0, .bool s.b1, .bool s.b2, .bool s.b3, .bool s.b4, .bool s.b5, .bool s.b6, .bool s.b7]
  | 14 => v = .int .i64 (els s).length
  | 15 => v = .int .u8 most
  | 16 => v = .int .i64 most
  | 17 => v = .int .i64 (most % 9 : Nat)
  | 18 => v = .int .i64 (most % 9 + 1 : Nat)
  | 19 => v = .int .i64 n
  | 20 => v = .bool true
  | 21 => v = .bool true
  | 22 => True
  | _ => True

set_option maxRecDepth 20000 in
set_option maxHeartbeats 64000000 in
theorem walks_walk (a : Option Addr) (b off cap : Nat) (zs : List Int) (most : Nat) (w : World) (hz : CameI w a b off zs) (hm : most < 256) :
    Calls Try.prog 4 #[.slice a zs.length cap, .int .u8 most] w fun e w' => e = .returned (.bool true) ∧ Below w.heap.size w w' := by
  obtain ⟨i0, hi, hz0', hz1, hz2⟩ := info_parts Try.info3
  have HZ := Lib.hid hz
  clear hz
  refine (callsIn_wide (n := 3)).1 (callsIn_of_wp_marks Try.func4 rfl trivial (wpIn_wide.2 ?_) rfl)
  simp only [Try.ntmps4, List.size_toArray, List.length_cons, List.length_nil, Nat.reduceAdd, Nat.reduceSub, Array.replicate_succ, Array.replicate_zero, List.push_toArray, List.append_toArray, List.nil_append, List.cons_append]
  have hM0 := Boxed.new w 5 (.int .u8 most)
  have hR0 := Boxed.new (w.alloc (.cells #[.int .u8 most] 5)) 4 (.bool false)
  have HM0 := Lib.hid (hM0.alloc (.cells #[.bool false] 4))
  rw [World.size_alloc] at hR0
  have HR0 := Lib.hid hR0
  have HB0 := Lib.hid (bel2 w (.cells #[.int .u8 most] 5) (.cells #[.bool false] 4))
  clear hM0 hR0
  go_wp2_with fail
  refine (awake_any _).mono ?_
  rintro e w1 ⟨rfl, hb1⟩
  have HB1 := Lib.hid (HB0.out.trans (hb1.mono HB0.out.size))
  have HM1 := Lib.hid (boxed_below HM0.out hb1)
  have HR1 := Lib.hid (boxed_below HR0.out hb1)
  have HZ1 := Lib.hid (HZ.out.below HB1.out)
  clear hb1 HM0 HR0 HB0
  by_cases hbig : (zs.length : Int) > 100
  · go_wp2_with fail
    refine (awake_any _).mono ?_
    rintro e w2 ⟨rfl, hb2⟩
    have HB2 := Lib.hid (HB1.out.trans (hb2.mono HB1.out.size))
    have HR2 := boxed_below HR1.out hb2
    have hc := HR2.cell
    have hf := HR2.frozen
    have HR2' := Lib.hid HR2
    clear hb2 HR2
    go_wp2
    refine ⟨_, ?_, rfl, HB2.out.setCell (p := ⟨w.heap.size + 1, 0, none⟩) (Nat.le_succ _) _⟩
    have hx := (HR2'.out.set (.bool true)).cell
    simp [results, Try.f4, go_sem, hx]
  · go_wp2_with fail
    refine (HZ1.out.of cap).mono ?_
    rintro e w2 ⟨rfl, hb2⟩
    have HB2 := Lib.hid (HB1.out.trans (hb2.mono HB1.out.size))
    have HM2 := Lib.hid (boxed_below HM1.out hb2)
    have HR2 := Lib.hid (boxed_below HR1.out hb2)
    clear hb2 HM1 HR1 HB1
    generalize ofL zs = s
    go_wp2_with fail
    refine (all_any s _).mono ?_
    rintro e w3 ⟨rfl, rfl⟩
    go_wp2_with fail
    obtain ⟨W0, hW0⟩ : ∃ W0, W0 = (w2.alloc (.cells #[.bool s.b0, .bool s.b1, .bool s.b2, .bool s.b3, .bool s.b4, .bool s.b5, .bool s.b6, .bool s.b7] 27)).alloc (.cells #[.slice none 0 0] 22) := ⟨_, rfl⟩
    have hz0 : W0.heap.size = w2.heap.size + 1 + 1 := by rw [hW0]; simp
    have HB3 := Lib.hid (show Below w.heap.size w W0 from by rw [hW0]; exact (HB2.out.alloc HB2.out.size _).alloc (by have := HB2.out.size; simp; omega) _)
    have HM3 := Lib.hid (show Boxed W0 w.heap.size 5 (.int .u8 most) from by rw [hW0]; exact (HM2.out.alloc _).alloc _)
    have HR3 := Lib.hid (show Boxed W0 (w.heap.size + 1) 4 (.bool false) from by rw [hW0]; exact (HR2.out.alloc _).alloc _)
    have HS3 := Lib.hid (show BoxS W0 w2.heap.size s from by rw [hW0]; exact (BoxS.new w2 s).alloc _)
    have HG3 := Lib.hid (show Boxed W0 (w2.heap.size + 1) 22 (.slice none 0 0) from by rw [hW0]; have h := Boxed.new (w2.alloc (.cells #[.bool s.b0, .bool s.b1, .bool s.b2, .bool s.b3, .bool s.b4, .bool s.b5, .bool s.b6, .bool s.b7] 27)) 22 (.slice none 0 0); rw [World.size_alloc] at h; exact h)
    have HPR := Lib.hid HR2.out.lt
    rw [← hW0, ← hz0]
    clear hW0 HM2 HR2 HB2
    refine (wpIn_wide (n := 3)).1 ?_
    have hbox := BoxS.new W0 s
    refine wpIn_rangeFunc_ownF rfl (by decide) (gf := 26) (lb := #[.pointer (some ⟨W0.heap.size, 0, none⟩)]) rfl trivial (enters_of Try.func26 (by kernel_rfl) rfl)
      (all_stops (3 - 1) (by decide) W0.heap.size (w2.heap.size + 1) s _ hbox) belowK_t (belowK_b (by simp; omega)) (Below.refl _ _) (fun _ => rfl)
      (fun pre W => (∃ v, Boxed W (w2.heap.size + 1) 22 v ∧ W.ownsRow (w2.heap.size + 1) 3 1 v pre.length (pre.map (.int .i64)) ∧ True) ∧ Below (w2.heap.size + 1) W0 W)
      (fun c pre _ => c = .ret ∧ Bad s pre)
      (OwnFrom.and ((holdsRow_own (w2.heap.size + 1) (w2.heap.size + 1) 22 3 1 List.length (fun pre => pre.map (.int .i64)) (fun _ _ => True)).from _) (ownFrom_below (by omega) (by simp; omega)))
      (fun _ _ _ _ _ hs _ _ => hs)
      ⟨⟨_, HG3.out.alloc _, World.ownsRow_nil _ _ _ _, trivial⟩, (Below.refl _ _).alloc (by omega) _⟩
      (fun x => { tmps := #[.slice a zs.length cap, .int .u8 most, undef, .pointer (some ⟨w.heap.size, 0, none⟩), .pointer (some ⟨w.heap.size + 1, 0, none⟩), .pointer (some ⟨w2.heap.size, 0, none⟩), .pointer (some ⟨w2.heap.size + 1, 0, none⟩), .int .i64 x, undef, .bool true, .bool false, .bool false, .slice a zs.length cap, .int .i64 zs.length, .bool (decide (100 < (zs.length : Int))), .bool (decide (100 < (zs.length : Int))), undef, .slice a zs.length cap, .agg #[.bool s.b0, .bool s.b1, .bool s.b2, .bool s.b3, .bool s.b4, .bool s.b5, .bool s.b6, .bool s.b7], .agg #[.bool s.b0, .bool s.b1, .bool s.b2, .bool s.b3, .bool s.b4, .bool s.b5, .bool s.b6, .bool s.b7], .func (.func 26) #[] #[.pointer (some ⟨W0.heap.size, 0, none⟩)], .int .i64 x, undef, undef, undef, undef, undef, undef, undef, undef, undef, undef, undef, undef, undef, undef, undef, undef, undef, undef, undef, undef, undef, undef, undef, undef, undef, undef, undef, undef, undef, undef, undef, undef, undef, undef, undef, undef, undef, undef, undef, undef, undef, undef, undef, undef, undef, undef, undef, undef, undef, undef, undef, undef, undef, undef, undef], defers := [] }) ?assign ?body ?done ?stop
    case assign =>
      intro l x W K hK
      clear hz0
      gi_wp2
      first
        | exact hK
        | (refine cast (congrArg (fun t => K { tmps := t, defers := [] } W) ?_) hK
           first | kernel_rfl | simp)
    case body =>
      rintro l pre x W ⟨⟨v, hv, hown, -⟩, hB⟩ hlt
      have HB5 := Lib.hid hB
      have HSZ := Lib.hid (show w2.heap.size + 1 ≤ W.heap.size from by have := hB.size; omega)
      have HW := Lib.hid hv
      have HOWN := Lib.hid hown
      have HS5 := Lib.hid ((HS3.out).below hB (by omega))
      have HR5 := Lib.hid (boxed_belowN HR3.out hB (by have := HPR.out; omega))
      obtain ⟨t0, t1, t2, t3, t4, t5, t6, t7, _⟩ := HS5.out.cells
      have hhas := has_any s W x
      clear hB hv hown
      cases hh : s.get x with
      | false =>
        rw [hh] at hhas
        gi_wp2_with (refine ⟨trivial, ?_⟩; gi_at_call 11; refine (CallsIn.inRound l (callsIn_wide.2 hhas)).mono ?_; rintro e w4 ⟨rfl, hb4⟩; have HR6 := boxed_below HR5.out hb4; have hc := HR6.cell; have hf := HR6.frozen; have HK4 := Lib.hid hb4; clear t0 t1 t2 t3 t4 t5 t6 t7 hb4 HR6)
        all_goals first
          | exact ⟨KeepsOthers.trans (keeps_below HK4.out) (KeepsOthers.setCell _ _ _), rfl, pre, x, rfl, .inl hh⟩
          | (exfalso
             rename_i h _
             injection h with h
             cases h)
      | true =>
        rw [hh] at hhas
        obtain ⟨a3, b3, cap3, rfl, ha3, hb3, hc3, hge⟩ := lies_of_owns HOWN.out
        by_cases hp : 0 < pre.length
        · obtain rfl := ha3 hp
          have hb3 := hb3 hp
          have hq : pre.length - 1 < pre.length := by omega
          have hk := hc3 (pre.length - 1) hq
          rw [Nat.zero_add] at hk
          have HK := Lib.hid hk
          have s1 : IntKind.i64.wrap ((pre.length : Int) - 1) = ((pre.length - 1 : Nat) : Int) := by
            rw [IntWalk.i64_in _ (by omega)]; omega
          have s2 : ((pre.length - 1 : Nat) : Int) < (pre.length : Int) := by omega
          have s3 : (pre.length : Int) > 0 := by omega
          clear hk ha3 hc3
          generalize hlast : iat pre (pre.length - 1) = z at *
          by_cases hge2 : z ≥ x
          · gi_wp2_with (refine ⟨trivial, ?_⟩; gi_at_call 11; refine (CallsIn.inRound l (callsIn_wide.2 hhas)).mono ?_; rintro e w4 ⟨rfl, hb4⟩; have HR6 := boxed_below HR5.out hb4; have hc := HR6.cell; have hf := HR6.frozen; have HW6 := boxed_below HW.out hb4; have hc2 := HW6.cell; have hk4 := (hb4.cell (p := ⟨b3, pre.length - 1, none⟩) hb3).trans HK.out; have HK4 := Lib.hid hb4; clear t0 t1 t2 t3 t4 t5 t6 t7 hb4 HR6 HW6)
            exact ⟨KeepsOthers.trans (keeps_below HK4.out) (KeepsOthers.setCell _ _ _), rfl, pre, x, rfl, .inr ⟨hp, by rw [hlast]; exact hge2⟩⟩
          · gi_wp2_with (first | (refine ⟨trivial, ?_⟩; gi_at_call 11; refine (CallsIn.inRound l (callsIn_wide.2 hhas)).mono ?_; rintro e w4 ⟨rfl, hb4⟩; have HW6 := Lib.hid (boxed_below HW.out hb4); have hc2 := HW6.out.cell; have hk4 := (hb4.cell (p := ⟨b3, pre.length - 1, none⟩) hb3).trans HK.out; have hown4 := Lib.hid (owns_below HOWN.out hb4); have hsz4 : w2.heap.size + 1 ≤ w4.heap.size := Nat.le_trans (show w2.heap.size + 1 ≤ W.heap.size from HSZ.out) hb4.size; have HK4 := Lib.hid hb4; clear t0 t1 t2 t3 t4 t5 t6 t7 hb4) | (gi_at_builtin; refine wpListIn_append_own _ rfl (.tmp 41) (.tmp 43) 22 rfl (w2.heap.size + 1) 3 i0 (.int .i64 0) 1 8 Try.underlying22 hi hz0' hz1 hz2 rfl (by decide) _ _ _ rfl (hown4.out.alloc _) ⟨w4.heap.size, 0, none⟩ 1 1 [.int .i64 x] rfl rfl (cell_one_new _ _ _) (by simp [Value.oneCell']) (by unfold maxLen; omega) (by omega) (by simp; omega) ?_; intro v' w5 hown' hgrow hnil; obtain ⟨g5, cap5, rfl⟩ := ownsRow_succ hown'; obtain ⟨hv5, hb5, ho5, hko5, hbe5⟩ := HW6.out.appended (by decide) hown4.out hsz4 (Nat.le_refl _) hown' hgrow; have hc5 := hv5.cell; have hf5 := hv5.frozen; have HB6 := Lib.hid hb5; have HO6 := Lib.hid ho5; have HKO := Lib.hid hko5; have HBE := Lib.hid hbe5; clear hc2 hv5 hb5 ho5 hko5 hbe5 hgrow hnil hown'))
            exact ⟨KeepsOthers.trans (keeps_below HK4.out) HKO.out, (HK4.out.mono (show w2.heap.size + 1 ≤ W.heap.size from HSZ.out)).trans HBE.out, ⟨_, HB6.out, by simpa using HO6.out, trivial⟩, HB5.out.trans ((HK4.out.mono (show w2.heap.size + 1 ≤ W.heap.size from HSZ.out)).trans HBE.out)⟩
        · obtain rfl : pre = [] := List.eq_nil_of_length_eq_zero (by omega)
          gi_wp2_with (first | (refine ⟨trivial, ?_⟩; gi_at_call 11; refine (CallsIn.inRound l (callsIn_wide.2 hhas)).mono ?_; rintro e w4 ⟨rfl, hb4⟩; have HW6 := Lib.hid (boxed_below HW.out hb4); have hc2 := HW6.out.cell;  have hown4 := Lib.hid (owns_below HOWN.out hb4); have hsz4 : w2.heap.size + 1 ≤ w4.heap.size := Nat.le_trans (show w2.heap.size + 1 ≤ W.heap.size from HSZ.out) hb4.size; have HK4 := Lib.hid hb4; clear t0 t1 t2 t3 t4 t5 t6 t7 hb4) | (gi_at_builtin; refine wpListIn_append_own _ rfl (.tmp 41) (.tmp 43) 22 rfl (w2.heap.size + 1) 3 i0 (.int .i64 0) 1 8 Try.underlying22 hi hz0' hz1 hz2 rfl (by decide) _ _ _ rfl (hown4.out.alloc _) ⟨w4.heap.size, 0, none⟩ 1 1 [.int .i64 x] rfl rfl (cell_one_new _ _ _) (by simp [Value.oneCell']) (by unfold maxLen; omega) (by omega) (by simp; omega) ?_; intro v' w5 hown' hgrow hnil; obtain ⟨g5, cap5, rfl⟩ := ownsRow_succ hown'; obtain ⟨hv5, hb5, ho5, hko5, hbe5⟩ := HW6.out.appended (by decide) hown4.out hsz4 (Nat.le_refl _) hown' hgrow; have hc5 := hv5.cell; have hf5 := hv5.frozen; have HB6 := Lib.hid hb5; have HO6 := Lib.hid ho5; have HKO := Lib.hid hko5; have HBE := Lib.hid hbe5; clear hc2 hv5 hb5 ho5 hko5 hbe5 hgrow hnil hown'))
          exact ⟨KeepsOthers.trans (keeps_below HK4.out) HKO.out, (HK4.out.mono (show w2.heap.size + 1 ≤ W.heap.size from HSZ.out)).trans HBE.out, ⟨_, HB6.out, by simpa using HO6.out, trivial⟩, HB5.out.trans ((HK4.out.mono (show w2.heap.size + 1 ≤ W.heap.size from HSZ.out)).trans HBE.out)⟩
    case done =>
      rintro D1 ys W hD1 rfl ⟨⟨v, hv, hown, -⟩, hB⟩ hK
      have hL8 : (els s).length ≤ 8 := lenS_le s
      obtain ⟨a3, b3, cap3, rfl, ha3, hb3, hc3, hge⟩ := lies_of_owns hown
      have HT := Lib.hid (show CameI W a3 b3 0 (els s) from ⟨ha3, hb3, by omega, hc3⟩)
      have HM5 := Lib.hid (boxed_belowN HM3.out hB (by have := HPR.out; omega))
      have HR5 := Lib.hid (boxed_belowN HR3.out hB (by have := HPR.out; omega))
      have HS5 := Lib.hid (HS3.out.below hB (by omega))
      have HG5 := Lib.hid hv
      have HB5 := Lib.hid (HB3.out.trans (hB.mono (by have := HPR.out; omega)))
      have HD1 := Lib.hid hK
      have HSZ := Lib.hid (show w2.heap.size + 1 + 1 ≤ W.heap.size from by have := hB.size; omega)
      obtain ⟨t0, t1, t2, t3, t4, t5, t6, t7, _⟩ := (HS5.out.alloc (.cells #[.int .i64 0] 3)).cells
      clear ha3 hb3 hc3 hv hown hB hK HM3 HR3 HS3 HG3 HB3 hbox
      go_wp2_with (first | (refine (all_any s _).mono ?_; rintro e w3 ⟨rfl, rfl⟩) | fail)
      rename_i K2 hK2
      obtain ⟨Wn, hWn⟩ : ∃ Wn, Wn = W.alloc (.cells #[.int .i64 0] 3) := ⟨_, rfl⟩
      have hzn : Wn.heap.size = W.heap.size + 1 := by rw [hWn]; simp
      have hbn : Below W.heap.size W Wn := by rw [hWn]; exact (Below.refl _ W).alloc (Nat.le_refl _) _
      have HN6 := Lib.hid (show Boxed Wn W.heap.size 3 (.int .i64 0) from by rw [hWn]; exact Boxed.new W 3 _)
      have HM6 := Lib.hid (boxed_below HM5.out hbn)
      have HR6 := Lib.hid (boxed_below HR5.out hbn)
      have HS6 := Lib.hid (HS5.out.below hbn HS5.out.lt)
      have HG6 := Lib.hid (boxed_below HG5.out hbn)
      have HT6 := Lib.hid (HT.out.below hbn)
      have HB6 := Lib.hid (HB5.out.trans (hbn.mono HB5.out.size))
      have HD6 := Lib.hid ((hbn.block D1 (lt_of_block HD1.out)).trans HD1.out)
      have HDL := Lib.hid (lt_of_block HD1.out)
      have HDG := Lib.hid (show w2.heap.size + 1 + 1 < D1 from by simp at hD1; omega)
      have HTL := Lib.hid HT.out.2.1
      have HGE := Lib.hid hge
      have hmod : IntKind.i64.wrap ((most : Int).tmod 9) = ((most % 9 : Nat) : Int) := by
        have : most % 9 < 9 := Nat.mod_lt _ (by decide)
        rw [show (most : Int).tmod 9 = ((most % 9 : Nat) : Int) from by rw [Int.tmod_eq_emod_of_nonneg (by omega)]; omega]
        exact IntWalk.i64_in _ (by omega)
      have HMOD := Lib.hid hmod
      rw [← hWn, ← hzn]
      clear hWn hbn hge hD1 HM5 HR5 HS5 HG5 HT HB5 HD1 t0 t1 t2 t3 t4 t5 t6 t7 hmod
      have hend : ∀ (D2 : Nat) (Wf : World), Wn.heap.size ≤ D2 → Boxed Wf W.heap.size 3 (.int .i64 (min (els s).length (most % 9 + 1) : Nat)) → Below W.heap.size Wn Wf → Wf.heap[D2]? = some (.deferred (some [])) → K2 { tmps := #[.slice a zs.length cap, .int .u8 most, undef, .pointer (some ⟨w.heap.size, 0, none⟩), .pointer (some ⟨w.heap.size + 1, 0, none⟩), .pointer (some ⟨w2.heap.size, 0, none⟩), .pointer (some ⟨w2.heap.size + 1, 0, none⟩), undef, .pointer (some ⟨W.heap.size, 0, none⟩), .bool true, .bool false, .bool false, .slice a zs.length cap, .int .i64 zs.length, .bool (decide (100 < (zs.length : Int))), .bool (decide (100 < (zs.length : Int))), undef, .slice a zs.length cap, .agg #[.bool s.b0, .bool s.b1, .bool s.b2, .bool s.b3, .bool s.b4, .bool s.b5, .bool s.b6, .bool s.b7], .agg #[.bool s.b0, .bool s.b1, .bool s.b2, .bool s.b3, .bool s.b4, .bool s.b5, .bool s.b6, .bool s.b7], .func (.func 26) #[] #[.pointer (some ⟨w2.heap.size + 1 + 1, 0, none⟩)], undef, undef, undef, undef, undef, undef, undef, undef, undef, undef, undef, undef, undef, undef, undef, undef, undef, undef, undef, undef, undef, undef, undef, undef, .agg #[.bool s.b0, .bool s.b1, .bool s.b2, .bool s.b3, .bool s.b4, .bool s.b5, .bool s.b6, .bool s.b7], .func (.func 26) #[] #[.pointer (some ⟨Wn.heap.size, 0, none⟩)], undef, undef, undef, undef, undef, undef, undef, undef, undef, undef, undef, undef, undef, undef, undef, undef, undef, undef, undef, undef, undef, undef, undef, undef, undef, undef, undef, undef, undef, undef], defers := [{ target := .collected D2, args := #[] }, { target := .collected D1, args := #[] }] } Wf := by
        intro D2 Wf hD2 hn hB hK
        obtain ⟨n, hnm⟩ : ∃ n, n = min (els s).length (most % 9 + 1) := ⟨_, rfl⟩
        rw [← hnm] at hn
        have HNM := Lib.hid hnm
        clear hnm
        have i1 := HPR.out
        have i2 := HSZ.out
        have i3 := HDL.out
        have i4 := HDG.out
        have HJ : Hid (∀ v, JW w w.heap.size (w.heap.size + 1) w2.heap.size (w2.heap.size + 1) W.heap.size D1 D2 most s a3 b3 cap3 (els s) n (fun i => decide (23 ≤ i)) v Wf.drew) := Lib.hid fun v => JW.keep (done := fun _ => false) (vals := v) ⟨HB6.out.trans (hB.mono (by omega)), boxed_belowN HM6.out hB (by omega), ⟨_, boxed_belowN HR6.out hB (by omega)⟩, HS6.out.below hB (by omega), boxed_belowN HG6.out hB (by omega), hn, ⟨HT6.out.1, fun q => Nat.lt_of_lt_of_le (HTL.out q) (by have := hB.size; omega), HT6.out.2.2.1, HT6.out.2.2.2.below hB HTL.out⟩, (hB.block D1 HDL.out).trans HD6.out, hK, fun q => by cases q⟩ (Below.refl _ Wf).drew (fun q => absurd q (by decide))
        have HA := Lib.hid (show w.heap.size ≤ w.heap.size + 1 ∧ w.heap.size + 1 ≠ w.heap.size ∧ w.heap.size + 1 ≠ w2.heap.size ∧ w.heap.size + 1 ≠ w2.heap.size + 1 ∧ w.heap.size + 1 ≠ W.heap.size ∧ (0 < (els s).length → w.heap.size + 1 ≠ b3) ∧ D1 ≠ w.heap.size + 1 ∧ D2 ≠ w.heap.size + 1 from ⟨by omega, by omega, by omega, by omega, by omega, fun q => by have := HGE.out q; omega, by omega, by omega⟩)
        have HDN := Lib.hid (show D1 ≠ D2 ∧ w.heap.size ≤ D1 ∧ w.heap.size ≤ D2 from ⟨by omega, by omega, by omega⟩)
        clear i1 i2 i3 i4 hn hB hK
        refine hK2 _ _ ?_
        clear hK2
        go_wp2_with fail
        refine wp_region_all (V14 s a3 cap3 n most) (JW w w.heap.size (w.heap.size + 1) w2.heap.size (w2.heap.size + 1) W.heap.size D1 D2 most s a3 b3 cap3 (els s) n) (fun _ => true) [(0, 55), (1, 56), (2, 57), (3, 58), (4, 59), (5, 60), (6, 61), (7, 62), (8, 63), (9, 64), (10, 65), (11, 66), (12, 67), (13, 68), (14, 69), (15, 70), (16, 71), (17, 72), (18, 73), (19, 74), (20, 75), (21, 76)] (GuardsO.tell [(5, true), (11, true)] (by kernel_rfl) (by
          intro p hp
          simp only [List.mem_cons, List.not_mem_nil, or_false] at hp
          rcases hp with rfl | rfl
          · exact fun v h => h
          · exact fun v h => h)) (by kernel_rfl) (by kernel_rfl) (by kernel_rfl) (by decide) (by kernel_rfl) (fun i hi => by
          intro h
          obtain rfl : i = 22 := by revert i; decide
          exact trivial) (fun v => HJ.out v) ?_ ?_
        · clear HJ
          intro i' ob ho _
          match i', ho with
          | 0, ho =>
            as_aux_lemma =>
              obtain rfl := Option.some.inj ho
              intro x wx done hj hdn hcl hrest hd
              refine o_of_j (J := fun w' => Below wx.heap.size wx w') ?_ (fun v w' _ hb => hj.skip hb (by decide))
              have h : x.tmps.getD 6 undef = .pointer (some ⟨w2.heap.size + 1, 0, none⟩) := hrest 6 (by decide)
              have hc := hj.bg.cell
              simp [execOp, Act.eval, h, go_sem, hc]
              exact ⟨rfl, Below.refl _ _⟩
          | 1, ho =>
            as_aux_lemma =>
              obtain rfl := Option.some.inj ho
              intro x wx done hj hdn hcl hrest hd
              refine o_of_j (J := fun w' => Below wx.heap.size wx w') ?_ (fun v w' _ hb => hj.skip hb (by decide))
              have h0 : x.tmps.getD 55 undef = .slice a3 (els s).length cap3 := (hd 0 (by decide)).2
              simp [execOp, Act.eval, h0, go_sem]
              exact ⟨rfl, Below.refl _ _⟩
          | 2, ho =>
            as_aux_lemma =>
              obtain rfl := Option.some.inj ho
              intro x wx done hj hdn hcl hrest hd
              refine o_of_j (J := fun w' => Below wx.heap.size wx w') ?_ (fun v w' _ hb => hj.skip hb (by decide))
              have h : x.tmps.getD 5 undef = .pointer (some ⟨w2.heap.size, 0, none⟩) := hrest 5 (by decide)
              obtain ⟨t0, t1, t2, t3, t4, t5, t6, t7, _⟩ := hj.bs.cells
              simp [execOp, Act.eval, h, go_sem, t0, t1, t2, t3, t4, t5, t6, t7]
              exact ⟨rfl, Below.refl _ _⟩
          | 3, ho =>
            as_aux_lemma =>
              obtain rfl := Option.some.inj ho
              intro x wx done hj hdn hcl hrest hd
              refine o_of_j (J := fun w' => Below wx.heap.size wx w') ?_ (fun v w' _ hb => hj.skip hb (by decide))
              have h0 : x.tmps.getD 57 undef = .agg #[.bool s.b0, .bool s.b1, .bool s.b2, .bool s.b3, .bool s.b4, .bool s.b5, .bool s.b6, .bool s.b7] := (hd 2 (by decide)).2
              simp [execOp, Act.eval, h0, go_sem]
              exact j_call0 (len_any s wx)
          | 4, ho =>
            as_aux_lemma =>
              obtain rfl := Option.some.inj ho
              intro x wx done hj hdn hcl hrest hd
              refine o_of_j (J := fun w' => Below wx.heap.size wx w') ?_ (fun v w' _ hb => hj.skip hb (by decide))
              have h0 : x.tmps.getD 56 undef = .int .i64 (els s).length := (hd 1 (by decide)).2
              have h1 : x.tmps.getD 58 undef = .int .i64 (els s).length := (hd 3 (by decide)).2
              simp [execOp, Act.eval, h0, h1, go_sem]
              exact ⟨rfl, Below.refl _ _⟩
          | 5, ho =>
            as_aux_lemma =>
              obtain rfl := Option.some.inj ho
              intro x wx done hj hdn hcl hrest hd
              refine o_of_j (J := fun w' => Below wx.heap.size wx w') ?_ (fun v w' _ hb => hj.skip hb (by decide))
              have h : x.tmps.getD 59 undef = .bool true := (hd 4 (by decide)).2
              exact ⟨h, Below.refl _ _⟩
          | 6, ho =>
            as_aux_lemma =>
              obtain rfl := Option.some.inj ho
              intro x wx done hj hdn hcl hrest hd
              refine o_of_j (J := fun w' => Below wx.heap.size wx w') ?_ (fun v w' _ hb => hj.skip hb (by decide))
              have h : x.tmps.getD 6 undef = .pointer (some ⟨w2.heap.size + 1, 0, none⟩) := hrest 6 (by decide)
              have hc := hj.bg.cell
              simp [execOp, Act.eval, h, go_sem, hc]
              exact ⟨rfl, Below.refl _ _⟩
          | 7, ho =>
            as_aux_lemma =>
              obtain rfl := Option.some.inj ho
              intro x wx done hj hdn hcl hrest hd
              refine o_of_j (J := fun w' => Below wx.heap.size wx w') ?_ (fun v w' _ hb => hj.skip hb (by decide))
              have h0 : x.tmps.getD 61 undef = .slice a3 (els s).length cap3 := (hd 6 (by decide)).2
              simp [execOp, Act.eval, h0, go_sem]
              exact j_call0 (by have h := hj.came.of cap3; rw [ofL_els] at h; exact h)
          | 8, ho =>
            as_aux_lemma =>
              obtain rfl := Option.some.inj ho
              intro x wx done hj hdn hcl hrest hd
              refine o_of_j (J := fun w' => Below wx.heap.size wx w') ?_ (fun v w' _ hb => hj.skip hb (by decide))
              have h : x.tmps.getD 5 undef = .pointer (some ⟨w2.heap.size, 0, none⟩) := hrest 5 (by decide)
              obtain ⟨t0, t1, t2, t3, t4, t5, t6, t7, _⟩ := hj.bs.cells
              simp [execOp, Act.eval, h, go_sem, t0, t1, t2, t3, t4, t5, t6, t7]
              exact ⟨rfl, Below.refl _ _⟩
          | 9, ho =>
            as_aux_lemma =>
              obtain rfl := Option.some.inj ho
              intro x wx done hj hdn hcl hrest hd
              refine o_of_j (J := fun w' => Below wx.heap.size wx w') ?_ (fun v w' _ hb => hj.skip hb (by decide))
              have h0 : x.tmps.getD 62 undef = .agg #[.bool s.b0, .bool s.b1, .bool s.b2, .bool s.b3, .bool s.b4, .bool s.b5, .bool s.b6, .bool s.b7] := (hd 7 (by decide)).2
              have h1 : x.tmps.getD 63 undef = .agg #[.bool s.b0, .bool s.b1, .bool s.b2, .bool s.b3, .bool s.b4, .bool s.b5, .bool s.b6, .bool s.b7] := (hd 8 (by decide)).2
              simp [execOp, Act.eval, h0, h1, go_sem]
              exact ⟨rfl, Below.refl _ _⟩
          | 10, ho =>
            as_aux_lemma =>
              obtain rfl := Option.some.inj ho
              intro x wx done hj hdn hcl hrest hd
              refine o_of_j (J := fun w' => Below wx.heap.size wx w') ?_ (fun v w' _ hb => hj.skip hb (by decide))
              have h0 : x.tmps.getD 60 undef = .bool true := (hd 5 (by decide)).2
              have h1 : x.tmps.getD 64 undef = .bool true := (hd 9 (by decide)).2
              simp [execOp, Act.eval, h0, h1, go_sem]
              exact ⟨rfl, Below.refl _ _⟩
          | 11, ho =>
            as_aux_lemma =>
              obtain rfl := Option.some.inj ho
              intro x wx done hj hdn hcl hrest hd
              refine o_of_j (J := fun w' => Below wx.heap.size wx w') ?_ (fun v w' _ hb => hj.skip hb (by decide))
              have h : x.tmps.getD 65 undef = .bool true := (hd 10 (by decide)).2
              exact ⟨h, Below.refl _ _⟩
          | 12, ho =>
            as_aux_lemma =>
              obtain rfl := Option.some.inj ho
              intro x wx done hj hdn hcl hrest hd
              refine o_of_j (J := fun w' => Below wx.heap.size wx w') ?_ (fun v w' _ hb => hj.skip hb (by decide))
              have h : x.tmps.getD 8 undef = .pointer (some ⟨W.heap.size, 0, none⟩) := hrest 8 (by decide)
              have hc := hj.bn.cell
              simp [execOp, Act.eval, h, go_sem, hc]
              exact ⟨rfl, Below.refl _ _⟩
          | 13, ho =>
            as_aux_lemma =>
              obtain rfl := Option.some.inj ho
              intro x wx done hj hdn hcl hrest hd
              refine o_of_j (J := fun w' => Below wx.heap.size wx w') ?_ (fun v w' _ hb => hj.skip hb (by decide))
              have h : x.tmps.getD 5 undef = .pointer (some ⟨w2.heap.size, 0, none⟩) := hrest 5 (by decide)
              obtain ⟨t0, t1, t2, t3, t4, t5, t6, t7, _⟩ := hj.bs.cells
              simp [execOp, Act.eval, h, go_sem, t0, t1, t2, t3, t4, t5, t6, t7]
              exact ⟨rfl, Below.refl _ _⟩
          | 14, ho =>
            as_aux_lemma =>
              obtain rfl := Option.some.inj ho
              intro x wx done hj hdn hcl hrest hd
              refine o_of_j (J := fun w' => Below wx.heap.size wx w') ?_ (fun v w' _ hb => hj.skip hb (by decide))
              have h0 : x.tmps.getD 68 undef = .agg #[.bool s.b0, .bool s.b1, .bool s.b2, .bool s.b3, .bool s.b4, .bool s.b5, .bool s.b6, .bool s.b7] := (hd 13 (by decide)).2
              simp [execOp, Act.eval, h0, go_sem]
              exact j_call0 (len_any s wx)
          | 15, ho =>
            as_aux_lemma =>
              obtain rfl := Option.some.inj ho
              intro x wx done hj hdn hcl hrest hd
              refine o_of_j (J := fun w' => Below wx.heap.size wx w') ?_ (fun v w' _ hb => hj.skip hb (by decide))
              have h : x.tmps.getD 3 undef = .pointer (some ⟨w.heap.size, 0, none⟩) := hrest 3 (by decide)
              have hc := hj.bm.cell
              simp [execOp, Act.eval, h, go_sem, hc]
              exact ⟨rfl, Below.refl _ _⟩
          | 16, ho =>
            as_aux_lemma =>
              obtain rfl := Option.some.inj ho
              intro x wx done hj hdn hcl hrest hd
              refine o_of_j (J := fun w' => Below wx.heap.size wx w') ?_ (fun v w' _ hb => hj.skip hb (by decide))
              have h0 : x.tmps.getD 70 undef = .int .u8 most := (hd 15 (by decide)).2
              have s2 : IntKind.i64.wrap (most : Int) = (most : Int) := IntWalk.i64_in _ (by omega)
              simp [execOp, Act.eval, h0, s2, go_sem]
              exact ⟨rfl, Below.refl _ _⟩
          | 17, ho =>
            as_aux_lemma =>
              obtain rfl := Option.some.inj ho
              intro x wx done hj hdn hcl hrest hd
              refine o_of_j (J := fun w' => Below wx.heap.size wx w') ?_ (fun v w' _ hb => hj.skip hb (by decide))
              have h0 : x.tmps.getD 71 undef = .int .i64 most := (hd 16 (by decide)).2
              simp [execOp, Act.eval, h0, go_sem]
              exact ⟨rfl, Below.refl _ _⟩
          | 18, ho =>
            as_aux_lemma =>
              obtain rfl := Option.some.inj ho
              intro x wx done hj hdn hcl hrest hd
              refine o_of_j (J := fun w' => Below wx.heap.size wx w') ?_ (fun v w' _ hb => hj.skip hb (by decide))
              have h0 : x.tmps.getD 72 undef = .int .i64 (most % 9 : Nat) := (hd 17 (by decide)).2
              simp [execOp, Act.eval, h0, go_sem]
              exact ⟨congrArg (Value.int .i64) (by rw [IntWalk.i64_in _ (by omega)]; omega), Below.refl _ _⟩
          | 19, ho =>
            as_aux_lemma =>
              obtain rfl := Option.some.inj ho
              intro x wx done hj hdn hcl hrest hd
              refine o_of_j (J := fun w' => Below wx.heap.size wx w') ?_ (fun v w' _ hb => hj.skip hb (by decide))
              have h0 : x.tmps.getD 69 undef = .int .i64 (els s).length := (hd 14 (by decide)).2
              have h1 : x.tmps.getD 73 undef = .int .i64 (most % 9 + 1 : Nat) := (hd 18 (by decide)).2
              simp [execOp, Act.eval, h0, h1, go_sem]
              exact ⟨congrArg (Value.int .i64) (by rw [HNM.out]; split <;> omega), Below.refl _ _⟩
          | 20, ho =>
            as_aux_lemma =>
              obtain rfl := Option.some.inj ho
              intro x wx done hj hdn hcl hrest hd
              refine o_of_j (J := fun w' => Below wx.heap.size wx w') ?_ (fun v w' _ hb => hj.skip hb (by decide))
              have h0 : x.tmps.getD 67 undef = .int .i64 n := (hd 12 (by decide)).2
              have h1 : x.tmps.getD 74 undef = .int .i64 n := (hd 19 (by decide)).2
              simp [execOp, Act.eval, h0, h1, go_sem]
              exact ⟨rfl, Below.refl _ _⟩
          | 21, ho =>
            as_aux_lemma =>
              obtain rfl := Option.some.inj ho
              intro x wx done hj hdn hcl hrest hd
              refine o_of_j (J := fun w' => Below wx.heap.size wx w') ?_ (fun v w' _ hb => hj.skip hb (by decide))
              have h0 : x.tmps.getD 66 undef = .bool true := (hd 11 (by decide)).2
              have h1 : x.tmps.getD 75 undef = .bool true := (hd 20 (by decide)).2
              simp [execOp, Act.eval, h0, h1, go_sem]
              exact ⟨rfl, Below.refl _ _⟩
          | 22, ho =>
            as_aux_lemma =>
              obtain rfl := Option.some.inj ho
              intro x wx done hj hdn hcl hrest hd
              have h : x.tmps.getD 4 undef = .pointer (some ⟨w.heap.size + 1, 0, none⟩) := hrest 4 (by decide)
              have h0 : x.tmps.getD 76 undef = .bool true := (hd 21 (by decide)).2
              obtain ⟨r, hr⟩ := hj.br
              have hc := hr.cell
              have hf := hr.frozen
              simp [execOp, Act.eval, h, h0, go_sem, hc, hf]
              exact ⟨trivial, hj.store HA.out⟩
          | n + 23, ho => cases ho
        · intro vals y hv hj
          clear hv
          simp only [setG, List.setIfInBounds_toArray, List.set_cons_succ, List.set_cons_zero]
          go_wp2
          have i1 := HDN.out
          have i2 := HA.out
          have h1 : (y.putObj D2 (.deferred none)).heap[D1]? = some (.deferred (some [])) := (World.putObj_heap_other (by omega)).trans hj.d1
          refine ⟨by simp, .inl ⟨_, _, rfl, run_takeDeferred hj.d2, by simp, .inl ⟨_, _, rfl, run_takeDeferred h1, ?_⟩⟩⟩
          have hx : Boxed ((y.putObj D2 (.deferred none)).putObj D1 (.deferred none)) (w.heap.size + 1) 4 (.bool true) := (World.putObj_heap_other (by omega)).trans ((World.putObj_heap_other (by omega)).trans (hj.fin rfl))
          refine ⟨.bool true, ?_, rfl, (hj.ent.trans (belowK_b (w := w) (Nat.le_refl _) y D2 _ _ (by omega) hj.d2 rfl rfl)).trans (belowK_b (w := w) (Nat.le_refl _) _ D1 _ _ (by omega) h1 rfl rfl)⟩
          have hc := hx.cell
          simp [results, Try.f4, go_sem, hc]
      clear hK2
      refine (wpIn_wide (n := 3)).1 ?_
      have hbox := BoxS.new Wn s
      refine wpIn_rangeFunc_ownF rfl (by decide) (gf := 26) (lb := #[.pointer (some ⟨Wn.heap.size, 0, none⟩)]) rfl trivial (enters_of Try.func26 (by kernel_rfl) rfl)
        (all_stops (3 - 1) (by decide) Wn.heap.size W.heap.size s _ hbox) belowK_t (belowK_b (by simp; omega)) (Below.refl _ _) (fun _ => rfl)
        (fun pre X => (Boxed X W.heap.size 3 (.int .i64 pre.length) ∧ pre.length ≤ most % 9) ∧ Below W.heap.size Wn X)
        (fun c pre X => (Boxed X W.heap.size 3 (.int .i64 pre.length) ∧ c = .exit 2 ∧ pre.length = most % 9 + 1) ∧ Below W.heap.size Wn X)
        (OwnFrom.and (OwnFrom.and ((boxed_own W.heap.size 3 (fun pre : List Int => .int .i64 pre.length)).from _) (ownFrom_pure _ (fun pre : List Int => pre.length ≤ most % 9))) (ownFrom_below (by omega) (by simp; omega)))
        (fun c => OwnFrom.and (OwnFrom.and ((boxed_own W.heap.size 3 (fun pre : List Int => .int .i64 pre.length)).from _) (ownFrom_pure _ (fun pre : List Int => c = .exit 2 ∧ pre.length = most % 9 + 1))) (ownFrom_below (by omega) (by simp; omega)))
        ⟨⟨HN6.out.alloc _, Nat.zero_le _⟩, (Below.refl _ _).alloc (by omega) _⟩
        (fun x => { tmps := #[.slice a zs.length cap, .int .u8 most, undef, .pointer (some ⟨w.heap.size, 0, none⟩), .pointer (some ⟨w.heap.size + 1, 0, none⟩), .pointer (some ⟨w2.heap.size, 0, none⟩), .pointer (some ⟨w2.heap.size + 1, 0, none⟩), undef, .pointer (some ⟨W.heap.size, 0, none⟩), .bool true, .bool false, .bool false, .slice a zs.length cap, .int .i64 zs.length, .bool (decide (100 < (zs.length : Int))), .bool (decide (100 < (zs.length : Int))), undef, .slice a zs.length cap, .agg #[.bool s.b0, .bool s.b1, .bool s.b2, .bool s.b3, .bool s.b4, .bool s.b5, .bool s.b6, .bool s.b7], .agg #[.bool s.b0, .bool s.b1, .bool s.b2, .bool s.b3, .bool s.b4, .bool s.b5, .bool s.b6, .bool s.b7], .func (.func 26) #[] #[.pointer (some ⟨w2.heap.size + 1 + 1, 0, none⟩)], undef, undef, undef, undef, undef, undef, undef, undef, undef, undef, undef, undef, undef, undef, undef, undef, undef, undef, undef, undef, undef, undef, undef, undef, .agg #[.bool s.b0, .bool s.b1, .bool s.b2, .bool s.b3, .bool s.b4, .bool s.b5, .bool s.b6, .bool s.b7], .func (.func 26) #[] #[.pointer (some ⟨Wn.heap.size, 0, none⟩)], .int .i64 x, undef, undef, undef, undef, undef, undef, undef, undef, undef, undef, undef, undef, undef, undef, undef, undef, undef, undef, undef, undef, undef, undef, undef, undef, undef, undef, undef, undef, undef], defers := [] }) ?assign2 ?body2 ?done2 ?stop2
      case assign2 =>
        intro l x W' K hK
        clear hzn
        gi_wp2
        first
          | exact hK
          | (refine cast (congrArg (fun t => K { tmps := t, defers := [] } W') ?_) hK
             first | kernel_rfl | simp)
      case body2 =>
        rintro l pre x X ⟨⟨hn, hle⟩, hB⟩ hlt
        have HX := Lib.hid hB
        have HN := Lib.hid hn
        have hc := hn.cell
        have hf := hn.frozen
        have hc2 := (hn.set (.int .i64 (pre.length + 1))).cell
        have hc3 := ((boxed_belowN HM6.out hB (by have := HPR.out; have := HSZ.out; omega)).other (B' := W.heap.size) (by have := HPR.out; have := HSZ.out; omega) (.int .i64 (pre.length + 1))).cell
        have s1 : IntKind.i64.wrap ((pre.length : Int) + 1) = (pre.length : Int) + 1 := IntWalk.i64_in _ (by omega)
        have s2 : IntKind.i64.wrap (most : Int) = (most : Int) := IntWalk.i64_in _ (by omega)
        have s3 := HMOD.out
        clear hB hn
        by_cases hgt : (pre.length : Int) + 1 ≤ (most : Int) % 9
        · gi_wp2
          exact ⟨KeepsOthers.setCell _ _ _, (Below.refl _ X).setCell (p := ⟨W.heap.size, 0, none⟩) (Nat.le_refl _) _, ⟨by simpa using HN.out.set (.int .i64 (pre.length + 1)), by simp; omega⟩, HX.out.setCell (p := ⟨W.heap.size, 0, none⟩) (Nat.le_refl _) _⟩
        · gi_wp2
          exact ⟨KeepsOthers.setCell _ _ _, ⟨by simpa using HN.out.set (.int .i64 (pre.length + 1)), rfl, by simp; omega⟩, HX.out.setCell (p := ⟨W.heap.size, 0, none⟩) (Nat.le_refl _) _⟩
      case done2 =>
        rintro D2 ys X hD2 rfl ⟨⟨hn, hle⟩, hB⟩ hK
        simp only [Exit.inBlock, Exit.then]
        have e : min (els s).length (most % 9 + 1) = (els s).length := by omega
        exact hend D2 X (by simp at hD2; omega) (by rw [e]; exact hn) hB hK
      case stop2 =>
        rintro D2 c pre X hD2 hpre ⟨⟨hn, rfl, hlen⟩, hB⟩ hK
        have e : min (els s).length (most % 9 + 1) = pre.length := by have := prefix_len hpre; omega
        have h := hend D2 X (by simp at hD2; omega) (by rw [e]; exact hn) hB hK
        clear hend
        refine wpIn_exit ?_
        simp only [Exit.inBlock, Exit.then, ↓reduceIte]
        exact h
    case stop =>
      rintro D c pre W _ hpre ⟨rfl, hbad⟩ _
      exact (not_bad hpre hbad).elim
end Go.Proofs.Ytpoelchjpnbgpaa
