/- BitsCounts' walk. -/
import Derived.Deep.DeepCutAuto
import Derived.Test.YtpoelchjpnbgpaaG
import Derived.Test.YtpoelchjpnbgpaaT
import Derived.Test.YtpoelchjpnbgpaaD
namespace Go.Proofs.Ytpoelchjpnbgpaa
open Go.RowKit Go.Sort
attribute [local go_sem ↓] eq27

/-- The rule, where the region is the last and one slot alone matters behind it. -/
theorem wp_region_last {P : Program} {ops : Array Oper} {a0 : Act} {w0 : World} {Q : Exit → Act → World → Prop} {id : Nat} (V : Nat → Value → Prop) (J : (Nat → Bool) → World → Prop) (live : Nat → Bool) (dsts : List Nat) (n : Nat) (hn : n < dsts.length) (hG : GuardsJ ops live V J) (hm : P.follows .mixedOrders = true) (hB : plainG ops a0.tmps.size = true)
    (hds : (List.range ops.size).map (dstOf ops) = dsts) (hnd : dsts.Nodup) (hb : dsts.all (fun d => decide (d < a0.tmps.size)) = true) (h0 : J (fun i => decide (ops.size ≤ i)) w0.drew)
    (hop : ∀ i o, ops[i]? = some o → live i = true → JOb P ops V J a0 i o)
    (hend : ∀ (tm : Array Value) w, V n (tm.getD dsts[n] undef) → J (fun _ => true) w → Q .normal { tmps := tm, defers := a0.defers } w) :
    (Code.region id ops true).wp P Q a0 w0 :=
  wp_region_inv V J live dsts hG hm hB hds hnd hb h0 hop fun vs w hl hv hj => hend _ w (by
    have hlt : dsts[n] < a0.tmps.size := of_decide_eq_true (List.all_eq_true.1 hb _ (List.getElem_mem hn))
    rw [setF_at dsts vs a0.tmps n hn (by rw [hl]; exact hn) hnd hlt]
    exact hv n (by rw [hl]; exact hn)) hj
theorem txt_size (s : B8) : (txt s).size = 8 := rfl
/-- Two sets in their boxes. -/
structure JS (wB : World) (p q : Nat) (s o : B8) (done : Nat → Bool) (w : World) : Prop where
  p : BoxS w p s
  q : BoxS w q o
  below : Below wB.heap.size wB w
section
variable {wB : World} {p q : Nat} {s o : B8} {done : Nat → Bool} {w : World}
theorem JS.skip (h : JS wB p q s o done w) {k : Nat} (_ : True) : JS wB p q s o (mark done k) w := ⟨h.p, h.q, h.below⟩
theorem j_call (h : JS wB p q s o done w) {f : Nat} {args : Array Value} {v : Value} (hc : Calls Try.prog f args w fun e w' => e = .returned v ∧ Below w.heap.size w w') {k : Nat} {V : Value → Prop} (hV : V v := by exact rfl) :
    jUpon Try.prog V (JS wB p q s o (mark done k)) (.ok (.enter f args) w) := by
  refine hc.mono ?_
  rintro e w' ⟨rfl, hb⟩
  exact ⟨_, rfl, hV, h.p.below hb h.p.lt, h.q.below hb h.q.lt, h.below.trans (hb.mono h.below.size)⟩
end
def V7 (s o : B8) (x_ : Int) (i : Nat) (v : Value) : Prop :=
  match i with
  | 0 => v = .agg #[.bool s.b0, .bool s.b1, .bool s.b2, .bool s.b3, .bool s.b4, .bool s.b5, .bool s.b6, .bool s.b7]
  | 1 => v = .agg #[.bool o.b0, .bool o.b1, .bool o.b2, .bool o.b3, .bool o.b4, .bool o.b5, .bool o.b6, .bool o.b7]
  | 2 => v = .agg #[.bool (orS s o).b0, .bool (orS s o).b1, .bool (orS s o).b2, .bool (orS s o).b3, .bool (orS s o).b4, .bool (orS s o).b5, .bool (orS s o).b6, .bool (orS s o).b7]
  | 3 => v = .int .i64 (els (orS s o)).length
  | 4 => v = .agg #[.bool s.b0, .bool s.b1, .bool s.b2, .bool s.b3, .bool s.b4, .bool s.b5, .bool s.b6, .bool s.b7]
  | 5 => v = .int .i64 (els s).length
  | 6 => v = .agg #[.bool o.b0, .bool o.b1, .bool o.b2, .bool o.b3, .bool o.b4, .bool o.b5, .bool o.b6, .bool o.b7]
  | 7 => v = .agg #[.bool s.b0, .bool s.b1, .bool s.b2, .bool s.b3, .bool s.b4, .bool s.b5, .bool s.b6, .bool s.b7]
  | 8 => v = .agg #[.bool (butS o s).b0, .bool (butS o s).b1, .bool (butS o s).b2, .bool (butS o s).b3, .bool (butS o s).b4, .bool (butS o s).b5, .bool (butS o s).b6, .bool (butS o s).b7]
  | 9 => v = .int .i64 (els (butS o s)).length
  | 10 => v = .int .i64 (els (orS s o)).length
  | 11 => v = .bool true
  | 12 => v = .bool true
  | 13 => v = .agg #[.bool s.b0, .bool s.b1, .bool s.b2, .bool s.b3, .bool s.b4, .bool s.b5, .bool s.b6, .bool s.b7]
  | 14 => v = .int .i64 x_
  | 15 => v = .agg #[.bool (s.set x_ true).b0, .bool (s.set x_ true).b1, .bool (s.set x_ true).b2, .bool (s.set x_ true).b3, .bool (s.set x_ true).b4, .bool (s.set x_ true).b5, .bool (s.set x_ true).b6, .bool (s.set x_ true).b7]
  | 16 => v = .int .i64 (els (s.set x_ true)).length
  | 17 => v = .agg #[.bool s.b0, .bool s.b1, .bool s.b2, .bool s.b3, .bool s.b4, .bool s.b5, .bool s.b6, .bool s.b7]
  | 18 => v = .int .i64 (els s).length
  | 19 => v = .int .i64 (more s x_)
  | 20 => v = .int .i64 (els (s.set x_ true)).length
  | 21 => v = .bool true
  | 22 => v = .bool true
  | 23 => v = .bool true
  | 24 => v = .agg #[.bool s.b0, .bool s.b1, .bool s.b2, .bool s.b3, .bool s.b4, .bool s.b5, .bool s.b6, .bool s.b7]
  | 25 => v = .int .i64 x_
  | 26 => v = .agg #[.bool (s.set x_ true).b0, .bool (s.set x_ true).b1, .bool (s.set x_ true).b2, .bool (s.set x_ true).b3, .bool (s.set x_ true).b4, .bool (s.set x_ true).b5, .bool (s.set x_ true).b6, .bool (s.set x_ true).b7]
  | 27 => v = .int .i64 x_
  | 28 => v = .agg #[.bool (s.set x_ false).b0, .bool (s.set x_ false).b1, .bool (s.set x_ false).b2, .bool (s.set x_ false).b3, .bool (s.set x_ false).b4, .bool (s.set x_ false).b5, .bool (s.set x_ false).b6, .bool (s.set x_ false).b7]
  | 29 => v = .agg #[.bool s.b0, .bool s.b1, .bool s.b2, .bool s.b3, .bool s.b4, .bool s.b5, .bool s.b6, .bool s.b7]
  | 30 => v = .int .i64 x_
  | 31 => v = .agg #[.bool (s.set x_ false).b0, .bool (s.set x_ false).b1, .bool (s.set x_ false).b2, .bool (s.set x_ false).b3, .bool (s.set x_ false).b4, .bool (s.set x_ false).b5, .bool (s.set x_ false).b6, .bool (s.set x_ false).b7]
  | 32 => v = .bool true
  | 33 => v = .bool true
  | 34 => v = .bool true
  | 35 => v = .agg #[.bool s.b0, .bool s.b1, .bool s.b2, .bool s.b3, .bool s.b4, .bool s.b5, .bool s.b6, .bool s.b7]
  | 36 => v = .string (txt s)
  | 37 => v = .int .i64 8
  | 38 => v = .bool true
  | 39 => v = .bool true
  | 40 => v = .bool true
  | 41 => v = .agg #[.bool s.b0, .bool s.b1, .bool s.b2, .bool s.b3, .bool s.b4, .bool s.b5, .bool s.b6, .bool s.b7]
  | 42 => v = .agg #[.bool o.b0, .bool o.b1, .bool o.b2, .bool o.b3, .bool o.b4, .bool o.b5, .bool o.b6, .bool o.b7]
  | 43 => v = .agg #[.bool (butS s o).b0, .bool (butS s o).b1, .bool (butS s o).b2, .bool (butS s o).b3, .bool (butS s o).b4, .bool (butS s o).b5, .bool (butS s o).b6, .bool (butS s o).b7]
  | 44 => v = .int .i64 (els (butS s o)).length
  | 45 => v = .agg #[.bool s.b0, .bool s.b1, .bool s.b2, .bool s.b3, .bool s.b4, .bool s.b5, .bool s.b6, .bool s.b7]
  | 46 => v = .int .i64 (els s).length
  | 47 => v = .bool true
  | 48 => v = .bool true
  | 49 => v = .bool true
  | _ => True

set_option maxRecDepth 20000 in
set_option maxHeartbeats 64000000 in
theorem counts_walk (a : Option Addr) (b off cap : Nat) (zs : List Int) (a2 : Option Addr) (b2 off2 cap2 : Nat) (ys : List Int) (x_ : Int) (w : World) (hz : CameI w a b off zs) (hy : CameI w a2 b2 off2 ys) :
    Calls Try.prog 7 #[.slice a zs.length cap, .slice a2 ys.length cap2, .int .i64 x_] w fun e w' => e = .returned (.bool true) ∧ Below w.heap.size w w' := by
  have HZ := Lib.hid hz
  have HY := Lib.hid hy
  have hzl := hz.2.2.1
  have hyl := hy.2.2.1
  clear hz hy
  go_enter Try.func7, Try.ntmps7
  go_wp2_with fail
  refine (awake_any w).mono ?_
  rintro e w1 ⟨rfl, hb1⟩
  have HB1 := Lib.hid hb1
  have HZ1 := Lib.hid (HZ.out.below hb1)
  have HY1 := Lib.hid (HY.out.below hb1)
  clear hb1
  by_cases hbig : (zs.length : Int) > 100
  · go_wp2_with fail
    refine (awake_any w1).mono ?_
    rintro e w2 ⟨rfl, hb2⟩
    have HB2 := Lib.hid (HB1.out.trans (hb2.mono HB1.out.size))
    clear hb2
    go_wp2
    go_ret
    exact ⟨rfl, HB2.out⟩
  by_cases hbig2 : (ys.length : Int) > 100
  · go_wp2_with fail
    refine (awake_any w1).mono ?_
    rintro e w2 ⟨rfl, hb2⟩
    have HB2 := Lib.hid (HB1.out.trans (hb2.mono HB1.out.size))
    clear hb2
    go_wp2
    go_ret
    exact ⟨rfl, HB2.out⟩
  go_wp2_with fail
  refine (HZ1.out.of cap).mono ?_
  rintro e w2 ⟨rfl, hb2⟩
  have HB2 := Lib.hid (HB1.out.trans (hb2.mono HB1.out.size))
  have HY2 := Lib.hid (HY1.out.below hb2)
  clear hb2
  go_wp2_with fail
  refine (HY2.out.of cap2).mono ?_
  rintro e w3 ⟨rfl, hb3⟩
  have HB3 := Lib.hid (HB2.out.trans (hb3.mono HB2.out.size))
  clear hb3
  generalize ofL zs = s
  generalize ofL ys = o
  go_wp2_with fail
  refine (has_any s _ x_).mono ?_
  rintro e w4 ⟨rfl, hb4⟩
  have HP4 := Lib.hid (((BoxS.new w3 s).alloc (.cells #[.bool o.b0, .bool o.b1, .bool o.b2, .bool o.b3, .bool o.b4, .bool o.b5, .bool o.b6, .bool o.b7] 27)).below hb4 (by simp; omega))
  have HQ4 : Hid (BoxS w4 (w3.heap.size + 1) o) := by
    have h := (BoxS.new (w3.alloc (.cells #[.bool s.b0, .bool s.b1, .bool s.b2, .bool s.b3, .bool s.b4, .bool s.b5, .bool s.b6, .bool s.b7] 27)) o).below hb4 (by simp)
    rwa [World.size_alloc] at h
  have HB4 := Lib.hid (HB3.out.trans ((((Below.refl w3.heap.size w3).alloc (Nat.le_refl _) (.cells #[.bool s.b0, .bool s.b1, .bool s.b2, .bool s.b3, .bool s.b4, .bool s.b5, .bool s.b6, .bool s.b7] 27)).alloc (by simp) (.cells #[.bool o.b0, .bool o.b1, .bool o.b2, .bool o.b3, .bool o.b4, .bool o.b5, .bool o.b6, .bool o.b7] 27)).trans (hb4.mono (by simp; omega)) |>.mono HB3.out.size))
  clear hb4
  have HOR := Lib.hid (show IntKind.i64.wrap (((els s).length : Int) + ((els (butS o s)).length : Int)) = ((els (orS s o)).length : Int) from by have h1 := cnt_or s o; have h2 := lenS_le (orS s o); rw [IntKind.wrap_i64]; omega)
  have HWI := Lib.hid (show IntKind.i64.wrap (((els s).length : Int) + ((more s x_ : Nat) : Int)) = ((els (s.set x_ true)).length : Int) from by have h1 := cnt_with s x_; have h2 := lenS_le (s.set x_ true); rw [IntKind.wrap_i64]; omega)
  have HLE := Lib.hid (cnt_but s o)
  rename_i Kr hKr Kc hKc Ko hKo
  have hend : ∀ tm : Array Value, tm.size = 88 → tm.getD 2 undef = .int .i64 x_ → tm.getD 7 undef = .pointer (some ⟨w3.heap.size, 0, none⟩) → tm.getD 8 undef = .pointer (some ⟨w3.heap.size + 1, 0, none⟩) → tm.getD 9 undef = .int .i64 (more s x_) → Kr { tmps := tm, defers := [] } w4 := by
    intro tm hsz e2 e7 e8 e9
    refine hKr _ _ ?_
    clear hKr hKc hKo
    have HJ := Lib.hid (show JS w w3.heap.size (w3.heap.size + 1) s o (fun i => decide (50 ≤ i)) w4.drew from ⟨HP4.out, HQ4.out, HB4.out.drew⟩)
    go_wp2_with fail
    have hor := HOR.out
    have hwi := HWI.out
    have hle := HLE.out
    refine wp_region_last (V7 s o x_) (JS w w3.heap.size (w3.heap.size + 1) s o) (fun _ => true) [39, 40, 41, 42, 43, 44, 45, 46, 47, 48, 49, 50, 51, 52, 53, 54, 55, 56, 57, 58, 59, 60, 61, 62, 63, 64, 65, 66, 67, 68, 69, 70, 71, 72, 73, 74, 75, 76, 77, 78, 79, 80, 81, 82, 83, 84, 85, 86, 87, 6] 49 (by decide) (GuardsJ.tell [(12, true), (23, true), (34, true), (40, true)] (by kernel_rfl) (by
      intro p hp v h
      simp only [List.mem_cons, List.not_mem_nil, or_false] at hp
      rcases hp with rfl | rfl | rfl | rfl <;> exact h)) (by kernel_rfl) (by rw [hsz]; kernel_rfl) (by kernel_rfl) (by decide) (by rw [hsz]; kernel_rfl) HJ.out ?_ ?_
    · intro i' ob ho _
      match i', ho with
      | 0, ho =>
        as_aux_lemma =>
          obtain rfl := Option.some.inj ho
          intro x wx done hj hdn hrest hd
          have h : x.tmps.getD 7 undef = .pointer (some ⟨w3.heap.size, 0, none⟩) := (hrest 7 (by decide)).trans e7
          obtain ⟨t0, t1, t2, t3, t4, t5, t6, t7, _⟩ := hj.p.cells
          simp [execOp, Act.eval, h, go_sem, t0, t1, t2, t3, t4, t5, t6, t7]
          exact ⟨rfl, hj.skip trivial⟩
      | 1, ho =>
        as_aux_lemma =>
          obtain rfl := Option.some.inj ho
          intro x wx done hj hdn hrest hd
          have h : x.tmps.getD 8 undef = .pointer (some ⟨w3.heap.size + 1, 0, none⟩) := (hrest 8 (by decide)).trans e8
          obtain ⟨t0, t1, t2, t3, t4, t5, t6, t7, _⟩ := hj.q.cells
          simp [execOp, Act.eval, h, go_sem, t0, t1, t2, t3, t4, t5, t6, t7]
          exact ⟨rfl, hj.skip trivial⟩
      | 2, ho =>
        as_aux_lemma =>
          obtain rfl := Option.some.inj ho
          intro x wx done hj hdn hrest hd
          have h0 : x.tmps.getD 39 undef = .agg #[.bool s.b0, .bool s.b1, .bool s.b2, .bool s.b3, .bool s.b4, .bool s.b5, .bool s.b6, .bool s.b7] := (hd 0 (by decide)).2
          have h1 : x.tmps.getD 40 undef = .agg #[.bool o.b0, .bool o.b1, .bool o.b2, .bool o.b3, .bool o.b4, .bool o.b5, .bool o.b6, .bool o.b7] := (hd 1 (by decide)).2
          simp [execOp, Act.eval, h0, h1, go_sem]
          exact j_call hj (or_any s o wx)
      | 3, ho =>
        as_aux_lemma =>
          obtain rfl := Option.some.inj ho
          intro x wx done hj hdn hrest hd
          have h0 : x.tmps.getD 41 undef = .agg #[.bool (orS s o).b0, .bool (orS s o).b1, .bool (orS s o).b2, .bool (orS s o).b3, .bool (orS s o).b4, .bool (orS s o).b5, .bool (orS s o).b6, .bool (orS s o).b7] := (hd 2 (by decide)).2
          simp [execOp, Act.eval, h0, go_sem]
          exact j_call hj (len_any _ wx)
      | 4, ho =>
        as_aux_lemma =>
          obtain rfl := Option.some.inj ho
          intro x wx done hj hdn hrest hd
          have h : x.tmps.getD 7 undef = .pointer (some ⟨w3.heap.size, 0, none⟩) := (hrest 7 (by decide)).trans e7
          obtain ⟨t0, t1, t2, t3, t4, t5, t6, t7, _⟩ := hj.p.cells
          simp [execOp, Act.eval, h, go_sem, t0, t1, t2, t3, t4, t5, t6, t7]
          exact ⟨rfl, hj.skip trivial⟩
      | 5, ho =>
        as_aux_lemma =>
          obtain rfl := Option.some.inj ho
          intro x wx done hj hdn hrest hd
          have h0 : x.tmps.getD 43 undef = .agg #[.bool s.b0, .bool s.b1, .bool s.b2, .bool s.b3, .bool s.b4, .bool s.b5, .bool s.b6, .bool s.b7] := (hd 4 (by decide)).2
          simp [execOp, Act.eval, h0, go_sem]
          exact j_call hj (len_any s wx)
      | 6, ho =>
        as_aux_lemma =>
          obtain rfl := Option.some.inj ho
          intro x wx done hj hdn hrest hd
          have h : x.tmps.getD 8 undef = .pointer (some ⟨w3.heap.size + 1, 0, none⟩) := (hrest 8 (by decide)).trans e8
          obtain ⟨t0, t1, t2, t3, t4, t5, t6, t7, _⟩ := hj.q.cells
          simp [execOp, Act.eval, h, go_sem, t0, t1, t2, t3, t4, t5, t6, t7]
          exact ⟨rfl, hj.skip trivial⟩
      | 7, ho =>
        as_aux_lemma =>
          obtain rfl := Option.some.inj ho
          intro x wx done hj hdn hrest hd
          have h : x.tmps.getD 7 undef = .pointer (some ⟨w3.heap.size, 0, none⟩) := (hrest 7 (by decide)).trans e7
          obtain ⟨t0, t1, t2, t3, t4, t5, t6, t7, _⟩ := hj.p.cells
          simp [execOp, Act.eval, h, go_sem, t0, t1, t2, t3, t4, t5, t6, t7]
          exact ⟨rfl, hj.skip trivial⟩
      | 8, ho =>
        as_aux_lemma =>
          obtain rfl := Option.some.inj ho
          intro x wx done hj hdn hrest hd
          have h0 : x.tmps.getD 45 undef = .agg #[.bool o.b0, .bool o.b1, .bool o.b2, .bool o.b3, .bool o.b4, .bool o.b5, .bool o.b6, .bool o.b7] := (hd 6 (by decide)).2
          have h1 : x.tmps.getD 46 undef = .agg #[.bool s.b0, .bool s.b1, .bool s.b2, .bool s.b3, .bool s.b4, .bool s.b5, .bool s.b6, .bool s.b7] := (hd 7 (by decide)).2
          simp [execOp, Act.eval, h0, h1, go_sem]
          exact j_call hj (but_any o s wx)
      | 9, ho =>
        as_aux_lemma =>
          obtain rfl := Option.some.inj ho
          intro x wx done hj hdn hrest hd
          have h0 : x.tmps.getD 47 undef = .agg #[.bool (butS o s).b0, .bool (butS o s).b1, .bool (butS o s).b2, .bool (butS o s).b3, .bool (butS o s).b4, .bool (butS o s).b5, .bool (butS o s).b6, .bool (butS o s).b7] := (hd 8 (by decide)).2
          simp [execOp, Act.eval, h0, go_sem]
          exact j_call hj (len_any _ wx)
      | 10, ho =>
        as_aux_lemma =>
          obtain rfl := Option.some.inj ho
          intro x wx done hj hdn hrest hd
          have h0 : x.tmps.getD 44 undef = .int .i64 (els s).length := (hd 5 (by decide)).2
          have h1 : x.tmps.getD 48 undef = .int .i64 (els (butS o s)).length := (hd 9 (by decide)).2
          simp [execOp, Act.eval, h0, h1, hor, go_sem]
          exact ⟨rfl, hj.skip trivial⟩
      | 11, ho =>
        as_aux_lemma =>
          obtain rfl := Option.some.inj ho
          intro x wx done hj hdn hrest hd
          have h0 : x.tmps.getD 42 undef = .int .i64 (els (orS s o)).length := (hd 3 (by decide)).2
          have h1 : x.tmps.getD 49 undef = .int .i64 (els (orS s o)).length := (hd 10 (by decide)).2
          simp [execOp, Act.eval, h0, h1, go_sem]
          exact ⟨rfl, hj.skip trivial⟩
      | 12, ho =>
        as_aux_lemma =>
          obtain rfl := Option.some.inj ho
          intro x wx done hj hdn hrest hd
          have h : x.tmps.getD 50 undef = .bool true := (hd 11 (by decide)).2
          exact ⟨h, hj.skip trivial⟩
      | 13, ho =>
        as_aux_lemma =>
          obtain rfl := Option.some.inj ho
          intro x wx done hj hdn hrest hd
          have h : x.tmps.getD 7 undef = .pointer (some ⟨w3.heap.size, 0, none⟩) := (hrest 7 (by decide)).trans e7
          obtain ⟨t0, t1, t2, t3, t4, t5, t6, t7, _⟩ := hj.p.cells
          simp [execOp, Act.eval, h, go_sem, t0, t1, t2, t3, t4, t5, t6, t7]
          exact ⟨rfl, hj.skip trivial⟩
      | 14, ho =>
        as_aux_lemma =>
          obtain rfl := Option.some.inj ho
          intro x wx done hj hdn hrest hd
          have h : x.tmps.getD 2 undef = .int .i64 x_ := (hrest 2 (by decide)).trans e2
          exact ⟨h, hj.skip trivial⟩
      | 15, ho =>
        as_aux_lemma =>
          obtain rfl := Option.some.inj ho
          intro x wx done hj hdn hrest hd
          have h0 : x.tmps.getD 52 undef = .agg #[.bool s.b0, .bool s.b1, .bool s.b2, .bool s.b3, .bool s.b4, .bool s.b5, .bool s.b6, .bool s.b7] := (hd 13 (by decide)).2
          have h1 : x.tmps.getD 53 undef = .int .i64 x_ := (hd 14 (by decide)).2
          simp [execOp, Act.eval, h0, h1, go_sem]
          exact j_call hj (with_any s x_ wx)
      | 16, ho =>
        as_aux_lemma =>
          obtain rfl := Option.some.inj ho
          intro x wx done hj hdn hrest hd
          have h0 : x.tmps.getD 54 undef = .agg #[.bool (s.set x_ true).b0, .bool (s.set x_ true).b1, .bool (s.set x_ true).b2, .bool (s.set x_ true).b3, .bool (s.set x_ true).b4, .bool (s.set x_ true).b5, .bool (s.set x_ true).b6, .bool (s.set x_ true).b7] := (hd 15 (by decide)).2
          simp [execOp, Act.eval, h0, go_sem]
          exact j_call hj (len_any _ wx)
      | 17, ho =>
        as_aux_lemma =>
          obtain rfl := Option.some.inj ho
          intro x wx done hj hdn hrest hd
          have h : x.tmps.getD 7 undef = .pointer (some ⟨w3.heap.size, 0, none⟩) := (hrest 7 (by decide)).trans e7
          obtain ⟨t0, t1, t2, t3, t4, t5, t6, t7, _⟩ := hj.p.cells
          simp [execOp, Act.eval, h, go_sem, t0, t1, t2, t3, t4, t5, t6, t7]
          exact ⟨rfl, hj.skip trivial⟩
      | 18, ho =>
        as_aux_lemma =>
          obtain rfl := Option.some.inj ho
          intro x wx done hj hdn hrest hd
          have h0 : x.tmps.getD 56 undef = .agg #[.bool s.b0, .bool s.b1, .bool s.b2, .bool s.b3, .bool s.b4, .bool s.b5, .bool s.b6, .bool s.b7] := (hd 17 (by decide)).2
          simp [execOp, Act.eval, h0, go_sem]
          exact j_call hj (len_any s wx)
      | 19, ho =>
        as_aux_lemma =>
          obtain rfl := Option.some.inj ho
          intro x wx done hj hdn hrest hd
          have h : x.tmps.getD 9 undef = .int .i64 (more s x_) := (hrest 9 (by decide)).trans e9
          exact ⟨h, hj.skip trivial⟩
      | 20, ho =>
        as_aux_lemma =>
          obtain rfl := Option.some.inj ho
          intro x wx done hj hdn hrest hd
          have h0 : x.tmps.getD 57 undef = .int .i64 (els s).length := (hd 18 (by decide)).2
          have h1 : x.tmps.getD 58 undef = .int .i64 (more s x_) := (hd 19 (by decide)).2
          simp [execOp, Act.eval, h0, h1, hwi, go_sem]
          exact ⟨rfl, hj.skip trivial⟩
      | 21, ho =>
        as_aux_lemma =>
          obtain rfl := Option.some.inj ho
          intro x wx done hj hdn hrest hd
          have h0 : x.tmps.getD 55 undef = .int .i64 (els (s.set x_ true)).length := (hd 16 (by decide)).2
          have h1 : x.tmps.getD 59 undef = .int .i64 (els (s.set x_ true)).length := (hd 20 (by decide)).2
          simp [execOp, Act.eval, h0, h1, go_sem]
          exact ⟨rfl, hj.skip trivial⟩
      | 22, ho =>
        as_aux_lemma =>
          obtain rfl := Option.some.inj ho
          intro x wx done hj hdn hrest hd
          have h0 : x.tmps.getD 51 undef = .bool true := (hd 12 (by decide)).2
          have h1 : x.tmps.getD 60 undef = .bool true := (hd 21 (by decide)).2
          simp [execOp, Act.eval, h0, h1, go_sem]
          exact ⟨rfl, hj.skip trivial⟩
      | 23, ho =>
        as_aux_lemma =>
          obtain rfl := Option.some.inj ho
          intro x wx done hj hdn hrest hd
          have h : x.tmps.getD 61 undef = .bool true := (hd 22 (by decide)).2
          exact ⟨h, hj.skip trivial⟩
      | 24, ho =>
        as_aux_lemma =>
          obtain rfl := Option.some.inj ho
          intro x wx done hj hdn hrest hd
          have h : x.tmps.getD 7 undef = .pointer (some ⟨w3.heap.size, 0, none⟩) := (hrest 7 (by decide)).trans e7
          obtain ⟨t0, t1, t2, t3, t4, t5, t6, t7, _⟩ := hj.p.cells
          simp [execOp, Act.eval, h, go_sem, t0, t1, t2, t3, t4, t5, t6, t7]
          exact ⟨rfl, hj.skip trivial⟩
      | 25, ho =>
        as_aux_lemma =>
          obtain rfl := Option.some.inj ho
          intro x wx done hj hdn hrest hd
          have h : x.tmps.getD 2 undef = .int .i64 x_ := (hrest 2 (by decide)).trans e2
          exact ⟨h, hj.skip trivial⟩
      | 26, ho =>
        as_aux_lemma =>
          obtain rfl := Option.some.inj ho
          intro x wx done hj hdn hrest hd
          have h0 : x.tmps.getD 63 undef = .agg #[.bool s.b0, .bool s.b1, .bool s.b2, .bool s.b3, .bool s.b4, .bool s.b5, .bool s.b6, .bool s.b7] := (hd 24 (by decide)).2
          have h1 : x.tmps.getD 64 undef = .int .i64 x_ := (hd 25 (by decide)).2
          simp [execOp, Act.eval, h0, h1, go_sem]
          exact j_call hj (with_any s x_ wx)
      | 27, ho =>
        as_aux_lemma =>
          obtain rfl := Option.some.inj ho
          intro x wx done hj hdn hrest hd
          have h : x.tmps.getD 2 undef = .int .i64 x_ := (hrest 2 (by decide)).trans e2
          exact ⟨h, hj.skip trivial⟩
      | 28, ho =>
        as_aux_lemma =>
          obtain rfl := Option.some.inj ho
          intro x wx done hj hdn hrest hd
          have h0 : x.tmps.getD 65 undef = .agg #[.bool (s.set x_ true).b0, .bool (s.set x_ true).b1, .bool (s.set x_ true).b2, .bool (s.set x_ true).b3, .bool (s.set x_ true).b4, .bool (s.set x_ true).b5, .bool (s.set x_ true).b6, .bool (s.set x_ true).b7] := (hd 26 (by decide)).2
          have h1 : x.tmps.getD 66 undef = .int .i64 x_ := (hd 27 (by decide)).2
          simp [execOp, Act.eval, h0, h1, go_sem]
          exact j_call hj (by have h := without_any (s.set x_ true) x_ wx; rw [set_set] at h; exact h)
      | 29, ho =>
        as_aux_lemma =>
          obtain rfl := Option.some.inj ho
          intro x wx done hj hdn hrest hd
          have h : x.tmps.getD 7 undef = .pointer (some ⟨w3.heap.size, 0, none⟩) := (hrest 7 (by decide)).trans e7
          obtain ⟨t0, t1, t2, t3, t4, t5, t6, t7, _⟩ := hj.p.cells
          simp [execOp, Act.eval, h, go_sem, t0, t1, t2, t3, t4, t5, t6, t7]
          exact ⟨rfl, hj.skip trivial⟩
      | 30, ho =>
        as_aux_lemma =>
          obtain rfl := Option.some.inj ho
          intro x wx done hj hdn hrest hd
          have h : x.tmps.getD 2 undef = .int .i64 x_ := (hrest 2 (by decide)).trans e2
          exact ⟨h, hj.skip trivial⟩
      | 31, ho =>
        as_aux_lemma =>
          obtain rfl := Option.some.inj ho
          intro x wx done hj hdn hrest hd
          have h0 : x.tmps.getD 68 undef = .agg #[.bool s.b0, .bool s.b1, .bool s.b2, .bool s.b3, .bool s.b4, .bool s.b5, .bool s.b6, .bool s.b7] := (hd 29 (by decide)).2
          have h1 : x.tmps.getD 69 undef = .int .i64 x_ := (hd 30 (by decide)).2
          simp [execOp, Act.eval, h0, h1, go_sem]
          exact j_call hj (without_any s x_ wx)
      | 32, ho =>
        as_aux_lemma =>
          obtain rfl := Option.some.inj ho
          intro x wx done hj hdn hrest hd
          have h0 : x.tmps.getD 67 undef = .agg #[.bool (s.set x_ false).b0, .bool (s.set x_ false).b1, .bool (s.set x_ false).b2, .bool (s.set x_ false).b3, .bool (s.set x_ false).b4, .bool (s.set x_ false).b5, .bool (s.set x_ false).b6, .bool (s.set x_ false).b7] := (hd 28 (by decide)).2
          have h1 : x.tmps.getD 70 undef = .agg #[.bool (s.set x_ false).b0, .bool (s.set x_ false).b1, .bool (s.set x_ false).b2, .bool (s.set x_ false).b3, .bool (s.set x_ false).b4, .bool (s.set x_ false).b5, .bool (s.set x_ false).b6, .bool (s.set x_ false).b7] := (hd 31 (by decide)).2
          simp [execOp, Act.eval, h0, h1, go_sem]
          exact ⟨rfl, hj.skip trivial⟩
      | 33, ho =>
        as_aux_lemma =>
          obtain rfl := Option.some.inj ho
          intro x wx done hj hdn hrest hd
          have h0 : x.tmps.getD 62 undef = .bool true := (hd 23 (by decide)).2
          have h1 : x.tmps.getD 71 undef = .bool true := (hd 32 (by decide)).2
          simp [execOp, Act.eval, h0, h1, go_sem]
          exact ⟨rfl, hj.skip trivial⟩
      | 34, ho =>
        as_aux_lemma =>
          obtain rfl := Option.some.inj ho
          intro x wx done hj hdn hrest hd
          have h : x.tmps.getD 72 undef = .bool true := (hd 33 (by decide)).2
          exact ⟨h, hj.skip trivial⟩
      | 35, ho =>
        as_aux_lemma =>
          obtain rfl := Option.some.inj ho
          intro x wx done hj hdn hrest hd
          have h : x.tmps.getD 7 undef = .pointer (some ⟨w3.heap.size, 0, none⟩) := (hrest 7 (by decide)).trans e7
          obtain ⟨t0, t1, t2, t3, t4, t5, t6, t7, _⟩ := hj.p.cells
          simp [execOp, Act.eval, h, go_sem, t0, t1, t2, t3, t4, t5, t6, t7]
          exact ⟨rfl, hj.skip trivial⟩
      | 36, ho =>
        as_aux_lemma =>
          obtain rfl := Option.some.inj ho
          intro x wx done hj hdn hrest hd
          have h0 : x.tmps.getD 74 undef = .agg #[.bool s.b0, .bool s.b1, .bool s.b2, .bool s.b3, .bool s.b4, .bool s.b5, .bool s.b6, .bool s.b7] := (hd 35 (by decide)).2
          simp [execOp, Act.eval, h0, go_sem]
          exact j_call hj (text_any s wx)
      | 37, ho =>
        as_aux_lemma =>
          obtain rfl := Option.some.inj ho
          intro x wx done hj hdn hrest hd
          have h0 : x.tmps.getD 75 undef = .string (txt s) := (hd 36 (by decide)).2
          simp [execOp, Act.eval, h0, txt_size, go_sem]
          exact ⟨rfl, hj.skip trivial⟩
      | 38, ho =>
        as_aux_lemma =>
          obtain rfl := Option.some.inj ho
          intro x wx done hj hdn hrest hd
          have h0 : x.tmps.getD 76 undef = .int .i64 8 := (hd 37 (by decide)).2
          simp [execOp, Act.eval, h0, go_sem]
          exact ⟨rfl, hj.skip trivial⟩
      | 39, ho =>
        as_aux_lemma =>
          obtain rfl := Option.some.inj ho
          intro x wx done hj hdn hrest hd
          have h0 : x.tmps.getD 73 undef = .bool true := (hd 34 (by decide)).2
          have h1 : x.tmps.getD 77 undef = .bool true := (hd 38 (by decide)).2
          simp [execOp, Act.eval, h0, h1, go_sem]
          exact ⟨rfl, hj.skip trivial⟩
      | 40, ho =>
        as_aux_lemma =>
          obtain rfl := Option.some.inj ho
          intro x wx done hj hdn hrest hd
          have h : x.tmps.getD 78 undef = .bool true := (hd 39 (by decide)).2
          exact ⟨h, hj.skip trivial⟩
      | 41, ho =>
        as_aux_lemma =>
          obtain rfl := Option.some.inj ho
          intro x wx done hj hdn hrest hd
          have h : x.tmps.getD 7 undef = .pointer (some ⟨w3.heap.size, 0, none⟩) := (hrest 7 (by decide)).trans e7
          obtain ⟨t0, t1, t2, t3, t4, t5, t6, t7, _⟩ := hj.p.cells
          simp [execOp, Act.eval, h, go_sem, t0, t1, t2, t3, t4, t5, t6, t7]
          exact ⟨rfl, hj.skip trivial⟩
      | 42, ho =>
        as_aux_lemma =>
          obtain rfl := Option.some.inj ho
          intro x wx done hj hdn hrest hd
          have h : x.tmps.getD 8 undef = .pointer (some ⟨w3.heap.size + 1, 0, none⟩) := (hrest 8 (by decide)).trans e8
          obtain ⟨t0, t1, t2, t3, t4, t5, t6, t7, _⟩ := hj.q.cells
          simp [execOp, Act.eval, h, go_sem, t0, t1, t2, t3, t4, t5, t6, t7]
          exact ⟨rfl, hj.skip trivial⟩
      | 43, ho =>
        as_aux_lemma =>
          obtain rfl := Option.some.inj ho
          intro x wx done hj hdn hrest hd
          have h0 : x.tmps.getD 80 undef = .agg #[.bool s.b0, .bool s.b1, .bool s.b2, .bool s.b3, .bool s.b4, .bool s.b5, .bool s.b6, .bool s.b7] := (hd 41 (by decide)).2
          have h1 : x.tmps.getD 81 undef = .agg #[.bool o.b0, .bool o.b1, .bool o.b2, .bool o.b3, .bool o.b4, .bool o.b5, .bool o.b6, .bool o.b7] := (hd 42 (by decide)).2
          simp [execOp, Act.eval, h0, h1, go_sem]
          exact j_call hj (but_any s o wx)
      | 44, ho =>
        as_aux_lemma =>
          obtain rfl := Option.some.inj ho
          intro x wx done hj hdn hrest hd
          have h0 : x.tmps.getD 82 undef = .agg #[.bool (butS s o).b0, .bool (butS s o).b1, .bool (butS s o).b2, .bool (butS s o).b3, .bool (butS s o).b4, .bool (butS s o).b5, .bool (butS s o).b6, .bool (butS s o).b7] := (hd 43 (by decide)).2
          simp [execOp, Act.eval, h0, go_sem]
          exact j_call hj (len_any _ wx)
      | 45, ho =>
        as_aux_lemma =>
          obtain rfl := Option.some.inj ho
          intro x wx done hj hdn hrest hd
          have h : x.tmps.getD 7 undef = .pointer (some ⟨w3.heap.size, 0, none⟩) := (hrest 7 (by decide)).trans e7
          obtain ⟨t0, t1, t2, t3, t4, t5, t6, t7, _⟩ := hj.p.cells
          simp [execOp, Act.eval, h, go_sem, t0, t1, t2, t3, t4, t5, t6, t7]
          exact ⟨rfl, hj.skip trivial⟩
      | 46, ho =>
        as_aux_lemma =>
          obtain rfl := Option.some.inj ho
          intro x wx done hj hdn hrest hd
          have h0 : x.tmps.getD 84 undef = .agg #[.bool s.b0, .bool s.b1, .bool s.b2, .bool s.b3, .bool s.b4, .bool s.b5, .bool s.b6, .bool s.b7] := (hd 45 (by decide)).2
          simp [execOp, Act.eval, h0, go_sem]
          exact j_call hj (len_any s wx)
      | 47, ho =>
        as_aux_lemma =>
          obtain rfl := Option.some.inj ho
          intro x wx done hj hdn hrest hd
          have h0 : x.tmps.getD 83 undef = .int .i64 (els (butS s o)).length := (hd 44 (by decide)).2
          have h1 : x.tmps.getD 85 undef = .int .i64 (els s).length := (hd 46 (by decide)).2
          simp [execOp, Act.eval, h0, h1, hle, go_sem]
          exact ⟨rfl, hj.skip trivial⟩
      | 48, ho =>
        as_aux_lemma =>
          obtain rfl := Option.some.inj ho
          intro x wx done hj hdn hrest hd
          have h0 : x.tmps.getD 79 undef = .bool true := (hd 40 (by decide)).2
          have h1 : x.tmps.getD 86 undef = .bool true := (hd 47 (by decide)).2
          simp [execOp, Act.eval, h0, h1, go_sem]
          exact ⟨rfl, hj.skip trivial⟩
      | 49, ho =>
        as_aux_lemma =>
          obtain rfl := Option.some.inj ho
          intro x wx done hj hdn hrest hd
          have h : x.tmps.getD 87 undef = .bool true := (hd 48 (by decide)).2
          exact ⟨h, hj.skip trivial⟩
      | n + 50, ho => cases ho
    · intro tm' wx h6 hj
      have h6' : tm'.getD 6 undef = .bool true := h6
      have HBX := Lib.hid hj.below
      rw [Array.getD_eq_getD_getElem?] at h6'
      clear h6 hj
      go_wp2
      exact bodyPost_ret (v := .bool true) (by simp [results, Try.results7, go_sem, h6']) rfl ⟨rfl, HBX.out⟩
  clear hKr HOR HWI HLE HP4 HQ4 HB4
  cases hg : s.get x_ with
  | true =>
    have hmo : more s x_ = 0 := by rw [more, if_neg (by rw [hg]; simp)]
    rw [hmo] at hend
    have HEND := Lib.hid hend
    clear hg hend
    go_wp2_with fail
    exact HEND.out _ rfl rfl rfl rfl rfl
  | false =>
    by_cases hx0 : 0 ≤ x_
    · by_cases hx8 : x_ < 8
      · have hmo : more s x_ = 1 := by rw [more, if_pos ⟨hg, hx0, hx8⟩]
        rw [hmo] at hend
        have HEND := Lib.hid hend
        clear hg hend
        go_wp2_with fail
        exact HEND.out _ rfl rfl rfl rfl rfl
      · have hmo : more s x_ = 0 := by rw [more, if_neg (by omega)]
        rw [hmo] at hend
        have HEND := Lib.hid hend
        clear hg hend
        go_wp2_with fail
        exact HEND.out _ rfl rfl rfl rfl rfl
    · have hmo : more s x_ = 0 := by rw [more, if_neg (by omega)]
      rw [hmo] at hend
      have HEND := Lib.hid hend
      clear hg hend
      go_wp2_with fail
      exact HEND.out _ rfl rfl rfl rfl rfl

end Go.Proofs.Ytpoelchjpnbgpaa
