/- BitsPlays' walk. -/
import Derived.Deep.DeepCutAuto
import Derived.Deep.MidRow
import Derived.Test.YtpoelchjpnbgpaaV
namespace Go.Proofs.Ytpoelchjpnbgpaa
open Go.RowKit Go.Sort

theorem store_set {a : Act} {ob : Oper} {px vx : Operand} (ho : ob.op = .store 27 px vx) {p : Nat} {s t : B8} {w : World} (hx : a.eval px = .pointer (some ⟨p, 0, none⟩)) (hy : a.eval vx = .agg #[.bool t.b0, .bool t.b1, .bool t.b2, .bool t.b3, .bool t.b4, .bool t.b5, .bool t.b6, .bool t.b7]) (hb : BoxS w p s) :
    (execOp a.eval ob).run Try.prog w = .ok .skip (World.putS w p t) := by
  have ht : w.there p 0 8 := fun j hj => by
    obtain rfl | rfl | rfl | rfl | rfl | rfl | rfl | rfl : j = 0 ∨ j = 1 ∨ j = 2 ∨ j = 3 ∨ j = 4 ∨ j = 5 ∨ j = 6 ∨ j = 7 := by omega
    all_goals exact ⟨by simp [World.cell?, show w.heap[p]? = _ from hb], by simp [World.frozen?, show w.heap[p]? = _ from hb]⟩
  have hr := run_storeVar_mid (P := Try.prog) w p 0 27 #[.bool t.b0, .bool t.b1, .bool t.b2, .bool t.b3, .bool t.b4, .bool t.b5, .bool t.b6, .bool t.b7] ht (by kernel_rfl) (by kernel_rfl)
  unfold execOp
  simp only [ho, hx, hy, Instr.storeAt, Instr.sureAddr, Sem.run_bind, Sem.run_pure, Result.andThen_ok, hr]
  rfl
theorem oUpon_skip {P : Program} {V : Value → Prop} {J : Value → World → Prop} {r : Result Next} {w' : World} (hr : r = .ok .skip w') (hV : V undef) (hJ : J undef w') : oUpon P V J r := by
  subst hr
  exact ⟨hV, hJ⟩
def V10 (qq : Nat) (s : B8) (o : Wo) (i : Nat) (v : Value) : Prop :=
  match i with
  | 0 => v = .agg #[.bool s.b0, .bool s.b1, .bool s.b2, .bool s.b3, .bool s.b4, .bool s.b5, .bool s.b6, .bool s.b7]
  | 1 => v = .pointer (some ⟨qq, 1, none⟩)
  | 2 => v = .int .i64 o.x
  | 3 => v = .agg #[.bool (s.set o.x true).b0, .bool (s.set o.x true).b1, .bool (s.set o.x true).b2, .bool (s.set o.x true).b3, .bool (s.set o.x true).b4, .bool (s.set o.x true).b5, .bool (s.set o.x true).b6, .bool (s.set o.x true).b7]
  | 4 => v = .string (txt s)
  | 5 => v = .pointer (some ⟨qq, 1, none⟩)
  | 6 => v = .int .i64 o.x
  | 7 => v = .string (txt (s.set o.x true))
  | 8 => True
  | 9 => v = .string (txt (s.set o.x true))
  | _ => True

def V12 (qq : Nat) (s : B8) (o : Wo) (i : Nat) (v : Value) : Prop :=
  match i with
  | 0 => v = .agg #[.bool s.b0, .bool s.b1, .bool s.b2, .bool s.b3, .bool s.b4, .bool s.b5, .bool s.b6, .bool s.b7]
  | 1 => v = .pointer (some ⟨qq, 1, none⟩)
  | 2 => v = .int .i64 o.x
  | 3 => v = .agg #[.bool (s.set o.x false).b0, .bool (s.set o.x false).b1, .bool (s.set o.x false).b2, .bool (s.set o.x false).b3, .bool (s.set o.x false).b4, .bool (s.set o.x false).b5, .bool (s.set o.x false).b6, .bool (s.set o.x false).b7]
  | 4 => v = .string (txt s)
  | 5 => v = .pointer (some ⟨qq, 1, none⟩)
  | 6 => v = .int .i64 o.x
  | 7 => v = .string (txt (s.set o.x false))
  | 8 => True
  | 9 => v = .string (txt (s.set o.x false))
  | _ => True

def V14 (qq : Nat) (s : B8) (o : Wo) (i : Nat) (v : Value) : Prop :=
  match i with
  | 0 => v = .agg #[.bool s.b0, .bool s.b1, .bool s.b2, .bool s.b3, .bool s.b4, .bool s.b5, .bool s.b6, .bool s.b7]
  | 1 => v = .pointer (some ⟨qq, 2, none⟩)
  | 2 => v = .slice o.a o.zs.length o.cap
  | 3 => v = .agg #[.bool (ofL o.zs).b0, .bool (ofL o.zs).b1, .bool (ofL o.zs).b2, .bool (ofL o.zs).b3, .bool (ofL o.zs).b4, .bool (ofL o.zs).b5, .bool (ofL o.zs).b6, .bool (ofL o.zs).b7]
  | 4 => v = .agg #[.bool (orS s (ofL o.zs)).b0, .bool (orS s (ofL o.zs)).b1, .bool (orS s (ofL o.zs)).b2, .bool (orS s (ofL o.zs)).b3, .bool (orS s (ofL o.zs)).b4, .bool (orS s (ofL o.zs)).b5, .bool (orS s (ofL o.zs)).b6, .bool (orS s (ofL o.zs)).b7]
  | 5 => v = .string (txt s)
  | 6 => v = .pointer (some ⟨qq, 2, none⟩)
  | 7 => v = .slice o.a o.zs.length o.cap
  | 8 => v = .string (txt (ofL o.zs))
  | 9 => v = .string (txt (orS s (ofL o.zs)))
  | 10 => True
  | 11 => v = .string (txt (orS s (ofL o.zs)))
  | _ => True

def V16 (qq : Nat) (s : B8) (o : Wo) (i : Nat) (v : Value) : Prop :=
  match i with
  | 0 => v = .agg #[.bool s.b0, .bool s.b1, .bool s.b2, .bool s.b3, .bool s.b4, .bool s.b5, .bool s.b6, .bool s.b7]
  | 1 => v = .pointer (some ⟨qq, 2, none⟩)
  | 2 => v = .slice o.a o.zs.length o.cap
  | 3 => v = .agg #[.bool (ofL o.zs).b0, .bool (ofL o.zs).b1, .bool (ofL o.zs).b2, .bool (ofL o.zs).b3, .bool (ofL o.zs).b4, .bool (ofL o.zs).b5, .bool (ofL o.zs).b6, .bool (ofL o.zs).b7]
  | 4 => v = .agg #[.bool (butS s (ofL o.zs)).b0, .bool (butS s (ofL o.zs)).b1, .bool (butS s (ofL o.zs)).b2, .bool (butS s (ofL o.zs)).b3, .bool (butS s (ofL o.zs)).b4, .bool (butS s (ofL o.zs)).b5, .bool (butS s (ofL o.zs)).b6, .bool (butS s (ofL o.zs)).b7]
  | 5 => v = .string (txt s)
  | 6 => v = .pointer (some ⟨qq, 2, none⟩)
  | 7 => v = .slice o.a o.zs.length o.cap
  | 8 => v = .string (txt (ofL o.zs))
  | 9 => v = .string (txt (butS s (ofL o.zs)))
  | 10 => True
  | 11 => v = .string (txt (butS s (ofL o.zs)))
  | _ => True


set_option maxRecDepth 20000 in
set_option maxHeartbeats 64000000 in
theorem plays_walk (a : Option Addr) (b off cap : Nat) (zs : List Int) (a2 : Option Addr) (b2 off2 cap2 : Nat) (l : List Wo) (x_ : Int) (w : World) (hz : CameI w a b off zs) (hy : CameO w a2 b2 off2 l) :
    Calls Try.prog 6 #[.slice a zs.length cap, .slice a2 l.length cap2, .int .i64 x_] w fun e w' => e = .returned (.bool true) ∧ Below w.heap.size w w' := by
  have HZ := Lib.hid hz
  have HY := Lib.hid hy
  have hzl := hz.2.2.1
  have hyl := hy.2.2.1
  clear hz hy
  go_enter Try.func6, Try.ntmps6
  go_wp2_with fail
  refine (awake_any w).mono ?_
  rintro e w1 ⟨rfl, hb1⟩
  have HB1 := Lib.hid hb1
  have HZ1 := Lib.hid (HZ.out.below hb1)
  have HY1 := Lib.hid (HY.out.below hb1)
  clear hb1
  go_wp2_with fail
  refine (few_any a2 b2 off2 cap2 l w1 HY1.out).mono ?_
  rintro e w2 ⟨f, rfl, hb2⟩
  have HB2 := Lib.hid (HB1.out.trans (hb2.mono HB1.out.size))
  have HZ2 := Lib.hid (HZ1.out.below hb2)
  have HY2 := Lib.hid (HY1.out.below hb2)
  clear hb2
  cases f with
  | false =>
    go_wp2_with fail
    refine (awake_any w2).mono ?_
    rintro e w3 ⟨rfl, hb3⟩
    have HB3 := Lib.hid (HB2.out.trans (hb3.mono HB2.out.size))
    clear hb3
    go_wp2
    go_ret
    exact ⟨rfl, HB3.out⟩
  | true =>
    by_cases hbig : (zs.length : Int) > 50
    · go_wp2_with fail
      refine (awake_any w2).mono ?_
      rintro e w3 ⟨rfl, hb3⟩
      have HB3 := Lib.hid (HB2.out.trans (hb3.mono HB2.out.size))
      clear hb3
      go_wp2
      go_ret
      exact ⟨rfl, HB3.out⟩
    go_wp2_with fail
    refine (HZ2.out.of cap).mono ?_
    rintro e w3 ⟨rfl, hb3⟩
    have HB3 := Lib.hid (HB2.out.trans (hb3.mono HB2.out.size))
    have HZ3 := Lib.hid (HZ2.out.below hb3)
    have HY3 := Lib.hid (HY2.out.below hb3)
    clear hb3
    go_wp2_with fail
    refine (HZ3.out.rof cap).mono ?_
    rintro e w4 ⟨rfl, hb4⟩
    have HB4 := Lib.hid (HB3.out.trans (hb4.mono HB3.out.size))
    have HY4 := Lib.hid (HY3.out.below hb4)
    clear hb4
    generalize ofL zs = s0
    have HP0 := Lib.hid (BoxS.new w4 s0)
    have HE0 := Lib.hid ((Below.refl w4.heap.size w4).alloc (Nat.le_refl _) (.cells #[.bool s0.b0, .bool s0.b1, .bool s0.b2, .bool s0.b3, .bool s0.b4, .bool s0.b5, .bool s0.b6, .bool s0.b7] 27))
    go_wp2_with fail
    go_loopg [8, 30] l.length (fun n v t wr => ∃ (i : Nat) (s : B8), i ≤ l.length ∧ l.length - i ≤ n ∧ t = .int .i64 i ∧ v = .string (txt s) ∧ BoxS wr w4.heap.size s ∧ Below w4.heap.size w4 wr)
    case atStart => exact ⟨0, s0, Nat.zero_le _, by omega, rfl, rfl, HP0.out, HE0.out⟩
    case round =>
      clear HP0 HE0
      obtain ⟨i, s, hi, hn, rfl, rfl, hp, he⟩ := hrel
      have HPW := Lib.hid hp
      have HEW := Lib.hid he
      clear hp he
      by_cases hlt : i < l.length
      · obtain rfl := HY4.out.1 (by omega)
        have HCB0 := Lib.hid ((HY4.out.2.2.2 i hlt).2.2.2.2.1)
        have hby := (HY4.out.2.1 (by omega))
        obtain ⟨e0, e1, e2, hcw⟩ := (HY4.out.below HEW.out).2.2.2 i hlt
        have HCW := Lib.hid hcw
        clear hcw
        generalize oat l i = o at *
        have HPP := Lib.hid (Nat.le_refl w4.heap.size)
        have HQP := Lib.hid (show wr.heap.size ≠ w4.heap.size from by have := HPW.out.lt; omega)
        have HCB := Lib.hid (show 0 < o.zs.length → o.b < w4.heap.size from HCB0.out)
        have HX0 : Hid (BoxS (wr.alloc (.cells #[.int .i64 o.k, .int .i64 o.x, .slice o.a o.zs.length o.cap] 42)) w4.heap.size s) := Lib.hid (HPW.out.alloc _)
        have HE0 := Lib.hid (HEW.out.alloc HEW.out.size (.cells #[.int .i64 o.k, .int .i64 o.x, .slice o.a o.zs.length o.cap] 42))
        have HO0 : Hid (BoxO (wr.alloc (.cells #[.int .i64 o.k, .int .i64 o.x, .slice o.a o.zs.length o.cap] 42)) wr.heap.size o) := Lib.hid (heap_alloc_new wr _)
        have HC0 : Hid (CameI (wr.alloc (.cells #[.int .i64 o.k, .int .i64 o.x, .slice o.a o.zs.length o.cap] 42)) o.a o.b o.off o.zs) := Lib.hid (HCW.out.below ((Below.refl _ wr).alloc (Nat.le_refl _) _))
        by_cases hk1 : o.k = 1
        · have b1 : (o.k == 1) = true := by rw [beq_iff_eq]; exact hk1
          clear hk1
          go_wp2_with fail
          refine wp_region_all2 (V10 wr.heap.size s o) (JP w4 w4.heap.size wr.heap.size s (s.set o.x true) o 8) (fun _ => true) [(0, 41), (1, 42), (2, 43), (3, 44), (4, 45), (5, 46), (6, 47), (7, 48), (9, 8)] (GuardsO.tell [] (by kernel_rfl) (by
            intro p hp
            cases hp)) (by kernel_rfl) (by kernel_rfl) (by kernel_rfl) (by decide) (by kernel_rfl) (fun i hi => by
            intro h
            obtain rfl : i = 8 := by revert i; decide
            exact trivial) ⟨HE0.out.drew, HX0.out, HO0.out, fun _ => rfl, HC0.out.below (Below.refl _ _).drew⟩ ?_ ?_
          · intro i' ob ho _
            match i', ho with
            | 0, ho =>
              as_aux_lemma =>
                obtain rfl := Option.some.inj ho
                intro x wx done hj hdn hcl hrest hd
                refine o_of_j (J := fun w' => Below wx.heap.size wx w') ?_ (fun v w' _ hb => hj.skip hb (by decide))
                have h8 : done 8 = false := Bool.eq_false_iff.2 fun h => by rw [hcl 3 _ rfl (hcl 8 _ rfl h 3 (by decide)) 0 (by decide)] at hdn; cases hdn
                have h : x.tmps.getD 7 undef = .pointer (some ⟨w4.heap.size, 0, none⟩) := hrest 7 (by decide)
                have hbx := hj.box
                rw [if_neg (by rw [h8]; decide)] at hbx
                obtain ⟨t0, t1, t2, t3, t4, t5, t6, t7, _⟩ := hbx.cells
                simp [execOp, Act.eval, h, go_sem, t0, t1, t2, t3, t4, t5, t6, t7]
                exact ⟨rfl, Below.refl _ _⟩
            | 1, ho =>
              as_aux_lemma =>
                obtain rfl := Option.some.inj ho
                intro x wx done hj hdn hcl hrest hd
                refine o_of_j (J := fun w' => Below wx.heap.size wx w') ?_ (fun v w' _ hb => hj.skip hb (by decide))
                have h : x.tmps.getD 10 undef = .pointer (some ⟨wr.heap.size, 0, none⟩) := hrest 10 (by decide)
                simp [execOp, Act.eval, h, go_sem]
                exact ⟨rfl, Below.refl _ _⟩
            | 2, ho =>
              as_aux_lemma =>
                obtain rfl := Option.some.inj ho
                intro x wx done hj hdn hcl hrest hd
                refine o_of_j (J := fun w' => Below wx.heap.size wx w') ?_ (fun v w' _ hb => hj.skip hb (by decide))
                have h0 : x.tmps.getD 42 undef = .pointer (some ⟨wr.heap.size, 1, none⟩) := (hd 1 (by decide)).2
                have u := hj.ob.cells.2.1
                simp [execOp, Act.eval, h0, go_sem, u]
                exact ⟨rfl, Below.refl _ _⟩
            | 3, ho =>
              as_aux_lemma =>
                obtain rfl := Option.some.inj ho
                intro x wx done hj hdn hcl hrest hd
                refine o_of_j (J := fun w' => Below wx.heap.size wx w') ?_ (fun v w' _ hb => hj.skip hb (by decide))
                have h0 : x.tmps.getD 41 undef = .agg #[.bool s.b0, .bool s.b1, .bool s.b2, .bool s.b3, .bool s.b4, .bool s.b5, .bool s.b6, .bool s.b7] := (hd 0 (by decide)).2
                have h1 : x.tmps.getD 43 undef = .int .i64 o.x := (hd 2 (by decide)).2
                simp [execOp, Act.eval, h0, h1, go_sem]
                exact j_call0 (with_any s o.x wx)
            | 4, ho =>
              as_aux_lemma =>
                obtain rfl := Option.some.inj ho
                intro x wx done hj hdn hcl hrest hd
                refine o_of_j (J := fun w' => Below wx.heap.size wx w') ?_ (fun v w' _ hb => hj.skip hb (by decide))
                have h9 : done 9 = false := Bool.eq_false_iff.2 fun h => by rw [hcl 7 _ rfl (hcl 9 _ rfl h 7 (by decide)) 4 (by decide)] at hdn; cases hdn
                have h : x.tmps.getD 8 undef = .string (txt s) := hj.old h9
                exact ⟨h, Below.refl _ _⟩
            | 5, ho =>
              as_aux_lemma =>
                obtain rfl := Option.some.inj ho
                intro x wx done hj hdn hcl hrest hd
                refine o_of_j (J := fun w' => Below wx.heap.size wx w') ?_ (fun v w' _ hb => hj.skip hb (by decide))
                have h : x.tmps.getD 10 undef = .pointer (some ⟨wr.heap.size, 0, none⟩) := hrest 10 (by decide)
                simp [execOp, Act.eval, h, go_sem]
                exact ⟨rfl, Below.refl _ _⟩
            | 6, ho =>
              as_aux_lemma =>
                obtain rfl := Option.some.inj ho
                intro x wx done hj hdn hcl hrest hd
                refine o_of_j (J := fun w' => Below wx.heap.size wx w') ?_ (fun v w' _ hb => hj.skip hb (by decide))
                have h0 : x.tmps.getD 46 undef = .pointer (some ⟨wr.heap.size, 1, none⟩) := (hd 5 (by decide)).2
                have u := hj.ob.cells.2.1
                simp [execOp, Act.eval, h0, go_sem, u]
                exact ⟨rfl, Below.refl _ _⟩
            | 7, ho =>
              as_aux_lemma =>
                obtain rfl := Option.some.inj ho
                intro x wx done hj hdn hcl hrest hd
                refine o_of_j (J := fun w' => Below wx.heap.size wx w') ?_ (fun v w' _ hb => hj.skip hb (by decide))
                have h0 : x.tmps.getD 45 undef = .string (txt s) := (hd 4 (by decide)).2
                have h1 : x.tmps.getD 47 undef = .int .i64 o.x := (hd 6 (by decide)).2
                simp [execOp, Act.eval, h0, h1, go_sem]
                exact j_call0 (rwith_any s o.x wx)
            | 8, ho =>
              as_aux_lemma =>
                obtain rfl := Option.some.inj ho
                intro x wx done hj hdn hcl hrest hd
                have h : x.tmps.getD 7 undef = .pointer (some ⟨w4.heap.size, 0, none⟩) := hrest 7 (by decide)
                have h0 : x.tmps.getD 44 undef = .agg #[.bool (s.set o.x true).b0, .bool (s.set o.x true).b1, .bool (s.set o.x true).b2, .bool (s.set o.x true).b3, .bool (s.set o.x true).b4, .bool (s.set o.x true).b5, .bool (s.set o.x true).b6, .bool (s.set o.x true).b7] := (hd 3 (by decide)).2
                have hbx := hj.box
                rw [if_neg (by rw [hdn]; decide)] at hbx
                exact oUpon_skip (store_set (px := .tmp 7) (vx := .tmp 44) (t := (s.set o.x true)) rfl h h0 hbx) trivial (hj.store HPP.out HQP.out HCB.out)
            | 9, ho =>
              as_aux_lemma =>
                obtain rfl := Option.some.inj ho
                intro x wx done hj hdn hcl hrest hd
                have h : x.tmps.getD 48 undef = .string (txt (s.set o.x true)) := (hd 7 (by decide)).2
                exact ⟨h, hj.last⟩
            | n + 10, ho => cases ho
          · intro vals y hv hj
            have h9 : vals 9 = .string (txt (s.set o.x true)) := hv 9 (by decide)
            obtain ⟨s2, hs2⟩ : ∃ s2, s2 = (s.set o.x true) := ⟨_, rfl⟩
            rw [← hs2] at h9 hj
            have HX0 : Hid (BoxS y w4.heap.size s2) := Lib.hid hj.box
            have HE0 := Lib.hid hj.ent
            clear hv hj hs2
            simp only [setG, List.setIfInBounds_toArray, List.set_cons_succ, List.set_cons_zero, h9]
            clear h9
            obtain ⟨t0, t1, t2, t3, t4, t5, t6, t7, _⟩ := HX0.out.cells
            go_wp2_with fail
            clear t0 t1 t2 t3 t4 t5 t6 t7
            refine (text_any s2 _).mono ?_
            rintro e y1 ⟨rfl, hb⟩
            have HX1 := Lib.hid (HX0.out.below hb HX0.out.lt)
            have HE1 := Lib.hid (HE0.out.trans (hb.mono HE0.out.size))
            clear hb
            obtain ⟨t0, t1, t2, t3, t4, t5, t6, t7, _⟩ := HX1.out.cells
            go_wp2_with fail
            clear t0 t1 t2 t3 t4 t5 t6 t7
            refine (len_any s2 _).mono ?_
            rintro e y2 ⟨rfl, hb⟩
            have HX2 := Lib.hid (HX1.out.below hb HX1.out.lt)
            have HE2 := Lib.hid (HE1.out.trans (hb.mono HE1.out.size))
            clear hb
            obtain ⟨t0, t1, t2, t3, t4, t5, t6, t7, _⟩ := HX2.out.cells
            go_wp2_with fail
            clear t0 t1 t2 t3 t4 t5 t6 t7
            refine (rlen_any s2 _).mono ?_
            rintro e y3 ⟨rfl, hb⟩
            have HX3 := Lib.hid (HX2.out.below hb HX2.out.lt)
            have HE3 := Lib.hid (HE2.out.trans (hb.mono HE2.out.size))
            clear hb
            obtain ⟨t0, t1, t2, t3, t4, t5, t6, t7, _⟩ := HX3.out.cells
            go_wp2_with fail
            clear t0 t1 t2 t3 t4 t5 t6 t7
            refine (has_any s2 _ x_).mono ?_
            rintro e y4 ⟨rfl, hb⟩
            have HX4 := Lib.hid (HX3.out.below hb HX3.out.lt)
            have HE4 := Lib.hid (HE3.out.trans (hb.mono HE3.out.size))
            clear hb
            obtain ⟨t0, t1, t2, t3, t4, t5, t6, t7, _⟩ := HX4.out.cells
            go_wp2_with fail
            clear t0 t1 t2 t3 t4 t5 t6 t7
            refine (rhas_any s2 x_ _).mono ?_
            rintro e y5 ⟨rfl, hb⟩
            have HX5 := Lib.hid (HX4.out.below hb HX4.out.lt)
            have HE5 := Lib.hid (HE4.out.trans (hb.mono HE4.out.size))
            clear hb
            go_wp2
            go_roundg (l.length - (i + 1))
            case measure => omega
            case rel => exact ⟨i + 1, s2, by omega, Nat.le_refl _, by go_num, rfl, HX5.out, HE5.out⟩
        · have b1 : (o.k == 1) = false := by rw [beq_eq_false_iff_ne]; exact hk1
          clear hk1
          by_cases hk2 : o.k = 2
          · have b2 : (o.k == 2) = true := by rw [beq_iff_eq]; exact hk2
            clear hk2
            go_wp2_with fail
            refine wp_region_all2 (V12 wr.heap.size s o) (JP w4 w4.heap.size wr.heap.size s (s.set o.x false) o 8) (fun _ => true) [(0, 51), (1, 52), (2, 53), (3, 54), (4, 55), (5, 56), (6, 57), (7, 58), (9, 8)] (GuardsO.tell [] (by kernel_rfl) (by
              intro p hp
              cases hp)) (by kernel_rfl) (by kernel_rfl) (by kernel_rfl) (by decide) (by kernel_rfl) (fun i hi => by
              intro h
              obtain rfl : i = 8 := by revert i; decide
              exact trivial) ⟨HE0.out.drew, HX0.out, HO0.out, fun _ => rfl, HC0.out.below (Below.refl _ _).drew⟩ ?_ ?_
            · intro i' ob ho _
              match i', ho with
              | 0, ho =>
                as_aux_lemma =>
                  obtain rfl := Option.some.inj ho
                  intro x wx done hj hdn hcl hrest hd
                  refine o_of_j (J := fun w' => Below wx.heap.size wx w') ?_ (fun v w' _ hb => hj.skip hb (by decide))
                  have h8 : done 8 = false := Bool.eq_false_iff.2 fun h => by rw [hcl 3 _ rfl (hcl 8 _ rfl h 3 (by decide)) 0 (by decide)] at hdn; cases hdn
                  have h : x.tmps.getD 7 undef = .pointer (some ⟨w4.heap.size, 0, none⟩) := hrest 7 (by decide)
                  have hbx := hj.box
                  rw [if_neg (by rw [h8]; decide)] at hbx
                  obtain ⟨t0, t1, t2, t3, t4, t5, t6, t7, _⟩ := hbx.cells
                  simp [execOp, Act.eval, h, go_sem, t0, t1, t2, t3, t4, t5, t6, t7]
                  exact ⟨rfl, Below.refl _ _⟩
              | 1, ho =>
                as_aux_lemma =>
                  obtain rfl := Option.some.inj ho
                  intro x wx done hj hdn hcl hrest hd
                  refine o_of_j (J := fun w' => Below wx.heap.size wx w') ?_ (fun v w' _ hb => hj.skip hb (by decide))
                  have h : x.tmps.getD 10 undef = .pointer (some ⟨wr.heap.size, 0, none⟩) := hrest 10 (by decide)
                  simp [execOp, Act.eval, h, go_sem]
                  exact ⟨rfl, Below.refl _ _⟩
              | 2, ho =>
                as_aux_lemma =>
                  obtain rfl := Option.some.inj ho
                  intro x wx done hj hdn hcl hrest hd
                  refine o_of_j (J := fun w' => Below wx.heap.size wx w') ?_ (fun v w' _ hb => hj.skip hb (by decide))
                  have h0 : x.tmps.getD 52 undef = .pointer (some ⟨wr.heap.size, 1, none⟩) := (hd 1 (by decide)).2
                  have u := hj.ob.cells.2.1
                  simp [execOp, Act.eval, h0, go_sem, u]
                  exact ⟨rfl, Below.refl _ _⟩
              | 3, ho =>
                as_aux_lemma =>
                  obtain rfl := Option.some.inj ho
                  intro x wx done hj hdn hcl hrest hd
                  refine o_of_j (J := fun w' => Below wx.heap.size wx w') ?_ (fun v w' _ hb => hj.skip hb (by decide))
                  have h0 : x.tmps.getD 51 undef = .agg #[.bool s.b0, .bool s.b1, .bool s.b2, .bool s.b3, .bool s.b4, .bool s.b5, .bool s.b6, .bool s.b7] := (hd 0 (by decide)).2
                  have h1 : x.tmps.getD 53 undef = .int .i64 o.x := (hd 2 (by decide)).2
                  simp [execOp, Act.eval, h0, h1, go_sem]
                  exact j_call0 (without_any s o.x wx)
              | 4, ho =>
                as_aux_lemma =>
                  obtain rfl := Option.some.inj ho
                  intro x wx done hj hdn hcl hrest hd
                  refine o_of_j (J := fun w' => Below wx.heap.size wx w') ?_ (fun v w' _ hb => hj.skip hb (by decide))
                  have h9 : done 9 = false := Bool.eq_false_iff.2 fun h => by rw [hcl 7 _ rfl (hcl 9 _ rfl h 7 (by decide)) 4 (by decide)] at hdn; cases hdn
                  have h : x.tmps.getD 8 undef = .string (txt s) := hj.old h9
                  exact ⟨h, Below.refl _ _⟩
              | 5, ho =>
                as_aux_lemma =>
                  obtain rfl := Option.some.inj ho
                  intro x wx done hj hdn hcl hrest hd
                  refine o_of_j (J := fun w' => Below wx.heap.size wx w') ?_ (fun v w' _ hb => hj.skip hb (by decide))
                  have h : x.tmps.getD 10 undef = .pointer (some ⟨wr.heap.size, 0, none⟩) := hrest 10 (by decide)
                  simp [execOp, Act.eval, h, go_sem]
                  exact ⟨rfl, Below.refl _ _⟩
              | 6, ho =>
                as_aux_lemma =>
                  obtain rfl := Option.some.inj ho
                  intro x wx done hj hdn hcl hrest hd
                  refine o_of_j (J := fun w' => Below wx.heap.size wx w') ?_ (fun v w' _ hb => hj.skip hb (by decide))
                  have h0 : x.tmps.getD 56 undef = .pointer (some ⟨wr.heap.size, 1, none⟩) := (hd 5 (by decide)).2
                  have u := hj.ob.cells.2.1
                  simp [execOp, Act.eval, h0, go_sem, u]
                  exact ⟨rfl, Below.refl _ _⟩
              | 7, ho =>
                as_aux_lemma =>
                  obtain rfl := Option.some.inj ho
                  intro x wx done hj hdn hcl hrest hd
                  refine o_of_j (J := fun w' => Below wx.heap.size wx w') ?_ (fun v w' _ hb => hj.skip hb (by decide))
                  have h0 : x.tmps.getD 55 undef = .string (txt s) := (hd 4 (by decide)).2
                  have h1 : x.tmps.getD 57 undef = .int .i64 o.x := (hd 6 (by decide)).2
                  simp [execOp, Act.eval, h0, h1, go_sem]
                  exact j_call0 (rwithout_any s o.x wx)
              | 8, ho =>
                as_aux_lemma =>
                  obtain rfl := Option.some.inj ho
                  intro x wx done hj hdn hcl hrest hd
                  have h : x.tmps.getD 7 undef = .pointer (some ⟨w4.heap.size, 0, none⟩) := hrest 7 (by decide)
                  have h0 : x.tmps.getD 54 undef = .agg #[.bool (s.set o.x false).b0, .bool (s.set o.x false).b1, .bool (s.set o.x false).b2, .bool (s.set o.x false).b3, .bool (s.set o.x false).b4, .bool (s.set o.x false).b5, .bool (s.set o.x false).b6, .bool (s.set o.x false).b7] := (hd 3 (by decide)).2
                  have hbx := hj.box
                  rw [if_neg (by rw [hdn]; decide)] at hbx
                  exact oUpon_skip (store_set (px := .tmp 7) (vx := .tmp 54) (t := (s.set o.x false)) rfl h h0 hbx) trivial (hj.store HPP.out HQP.out HCB.out)
              | 9, ho =>
                as_aux_lemma =>
                  obtain rfl := Option.some.inj ho
                  intro x wx done hj hdn hcl hrest hd
                  have h : x.tmps.getD 58 undef = .string (txt (s.set o.x false)) := (hd 7 (by decide)).2
                  exact ⟨h, hj.last⟩
              | n + 10, ho => cases ho
            · intro vals y hv hj
              have h9 : vals 9 = .string (txt (s.set o.x false)) := hv 9 (by decide)
              obtain ⟨s2, hs2⟩ : ∃ s2, s2 = (s.set o.x false) := ⟨_, rfl⟩
              rw [← hs2] at h9 hj
              have HX0 : Hid (BoxS y w4.heap.size s2) := Lib.hid hj.box
              have HE0 := Lib.hid hj.ent
              clear hv hj hs2
              simp only [setG, List.setIfInBounds_toArray, List.set_cons_succ, List.set_cons_zero, h9]
              clear h9
              obtain ⟨t0, t1, t2, t3, t4, t5, t6, t7, _⟩ := HX0.out.cells
              go_wp2_with fail
              clear t0 t1 t2 t3 t4 t5 t6 t7
              refine (text_any s2 _).mono ?_
              rintro e y1 ⟨rfl, hb⟩
              have HX1 := Lib.hid (HX0.out.below hb HX0.out.lt)
              have HE1 := Lib.hid (HE0.out.trans (hb.mono HE0.out.size))
              clear hb
              obtain ⟨t0, t1, t2, t3, t4, t5, t6, t7, _⟩ := HX1.out.cells
              go_wp2_with fail
              clear t0 t1 t2 t3 t4 t5 t6 t7
              refine (len_any s2 _).mono ?_
              rintro e y2 ⟨rfl, hb⟩
              have HX2 := Lib.hid (HX1.out.below hb HX1.out.lt)
              have HE2 := Lib.hid (HE1.out.trans (hb.mono HE1.out.size))
              clear hb
              obtain ⟨t0, t1, t2, t3, t4, t5, t6, t7, _⟩ := HX2.out.cells
              go_wp2_with fail
              clear t0 t1 t2 t3 t4 t5 t6 t7
              refine (rlen_any s2 _).mono ?_
              rintro e y3 ⟨rfl, hb⟩
              have HX3 := Lib.hid (HX2.out.below hb HX2.out.lt)
              have HE3 := Lib.hid (HE2.out.trans (hb.mono HE2.out.size))
              clear hb
              obtain ⟨t0, t1, t2, t3, t4, t5, t6, t7, _⟩ := HX3.out.cells
              go_wp2_with fail
              clear t0 t1 t2 t3 t4 t5 t6 t7
              refine (has_any s2 _ x_).mono ?_
              rintro e y4 ⟨rfl, hb⟩
              have HX4 := Lib.hid (HX3.out.below hb HX3.out.lt)
              have HE4 := Lib.hid (HE3.out.trans (hb.mono HE3.out.size))
              clear hb
              obtain ⟨t0, t1, t2, t3, t4, t5, t6, t7, _⟩ := HX4.out.cells
              go_wp2_with fail
              clear t0 t1 t2 t3 t4 t5 t6 t7
              refine (rhas_any s2 x_ _).mono ?_
              rintro e y5 ⟨rfl, hb⟩
              have HX5 := Lib.hid (HX4.out.below hb HX4.out.lt)
              have HE5 := Lib.hid (HE4.out.trans (hb.mono HE4.out.size))
              clear hb
              go_wp2
              go_roundg (l.length - (i + 1))
              case measure => omega
              case rel => exact ⟨i + 1, s2, by omega, Nat.le_refl _, by go_num, rfl, HX5.out, HE5.out⟩
          · have b2 : (o.k == 2) = false := by rw [beq_eq_false_iff_ne]; exact hk2
            clear hk2
            by_cases hk3 : o.k = 3
            · have b3 : (o.k == 3) = true := by rw [beq_iff_eq]; exact hk3
              clear hk3
              go_wp2_with fail
              refine wp_region_all2 (V14 wr.heap.size s o) (JP w4 w4.heap.size wr.heap.size s (orS s (ofL o.zs)) o 10) (fun _ => true) [(0, 61), (1, 62), (2, 63), (3, 64), (4, 65), (5, 66), (6, 67), (7, 68), (8, 69), (9, 70), (11, 8)] (GuardsO.tell [] (by kernel_rfl) (by
                intro p hp
                cases hp)) (by kernel_rfl) (by kernel_rfl) (by kernel_rfl) (by decide) (by kernel_rfl) (fun i hi => by
                intro h
                obtain rfl : i = 10 := by revert i; decide
                exact trivial) ⟨HE0.out.drew, HX0.out, HO0.out, fun _ => rfl, HC0.out.below (Below.refl _ _).drew⟩ ?_ ?_
              · intro i' ob ho _
                match i', ho with
                | 0, ho =>
                  as_aux_lemma =>
                    obtain rfl := Option.some.inj ho
                    intro x wx done hj hdn hcl hrest hd
                    refine o_of_j (J := fun w' => Below wx.heap.size wx w') ?_ (fun v w' _ hb => hj.skip hb (by decide))
                    have h8 : done 10 = false := Bool.eq_false_iff.2 fun h => by rw [hcl 4 _ rfl (hcl 10 _ rfl h 4 (by decide)) 0 (by decide)] at hdn; cases hdn
                    have h : x.tmps.getD 7 undef = .pointer (some ⟨w4.heap.size, 0, none⟩) := hrest 7 (by decide)
                    have hbx := hj.box
                    rw [if_neg (by rw [h8]; decide)] at hbx
                    obtain ⟨t0, t1, t2, t3, t4, t5, t6, t7, _⟩ := hbx.cells
                    simp [execOp, Act.eval, h, go_sem, t0, t1, t2, t3, t4, t5, t6, t7]
                    exact ⟨rfl, Below.refl _ _⟩
                | 1, ho =>
                  as_aux_lemma =>
                    obtain rfl := Option.some.inj ho
                    intro x wx done hj hdn hcl hrest hd
                    refine o_of_j (J := fun w' => Below wx.heap.size wx w') ?_ (fun v w' _ hb => hj.skip hb (by decide))
                    have h : x.tmps.getD 10 undef = .pointer (some ⟨wr.heap.size, 0, none⟩) := hrest 10 (by decide)
                    simp [execOp, Act.eval, h, go_sem]
                    exact ⟨rfl, Below.refl _ _⟩
                | 2, ho =>
                  as_aux_lemma =>
                    obtain rfl := Option.some.inj ho
                    intro x wx done hj hdn hcl hrest hd
                    refine o_of_j (J := fun w' => Below wx.heap.size wx w') ?_ (fun v w' _ hb => hj.skip hb (by decide))
                    have h0 : x.tmps.getD 62 undef = .pointer (some ⟨wr.heap.size, 2, none⟩) := (hd 1 (by decide)).2
                    have u := hj.ob.cells.2.2
                    simp [execOp, Act.eval, h0, go_sem, u]
                    exact ⟨rfl, Below.refl _ _⟩
                | 3, ho =>
                  as_aux_lemma =>
                    obtain rfl := Option.some.inj ho
                    intro x wx done hj hdn hcl hrest hd
                    refine o_of_j (J := fun w' => Below wx.heap.size wx w') ?_ (fun v w' _ hb => hj.skip hb (by decide))
                    have h0 : x.tmps.getD 63 undef = .slice o.a o.zs.length o.cap := (hd 2 (by decide)).2
                    simp [execOp, Act.eval, h0, go_sem]
                    exact j_call0 (hj.came.of o.cap)
                | 4, ho =>
                  as_aux_lemma =>
                    obtain rfl := Option.some.inj ho
                    intro x wx done hj hdn hcl hrest hd
                    refine o_of_j (J := fun w' => Below wx.heap.size wx w') ?_ (fun v w' _ hb => hj.skip hb (by decide))
                    have h0 : x.tmps.getD 61 undef = .agg #[.bool s.b0, .bool s.b1, .bool s.b2, .bool s.b3, .bool s.b4, .bool s.b5, .bool s.b6, .bool s.b7] := (hd 0 (by decide)).2
                    have h1 : x.tmps.getD 64 undef = .agg #[.bool (ofL o.zs).b0, .bool (ofL o.zs).b1, .bool (ofL o.zs).b2, .bool (ofL o.zs).b3, .bool (ofL o.zs).b4, .bool (ofL o.zs).b5, .bool (ofL o.zs).b6, .bool (ofL o.zs).b7] := (hd 3 (by decide)).2
                    simp [execOp, Act.eval, h0, h1, go_sem]
                    exact j_call0 (or_any s (ofL o.zs) wx)
                | 5, ho =>
                  as_aux_lemma =>
                    obtain rfl := Option.some.inj ho
                    intro x wx done hj hdn hcl hrest hd
                    refine o_of_j (J := fun w' => Below wx.heap.size wx w') ?_ (fun v w' _ hb => hj.skip hb (by decide))
                    have h9 : done 11 = false := Bool.eq_false_iff.2 fun h => by rw [hcl 9 _ rfl (hcl 11 _ rfl h 9 (by decide)) 5 (by decide)] at hdn; cases hdn
                    have h : x.tmps.getD 8 undef = .string (txt s) := hj.old h9
                    exact ⟨h, Below.refl _ _⟩
                | 6, ho =>
                  as_aux_lemma =>
                    obtain rfl := Option.some.inj ho
                    intro x wx done hj hdn hcl hrest hd
                    refine o_of_j (J := fun w' => Below wx.heap.size wx w') ?_ (fun v w' _ hb => hj.skip hb (by decide))
                    have h : x.tmps.getD 10 undef = .pointer (some ⟨wr.heap.size, 0, none⟩) := hrest 10 (by decide)
                    simp [execOp, Act.eval, h, go_sem]
                    exact ⟨rfl, Below.refl _ _⟩
                | 7, ho =>
                  as_aux_lemma =>
                    obtain rfl := Option.some.inj ho
                    intro x wx done hj hdn hcl hrest hd
                    refine o_of_j (J := fun w' => Below wx.heap.size wx w') ?_ (fun v w' _ hb => hj.skip hb (by decide))
                    have h0 : x.tmps.getD 67 undef = .pointer (some ⟨wr.heap.size, 2, none⟩) := (hd 6 (by decide)).2
                    have u := hj.ob.cells.2.2
                    simp [execOp, Act.eval, h0, go_sem, u]
                    exact ⟨rfl, Below.refl _ _⟩
                | 8, ho =>
                  as_aux_lemma =>
                    obtain rfl := Option.some.inj ho
                    intro x wx done hj hdn hcl hrest hd
                    refine o_of_j (J := fun w' => Below wx.heap.size wx w') ?_ (fun v w' _ hb => hj.skip hb (by decide))
                    have h0 : x.tmps.getD 68 undef = .slice o.a o.zs.length o.cap := (hd 7 (by decide)).2
                    simp [execOp, Act.eval, h0, go_sem]
                    exact j_call0 (hj.came.rof o.cap)
                | 9, ho =>
                  as_aux_lemma =>
                    obtain rfl := Option.some.inj ho
                    intro x wx done hj hdn hcl hrest hd
                    refine o_of_j (J := fun w' => Below wx.heap.size wx w') ?_ (fun v w' _ hb => hj.skip hb (by decide))
                    have h0 : x.tmps.getD 66 undef = .string (txt s) := (hd 5 (by decide)).2
                    have h1 : x.tmps.getD 69 undef = .string (txt (ofL o.zs)) := (hd 8 (by decide)).2
                    simp [execOp, Act.eval, h0, h1, go_sem]
                    exact j_call0 (ror_any s (ofL o.zs) wx)
                | 10, ho =>
                  as_aux_lemma =>
                    obtain rfl := Option.some.inj ho
                    intro x wx done hj hdn hcl hrest hd
                    have h : x.tmps.getD 7 undef = .pointer (some ⟨w4.heap.size, 0, none⟩) := hrest 7 (by decide)
                    have h0 : x.tmps.getD 65 undef = .agg #[.bool (orS s (ofL o.zs)).b0, .bool (orS s (ofL o.zs)).b1, .bool (orS s (ofL o.zs)).b2, .bool (orS s (ofL o.zs)).b3, .bool (orS s (ofL o.zs)).b4, .bool (orS s (ofL o.zs)).b5, .bool (orS s (ofL o.zs)).b6, .bool (orS s (ofL o.zs)).b7] := (hd 4 (by decide)).2
                    have hbx := hj.box
                    rw [if_neg (by rw [hdn]; decide)] at hbx
                    exact oUpon_skip (store_set (px := .tmp 7) (vx := .tmp 65) (t := (orS s (ofL o.zs))) rfl h h0 hbx) trivial (hj.store HPP.out HQP.out HCB.out)
                | 11, ho =>
                  as_aux_lemma =>
                    obtain rfl := Option.some.inj ho
                    intro x wx done hj hdn hcl hrest hd
                    have h : x.tmps.getD 70 undef = .string (txt (orS s (ofL o.zs))) := (hd 9 (by decide)).2
                    exact ⟨h, hj.last⟩
                | n + 12, ho => cases ho
              · intro vals y hv hj
                have h9 : vals 11 = .string (txt (orS s (ofL o.zs))) := hv 11 (by decide)
                obtain ⟨s2, hs2⟩ : ∃ s2, s2 = (orS s (ofL o.zs)) := ⟨_, rfl⟩
                rw [← hs2] at h9 hj
                have HX0 : Hid (BoxS y w4.heap.size s2) := Lib.hid hj.box
                have HE0 := Lib.hid hj.ent
                clear hv hj hs2
                simp only [setG, List.setIfInBounds_toArray, List.set_cons_succ, List.set_cons_zero, h9]
                clear h9
                obtain ⟨t0, t1, t2, t3, t4, t5, t6, t7, _⟩ := HX0.out.cells
                go_wp2_with fail
                clear t0 t1 t2 t3 t4 t5 t6 t7
                refine (text_any s2 _).mono ?_
                rintro e y1 ⟨rfl, hb⟩
                have HX1 := Lib.hid (HX0.out.below hb HX0.out.lt)
                have HE1 := Lib.hid (HE0.out.trans (hb.mono HE0.out.size))
                clear hb
                obtain ⟨t0, t1, t2, t3, t4, t5, t6, t7, _⟩ := HX1.out.cells
                go_wp2_with fail
                clear t0 t1 t2 t3 t4 t5 t6 t7
                refine (len_any s2 _).mono ?_
                rintro e y2 ⟨rfl, hb⟩
                have HX2 := Lib.hid (HX1.out.below hb HX1.out.lt)
                have HE2 := Lib.hid (HE1.out.trans (hb.mono HE1.out.size))
                clear hb
                obtain ⟨t0, t1, t2, t3, t4, t5, t6, t7, _⟩ := HX2.out.cells
                go_wp2_with fail
                clear t0 t1 t2 t3 t4 t5 t6 t7
                refine (rlen_any s2 _).mono ?_
                rintro e y3 ⟨rfl, hb⟩
                have HX3 := Lib.hid (HX2.out.below hb HX2.out.lt)
                have HE3 := Lib.hid (HE2.out.trans (hb.mono HE2.out.size))
                clear hb
                obtain ⟨t0, t1, t2, t3, t4, t5, t6, t7, _⟩ := HX3.out.cells
                go_wp2_with fail
                clear t0 t1 t2 t3 t4 t5 t6 t7
                refine (has_any s2 _ x_).mono ?_
                rintro e y4 ⟨rfl, hb⟩
                have HX4 := Lib.hid (HX3.out.below hb HX3.out.lt)
                have HE4 := Lib.hid (HE3.out.trans (hb.mono HE3.out.size))
                clear hb
                obtain ⟨t0, t1, t2, t3, t4, t5, t6, t7, _⟩ := HX4.out.cells
                go_wp2_with fail
                clear t0 t1 t2 t3 t4 t5 t6 t7
                refine (rhas_any s2 x_ _).mono ?_
                rintro e y5 ⟨rfl, hb⟩
                have HX5 := Lib.hid (HX4.out.below hb HX4.out.lt)
                have HE5 := Lib.hid (HE4.out.trans (hb.mono HE4.out.size))
                clear hb
                go_wp2
                go_roundg (l.length - (i + 1))
                case measure => omega
                case rel => exact ⟨i + 1, s2, by omega, Nat.le_refl _, by go_num, rfl, HX5.out, HE5.out⟩
            · have b3 : (o.k == 3) = false := by rw [beq_eq_false_iff_ne]; exact hk3
              clear hk3
              by_cases hk4 : o.k = 4
              · have b4 : (o.k == 4) = true := by rw [beq_iff_eq]; exact hk4
                clear hk4
                go_wp2_with fail
                refine wp_region_all2 (V16 wr.heap.size s o) (JP w4 w4.heap.size wr.heap.size s (butS s (ofL o.zs)) o 10) (fun _ => true) [(0, 73), (1, 74), (2, 75), (3, 76), (4, 77), (5, 78), (6, 79), (7, 80), (8, 81), (9, 82), (11, 8)] (GuardsO.tell [] (by kernel_rfl) (by
                  intro p hp
                  cases hp)) (by kernel_rfl) (by kernel_rfl) (by kernel_rfl) (by decide) (by kernel_rfl) (fun i hi => by
                  intro h
                  obtain rfl : i = 10 := by revert i; decide
                  exact trivial) ⟨HE0.out.drew, HX0.out, HO0.out, fun _ => rfl, HC0.out.below (Below.refl _ _).drew⟩ ?_ ?_
                · intro i' ob ho _
                  match i', ho with
                  | 0, ho =>
                    as_aux_lemma =>
                      obtain rfl := Option.some.inj ho
                      intro x wx done hj hdn hcl hrest hd
                      refine o_of_j (J := fun w' => Below wx.heap.size wx w') ?_ (fun v w' _ hb => hj.skip hb (by decide))
                      have h8 : done 10 = false := Bool.eq_false_iff.2 fun h => by rw [hcl 4 _ rfl (hcl 10 _ rfl h 4 (by decide)) 0 (by decide)] at hdn; cases hdn
                      have h : x.tmps.getD 7 undef = .pointer (some ⟨w4.heap.size, 0, none⟩) := hrest 7 (by decide)
                      have hbx := hj.box
                      rw [if_neg (by rw [h8]; decide)] at hbx
                      obtain ⟨t0, t1, t2, t3, t4, t5, t6, t7, _⟩ := hbx.cells
                      simp [execOp, Act.eval, h, go_sem, t0, t1, t2, t3, t4, t5, t6, t7]
                      exact ⟨rfl, Below.refl _ _⟩
                  | 1, ho =>
                    as_aux_lemma =>
                      obtain rfl := Option.some.inj ho
                      intro x wx done hj hdn hcl hrest hd
                      refine o_of_j (J := fun w' => Below wx.heap.size wx w') ?_ (fun v w' _ hb => hj.skip hb (by decide))
                      have h : x.tmps.getD 10 undef = .pointer (some ⟨wr.heap.size, 0, none⟩) := hrest 10 (by decide)
                      simp [execOp, Act.eval, h, go_sem]
                      exact ⟨rfl, Below.refl _ _⟩
                  | 2, ho =>
                    as_aux_lemma =>
                      obtain rfl := Option.some.inj ho
                      intro x wx done hj hdn hcl hrest hd
                      refine o_of_j (J := fun w' => Below wx.heap.size wx w') ?_ (fun v w' _ hb => hj.skip hb (by decide))
                      have h0 : x.tmps.getD 74 undef = .pointer (some ⟨wr.heap.size, 2, none⟩) := (hd 1 (by decide)).2
                      have u := hj.ob.cells.2.2
                      simp [execOp, Act.eval, h0, go_sem, u]
                      exact ⟨rfl, Below.refl _ _⟩
                  | 3, ho =>
                    as_aux_lemma =>
                      obtain rfl := Option.some.inj ho
                      intro x wx done hj hdn hcl hrest hd
                      refine o_of_j (J := fun w' => Below wx.heap.size wx w') ?_ (fun v w' _ hb => hj.skip hb (by decide))
                      have h0 : x.tmps.getD 75 undef = .slice o.a o.zs.length o.cap := (hd 2 (by decide)).2
                      simp [execOp, Act.eval, h0, go_sem]
                      exact j_call0 (hj.came.of o.cap)
                  | 4, ho =>
                    as_aux_lemma =>
                      obtain rfl := Option.some.inj ho
                      intro x wx done hj hdn hcl hrest hd
                      refine o_of_j (J := fun w' => Below wx.heap.size wx w') ?_ (fun v w' _ hb => hj.skip hb (by decide))
                      have h0 : x.tmps.getD 73 undef = .agg #[.bool s.b0, .bool s.b1, .bool s.b2, .bool s.b3, .bool s.b4, .bool s.b5, .bool s.b6, .bool s.b7] := (hd 0 (by decide)).2
                      have h1 : x.tmps.getD 76 undef = .agg #[.bool (ofL o.zs).b0, .bool (ofL o.zs).b1, .bool (ofL o.zs).b2, .bool (ofL o.zs).b3, .bool (ofL o.zs).b4, .bool (ofL o.zs).b5, .bool (ofL o.zs).b6, .bool (ofL o.zs).b7] := (hd 3 (by decide)).2
                      simp [execOp, Act.eval, h0, h1, go_sem]
                      exact j_call0 (but_any s (ofL o.zs) wx)
                  | 5, ho =>
                    as_aux_lemma =>
                      obtain rfl := Option.some.inj ho
                      intro x wx done hj hdn hcl hrest hd
                      refine o_of_j (J := fun w' => Below wx.heap.size wx w') ?_ (fun v w' _ hb => hj.skip hb (by decide))
                      have h9 : done 11 = false := Bool.eq_false_iff.2 fun h => by rw [hcl 9 _ rfl (hcl 11 _ rfl h 9 (by decide)) 5 (by decide)] at hdn; cases hdn
                      have h : x.tmps.getD 8 undef = .string (txt s) := hj.old h9
                      exact ⟨h, Below.refl _ _⟩
                  | 6, ho =>
                    as_aux_lemma =>
                      obtain rfl := Option.some.inj ho
                      intro x wx done hj hdn hcl hrest hd
                      refine o_of_j (J := fun w' => Below wx.heap.size wx w') ?_ (fun v w' _ hb => hj.skip hb (by decide))
                      have h : x.tmps.getD 10 undef = .pointer (some ⟨wr.heap.size, 0, none⟩) := hrest 10 (by decide)
                      simp [execOp, Act.eval, h, go_sem]
                      exact ⟨rfl, Below.refl _ _⟩
                  | 7, ho =>
                    as_aux_lemma =>
                      obtain rfl := Option.some.inj ho
                      intro x wx done hj hdn hcl hrest hd
                      refine o_of_j (J := fun w' => Below wx.heap.size wx w') ?_ (fun v w' _ hb => hj.skip hb (by decide))
                      have h0 : x.tmps.getD 79 undef = .pointer (some ⟨wr.heap.size, 2, none⟩) := (hd 6 (by decide)).2
                      have u := hj.ob.cells.2.2
                      simp [execOp, Act.eval, h0, go_sem, u]
                      exact ⟨rfl, Below.refl _ _⟩
                  | 8, ho =>
                    as_aux_lemma =>
                      obtain rfl := Option.some.inj ho
                      intro x wx done hj hdn hcl hrest hd
                      refine o_of_j (J := fun w' => Below wx.heap.size wx w') ?_ (fun v w' _ hb => hj.skip hb (by decide))
                      have h0 : x.tmps.getD 80 undef = .slice o.a o.zs.length o.cap := (hd 7 (by decide)).2
                      simp [execOp, Act.eval, h0, go_sem]
                      exact j_call0 (hj.came.rof o.cap)
                  | 9, ho =>
                    as_aux_lemma =>
                      obtain rfl := Option.some.inj ho
                      intro x wx done hj hdn hcl hrest hd
                      refine o_of_j (J := fun w' => Below wx.heap.size wx w') ?_ (fun v w' _ hb => hj.skip hb (by decide))
                      have h0 : x.tmps.getD 78 undef = .string (txt s) := (hd 5 (by decide)).2
                      have h1 : x.tmps.getD 81 undef = .string (txt (ofL o.zs)) := (hd 8 (by decide)).2
                      simp [execOp, Act.eval, h0, h1, go_sem]
                      exact j_call0 (rbut_any s (ofL o.zs) wx)
                  | 10, ho =>
                    as_aux_lemma =>
                      obtain rfl := Option.some.inj ho
                      intro x wx done hj hdn hcl hrest hd
                      have h : x.tmps.getD 7 undef = .pointer (some ⟨w4.heap.size, 0, none⟩) := hrest 7 (by decide)
                      have h0 : x.tmps.getD 77 undef = .agg #[.bool (butS s (ofL o.zs)).b0, .bool (butS s (ofL o.zs)).b1, .bool (butS s (ofL o.zs)).b2, .bool (butS s (ofL o.zs)).b3, .bool (butS s (ofL o.zs)).b4, .bool (butS s (ofL o.zs)).b5, .bool (butS s (ofL o.zs)).b6, .bool (butS s (ofL o.zs)).b7] := (hd 4 (by decide)).2
                      have hbx := hj.box
                      rw [if_neg (by rw [hdn]; decide)] at hbx
                      exact oUpon_skip (store_set (px := .tmp 7) (vx := .tmp 77) (t := (butS s (ofL o.zs))) rfl h h0 hbx) trivial (hj.store HPP.out HQP.out HCB.out)
                  | 11, ho =>
                    as_aux_lemma =>
                      obtain rfl := Option.some.inj ho
                      intro x wx done hj hdn hcl hrest hd
                      have h : x.tmps.getD 82 undef = .string (txt (butS s (ofL o.zs))) := (hd 9 (by decide)).2
                      exact ⟨h, hj.last⟩
                  | n + 12, ho => cases ho
                · intro vals y hv hj
                  have h9 : vals 11 = .string (txt (butS s (ofL o.zs))) := hv 11 (by decide)
                  obtain ⟨s2, hs2⟩ : ∃ s2, s2 = (butS s (ofL o.zs)) := ⟨_, rfl⟩
                  rw [← hs2] at h9 hj
                  have HX0 : Hid (BoxS y w4.heap.size s2) := Lib.hid hj.box
                  have HE0 := Lib.hid hj.ent
                  clear hv hj hs2
                  simp only [setG, List.setIfInBounds_toArray, List.set_cons_succ, List.set_cons_zero, h9]
                  clear h9
                  obtain ⟨t0, t1, t2, t3, t4, t5, t6, t7, _⟩ := HX0.out.cells
                  go_wp2_with fail
                  clear t0 t1 t2 t3 t4 t5 t6 t7
                  refine (text_any s2 _).mono ?_
                  rintro e y1 ⟨rfl, hb⟩
                  have HX1 := Lib.hid (HX0.out.below hb HX0.out.lt)
                  have HE1 := Lib.hid (HE0.out.trans (hb.mono HE0.out.size))
                  clear hb
                  obtain ⟨t0, t1, t2, t3, t4, t5, t6, t7, _⟩ := HX1.out.cells
                  go_wp2_with fail
                  clear t0 t1 t2 t3 t4 t5 t6 t7
                  refine (len_any s2 _).mono ?_
                  rintro e y2 ⟨rfl, hb⟩
                  have HX2 := Lib.hid (HX1.out.below hb HX1.out.lt)
                  have HE2 := Lib.hid (HE1.out.trans (hb.mono HE1.out.size))
                  clear hb
                  obtain ⟨t0, t1, t2, t3, t4, t5, t6, t7, _⟩ := HX2.out.cells
                  go_wp2_with fail
                  clear t0 t1 t2 t3 t4 t5 t6 t7
                  refine (rlen_any s2 _).mono ?_
                  rintro e y3 ⟨rfl, hb⟩
                  have HX3 := Lib.hid (HX2.out.below hb HX2.out.lt)
                  have HE3 := Lib.hid (HE2.out.trans (hb.mono HE2.out.size))
                  clear hb
                  obtain ⟨t0, t1, t2, t3, t4, t5, t6, t7, _⟩ := HX3.out.cells
                  go_wp2_with fail
                  clear t0 t1 t2 t3 t4 t5 t6 t7
                  refine (has_any s2 _ x_).mono ?_
                  rintro e y4 ⟨rfl, hb⟩
                  have HX4 := Lib.hid (HX3.out.below hb HX3.out.lt)
                  have HE4 := Lib.hid (HE3.out.trans (hb.mono HE3.out.size))
                  clear hb
                  obtain ⟨t0, t1, t2, t3, t4, t5, t6, t7, _⟩ := HX4.out.cells
                  go_wp2_with fail
                  clear t0 t1 t2 t3 t4 t5 t6 t7
                  refine (rhas_any s2 x_ _).mono ?_
                  rintro e y5 ⟨rfl, hb⟩
                  have HX5 := Lib.hid (HX4.out.below hb HX4.out.lt)
                  have HE5 := Lib.hid (HE4.out.trans (hb.mono HE4.out.size))
                  clear hb
                  go_wp2
                  go_roundg (l.length - (i + 1))
                  case measure => omega
                  case rel => exact ⟨i + 1, s2, by omega, Nat.le_refl _, by go_num, rfl, HX5.out, HE5.out⟩
              · have b4 : (o.k == 4) = false := by rw [beq_eq_false_iff_ne]; exact hk4
                clear hk4
                obtain ⟨s2, hs2⟩ : ∃ s2, s2 = s := ⟨_, rfl⟩
                subst hs2
                obtain ⟨t0, t1, t2, t3, t4, t5, t6, t7, _⟩ := HX0.out.cells
                go_wp2_with fail
                clear t0 t1 t2 t3 t4 t5 t6 t7
                refine (text_any s2 _).mono ?_
                rintro e y1 ⟨rfl, hb⟩
                have HX1 := Lib.hid (HX0.out.below hb HX0.out.lt)
                have HE1 := Lib.hid (HE0.out.trans (hb.mono HE0.out.size))
                clear hb
                obtain ⟨t0, t1, t2, t3, t4, t5, t6, t7, _⟩ := HX1.out.cells
                go_wp2_with fail
                clear t0 t1 t2 t3 t4 t5 t6 t7
                refine (len_any s2 _).mono ?_
                rintro e y2 ⟨rfl, hb⟩
                have HX2 := Lib.hid (HX1.out.below hb HX1.out.lt)
                have HE2 := Lib.hid (HE1.out.trans (hb.mono HE1.out.size))
                clear hb
                obtain ⟨t0, t1, t2, t3, t4, t5, t6, t7, _⟩ := HX2.out.cells
                go_wp2_with fail
                clear t0 t1 t2 t3 t4 t5 t6 t7
                refine (rlen_any s2 _).mono ?_
                rintro e y3 ⟨rfl, hb⟩
                have HX3 := Lib.hid (HX2.out.below hb HX2.out.lt)
                have HE3 := Lib.hid (HE2.out.trans (hb.mono HE2.out.size))
                clear hb
                obtain ⟨t0, t1, t2, t3, t4, t5, t6, t7, _⟩ := HX3.out.cells
                go_wp2_with fail
                clear t0 t1 t2 t3 t4 t5 t6 t7
                refine (has_any s2 _ x_).mono ?_
                rintro e y4 ⟨rfl, hb⟩
                have HX4 := Lib.hid (HX3.out.below hb HX3.out.lt)
                have HE4 := Lib.hid (HE3.out.trans (hb.mono HE3.out.size))
                clear hb
                obtain ⟨t0, t1, t2, t3, t4, t5, t6, t7, _⟩ := HX4.out.cells
                go_wp2_with fail
                clear t0 t1 t2 t3 t4 t5 t6 t7
                refine (rhas_any s2 x_ _).mono ?_
                rintro e y5 ⟨rfl, hb⟩
                have HX5 := Lib.hid (HX4.out.below hb HX4.out.lt)
                have HE5 := Lib.hid (HE4.out.trans (hb.mono HE4.out.size))
                clear hb
                go_wp2
                go_roundg (l.length - (i + 1))
                case measure => omega
                case rel => exact ⟨i + 1, s2, by omega, Nat.le_refl _, by go_num, rfl, HX5.out, HE5.out⟩
      · obtain rfl : i = l.length := by omega
        obtain ⟨t0, t1, t2, t3, t4, t5, t6, t7, _⟩ := HPW.out.cells
        go_wp2_with fail
        refine (text_any s _).mono ?_
        rintro e y1 ⟨rfl, hb⟩
        have HE1 := Lib.hid (HEW.out.trans (hb.mono HEW.out.size))
        clear hb t0 t1 t2 t3 t4 t5 t6 t7
        go_wp2
        go_ret
        exact ⟨rfl, HB4.out.trans (HE1.out.mono HB4.out.size)⟩

end Go.Proofs.Ytpoelchjpnbgpaa
