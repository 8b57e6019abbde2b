/- The law CutMore, walked: true at every two lists of writes and every two cuts. -/
import Derived.Test.YtckijalkodpjhaaI
import Derived.Deep.Upon
namespace Go.Proofs.Ytckijalkodpjhaa
open Go.RowKit Go.Sort

/-- Writes, whatever slice of them, appended to a row that the call owns. -/
theorem run_app_writes (w : World) (base : Nat) (v : Value) (n : Nat) (xs : List Value) (hown : w.ownsRow base 37 4 v n xs) (hn : n ≤ 1000) (hbase : base ≤ w.heap.size)
    (a : Option Addr) (b cap : Nat) (l : List Wr) (hL : Laid w a b 0 l) :
    ∃ v' w', (Builtin.append_ #[31, 31] 31 #[v, .slice a l.length cap]).run Try.prog w = .ok v' w' ∧ w'.ownsRow base 37 4 v' (n + l.length) (xs ++ flat l) ∧ w.grownBy w' v.ownBlock := by
  obtain ⟨i0, hi, hz0, hz1, hz2⟩ := info_parts Try.info37
  have hl := hL.hl
  cases a with
  | none =>
    have h0 : l.length = 0 := by
      by_cases h : 0 < l.length
      · have := hL.ha h; cases this
      · omega
    obtain rfl : l = [] := List.length_eq_zero_iff.1 h0
    obtain ⟨a1, sl, sc, rfl, hle⟩ : ∃ a1 sl sc, v = .slice a1 sl sc ∧ sl ≤ sc := by
      rcases hown.2 with ⟨h, _⟩ | ⟨g, cap, cur, h, _, _, hc, _⟩
      · exact ⟨none, 0, 0, h, Nat.le_refl _⟩
      · exact ⟨_, _, _, h, hc⟩
    have hr := run_append_nothing (P := Try.prog) w 31 31 31 37 i0 Try.underlying31 hi a1 sl sc hle (.slice none 0 cap) (Src.ofNil w Try.underlying31 cap)
    exact ⟨_, _, hr, by simpa [flat] using hown, ⟨rfl, rfl, rfl, Nat.le_refl _, fun _ _ _ => rfl⟩⟩
  | some ad =>
    have hnews : ∀ j u, (flat l)[j]? = some u → w.cell? (ad.add j) = some u := by
      by_cases h : 0 < l.length
      · have := hL.ha h
        simp only [Option.some.injEq] at this
        subst this
        exact hL.hc.news
      · obtain rfl : l = [] := List.length_eq_zero_iff.1 (by omega)
        intro j u hj
        simp [flat] at hj
    obtain ⟨v', w', h1, h2, h3, _⟩ := run_append_own_at (P := Try.prog) w base 31 31 37 i0 (.agg #[.int .i64 0, .int .i64 0, .int .i64 0, .int .i64 0]) 4 32 Try.underlying31 hi hz0 hz1 hz2 rfl (by decide) v n xs hown ad l.length cap (flat l) (flat_length l) hnews (flat_one l)
      (by unfold maxLen; omega) (by omega) hbase
    exact ⟨v', w', h1, h2, h3⟩

theorem wp_app_writes {ops : Array Oper} {rest : List Oper} {o : Oper} {a : Act} {Q : Exit → Act → World → Prop} {w : World} (hgd : o.guard = none) (s x : Operand)
    (ho : o.op = .call { callee := .builtin .append, args := #[s, x], argTypes := #[31, 31] }) (hty : o.type = 31)
    (base : Nat) (v : Value) (n : Nat) (xs : List Value) (hs : a.eval s = v) (hown : w.ownsRow base 37 4 v n xs) (hn : n ≤ 1000) (hbase : base ≤ w.heap.size)
    (ad : Option Addr) (b cap : Nat) (l : List Wr) (hx : a.eval x = .slice ad l.length cap) (hL : Laid w ad b 0 l)
    (h : ∀ v' w', w'.ownsRow base 37 4 v' (n + l.length) (xs ++ flat l) → w.grownBy w' v.ownBlock → wpList Try.prog ops Q rest (a.put o.dst v') w') : wpList Try.prog ops Q (o :: rest) a w :=
  wpList_plain hgd fun K hK => by
    obtain ⟨v', w', hr, h2, h3⟩ := run_app_writes w base v n xs hown hn hbase ad b cap l hL
    unfold Oper.wp execOp
    simp only [ho, hty, resolve, invoke, builtin, Sem.run_bind, Sem.run_pure, Result.andThen_ok, List.map_toArray, List.map_cons, List.map_nil, hs, hx, hr]
    exact hK _ _ (h v' w' h2 h3)

attribute [local go_sem] eqIn33

/-- The smaller of two numbers, and the greater one, as words that the walk does not open. -/
def mnI (x y : Int) : Int := if y < x then y else x
def mxI (x y : Int) : Int := if x < y then y else x
theorem run_mnI (w : World) (ts : Array TypeId) (t : TypeId) (k k' : IntKind) (x y : Int) : (Builtin.min_ ts t #[.int k x, .int k' y]).run Try.prog w = .ok (.int k (mnI x y)) w := by
  simp [Builtin.min_, Builtin.min2, mnI]
theorem run_mxI (w : World) (ts : Array TypeId) (t : TypeId) (k k' : IntKind) (x y : Int) : (Builtin.max_ ts t #[.int k x, .int k' y]).run Try.prog w = .ok (.int k (mxI x y)) w := by
  simp [Builtin.max_, Builtin.max2, mxI]
attribute [local go_sem ↓] run_mnI run_mxI

theorem ownsRow_below {w w' : World} {base : Nat} {e : TypeId} {size : Nat} {v : Value} {n : Nat} {xs : List Value} (h : w.ownsRow base e size v n xs) (hb : Below w.heap.size w w') : w'.ownsRow base e size v n xs := by
  obtain ⟨h1, h2⟩ := h
  refine ⟨h1, ?_⟩
  rcases h2 with h2 | ⟨g, cap, cur, hv, hg, hh, r⟩
  · exact .inl h2
  · exact .inr ⟨g, cap, cur, hv, hg, by rw [hb.block g (lt_of_block hh)]; exact hh, r⟩
theorem wat_left (l m : List Wr) (k : Nat) (h : k < l.length) : wat (l ++ m) k = wat l k := by simp [wat, List.getD, List.getElem?_append_left h]
theorem wat_right (l m : List Wr) (k : Nat) (h : l.length ≤ k) : wat (l ++ m) k = wat m (k - l.length) := by simp [wat, List.getD, List.getElem?_append_right h]
theorem laid_append {l m : List Wr} (h : ∀ k, k < l.length → -1152921504606846976 ≤ (wat l k).s ∧ (wat l k).s ≤ 9223372036854775807) (h' : ∀ k, k < m.length → -1152921504606846976 ≤ (wat m k).s ∧ (wat m k).s ≤ 9223372036854775807) :
    ∀ k, k < (l ++ m).length → -1152921504606846976 ≤ (wat (l ++ m) k).s ∧ (wat (l ++ m) k).s ≤ 9223372036854775807 := fun k hk => by
  rw [List.length_append] at hk
  by_cases e : k < l.length
  · rw [wat_left l m k e]; exact h k e
  · rw [wat_right l m k (by omega)]; exact h' _ (by omega)

theorem Box4.drew {w : World} {b : Nat} {x0 x1 x2 x3 : Value} (h : Box4 w b x0 x1 x2 x3) : Box4 w.drew b x0 x1 x2 x3 := h
theorem C4.le_trans {x y z : C4} (h : x.le y) (h' : y.le z) : x.le z := ⟨Int.le_trans h.1 h'.1, Int.le_trans h.2.1 h'.2.1, Int.le_trans h.2.2.1 h'.2.2.1, Int.le_trans h.2.2.2 h'.2.2.2⟩
theorem bl_le {x y : C4} (h : x.le y) : blB x y = true := by
  simp only [blB, decide_eq_true_eq]
  exact h
/-- A greater cut has no smaller greatest closed one. -/
theorem gr_less {l : List Wr} {c d g p : C4} (hg : GrSpec l c g) (hp : GrSpec l d p) (h : d.le c) : blB p g = true := bl_le (hg.2.2 p hp.1 (C4.le_trans hp.2.1 h))
theorem bad_left {c : C4} {l m : List Wr} {k i : Nat} (hk : k < l.length) (hi : i < l.length) : badB c (l ++ m) k i = badB c l k i := by
  simp only [badB, wat_left l m k hk, wat_left l m i hi]
/-- With more writes told it isn't greater. -/
theorem gr_more {l m : List Wr} {c g q : C4} (hg : GrSpec l c g) (hq : GrSpec (l ++ m) c q) : blB q g = true :=
  bl_le (hg.2.2 q (fun k i hk hi => by
    rw [← bad_left (m := m) hk hi]
    exact hq.1 k i (by rw [List.length_append]; omega) (by rw [List.length_append]; omega)) hq.2.1)

theorem Laid.gr_is_n {w : World} {a : Option Addr} {b off : Nat} {l : List Wr} (h : Laid w a b off l) (n : Nat) (hn : l.length = n) (cap : Nat) (c0 c1 c2 c3 g0 g1 g2 g3 : Int) (hg : GrSpec l ⟨c0, c1, c2, c3⟩ ⟨g0, g1, g2, g3⟩) :
    Calls Try.prog 12 #[.slice a n cap, .agg #[.int .i64 c0, .int .i64 c1, .int .i64 c2, .int .i64 c3]] w fun e w' => e = .returned (.agg #[.int .i64 g0, .int .i64 g1, .int .i64 g2, .int .i64 g3]) ∧ Below w.heap.size w w' := by
  subst hn
  exact h.gr_is cap c0 c1 c2 c3 g0 g1 g2 g3 hg

set_option maxHeartbeats 800000 in
theorem cm_few (a : Option Addr) (b off cap : Nat) (l : List Wr) (a2 : Option Addr) (b2 off2 cap2 : Nat) (m : List Wr) (c0 c1 c2 c3 o0 o1 o2 o3 : Int) (w : World) (hL : Laid w a b off l) (hsm : smB l = true) (hM : Laid w a2 b2 off2 m) (hsm2 : smB m = true) :
    Calls Try.prog 7 #[.slice a l.length cap, .agg #[.int .i64 c0, .int .i64 c1, .int .i64 c2, .int .i64 c3], .agg #[.int .i64 o0, .int .i64 o1, .int .i64 o2, .int .i64 o3], .slice a2 m.length cap2] w fun e w' => e = .returned (.bool true) ∧ Below w.heap.size w w' := by
  have hlen := hL.hl
  have hlen2 := hM.hl
  have HL := Lib.hid hL
  have HM := Lib.hid hM
  clear hL hM
  go_enter Try.func7, Try.ntmps7
  go_wp2_with fail
  refine (awake_any _).mono ?_
  rintro e w1 ⟨rfl, hb1⟩
  have hz1 : w.heap.size + 2 ≤ w1.heap.size := by have := hb1.size; simp at this; omega
  have HC := Lib.hid (((Box4.new w (.int .i64 c0) (.int .i64 c1) (.int .i64 c2) (.int .i64 c3) 23).alloc (.cells #[.int .i64 o0, .int .i64 o1, .int .i64 o2, .int .i64 o3] 23) (by simp)).below hb1 (by simp; omega))
  have HO := Lib.hid ((by simpa using Box4.new (w.alloc (.cells #[.int .i64 c0, .int .i64 c1, .int .i64 c2, .int .i64 c3] 23)) (.int .i64 o0) (.int .i64 o1) (.int .i64 o2) (.int .i64 o3) 23 : Box4 _ (w.heap.size + 1) _ _ _ _).below hb1 (by simp))
  have HL1 := Lib.hid (((HL.out.alloc (.cells #[.int .i64 c0, .int .i64 c1, .int .i64 c2, .int .i64 c3] 23)).alloc (.cells #[.int .i64 o0, .int .i64 o1, .int .i64 o2, .int .i64 o3] 23)).below hb1)
  have HM1 := Lib.hid (((HM.out.alloc (.cells #[.int .i64 c0, .int .i64 c1, .int .i64 c2, .int .i64 c3] 23)).alloc (.cells #[.int .i64 o0, .int .i64 o1, .int .i64 o2, .int .i64 o3] 23)).below hb1)
  have HB1 := Lib.hid ((((Below.refl _ w).alloc (Nat.le_refl _) (.cells #[.int .i64 c0, .int .i64 c1, .int .i64 c2, .int .i64 c3] 23)).alloc (by simp) (.cells #[.int .i64 o0, .int .i64 o1, .int .i64 o2, .int .i64 o3] 23)).trans (hb1.mono (by simp; omega)))
  clear hb1
  go_wp2_with fail
  refine (small_any a b off cap l _ HL1.out.ha (by omega) HL1.out.hc).mono ?_
  rintro e w2 ⟨rfl, hb2⟩
  have hz2 : w.heap.size + 2 ≤ w2.heap.size := by have := hb2.size; omega
  have HC2 := Lib.hid (HC.out.below hb2 (by omega))
  have HO2 := Lib.hid (HO.out.below hb2 (by omega))
  have HL2 := Lib.hid (HL1.out.below hb2)
  have HM2 := Lib.hid (HM1.out.below hb2)
  have HB2 := Lib.hid (HB1.out.trans (hb2.mono (by omega)))
  clear hb2
  go_wp2_with fail
  refine (small_any a2 b2 off2 cap2 m _ HM2.out.ha (by omega) HM2.out.hc).mono ?_
  rintro e w3 ⟨rfl, hb3⟩
  have hz3 : w.heap.size + 2 ≤ w3.heap.size := by have := hb3.size; omega
  have HC3 := Lib.hid (HC2.out.below hb3 (by omega))
  have HO3 := Lib.hid (HO2.out.below hb3 (by omega))
  have HL3 := Lib.hid (HL2.out.below hb3)
  have HM3 := Lib.hid (HM2.out.below hb3)
  have HB3 := Lib.hid (HB2.out.trans (hb3.mono (by omega)))
  clear hb3
  go_wp2_with fail
  refine (HL3.out.made cap).mono ?_
  rintro e w4 ⟨a', b', cap', rfl, hL4, hb4⟩
  have hz4 : w.heap.size + 2 ≤ w4.heap.size := by have := hb4.size; omega
  have HC4 := Lib.hid (HC3.out.below hb4 (by omega))
  have HO4 := Lib.hid (HO3.out.below hb4 (by omega))
  have HM4 := Lib.hid (HM3.out.below hb4)
  have HL4 := Lib.hid hL4
  have HB4 := Lib.hid (HB3.out.trans (hb4.mono (by omega)))
  clear hb4 hL4
  go_wp2_with (at_builtin; refine wp_app_writes rfl _ _ rfl rfl w4.heap.size _ 0 [] rfl (World.ownsRow_lit w4 #[] 0 (Nat.le_refl _) (by decide) rfl) (by omega) (by simp) a' b' cap' l rfl (HL4.out.alloc _) ?_)
  intro v5 w5 hown5 hgr5
  have hz5 : w4.heap.size + 1 ≤ w5.heap.size := by have := hgr5.size; simp at this; omega
  have HB45 := Lib.hid (((Below.refl w4.heap.size w4).alloc (Nat.le_refl _) (.cells #[] 37)).grown hgr5 (by simp) (fun j e => by cases e; exact Nat.le_refl _))
  have HOW5 := Lib.hid hown5
  have HM5 := Lib.hid (HM4.out.below HB45.out)
  clear hown5 hgr5
  go_wp2_with fail
  refine (HM5.out.made cap2).mono ?_
  rintro e w6 ⟨a'', b'', cap'', rfl, hM6, hb6⟩
  have hz6 := hb6.size
  have HOW6 := Lib.hid (ownsRow_below HOW5.out hb6)
  have HM6 := Lib.hid hM6
  have HB46 := Lib.hid (HB45.out.trans (hb6.mono (by omega)))
  have hsm' : l.length ≤ 40 := by simp only [smB, decide_eq_true_eq] at hsm; exact hsm.1
  have hsm2' : m.length ≤ 40 := by simp only [smB, decide_eq_true_eq] at hsm2; exact hsm2.1
  clear hb6 hM6
  go_wp2_with (at_builtin; refine wp_app_writes rfl _ _ rfl rfl w4.heap.size _ l.length (flat l) rfl HOW6.out (by omega) (by omega) a'' b'' cap'' m rfl HM6.out ?_)
  intro v7 w7 hown7 hgr7
  have hz7 := hgr7.size
  have HB47 := Lib.hid (HB46.out.grown hgr7 (by omega) (fun j e => (HOW6.out.lt j e).1))
  have hlm : (l ++ m).length = l.length + m.length := List.length_append
  rw [← flat_append, ← hlm] at hown7
  obtain ⟨a3, b3, cap3, rfl, ha3, hb3, hc3, _⟩ := lies_of_owns hown7
  have HLM7 := Lib.hid (Laid.mk ha3 hb3 (by omega) hc3 (fun k hk => laid_append HL.out.hs HM.out.hs k hk))
  have HL7 := Lib.hid (HL4.out.below HB47.out)
  have HC7 := Lib.hid (HC4.out.below HB47.out (by omega))
  have HO7 := Lib.hid (HO4.out.below HB47.out (by omega))
  clear hown7 hgr7 ha3 hb3 hc3
  have HLMl := Lib.hid hlm
  clear hlm
  go_wp2_with fail
  obtain ⟨x0, x1, x2, x3⟩ := HC7.out
  obtain ⟨y0, y1, y2, y3⟩ := HO7.out
  have hw1 : w.heap.size < w7.heap.size := by omega
  have hw2 : w.heap.size + 1 < w7.heap.size := by omega
  have hn1 : w.heap.size ≠ w7.heap.size := by omega
  have hn2 : w.heap.size + 1 ≠ w7.heap.size := by omega
  refine wp_loop_rounds 5 ?_
  rw [rounds_succ]
  go_wp2_with fail
  go_region
  go_wp2
  rw [rounds_succ]
  go_wp2_with fail
  go_region
  go_wp2
  rw [rounds_succ]
  go_wp2_with fail
  go_region
  go_wp2
  rw [rounds_succ]
  go_wp2_with fail
  go_region
  go_wp2
  rw [rounds_succ]
  go_wp2_with fail
  obtain ⟨⟨g0, g1, g2, g3⟩, hg⟩ := HL.out.gr_some ⟨c0, c1, c2, c3⟩
  obtain ⟨⟨p0, p1, p2, p3⟩, hp⟩ := HL.out.gr_some ⟨mnI c0 o0, mnI c1 o1, mnI c2 o2, mnI c3 o3⟩
  obtain ⟨⟨q0, q1, q2, q3⟩, hq⟩ := HLM7.out.gr_some ⟨c0, c1, c2, c3⟩
  have HG := Lib.hid hg
  have HP := Lib.hid hp
  have HQ := Lib.hid hq
  have HPG := Lib.hid (gr_less hg hp (by simp only [C4.le, mnI]; refine ⟨?_, ?_, ?_, ?_⟩ <;> split <;> omega))
  have HQG := Lib.hid (gr_more hg hq)
  clear hg hp hq x0 x1 x2 x3 y0 y1 y2 y3
  have HB78 := Lib.hid (((((Below.refl w7.heap.size w7).alloc (Nat.le_refl _) (.cells #[.int .i64 (mnI c0 o0), .int .i64 (mnI c1 o1), .int .i64 (mnI c2 o2), .int .i64 (mnI c3 o3)] 33)).drew).drew).drew.drew)
  refine ((HL7.out.below HB78.out).gr_is cap' c0 c1 c2 c3 g0 g1 g2 g3 HG.out).mono ?_
  rintro e w8 ⟨rfl, hb8⟩
  have hz8 : w7.heap.size + 1 ≤ w8.heap.size := by have := hb8.size; simp at this; omega
  have HN8 := Lib.hid ((Box4.new w7 (.int .i64 (mnI c0 o0)) (.int .i64 (mnI c1 o1)) (.int .i64 (mnI c2 o2)) (.int .i64 (mnI c3 o3)) 33).drew.drew.drew.drew.below hb8 (by simp))
  have HB78' := Lib.hid (HB78.out.trans (hb8.mono (by simp)))
  clear hb8 HB78
  have HL8 := Lib.hid (HL7.out.below HB78'.out)
  have HLM8 := Lib.hid (HLM7.out.below HB78'.out)
  have HC8 := Lib.hid (HC7.out.below HB78'.out (by omega))
  go_wp2_with fail
  obtain ⟨x0, x1, x2, x3⟩ := HC8.out.alloc (.cells #[.int .i64 g0, .int .i64 g1, .int .i64 g2, .int .i64 g3] 33) (by omega)
  obtain ⟨y0, y1, y2, y3⟩ := HN8.out.alloc (.cells #[.int .i64 g0, .int .i64 g1, .int .i64 g2, .int .i64 g3] 33) (by omega)
  obtain ⟨z0, z1, z2, z3⟩ := Box4.new w8 (.int .i64 g0) (.int .i64 g1) (.int .i64 g2) (.int .i64 g3) 33
  have HL9 := Lib.hid (HL8.out.alloc (.cells #[.int .i64 g0, .int .i64 g1, .int .i64 g2, .int .i64 g3] 33))
  have HLM9 := Lib.hid (HLM8.out.alloc (.cells #[.int .i64 g0, .int .i64 g1, .int .i64 g2, .int .i64 g3] 33))
  have HB89 := Lib.hid ((Below.refl w8.heap.size w8).alloc (Nat.le_refl _) (.cells #[.int .i64 g0, .int .i64 g1, .int .i64 g2, .int .i64 g3] 33))
  have hz9 : w8.heap.size + 1 = (w8.alloc (.cells #[.int .i64 g0, .int .i64 g1, .int .i64 g2, .int .i64 g3] 33)).heap.size := by simp
  generalize w8.alloc (.cells #[.int .i64 g0, .int .i64 g1, .int .i64 g2, .int .i64 g3] 33) = w9 at *
  have hz9' : w8.heap.size < w9.heap.size := by omega
  have Hz9 := Lib.hid hz9
  clear hz9
  have rx0 := cell_regrown x0
  have rx1 := cell_regrown x1
  have rx2 := cell_regrown x2
  have rx3 := cell_regrown x3
  have ry0 := cell_regrown y0
  have ry1 := cell_regrown y1
  have ry2 := cell_regrown y2
  have ry3 := cell_regrown y3
  have rz0 := cell_regrown z0
  have rz1 := cell_regrown z1
  have rz2 := cell_regrown z2
  have rz3 := cell_regrown z3
  refine wp_region_quiet_below (by kernel_rfl) (by kernel_rfl) ?_
  repeat (go_big_quiet_step (fail))
  go_big_quiet_step ((go_at_call 12; exact Calls.regrown_of ((HL9.out.below (below_regrown _ _ _)).gr_is _ _ _ _ _ _ _ _ _ HP.out)))
  repeat (go_big_quiet_step (fail))
  go_big_quiet_step ((go_at_call 17; exact Calls.regrown_of (bl_is _ _ _ _ _ _ _ _ _ _ HPG.out)))
  repeat (go_big_quiet_step (fail))
  go_big_quiet_step ((go_at_call 12; exact Calls.regrown_of ((HLM9.out.below (below_regrown _ _ _)).gr_is_n _ HLMl.out _ _ _ _ _ _ _ _ _ HQ.out)))
  repeat (go_big_quiet_step (fail))
  go_big_quiet_step ((go_at_call 17; exact Calls.regrown_of (bl_is _ _ _ _ _ _ _ _ _ _ HQG.out)))
  repeat (go_big_quiet_step (fail))
  refine wpQuiet_nil ?_
  intro _ hw'
  obtain ⟨⟨dq, osq⟩, hw''⟩ := hw'
  subst hw''
  have hQ := Lib.hid (below_regrown w9 dq osq)
  go_wp2
  go_ret
  exact ⟨rfl, HB4.out.trans ((HB47.out.mono (by omega)).trans ((HB78'.out.mono (by omega)).trans ((HB89.out.mono (by omega)).trans (hQ.out.mono (by omega)))))⟩

set_option maxHeartbeats 800000 in
theorem cm_large1 (a : Option Addr) (b off cap : Nat) (l : List Wr) (a2 : Option Addr) (b2 off2 cap2 : Nat) (m : List Wr) (c0 c1 c2 c3 o0 o1 o2 o3 : Int) (w : World) (hc : Came w a b off l) (hc2 : Came w a2 b2 off2 m) (hsm : smB l = false) :
    Calls Try.prog 7 #[.slice a l.length cap, .agg #[.int .i64 c0, .int .i64 c1, .int .i64 c2, .int .i64 c3], .agg #[.int .i64 o0, .int .i64 o1, .int .i64 o2, .int .i64 o3], .slice a2 m.length cap2] w fun e w' => e = .returned (.bool true) ∧ Below w.heap.size w w' := by
  have HA := Lib.hid hc
  have HA2 := Lib.hid hc2
  clear hc hc2
  go_enter Try.func7, Try.ntmps7
  go_wp2_with fail
  refine (awake_any _).mono ?_
  rintro e w1 ⟨rfl, hb1⟩
  have HB1 := Lib.hid ((((Below.refl _ w).alloc (Nat.le_refl _) (.cells #[.int .i64 c0, .int .i64 c1, .int .i64 c2, .int .i64 c3] 23)).alloc (by simp) (.cells #[.int .i64 o0, .int .i64 o1, .int .i64 o2, .int .i64 o3] 23)).trans (hb1.mono (by simp; omega)))
  clear hb1
  go_wp2_with fail
  refine (small_any a b off cap l _ HA.out.1 HA.out.2.2.1 (HA.out.2.2.2.1.below' HB1.out HA.out.2.1)).mono ?_
  rintro e w2 ⟨rfl, hb2⟩
  have HB2 := Lib.hid (HB1.out.trans (hb2.mono HB1.out.size))
  clear hb2
  go_wp2_with fail
  refine (awake_any _).mono ?_
  rintro e w3 ⟨rfl, hb3⟩
  have HB3 := Lib.hid (HB2.out.trans (hb3.mono HB2.out.size))
  clear hb3
  go_wp2
  go_ret
  exact ⟨rfl, HB3.out⟩

set_option maxHeartbeats 800000 in
theorem cm_large2 (a : Option Addr) (b off cap : Nat) (l : List Wr) (a2 : Option Addr) (b2 off2 cap2 : Nat) (m : List Wr) (c0 c1 c2 c3 o0 o1 o2 o3 : Int) (w : World) (hc : Came w a b off l) (hc2 : Came w a2 b2 off2 m) (hsm : smB l = true) (hsm2 : smB m = false) :
    Calls Try.prog 7 #[.slice a l.length cap, .agg #[.int .i64 c0, .int .i64 c1, .int .i64 c2, .int .i64 c3], .agg #[.int .i64 o0, .int .i64 o1, .int .i64 o2, .int .i64 o3], .slice a2 m.length cap2] w fun e w' => e = .returned (.bool true) ∧ Below w.heap.size w w' := by
  have HA := Lib.hid hc
  have HA2 := Lib.hid hc2
  clear hc hc2
  go_enter Try.func7, Try.ntmps7
  go_wp2_with fail
  refine (awake_any _).mono ?_
  rintro e w1 ⟨rfl, hb1⟩
  have HB1 := Lib.hid ((((Below.refl _ w).alloc (Nat.le_refl _) (.cells #[.int .i64 c0, .int .i64 c1, .int .i64 c2, .int .i64 c3] 23)).alloc (by simp) (.cells #[.int .i64 o0, .int .i64 o1, .int .i64 o2, .int .i64 o3] 23)).trans (hb1.mono (by simp; omega)))
  clear hb1
  go_wp2_with fail
  refine (small_any a b off cap l _ HA.out.1 HA.out.2.2.1 (HA.out.2.2.2.1.below' HB1.out HA.out.2.1)).mono ?_
  rintro e w2 ⟨rfl, hb2⟩
  have HB2 := Lib.hid (HB1.out.trans (hb2.mono HB1.out.size))
  clear hb2
  go_wp2_with fail
  refine (small_any a2 b2 off2 cap2 m _ HA2.out.1 HA2.out.2.2.1 (HA2.out.2.2.2.1.below' HB2.out HA2.out.2.1)).mono ?_
  rintro e w4 ⟨rfl, hb4⟩
  have HB4 := Lib.hid (HB2.out.trans (hb4.mono HB2.out.size))
  clear hb4
  go_wp2_with fail
  refine (awake_any _).mono ?_
  rintro e w3 ⟨rfl, hb3⟩
  have HB3 := Lib.hid (HB4.out.trans (hb3.mono HB4.out.size))
  clear hb3
  go_wp2
  go_ret
  exact ⟨rfl, HB3.out⟩

theorem cm_all (a : Option Addr) (b off cap : Nat) (l : List Wr) (a2 : Option Addr) (b2 off2 cap2 : Nat) (m : List Wr) (c0 c1 c2 c3 o0 o1 o2 o3 : Int) (w : World) (h : Came w a b off l) (h2 : Came w a2 b2 off2 m) :
    Calls Try.prog 7 #[.slice a l.length cap, .agg #[.int .i64 c0, .int .i64 c1, .int .i64 c2, .int .i64 c3], .agg #[.int .i64 o0, .int .i64 o1, .int .i64 o2, .int .i64 o3], .slice a2 m.length cap2] w fun e w' => e = .returned (.bool true) ∧ Below w.heap.size w w' := by
  cases hs : smB l with
  | false => exact cm_large1 a b off cap l a2 b2 off2 cap2 m c0 c1 c2 c3 o0 o1 o2 o3 w h h2 hs
  | true =>
    cases hs2 : smB m with
    | false => exact cm_large2 a b off cap l a2 b2 off2 cap2 m c0 c1 c2 c3 o0 o1 o2 o3 w h h2 hs hs2
    | true => exact cm_few a b off cap l a2 b2 off2 cap2 m c0 c1 c2 c3 o0 o1 o2 o3 w (h.laid hs) hs (h2.laid hs2) hs2

end Go.Proofs.Ytckijalkodpjhaa
