/- BitsSame's walk. -/
import Derived.Deep.DeepCutAuto
import Derived.Test.YtpoelchjpnbgpaaJ
namespace Go.Proofs.Ytpoelchjpnbgpaa
open Go.RowKit Go.Sort
attribute [local go_sem ↓] eq27

/-- What the first drawn region keeps: what lies below, and the slices of its own. -/
structure JR (wB : World) (zs ys : List Int) (done : Nat → Bool) (vals : Nat → Value) (w : World) : Prop where
  below : Below wB.heap.size wB w
  r22 : done 22 = true → done 24 = false → w.ownsRow wB.heap.size 3 1 (vals 22) 0 []
  r24 : done 24 = true → done 26 = false → w.ownsRow wB.heap.size 3 1 (vals 24) zs.length (zs.map (.int .i64))
  r26 : done 26 = true → w.ownsRow wB.heap.size 3 1 (vals 26) (zs.length + ys.length) ((zs ++ ys).map (.int .i64))
theorem run_append_op {a : Act} {ob : Oper} {s x : Operand} (ho : ob.op = .call { callee := .builtin .append, args := #[s, x], argTypes := #[22, 22] }) (ht : ob.type = 22) {w w' : World} {v u v' : Value} (hs : a.eval s = v) (hx : a.eval x = u) (hrun : (Builtin.append_ #[22, 22] 22 #[v, u]).run Try.prog w = .ok v' w') : (execOp a.eval ob).run Try.prog w = .ok (.value v') w' := by
  unfold execOp
  simp only [ho, ht, resolve, invoke, builtin, Sem.run_bind, Sem.run_pure, Result.andThen_ok, List.map_toArray, List.map_cons, List.map_nil, hs, hx, hrun]
theorem txt_list (s : B8) : (txt s).toList = txtL s := by kernel_rfl
theorem txt_beq (s o : B8) : ((txt s).toList == (txt o).toList) = decide (s = o) := by
  rw [txt_list, txt_list]
  by_cases h : s = o
  · subst h; simp
  · rw [decide_eq_false h, beq_eq_false_iff_ne]
    intro e
    exact h (txt_inj (by rw [txt, txt, e]))
def BJ (wB : World) (_ : Nat → Bool) (w : World) : Prop := Below wB.heap.size wB w
theorem oUpon_ok {P : Program} {V : Value → Prop} {J : Value → World → Prop} {r : Result Next} {u : Value} {w' : World} (hr : r = .ok (.value u) w') (hV : V u) (hJ : J u w') : oUpon P V J r := by
  subst hr
  exact ⟨hV, hJ⟩
section
variable {wB : World} {zs ys : List Int} {done : Nat → Bool} {vals : Nat → Value} {w w' : World} {ops : Array Oper} {v : Value} {i : Nat}
theorem mark_ne {k : Nat} (h : i ≠ k) : mark done i k = done k := by unfold mark; rw [if_neg (Ne.symm h)]
theorem mark_at : mark done i i = true := by unfold mark; rw [if_pos rfl]
theorem updO_ne {k : Nat} (h : i ≠ k) : updO ops vals i v k = vals k := by unfold updO; rw [if_neg (fun q => h q.1.symm)]
theorem updO_at (h : (dstO ops i).isSome = true) : updO ops vals i v i = v := by unfold updO; rw [if_pos ⟨rfl, h⟩]
theorem JR.skip (h : JR wB zs ys done vals w) (hb : Below w.heap.size w w') (hi : i ≠ 22 ∧ i ≠ 24 ∧ i ≠ 26) : JR wB zs ys (mark done i) (updO ops vals i v) w' := by
  obtain ⟨h1, h2, h3⟩ := hi
  refine ⟨h.below.trans (hb.mono h.below.size), ?_, ?_, ?_⟩
  · rw [mark_ne h1, mark_ne h2, updO_ne h1]
    exact fun a b => owns_below (h.r22 a b) hb
  · rw [mark_ne h2, mark_ne h3, updO_ne h2]
    exact fun a b => owns_below (h.r24 a b) hb
  · rw [mark_ne h3, updO_ne h3]
    exact fun a => owns_below (h.r26 a) hb
theorem JR.made (h : JR wB zs ys done vals w) {o : Obj} (h24 : done 24 = false) (h26 : done 26 = false) (hd : (dstO ops 22).isSome = true) (hown : (w.alloc o).ownsRow wB.heap.size 3 1 v 0 []) : JR wB zs ys (mark done 22) (updO ops vals 22 v) (w.alloc o) := by
  refine ⟨h.below.alloc h.below.size o, ?_, ?_, ?_⟩
  · rw [updO_at hd]
    exact fun _ _ => hown
  · rw [mark_ne (by decide)]
    exact fun a => by rw [h24] at a; cases a
  · rw [mark_ne (by decide)]
    exact fun a => by rw [h26] at a; cases a
theorem JR.first (h26 : done 26 = false) (hd : (dstO ops 24).isSome = true) (hbel : Below wB.heap.size wB w') (hown : w'.ownsRow wB.heap.size 3 1 v zs.length (zs.map (.int .i64))) : JR wB zs ys (mark done 24) (updO ops vals 24 v) w' := by
  refine ⟨hbel, ?_, ?_, ?_⟩
  · rw [mark_at]
    exact fun _ a => by cases a
  · rw [updO_at hd]
    exact fun _ _ => hown
  · rw [mark_ne (by decide)]
    exact fun a => by rw [h26] at a; cases a
theorem JR.second (h24 : done 24 = true) (hd : (dstO ops 26).isSome = true) (hbel : Below wB.heap.size wB w') (hown : w'.ownsRow wB.heap.size 3 1 v (zs.length + ys.length) ((zs ++ ys).map (.int .i64))) : JR wB zs ys (mark done 26) (updO ops vals 26 v) w' := by
  refine ⟨hbel, ?_, ?_, ?_⟩
  · rw [mark_ne (show 26 ≠ 24 by decide), h24]
    exact fun _ a => by cases a
  · rw [mark_at]
    exact fun _ a => by cases a
  · rw [updO_at hd]
    exact fun _ => hown
theorem j_call1 {done : Nat → Bool} (h : Below wB.heap.size wB w) {f : Nat} {args : Array Value} (hc : Calls Try.prog f args w fun e w' => e = .returned v ∧ Below w.heap.size w w') {V : Value → Prop} (hV : V v := by exact rfl) :
    jUpon Try.prog V (BJ wB done) (.ok (.enter f args) w) := by
  refine hc.mono ?_
  rintro e w' ⟨rfl, hb⟩
  exact ⟨_, rfl, hV, h.trans (hb.mono h.size)⟩
end
/-- Which operations of the second are carried out. -/
def LV (sx : Bool) (i : Nat) : Bool := match i with
  | 9 => !sx
  | 10 => !sx
  | 11 => !sx
  | 24 => sx
  | 25 => sx
  | 26 => sx
  | 27 => sx
  | _ => true
def tellL (ops : Array Oper) (live : Nat → Bool) (vals : List (Nat × Bool)) : Bool :=
  (List.range ops.size).all fun i => match ops[i]? with
    | some o => (match o.guard with | none => live i | some (j, b) => decide (j < i) && (depsOf o).contains j && vals.contains (j, if live i then b else !b))
    | none => true
theorem GuardsJ.tellL {ops : Array Oper} {live : Nat → Bool} {V : Nat → Value → Prop} {J : (Nat → Bool) → World → Prop} (vals : List (Nat × Bool)) (h : tellL ops live vals = true) (hv : ∀ p ∈ vals, ∀ v, V p.1 v → v = .bool p.2) (hd : ∀ i, live i = false → V i undef ∧ ∀ done w, J done w → J (mark done i) w) : GuardsJ ops live V J := by
  have key : ∀ (i : Nat) (o : Oper), ops[i]? = some o → (match o.guard with | none => live i | some (j, b) => decide (j < i) && (depsOf o).contains j && vals.contains (j, if live i then b else !b)) = true := by
    intro i o ho
    have hi : i < ops.size := (Array.getElem?_eq_some_iff.1 ho).1
    have h1 := List.all_eq_true.1 h i (List.mem_range.2 hi)
    rw [ho] at h1
    exact h1
  refine ⟨fun i o j b ho hg => ?_, fun i o ho hg => ?_, hd⟩
  · have h2 := key i o ho
    rw [hg] at h2
    simp only [Bool.and_eq_true] at h2
    obtain ⟨⟨h3, h4⟩, h5⟩ := h2
    exact ⟨of_decide_eq_true h3, List.contains_iff_mem.1 h4, hv (j, _) (List.contains_iff_mem.1 h5)⟩
  · have h2 := key i o ho
    rw [hg] at h2
    exact h2
def V4 (s o : B8) (va vb : Value) (i : Nat) (v : Value) : Prop :=
  match i with
  | 0 => v = .agg #[.bool s.b0, .bool s.b1, .bool s.b2, .bool s.b3, .bool s.b4, .bool s.b5, .bool s.b6, .bool s.b7]
  | 1 => v = .agg #[.bool o.b0, .bool o.b1, .bool o.b2, .bool o.b3, .bool o.b4, .bool o.b5, .bool o.b6, .bool o.b7]
  | 2 => v = .bool (decide (s = o))
  | 3 => v = va
  | 4 => v = .string (txt s)
  | 5 => v = vb
  | 6 => v = .string (txt o)
  | 7 => v = .bool (decide (s = o))
  | 8 => v = .bool false
  | 9 => v = .bool false
  | 10 => v = .agg #[.bool s.b0, .bool s.b1, .bool s.b2, .bool s.b3, .bool s.b4, .bool s.b5, .bool s.b6, .bool s.b7]
  | 11 => v = .agg #[.bool o.b0, .bool o.b1, .bool o.b2, .bool o.b3, .bool o.b4, .bool o.b5, .bool o.b6, .bool o.b7]
  | 12 => v = .agg #[.bool (orS s o).b0, .bool (orS s o).b1, .bool (orS s o).b2, .bool (orS s o).b3, .bool (orS s o).b4, .bool (orS s o).b5, .bool (orS s o).b6, .bool (orS s o).b7]
  | 13 => v = .agg #[.bool o.b0, .bool o.b1, .bool o.b2, .bool o.b3, .bool o.b4, .bool o.b5, .bool o.b6, .bool o.b7]
  | 14 => v = .agg #[.bool s.b0, .bool s.b1, .bool s.b2, .bool s.b3, .bool s.b4, .bool s.b5, .bool s.b6, .bool s.b7]
  | 15 => v = .agg #[.bool (orS s o).b0, .bool (orS s o).b1, .bool (orS s o).b2, .bool (orS s o).b3, .bool (orS s o).b4, .bool (orS s o).b5, .bool (orS s o).b6, .bool (orS s o).b7]
  | 16 => v = .bool false
  | 17 => v = .bool false
  | 18 => v = .bool false
  | 19 => v = .agg #[.bool s.b0, .bool s.b1, .bool s.b2, .bool s.b3, .bool s.b4, .bool s.b5, .bool s.b6, .bool s.b7]
  | 20 => v = .agg #[.bool o.b0, .bool o.b1, .bool o.b2, .bool o.b3, .bool o.b4, .bool o.b5, .bool o.b6, .bool o.b7]
  | 21 => v = .agg #[.bool (orS s o).b0, .bool (orS s o).b1, .bool (orS s o).b2, .bool (orS s o).b3, .bool (orS s o).b4, .bool (orS s o).b5, .bool (orS s o).b6, .bool (orS s o).b7]
  | 22 => True
  | 23 => v = va
  | 24 => True
  | 25 => v = vb
  | 26 => True
  | 27 => v = .agg #[.bool (orS s o).b0, .bool (orS s o).b1, .bool (orS s o).b2, .bool (orS s o).b3, .bool (orS s o).b4, .bool (orS s o).b5, .bool (orS s o).b6, .bool (orS s o).b7]
  | 28 => v = .bool false
  | 29 => v = .bool false
  | _ => True

def V6 (s o : B8) (x_ : Int) (sx ox : Bool) (i : Nat) (v : Value) : Prop :=
  match i with
  | 0 => v = .agg #[.bool s.b0, .bool s.b1, .bool s.b2, .bool s.b3, .bool s.b4, .bool s.b5, .bool s.b6, .bool s.b7]
  | 1 => v = .agg #[.bool o.b0, .bool o.b1, .bool o.b2, .bool o.b3, .bool o.b4, .bool o.b5, .bool o.b6, .bool o.b7]
  | 2 => v = .agg #[.bool (orS s o).b0, .bool (orS s o).b1, .bool (orS s o).b2, .bool (orS s o).b3, .bool (orS s o).b4, .bool (orS s o).b5, .bool (orS s o).b6, .bool (orS s o).b7]
  | 3 => v = .int .i64 x_
  | 4 => v = .bool (sx || ox)
  | 5 => v = .agg #[.bool s.b0, .bool s.b1, .bool s.b2, .bool s.b3, .bool s.b4, .bool s.b5, .bool s.b6, .bool s.b7]
  | 6 => v = .int .i64 x_
  | 7 => v = .bool sx
  | 8 => v = .bool sx
  | 9 => sx = false → v = .agg #[.bool o.b0, .bool o.b1, .bool o.b2, .bool o.b3, .bool o.b4, .bool o.b5, .bool o.b6, .bool o.b7]
  | 10 => sx = false → v = .int .i64 x_
  | 11 => sx = false → v = .bool ox
  | 12 => v = .bool (sx || ox)
  | 13 => v = .bool true
  | 14 => v = .bool true
  | 15 => v = .agg #[.bool s.b0, .bool s.b1, .bool s.b2, .bool s.b3, .bool s.b4, .bool s.b5, .bool s.b6, .bool s.b7]
  | 16 => v = .agg #[.bool o.b0, .bool o.b1, .bool o.b2, .bool o.b3, .bool o.b4, .bool o.b5, .bool o.b6, .bool o.b7]
  | 17 => v = .agg #[.bool (butS s o).b0, .bool (butS s o).b1, .bool (butS s o).b2, .bool (butS s o).b3, .bool (butS s o).b4, .bool (butS s o).b5, .bool (butS s o).b6, .bool (butS s o).b7]
  | 18 => v = .int .i64 x_
  | 19 => v = .bool (sx && !ox)
  | 20 => v = .agg #[.bool s.b0, .bool s.b1, .bool s.b2, .bool s.b3, .bool s.b4, .bool s.b5, .bool s.b6, .bool s.b7]
  | 21 => v = .int .i64 x_
  | 22 => v = .bool sx
  | 23 => v = .bool sx
  | 24 => sx = true → v = .agg #[.bool o.b0, .bool o.b1, .bool o.b2, .bool o.b3, .bool o.b4, .bool o.b5, .bool o.b6, .bool o.b7]
  | 25 => sx = true → v = .int .i64 x_
  | 26 => sx = true → v = .bool ox
  | 27 => sx = true → v = .bool (!ox)
  | 28 => v = .bool (sx && !ox)
  | 29 => v = .bool true
  | 30 => v = .bool true
  | 31 => v = .bool true
  | 32 => v = .agg #[.bool s.b0, .bool s.b1, .bool s.b2, .bool s.b3, .bool s.b4, .bool s.b5, .bool s.b6, .bool s.b7]
  | 33 => v = .agg #[.bool o.b0, .bool o.b1, .bool o.b2, .bool o.b3, .bool o.b4, .bool o.b5, .bool o.b6, .bool o.b7]
  | 34 => v = .agg #[.bool (butS s o).b0, .bool (butS s o).b1, .bool (butS s o).b2, .bool (butS s o).b3, .bool (butS s o).b4, .bool (butS s o).b5, .bool (butS s o).b6, .bool (butS s o).b7]
  | 35 => v = .agg #[.bool o.b0, .bool o.b1, .bool o.b2, .bool o.b3, .bool o.b4, .bool o.b5, .bool o.b6, .bool o.b7]
  | 36 => v = .agg #[.bool (orS s o).b0, .bool (orS s o).b1, .bool (orS s o).b2, .bool (orS s o).b3, .bool (orS s o).b4, .bool (orS s o).b5, .bool (orS s o).b6, .bool (orS s o).b7]
  | 37 => v = .agg #[.bool s.b0, .bool s.b1, .bool s.b2, .bool s.b3, .bool s.b4, .bool s.b5, .bool s.b6, .bool s.b7]
  | 38 => v = .agg #[.bool o.b0, .bool o.b1, .bool o.b2, .bool o.b3, .bool o.b4, .bool o.b5, .bool o.b6, .bool o.b7]
  | 39 => v = .agg #[.bool (orS s o).b0, .bool (orS s o).b1, .bool (orS s o).b2, .bool (orS s o).b3, .bool (orS s o).b4, .bool (orS s o).b5, .bool (orS s o).b6, .bool (orS s o).b7]
  | 40 => v = .bool true
  | 41 => v = .bool true
  | 42 => v = .bool true
  | 43 => v = .agg #[.bool s.b0, .bool s.b1, .bool s.b2, .bool s.b3, .bool s.b4, .bool s.b5, .bool s.b6, .bool s.b7]
  | 44 => v = .agg #[.bool s.b0, .bool s.b1, .bool s.b2, .bool s.b3, .bool s.b4, .bool s.b5, .bool s.b6, .bool s.b7]
  | 45 => v = .agg #[.bool B8.zero.b0, .bool B8.zero.b1, .bool B8.zero.b2, .bool B8.zero.b3, .bool B8.zero.b4, .bool B8.zero.b5, .bool B8.zero.b6, .bool B8.zero.b7]
  | 46 => v = .agg #[.bool B8.zero.b0, .bool B8.zero.b1, .bool B8.zero.b2, .bool B8.zero.b3, .bool B8.zero.b4, .bool B8.zero.b5, .bool B8.zero.b6, .bool B8.zero.b7]
  | 47 => v = .bool true
  | 48 => v = .bool true
  | 49 => v = .bool true
  | _ => True

set_option maxRecDepth 20000 in
set_option maxHeartbeats 64000000 in
theorem same_walk (a : Option Addr) (b off cap : Nat) (zs : List Int) (a2 : Option Addr) (b2 off2 cap2 : Nat) (ys : List Int) (x_ : Int) (w : World) (hz : CameI w a b off zs) (hy : CameI w a2 b2 off2 ys) :
    Calls Try.prog 5 #[.slice a zs.length cap, .slice a2 ys.length cap2, .int .i64 x_] w fun e w' => e = .returned (.bool true) ∧ Below w.heap.size w w' := by
  have HZ := Lib.hid hz
  have HY := Lib.hid hy
  have hzl := hz.2.2.1
  have hyl := hy.2.2.1
  clear hz hy
  go_enter Try.func5, Try.ntmps5
  go_wp2_with fail
  refine (awake_any w).mono ?_
  rintro e w1 ⟨rfl, hb1⟩
  have HB1 := Lib.hid hb1
  have HZ1 := Lib.hid (HZ.out.below hb1)
  have HY1 := Lib.hid (HY.out.below hb1)
  clear hb1
  by_cases hbig : (zs.length : Int) > 100
  · go_wp2_with fail
    refine (awake_any w1).mono ?_
    rintro e w2 ⟨rfl, hb2⟩
    have HB2 := Lib.hid (HB1.out.trans (hb2.mono HB1.out.size))
    clear hb2
    go_wp2
    go_ret
    exact ⟨rfl, HB2.out⟩
  by_cases hbig2 : (ys.length : Int) > 100
  · go_wp2_with fail
    refine (awake_any w1).mono ?_
    rintro e w2 ⟨rfl, hb2⟩
    have HB2 := Lib.hid (HB1.out.trans (hb2.mono HB1.out.size))
    clear hb2
    go_wp2
    go_ret
    exact ⟨rfl, HB2.out⟩
  go_wp2_with fail
  refine (HZ1.out.of cap).mono ?_
  rintro e w2 ⟨rfl, hb2⟩
  have HB2 := Lib.hid (HB1.out.trans (hb2.mono HB1.out.size))
  have HZ2 := Lib.hid (HZ1.out.below hb2)
  have HY2 := Lib.hid (HY1.out.below hb2)
  clear hb2
  go_wp2_with fail
  refine (HY2.out.of cap2).mono ?_
  rintro e w3 ⟨rfl, hb3⟩
  have HB3 := Lib.hid (HB2.out.trans (hb3.mono HB2.out.size))
  have HZ3 := Lib.hid (HZ2.out.below hb3)
  have HY3 := Lib.hid (HY2.out.below hb3)
  clear hb3
  have HZL := Lib.hid (show zs.length ≤ 100 by omega)
  have HYL := Lib.hid (show ys.length ≤ 100 by omega)
  generalize hs : ofL zs = s
  generalize ho : ofL ys = o
  have HS := Lib.hid hs
  have HO := Lib.hid ho
  clear hs ho
  have HBA : Hid (Below w3.heap.size w3 ((w3.alloc (.cells #[.bool s.b0, .bool s.b1, .bool s.b2, .bool s.b3, .bool s.b4, .bool s.b5, .bool s.b6, .bool s.b7] 27)).alloc (.cells #[.bool o.b0, .bool o.b1, .bool o.b2, .bool o.b3, .bool o.b4, .bool o.b5, .bool o.b6, .bool o.b7] 27))) := Lib.hid ((((Below.refl w3.heap.size w3).alloc (Nat.le_refl _) (.cells #[.bool s.b0, .bool s.b1, .bool s.b2, .bool s.b3, .bool s.b4, .bool s.b5, .bool s.b6, .bool s.b7] 27)).alloc (by simp) (.cells #[.bool o.b0, .bool o.b1, .bool o.b2, .bool o.b3, .bool o.b4, .bool o.b5, .bool o.b6, .bool o.b7] 27)))
  have HZ := Lib.hid (HZ3.out.below HBA.out)
  have HY := Lib.hid (HY3.out.below HBA.out)
  have HP : Hid (BoxS ((w3.alloc (.cells #[.bool s.b0, .bool s.b1, .bool s.b2, .bool s.b3, .bool s.b4, .bool s.b5, .bool s.b6, .bool s.b7] 27)).alloc (.cells #[.bool o.b0, .bool o.b1, .bool o.b2, .bool o.b3, .bool o.b4, .bool o.b5, .bool o.b6, .bool o.b7] 27)) w3.heap.size s) := Lib.hid ((BoxS.new w3 s).alloc (.cells #[.bool o.b0, .bool o.b1, .bool o.b2, .bool o.b3, .bool o.b4, .bool o.b5, .bool o.b6, .bool o.b7] 27))
  have HQ : Hid (BoxS ((w3.alloc (.cells #[.bool s.b0, .bool s.b1, .bool s.b2, .bool s.b3, .bool s.b4, .bool s.b5, .bool s.b6, .bool s.b7] 27)).alloc (.cells #[.bool o.b0, .bool o.b1, .bool o.b2, .bool o.b3, .bool o.b4, .bool o.b5, .bool o.b6, .bool o.b7] 27)) (w3.heap.size + 1) o) := by
    have h := BoxS.new (w3.alloc (.cells #[.bool s.b0, .bool s.b1, .bool s.b2, .bool s.b3, .bool s.b4, .bool s.b5, .bool s.b6, .bool s.b7] 27)) o
    rwa [World.size_alloc] at h
  have HBW := Lib.hid (HB3.out.trans (HBA.out.mono HB3.out.size))
  clear HZ1 HY1 HZ2 HY2 HZ3 HY3 HB1 HB2 HB3
  go_wp2_with fail
  refine wp_region_all_keep (V4 s o (.slice a zs.length cap) (.slice a2 ys.length cap2)) (JR ((w3.alloc (.cells #[.bool s.b0, .bool s.b1, .bool s.b2, .bool s.b3, .bool s.b4, .bool s.b5, .bool s.b6, .bool s.b7] 27)).alloc (.cells #[.bool o.b0, .bool o.b1, .bool o.b2, .bool o.b3, .bool o.b4, .bool o.b5, .bool o.b6, .bool o.b7] 27)) zs ys) (fun _ => true) [(0, 26), (1, 27), (2, 28), (3, 29), (4, 30), (5, 31), (6, 32), (7, 33), (8, 34), (9, 35), (10, 36), (11, 37), (12, 38), (13, 39), (14, 40), (15, 41), (16, 42), (17, 43), (18, 44), (19, 45), (20, 46), (21, 47), (22, 48), (23, 49), (24, 50), (25, 51), (26, 52), (27, 53), (28, 54), (29, 55)] (GuardsO.tell [(9, false), (18, false)] (by kernel_rfl) (by
    intro p hp v h
    simp only [List.mem_cons, List.not_mem_nil, or_false] at hp
    rcases hp with rfl | rfl <;> exact h)) (by kernel_rfl) (by kernel_rfl) (by kernel_rfl) (by decide) (by kernel_rfl) (fun i hi => by intro h; exfalso; revert i; decide) (fun vals => ⟨(Below.refl _ _).drew, fun h => absurd h (by decide), fun h => absurd h (by decide), fun h => absurd h (by decide)⟩) ?_ ?_
  · intro i' ob ho _
    match i', ho with
    | 0, ho =>
      as_aux_lemma =>
        obtain rfl := Option.some.inj ho
        intro x wx done hj hdn hcl hrest hd
        refine o_of_j (J := fun w' => Below wx.heap.size wx w') ?_ (fun v w' _ hb => hj.skip hb (by decide))
        have h : x.tmps.getD 7 undef = .pointer (some ⟨w3.heap.size, 0, none⟩) := hrest 7 (by decide)
        obtain ⟨t0, t1, t2, t3, t4, t5, t6, t7, _⟩ := (HP.out.below hj.below HP.out.lt).cells
        simp [execOp, Act.eval, h, go_sem, t0, t1, t2, t3, t4, t5, t6, t7]
        exact ⟨rfl, Below.refl _ _⟩
    | 1, ho =>
      as_aux_lemma =>
        obtain rfl := Option.some.inj ho
        intro x wx done hj hdn hcl hrest hd
        refine o_of_j (J := fun w' => Below wx.heap.size wx w') ?_ (fun v w' _ hb => hj.skip hb (by decide))
        have h : x.tmps.getD 8 undef = .pointer (some ⟨w3.heap.size + 1, 0, none⟩) := hrest 8 (by decide)
        obtain ⟨t0, t1, t2, t3, t4, t5, t6, t7, _⟩ := (HQ.out.below hj.below HQ.out.lt).cells
        simp [execOp, Act.eval, h, go_sem, t0, t1, t2, t3, t4, t5, t6, t7]
        exact ⟨rfl, Below.refl _ _⟩
    | 2, ho =>
      as_aux_lemma =>
        obtain rfl := Option.some.inj ho
        intro x wx done hj hdn hcl hrest hd
        refine o_of_j (J := fun w' => Below wx.heap.size wx w') ?_ (fun v w' _ hb => hj.skip hb (by decide))
        have h0 : x.tmps.getD 26 undef = .agg #[.bool s.b0, .bool s.b1, .bool s.b2, .bool s.b3, .bool s.b4, .bool s.b5, .bool s.b6, .bool s.b7] := (hd 0 (by decide)).2
        have h1 : x.tmps.getD 27 undef = .agg #[.bool o.b0, .bool o.b1, .bool o.b2, .bool o.b3, .bool o.b4, .bool o.b5, .bool o.b6, .bool o.b7] := (hd 1 (by decide)).2
        simp [execOp, Act.eval, h0, h1, go_sem]
        exact ⟨rfl, Below.refl _ _⟩
    | 3, ho =>
      as_aux_lemma =>
        obtain rfl := Option.some.inj ho
        intro x wx done hj hdn hcl hrest hd
        refine o_of_j (J := fun w' => Below wx.heap.size wx w') ?_ (fun v w' _ hb => hj.skip hb (by decide))
        have h : x.tmps.getD 0 undef = .slice a zs.length cap := hrest 0 (by decide)
        exact ⟨h, Below.refl _ _⟩
    | 4, ho =>
      as_aux_lemma =>
        obtain rfl := Option.some.inj ho
        intro x wx done hj hdn hcl hrest hd
        refine o_of_j (J := fun w' => Below wx.heap.size wx w') ?_ (fun v w' _ hb => hj.skip hb (by decide))
        have h0 : x.tmps.getD 29 undef = .slice a zs.length cap := (hd 3 (by decide)).2
        simp [execOp, Act.eval, h0, go_sem]
        exact j_call0 (by have h := (HZ.out.below hj.below).rof cap; rw [HS.out] at h; exact h)
    | 5, ho =>
      as_aux_lemma =>
        obtain rfl := Option.some.inj ho
        intro x wx done hj hdn hcl hrest hd
        refine o_of_j (J := fun w' => Below wx.heap.size wx w') ?_ (fun v w' _ hb => hj.skip hb (by decide))
        have h : x.tmps.getD 1 undef = .slice a2 ys.length cap2 := hrest 1 (by decide)
        exact ⟨h, Below.refl _ _⟩
    | 6, ho =>
      as_aux_lemma =>
        obtain rfl := Option.some.inj ho
        intro x wx done hj hdn hcl hrest hd
        refine o_of_j (J := fun w' => Below wx.heap.size wx w') ?_ (fun v w' _ hb => hj.skip hb (by decide))
        have h0 : x.tmps.getD 31 undef = .slice a2 ys.length cap2 := (hd 5 (by decide)).2
        simp [execOp, Act.eval, h0, go_sem]
        exact j_call0 (by have h := (HY.out.below hj.below).rof cap2; rw [HO.out] at h; exact h)
    | 7, ho =>
      as_aux_lemma =>
        obtain rfl := Option.some.inj ho
        intro x wx done hj hdn hcl hrest hd
        refine o_of_j (J := fun w' => Below wx.heap.size wx w') ?_ (fun v w' _ hb => hj.skip hb (by decide))
        have h0 : x.tmps.getD 30 undef = .string (txt s) := (hd 4 (by decide)).2
        have h1 : x.tmps.getD 32 undef = .string (txt o) := (hd 6 (by decide)).2
        simp [execOp, Act.eval, h0, h1, go_sem]
        exact ⟨by rw [txt_beq]; rfl, Below.refl _ _⟩
    | 8, ho =>
      as_aux_lemma =>
        obtain rfl := Option.some.inj ho
        intro x wx done hj hdn hcl hrest hd
        refine o_of_j (J := fun w' => Below wx.heap.size wx w') ?_ (fun v w' _ hb => hj.skip hb (by decide))
        have h0 : x.tmps.getD 28 undef = .bool (decide (s = o)) := (hd 2 (by decide)).2
        have h1 : x.tmps.getD 33 undef = .bool (decide (s = o)) := (hd 7 (by decide)).2
        simp [execOp, Act.eval, h0, h1, go_sem]
        exact ⟨rfl, Below.refl _ _⟩
    | 9, ho =>
      as_aux_lemma =>
        obtain rfl := Option.some.inj ho
        intro x wx done hj hdn hcl hrest hd
        refine o_of_j (J := fun w' => Below wx.heap.size wx w') ?_ (fun v w' _ hb => hj.skip hb (by decide))
        have h : x.tmps.getD 34 undef = .bool false := (hd 8 (by decide)).2
        exact ⟨h, Below.refl _ _⟩
    | 10, ho =>
      as_aux_lemma =>
        obtain rfl := Option.some.inj ho
        intro x wx done hj hdn hcl hrest hd
        refine o_of_j (J := fun w' => Below wx.heap.size wx w') ?_ (fun v w' _ hb => hj.skip hb (by decide))
        have h : x.tmps.getD 7 undef = .pointer (some ⟨w3.heap.size, 0, none⟩) := hrest 7 (by decide)
        obtain ⟨t0, t1, t2, t3, t4, t5, t6, t7, _⟩ := (HP.out.below hj.below HP.out.lt).cells
        simp [execOp, Act.eval, h, go_sem, t0, t1, t2, t3, t4, t5, t6, t7]
        exact ⟨rfl, Below.refl _ _⟩
    | 11, ho =>
      as_aux_lemma =>
        obtain rfl := Option.some.inj ho
        intro x wx done hj hdn hcl hrest hd
        refine o_of_j (J := fun w' => Below wx.heap.size wx w') ?_ (fun v w' _ hb => hj.skip hb (by decide))
        have h : x.tmps.getD 8 undef = .pointer (some ⟨w3.heap.size + 1, 0, none⟩) := hrest 8 (by decide)
        obtain ⟨t0, t1, t2, t3, t4, t5, t6, t7, _⟩ := (HQ.out.below hj.below HQ.out.lt).cells
        simp [execOp, Act.eval, h, go_sem, t0, t1, t2, t3, t4, t5, t6, t7]
        exact ⟨rfl, Below.refl _ _⟩
    | 12, ho =>
      as_aux_lemma =>
        obtain rfl := Option.some.inj ho
        intro x wx done hj hdn hcl hrest hd
        refine o_of_j (J := fun w' => Below wx.heap.size wx w') ?_ (fun v w' _ hb => hj.skip hb (by decide))
        have h0 : x.tmps.getD 36 undef = .agg #[.bool s.b0, .bool s.b1, .bool s.b2, .bool s.b3, .bool s.b4, .bool s.b5, .bool s.b6, .bool s.b7] := (hd 10 (by decide)).2
        have h1 : x.tmps.getD 37 undef = .agg #[.bool o.b0, .bool o.b1, .bool o.b2, .bool o.b3, .bool o.b4, .bool o.b5, .bool o.b6, .bool o.b7] := (hd 11 (by decide)).2
        simp [execOp, Act.eval, h0, h1, go_sem]
        exact j_call0 (or_any s o wx)
    | 13, ho =>
      as_aux_lemma =>
        obtain rfl := Option.some.inj ho
        intro x wx done hj hdn hcl hrest hd
        refine o_of_j (J := fun w' => Below wx.heap.size wx w') ?_ (fun v w' _ hb => hj.skip hb (by decide))
        have h : x.tmps.getD 8 undef = .pointer (some ⟨w3.heap.size + 1, 0, none⟩) := hrest 8 (by decide)
        obtain ⟨t0, t1, t2, t3, t4, t5, t6, t7, _⟩ := (HQ.out.below hj.below HQ.out.lt).cells
        simp [execOp, Act.eval, h, go_sem, t0, t1, t2, t3, t4, t5, t6, t7]
        exact ⟨rfl, Below.refl _ _⟩
    | 14, ho =>
      as_aux_lemma =>
        obtain rfl := Option.some.inj ho
        intro x wx done hj hdn hcl hrest hd
        refine o_of_j (J := fun w' => Below wx.heap.size wx w') ?_ (fun v w' _ hb => hj.skip hb (by decide))
        have h : x.tmps.getD 7 undef = .pointer (some ⟨w3.heap.size, 0, none⟩) := hrest 7 (by decide)
        obtain ⟨t0, t1, t2, t3, t4, t5, t6, t7, _⟩ := (HP.out.below hj.below HP.out.lt).cells
        simp [execOp, Act.eval, h, go_sem, t0, t1, t2, t3, t4, t5, t6, t7]
        exact ⟨rfl, Below.refl _ _⟩
    | 15, ho =>
      as_aux_lemma =>
        obtain rfl := Option.some.inj ho
        intro x wx done hj hdn hcl hrest hd
        refine o_of_j (J := fun w' => Below wx.heap.size wx w') ?_ (fun v w' _ hb => hj.skip hb (by decide))
        have h0 : x.tmps.getD 39 undef = .agg #[.bool o.b0, .bool o.b1, .bool o.b2, .bool o.b3, .bool o.b4, .bool o.b5, .bool o.b6, .bool o.b7] := (hd 13 (by decide)).2
        have h1 : x.tmps.getD 40 undef = .agg #[.bool s.b0, .bool s.b1, .bool s.b2, .bool s.b3, .bool s.b4, .bool s.b5, .bool s.b6, .bool s.b7] := (hd 14 (by decide)).2
        simp [execOp, Act.eval, h0, h1, go_sem]
        exact j_call0 (by have h := or_any o s wx; rw [or_comm' o s] at h; exact h)
    | 16, ho =>
      as_aux_lemma =>
        obtain rfl := Option.some.inj ho
        intro x wx done hj hdn hcl hrest hd
        refine o_of_j (J := fun w' => Below wx.heap.size wx w') ?_ (fun v w' _ hb => hj.skip hb (by decide))
        have h0 : x.tmps.getD 38 undef = .agg #[.bool (orS s o).b0, .bool (orS s o).b1, .bool (orS s o).b2, .bool (orS s o).b3, .bool (orS s o).b4, .bool (orS s o).b5, .bool (orS s o).b6, .bool (orS s o).b7] := (hd 12 (by decide)).2
        have h1 : x.tmps.getD 41 undef = .agg #[.bool (orS s o).b0, .bool (orS s o).b1, .bool (orS s o).b2, .bool (orS s o).b3, .bool (orS s o).b4, .bool (orS s o).b5, .bool (orS s o).b6, .bool (orS s o).b7] := (hd 15 (by decide)).2
        simp [execOp, Act.eval, h0, h1, go_sem]
        exact ⟨rfl, Below.refl _ _⟩
    | 17, ho =>
      as_aux_lemma =>
        obtain rfl := Option.some.inj ho
        intro x wx done hj hdn hcl hrest hd
        refine o_of_j (J := fun w' => Below wx.heap.size wx w') ?_ (fun v w' _ hb => hj.skip hb (by decide))
        have h0 : x.tmps.getD 35 undef = .bool false := (hd 9 (by decide)).2
        have h1 : x.tmps.getD 42 undef = .bool false := (hd 16 (by decide)).2
        simp [execOp, Act.eval, h0, h1, go_sem]
        exact ⟨rfl, Below.refl _ _⟩
    | 18, ho =>
      as_aux_lemma =>
        obtain rfl := Option.some.inj ho
        intro x wx done hj hdn hcl hrest hd
        refine o_of_j (J := fun w' => Below wx.heap.size wx w') ?_ (fun v w' _ hb => hj.skip hb (by decide))
        have h : x.tmps.getD 43 undef = .bool false := (hd 17 (by decide)).2
        exact ⟨h, Below.refl _ _⟩
    | 19, ho =>
      as_aux_lemma =>
        obtain rfl := Option.some.inj ho
        intro x wx done hj hdn hcl hrest hd
        refine o_of_j (J := fun w' => Below wx.heap.size wx w') ?_ (fun v w' _ hb => hj.skip hb (by decide))
        have h : x.tmps.getD 7 undef = .pointer (some ⟨w3.heap.size, 0, none⟩) := hrest 7 (by decide)
        obtain ⟨t0, t1, t2, t3, t4, t5, t6, t7, _⟩ := (HP.out.below hj.below HP.out.lt).cells
        simp [execOp, Act.eval, h, go_sem, t0, t1, t2, t3, t4, t5, t6, t7]
        exact ⟨rfl, Below.refl _ _⟩
    | 20, ho =>
      as_aux_lemma =>
        obtain rfl := Option.some.inj ho
        intro x wx done hj hdn hcl hrest hd
        refine o_of_j (J := fun w' => Below wx.heap.size wx w') ?_ (fun v w' _ hb => hj.skip hb (by decide))
        have h : x.tmps.getD 8 undef = .pointer (some ⟨w3.heap.size + 1, 0, none⟩) := hrest 8 (by decide)
        obtain ⟨t0, t1, t2, t3, t4, t5, t6, t7, _⟩ := (HQ.out.below hj.below HQ.out.lt).cells
        simp [execOp, Act.eval, h, go_sem, t0, t1, t2, t3, t4, t5, t6, t7]
        exact ⟨rfl, Below.refl _ _⟩
    | 21, ho =>
      as_aux_lemma =>
        obtain rfl := Option.some.inj ho
        intro x wx done hj hdn hcl hrest hd
        refine o_of_j (J := fun w' => Below wx.heap.size wx w') ?_ (fun v w' _ hb => hj.skip hb (by decide))
        have h0 : x.tmps.getD 45 undef = .agg #[.bool s.b0, .bool s.b1, .bool s.b2, .bool s.b3, .bool s.b4, .bool s.b5, .bool s.b6, .bool s.b7] := (hd 19 (by decide)).2
        have h1 : x.tmps.getD 46 undef = .agg #[.bool o.b0, .bool o.b1, .bool o.b2, .bool o.b3, .bool o.b4, .bool o.b5, .bool o.b6, .bool o.b7] := (hd 20 (by decide)).2
        simp [execOp, Act.eval, h0, h1, go_sem]
        exact j_call0 (or_any s o wx)
    | 22, ho =>
      as_aux_lemma =>
        obtain rfl := Option.some.inj ho
        intro x wx done hj hdn hcl hrest hd
        have h24 : done 24 = false := Bool.eq_false_iff.2 fun h => by rw [hcl 24 _ rfl h 22 (by decide)] at hdn; cases hdn
        have h26 : done 26 = false := Bool.eq_false_iff.2 fun h => by rw [hcl 26 _ rfl h 24 (by decide)] at h24; cases h24
        refine oUpon_ok (u := .slice (some ⟨wx.heap.size, 0, none⟩) 0 0) (w' := wx.alloc (.cells #[] 3)) (by simp [execOp, Act.eval, go_sem]) trivial ?_
        exact hj.made h24 h26 rfl (World.ownsRow_lit wx #[] 0 hj.below.size (by decide) rfl)
    | 23, ho =>
      as_aux_lemma =>
        obtain rfl := Option.some.inj ho
        intro x wx done hj hdn hcl hrest hd
        refine o_of_j (J := fun w' => Below wx.heap.size wx w') ?_ (fun v w' _ hb => hj.skip hb (by decide))
        have h : x.tmps.getD 0 undef = .slice a zs.length cap := hrest 0 (by decide)
        exact ⟨h, Below.refl _ _⟩
    | 24, ho =>
      as_aux_lemma =>
        obtain rfl := Option.some.inj ho
        intro x wx done hj hdn hcl hrest hd
        have h1 : x.tmps.getD 49 undef = .slice a zs.length cap := (hd 23 (by decide)).2
        have hown : wx.ownsRow _ 3 1 (x.tmps.getD 48 undef) 0 [] := hj.r22 (hd 22 (by decide)).1 hdn
        have h26 : done 26 = false := Bool.eq_false_iff.2 fun h => by rw [hcl 26 _ rfl h 24 (by decide)] at hdn; cases hdn
        obtain ⟨v', w', hrun, hown', hg⟩ := append_came wx _ _ 0 [] hown _ _ _ cap zs (HZ.out.below hj.below) (by have h := HZL.out; omega) hj.below.size
        refine oUpon_ok (u := v') (w' := w') (run_append_op (s := .tmp 48) rfl rfl rfl (show x.eval (.tmp 49) = _ from h1) hrun) trivial ?_
        exact JR.first h26 rfl (hj.below.grown hg hj.below.size fun k e => (hown.lt k e).1) (by simpa using hown')
    | 25, ho =>
      as_aux_lemma =>
        obtain rfl := Option.some.inj ho
        intro x wx done hj hdn hcl hrest hd
        refine o_of_j (J := fun w' => Below wx.heap.size wx w') ?_ (fun v w' _ hb => hj.skip hb (by decide))
        have h : x.tmps.getD 1 undef = .slice a2 ys.length cap2 := hrest 1 (by decide)
        exact ⟨h, Below.refl _ _⟩
    | 26, ho =>
      as_aux_lemma =>
        obtain rfl := Option.some.inj ho
        intro x wx done hj hdn hcl hrest hd
        have h1 : x.tmps.getD 51 undef = .slice a2 ys.length cap2 := (hd 25 (by decide)).2
        have hown : wx.ownsRow _ 3 1 (x.tmps.getD 50 undef) zs.length (zs.map (.int .i64)) := hj.r24 (hd 24 (by decide)).1 hdn
        obtain ⟨v', w', hrun, hown', hg⟩ := append_came wx _ _ zs.length _ hown _ _ _ cap2 ys (HY.out.below hj.below) (by have h := HZL.out; have h2 := HYL.out; omega) hj.below.size
        refine oUpon_ok (u := v') (w' := w') (run_append_op (s := .tmp 50) rfl rfl rfl (show x.eval (.tmp 51) = _ from h1) hrun) trivial ?_
        exact JR.second (hd 24 (by decide)).1 rfl (hj.below.grown hg hj.below.size fun k e => (hown.lt k e).1) (by simpa using hown')
    | 27, ho =>
      as_aux_lemma =>
        obtain rfl := Option.some.inj ho
        intro x wx done hj hdn hcl hrest hd
        refine o_of_j (J := fun w' => Below wx.heap.size wx w') ?_ (fun v w' _ hb => hj.skip hb (by decide))
        have hown : wx.ownsRow _ 3 1 (x.tmps.getD 52 undef) (zs.length + ys.length) ((zs ++ ys).map (.int .i64)) := hj.r26 (hd 26 (by decide)).1
        obtain ⟨a3, b3, cap3, e3, ha3, hb3, hc3, _⟩ := lies_of_owns (zs := zs ++ ys) (by simpa using hown)
        have hcm : CameI wx a3 b3 0 (zs ++ ys) := ⟨ha3, hb3, by have h := HZL.out; have h2 := HYL.out; simp; omega, hc3⟩
        simp [execOp, Act.eval, e3, go_sem]
        exact j_call0 (by have h := hcm.of cap3; rw [ofL_append, HS.out, HO.out] at h; simpa using h)
    | 28, ho =>
      as_aux_lemma =>
        obtain rfl := Option.some.inj ho
        intro x wx done hj hdn hcl hrest hd
        refine o_of_j (J := fun w' => Below wx.heap.size wx w') ?_ (fun v w' _ hb => hj.skip hb (by decide))
        have h0 : x.tmps.getD 47 undef = .agg #[.bool (orS s o).b0, .bool (orS s o).b1, .bool (orS s o).b2, .bool (orS s o).b3, .bool (orS s o).b4, .bool (orS s o).b5, .bool (orS s o).b6, .bool (orS s o).b7] := (hd 21 (by decide)).2
        have h1 : x.tmps.getD 53 undef = .agg #[.bool (orS s o).b0, .bool (orS s o).b1, .bool (orS s o).b2, .bool (orS s o).b3, .bool (orS s o).b4, .bool (orS s o).b5, .bool (orS s o).b6, .bool (orS s o).b7] := (hd 27 (by decide)).2
        simp [execOp, Act.eval, h0, h1, go_sem]
        exact ⟨rfl, Below.refl _ _⟩
    | 29, ho =>
      as_aux_lemma =>
        obtain rfl := Option.some.inj ho
        intro x wx done hj hdn hcl hrest hd
        refine o_of_j (J := fun w' => Below wx.heap.size wx w') ?_ (fun v w' _ hb => hj.skip hb (by decide))
        have h0 : x.tmps.getD 44 undef = .bool false := (hd 18 (by decide)).2
        have h1 : x.tmps.getD 54 undef = .bool false := (hd 28 (by decide)).2
        simp [execOp, Act.eval, h0, h1, go_sem]
        exact ⟨rfl, Below.refl _ _⟩
    | n + 30, ho => cases ho
  · intro tm vals wE hsz hfr hvs hj
    have hsz : tm.size = 105 := hsz
    have e7 : tm.getD 7 undef = .pointer (some ⟨w3.heap.size, 0, none⟩) := (hfr 7 (by decide)).trans rfl
    have e8 : tm.getD 8 undef = .pointer (some ⟨w3.heap.size + 1, 0, none⟩) := (hfr 8 (by decide)).trans rfl
    have e2 : tm.getD 2 undef = .int .i64 x_ := (hfr 2 (by decide)).trans rfl
    have h55 : tm.getD 55 undef = .bool false := (hvs (29, 55) (by decide)).1.trans (hvs (29, 55) (by decide)).2
    have HBE := Lib.hid hj.below
    have HE := Lib.hid (And.intro e2 (And.intro e7 (And.intro e8 hsz)))
    clear e7 e8 e2 hsz hfr hvs hj
    generalize hsx : s.get x_ = sx
    generalize hox : o.get x_ = ox
    have HSX := Lib.hid hsx
    have HOX := Lib.hid hox
    clear hsx hox
    go_wp2_with fail
    refine wp_cond_false (show Act.eval { tmps := tm, defers := [] } (.tmp 55) = .bool false from h55) ?_
    go_wp2_with fail
    obtain ⟨e2, e7, e8, hsz⟩ := HE.out
    refine wp_region_keep (V6 s o x_ sx ox) (BJ ((w3.alloc (.cells #[.bool s.b0, .bool s.b1, .bool s.b2, .bool s.b3, .bool s.b4, .bool s.b5, .bool s.b6, .bool s.b7] 27)).alloc (.cells #[.bool o.b0, .bool o.b1, .bool o.b2, .bool o.b3, .bool o.b4, .bool o.b5, .bool o.b6, .bool o.b7] 27))) (LV sx) [56, 57, 58, 59, 60, 61, 62, 63, 64, 65, 66, 67, 68, 69, 70, 71, 72, 73, 74, 75, 76, 77, 78, 79, 80, 81, 82, 83, 84, 85, 86, 87, 88, 89, 90, 91, 92, 93, 94, 95, 96, 97, 98, 99, 100, 101, 102, 103, 104, 6] 49 (by decide) (GuardsJ.tellL [(8, sx), (14, true), (23, sx), (31, true), (42, true)] (by cases sx <;> kernel_rfl) (by
      intro p hp v h
      simp only [List.mem_cons, List.not_mem_nil, or_false] at hp
      rcases hp with rfl | rfl | rfl | rfl | rfl <;> exact h) (fun i hi => ⟨by
        unfold LV at hi
        split at hi
        all_goals first | (cases hi; done) | (intro h; rw [h] at hi; cases hi), fun _ _ h => h⟩)) (by kernel_rfl) (by rw [hsz]; kernel_rfl) (by kernel_rfl) (by decide) (by rw [hsz]; kernel_rfl) HBE.out.drew ?_ ?_
    · intro i' ob ho hlive
      match i', ho with
      | 0, ho =>
        as_aux_lemma =>
          obtain rfl := Option.some.inj ho
          intro x wx done hj hdn hrest hd
          have h : x.tmps.getD 7 undef = .pointer (some ⟨w3.heap.size, 0, none⟩) := (hrest 7 (by decide)).trans e7
          obtain ⟨t0, t1, t2, t3, t4, t5, t6, t7, _⟩ := (HP.out.below hj HP.out.lt).cells
          simp [execOp, Act.eval, h, go_sem, t0, t1, t2, t3, t4, t5, t6, t7]
          exact ⟨rfl, hj⟩
      | 1, ho =>
        as_aux_lemma =>
          obtain rfl := Option.some.inj ho
          intro x wx done hj hdn hrest hd
          have h : x.tmps.getD 8 undef = .pointer (some ⟨w3.heap.size + 1, 0, none⟩) := (hrest 8 (by decide)).trans e8
          obtain ⟨t0, t1, t2, t3, t4, t5, t6, t7, _⟩ := (HQ.out.below hj HQ.out.lt).cells
          simp [execOp, Act.eval, h, go_sem, t0, t1, t2, t3, t4, t5, t6, t7]
          exact ⟨rfl, hj⟩
      | 2, ho =>
        as_aux_lemma =>
          obtain rfl := Option.some.inj ho
          intro x wx done hj hdn hrest hd
          have h0 : x.tmps.getD 56 undef = .agg #[.bool s.b0, .bool s.b1, .bool s.b2, .bool s.b3, .bool s.b4, .bool s.b5, .bool s.b6, .bool s.b7] := (hd 0 (by decide)).2
          have h1 : x.tmps.getD 57 undef = .agg #[.bool o.b0, .bool o.b1, .bool o.b2, .bool o.b3, .bool o.b4, .bool o.b5, .bool o.b6, .bool o.b7] := (hd 1 (by decide)).2
          simp [execOp, Act.eval, h0, h1, go_sem]
          exact j_call1 hj (or_any s o wx)
      | 3, ho =>
        as_aux_lemma =>
          obtain rfl := Option.some.inj ho
          intro x wx done hj hdn hrest hd
          have h : x.tmps.getD 2 undef = .int .i64 x_ := (hrest 2 (by decide)).trans e2
          exact ⟨h, hj⟩
      | 4, ho =>
        as_aux_lemma =>
          obtain rfl := Option.some.inj ho
          intro x wx done hj hdn hrest hd
          have h0 : x.tmps.getD 58 undef = .agg #[.bool (orS s o).b0, .bool (orS s o).b1, .bool (orS s o).b2, .bool (orS s o).b3, .bool (orS s o).b4, .bool (orS s o).b5, .bool (orS s o).b6, .bool (orS s o).b7] := (hd 2 (by decide)).2
          have h1 : x.tmps.getD 59 undef = .int .i64 x_ := (hd 3 (by decide)).2
          simp [execOp, Act.eval, h0, h1, go_sem]
          exact j_call1 hj (by have h := has_any (orS s o) wx x_; rw [or_get, HSX.out, HOX.out] at h; exact h)
      | 5, ho =>
        as_aux_lemma =>
          obtain rfl := Option.some.inj ho
          intro x wx done hj hdn hrest hd
          have h : x.tmps.getD 7 undef = .pointer (some ⟨w3.heap.size, 0, none⟩) := (hrest 7 (by decide)).trans e7
          obtain ⟨t0, t1, t2, t3, t4, t5, t6, t7, _⟩ := (HP.out.below hj HP.out.lt).cells
          simp [execOp, Act.eval, h, go_sem, t0, t1, t2, t3, t4, t5, t6, t7]
          exact ⟨rfl, hj⟩
      | 6, ho =>
        as_aux_lemma =>
          obtain rfl := Option.some.inj ho
          intro x wx done hj hdn hrest hd
          have h : x.tmps.getD 2 undef = .int .i64 x_ := (hrest 2 (by decide)).trans e2
          exact ⟨h, hj⟩
      | 7, ho =>
        as_aux_lemma =>
          obtain rfl := Option.some.inj ho
          intro x wx done hj hdn hrest hd
          have h0 : x.tmps.getD 61 undef = .agg #[.bool s.b0, .bool s.b1, .bool s.b2, .bool s.b3, .bool s.b4, .bool s.b5, .bool s.b6, .bool s.b7] := (hd 5 (by decide)).2
          have h1 : x.tmps.getD 62 undef = .int .i64 x_ := (hd 6 (by decide)).2
          simp [execOp, Act.eval, h0, h1, go_sem]
          exact j_call1 hj (by have h := has_any s wx x_; rw [HSX.out] at h; exact h)
      | 8, ho =>
        as_aux_lemma =>
          obtain rfl := Option.some.inj ho
          intro x wx done hj hdn hrest hd
          have h : x.tmps.getD 63 undef = .bool sx := (hd 7 (by decide)).2
          exact ⟨h, hj⟩
      | 9, ho =>
        as_aux_lemma =>
          obtain rfl := Option.some.inj ho
          have hs : sx = false := by simpa [LV] using hlive
          intro x wx done hj hdn hrest hd
          have h : x.tmps.getD 8 undef = .pointer (some ⟨w3.heap.size + 1, 0, none⟩) := (hrest 8 (by decide)).trans e8
          obtain ⟨t0, t1, t2, t3, t4, t5, t6, t7, _⟩ := (HQ.out.below hj HQ.out.lt).cells
          simp [execOp, Act.eval, h, go_sem, t0, t1, t2, t3, t4, t5, t6, t7]
          exact ⟨fun _ => rfl, hj⟩
      | 10, ho =>
        as_aux_lemma =>
          obtain rfl := Option.some.inj ho
          have hs : sx = false := by simpa [LV] using hlive
          intro x wx done hj hdn hrest hd
          have h : x.tmps.getD 2 undef = .int .i64 x_ := (hrest 2 (by decide)).trans e2
          exact ⟨fun _ => h, hj⟩
      | 11, ho =>
        as_aux_lemma =>
          obtain rfl := Option.some.inj ho
          have hs : sx = false := by simpa [LV] using hlive
          intro x wx done hj hdn hrest hd
          have h0 : x.tmps.getD 65 undef = .agg #[.bool o.b0, .bool o.b1, .bool o.b2, .bool o.b3, .bool o.b4, .bool o.b5, .bool o.b6, .bool o.b7] := (hd 9 (by decide)).2 hs
          have h1 : x.tmps.getD 66 undef = .int .i64 x_ := (hd 10 (by decide)).2 hs
          simp [execOp, Act.eval, h0, h1, go_sem]
          exact j_call1 (hV := fun _ => rfl) hj (by have h := has_any o wx x_; rw [HOX.out] at h; exact h)
      | 12, ho =>
        as_aux_lemma =>
          obtain rfl := Option.some.inj ho
          intro x wx done hj hdn hrest hd
          cases sx with
          | true =>
            have h0 : x.tmps.getD 64 undef = .bool true := (hd 8 (by decide)).2
            simp [execOp, Act.eval, h0, go_sem]
            exact ⟨rfl, hj⟩
          | false =>
            have h0 : x.tmps.getD 64 undef = .bool false := (hd 8 (by decide)).2
            have h1 : x.tmps.getD 67 undef = .bool ox := (hd 11 (by decide)).2 rfl
            simp [execOp, Act.eval, h0, h1, go_sem]
            exact ⟨rfl, hj⟩
      | 13, ho =>
        as_aux_lemma =>
          obtain rfl := Option.some.inj ho
          intro x wx done hj hdn hrest hd
          have h0 : x.tmps.getD 60 undef = .bool (sx || ox) := (hd 4 (by decide)).2
          have h1 : x.tmps.getD 68 undef = .bool (sx || ox) := (hd 12 (by decide)).2
          simp [execOp, Act.eval, h0, h1, go_sem]
          exact ⟨rfl, hj⟩
      | 14, ho =>
        as_aux_lemma =>
          obtain rfl := Option.some.inj ho
          intro x wx done hj hdn hrest hd
          have h : x.tmps.getD 69 undef = .bool true := (hd 13 (by decide)).2
          exact ⟨h, hj⟩
      | 15, ho =>
        as_aux_lemma =>
          obtain rfl := Option.some.inj ho
          intro x wx done hj hdn hrest hd
          have h : x.tmps.getD 7 undef = .pointer (some ⟨w3.heap.size, 0, none⟩) := (hrest 7 (by decide)).trans e7
          obtain ⟨t0, t1, t2, t3, t4, t5, t6, t7, _⟩ := (HP.out.below hj HP.out.lt).cells
          simp [execOp, Act.eval, h, go_sem, t0, t1, t2, t3, t4, t5, t6, t7]
          exact ⟨rfl, hj⟩
      | 16, ho =>
        as_aux_lemma =>
          obtain rfl := Option.some.inj ho
          intro x wx done hj hdn hrest hd
          have h : x.tmps.getD 8 undef = .pointer (some ⟨w3.heap.size + 1, 0, none⟩) := (hrest 8 (by decide)).trans e8
          obtain ⟨t0, t1, t2, t3, t4, t5, t6, t7, _⟩ := (HQ.out.below hj HQ.out.lt).cells
          simp [execOp, Act.eval, h, go_sem, t0, t1, t2, t3, t4, t5, t6, t7]
          exact ⟨rfl, hj⟩
      | 17, ho =>
        as_aux_lemma =>
          obtain rfl := Option.some.inj ho
          intro x wx done hj hdn hrest hd
          have h0 : x.tmps.getD 71 undef = .agg #[.bool s.b0, .bool s.b1, .bool s.b2, .bool s.b3, .bool s.b4, .bool s.b5, .bool s.b6, .bool s.b7] := (hd 15 (by decide)).2
          have h1 : x.tmps.getD 72 undef = .agg #[.bool o.b0, .bool o.b1, .bool o.b2, .bool o.b3, .bool o.b4, .bool o.b5, .bool o.b6, .bool o.b7] := (hd 16 (by decide)).2
          simp [execOp, Act.eval, h0, h1, go_sem]
          exact j_call1 hj (but_any s o wx)
      | 18, ho =>
        as_aux_lemma =>
          obtain rfl := Option.some.inj ho
          intro x wx done hj hdn hrest hd
          have h : x.tmps.getD 2 undef = .int .i64 x_ := (hrest 2 (by decide)).trans e2
          exact ⟨h, hj⟩
      | 19, ho =>
        as_aux_lemma =>
          obtain rfl := Option.some.inj ho
          intro x wx done hj hdn hrest hd
          have h0 : x.tmps.getD 73 undef = .agg #[.bool (butS s o).b0, .bool (butS s o).b1, .bool (butS s o).b2, .bool (butS s o).b3, .bool (butS s o).b4, .bool (butS s o).b5, .bool (butS s o).b6, .bool (butS s o).b7] := (hd 17 (by decide)).2
          have h1 : x.tmps.getD 74 undef = .int .i64 x_ := (hd 18 (by decide)).2
          simp [execOp, Act.eval, h0, h1, go_sem]
          exact j_call1 hj (by have h := has_any (butS s o) wx x_; rw [but_get, HSX.out, HOX.out] at h; exact h)
      | 20, ho =>
        as_aux_lemma =>
          obtain rfl := Option.some.inj ho
          intro x wx done hj hdn hrest hd
          have h : x.tmps.getD 7 undef = .pointer (some ⟨w3.heap.size, 0, none⟩) := (hrest 7 (by decide)).trans e7
          obtain ⟨t0, t1, t2, t3, t4, t5, t6, t7, _⟩ := (HP.out.below hj HP.out.lt).cells
          simp [execOp, Act.eval, h, go_sem, t0, t1, t2, t3, t4, t5, t6, t7]
          exact ⟨rfl, hj⟩
      | 21, ho =>
        as_aux_lemma =>
          obtain rfl := Option.some.inj ho
          intro x wx done hj hdn hrest hd
          have h : x.tmps.getD 2 undef = .int .i64 x_ := (hrest 2 (by decide)).trans e2
          exact ⟨h, hj⟩
      | 22, ho =>
        as_aux_lemma =>
          obtain rfl := Option.some.inj ho
          intro x wx done hj hdn hrest hd
          have h0 : x.tmps.getD 76 undef = .agg #[.bool s.b0, .bool s.b1, .bool s.b2, .bool s.b3, .bool s.b4, .bool s.b5, .bool s.b6, .bool s.b7] := (hd 20 (by decide)).2
          have h1 : x.tmps.getD 77 undef = .int .i64 x_ := (hd 21 (by decide)).2
          simp [execOp, Act.eval, h0, h1, go_sem]
          exact j_call1 hj (by have h := has_any s wx x_; rw [HSX.out] at h; exact h)
      | 23, ho =>
        as_aux_lemma =>
          obtain rfl := Option.some.inj ho
          intro x wx done hj hdn hrest hd
          have h : x.tmps.getD 78 undef = .bool sx := (hd 22 (by decide)).2
          exact ⟨h, hj⟩
      | 24, ho =>
        as_aux_lemma =>
          obtain rfl := Option.some.inj ho
          have hs : sx = true := by simpa [LV] using hlive
          intro x wx done hj hdn hrest hd
          have h : x.tmps.getD 8 undef = .pointer (some ⟨w3.heap.size + 1, 0, none⟩) := (hrest 8 (by decide)).trans e8
          obtain ⟨t0, t1, t2, t3, t4, t5, t6, t7, _⟩ := (HQ.out.below hj HQ.out.lt).cells
          simp [execOp, Act.eval, h, go_sem, t0, t1, t2, t3, t4, t5, t6, t7]
          exact ⟨fun _ => rfl, hj⟩
      | 25, ho =>
        as_aux_lemma =>
          obtain rfl := Option.some.inj ho
          have hs : sx = true := by simpa [LV] using hlive
          intro x wx done hj hdn hrest hd
          have h : x.tmps.getD 2 undef = .int .i64 x_ := (hrest 2 (by decide)).trans e2
          exact ⟨fun _ => h, hj⟩
      | 26, ho =>
        as_aux_lemma =>
          obtain rfl := Option.some.inj ho
          have hs : sx = true := by simpa [LV] using hlive
          intro x wx done hj hdn hrest hd
          have h0 : x.tmps.getD 80 undef = .agg #[.bool o.b0, .bool o.b1, .bool o.b2, .bool o.b3, .bool o.b4, .bool o.b5, .bool o.b6, .bool o.b7] := (hd 24 (by decide)).2 hs
          have h1 : x.tmps.getD 81 undef = .int .i64 x_ := (hd 25 (by decide)).2 hs
          simp [execOp, Act.eval, h0, h1, go_sem]
          exact j_call1 (hV := fun _ => rfl) hj (by have h := has_any o wx x_; rw [HOX.out] at h; exact h)
      | 27, ho =>
        as_aux_lemma =>
          obtain rfl := Option.some.inj ho
          have hs : sx = true := by simpa [LV] using hlive
          intro x wx done hj hdn hrest hd
          have h0 : x.tmps.getD 82 undef = .bool ox := (hd 26 (by decide)).2 hs
          simp [execOp, Act.eval, h0, go_sem]
          exact ⟨fun _ => rfl, hj⟩
      | 28, ho =>
        as_aux_lemma =>
          obtain rfl := Option.some.inj ho
          intro x wx done hj hdn hrest hd
          cases sx with
          | false =>
            have h0 : x.tmps.getD 79 undef = .bool false := (hd 23 (by decide)).2
            simp [execOp, Act.eval, h0, go_sem]
            exact ⟨rfl, hj⟩
          | true =>
            have h0 : x.tmps.getD 79 undef = .bool true := (hd 23 (by decide)).2
            have h1 : x.tmps.getD 83 undef = .bool (!ox) := (hd 27 (by decide)).2 rfl
            simp [execOp, Act.eval, h0, h1, go_sem]
            exact ⟨rfl, hj⟩
      | 29, ho =>
        as_aux_lemma =>
          obtain rfl := Option.some.inj ho
          intro x wx done hj hdn hrest hd
          have h0 : x.tmps.getD 75 undef = .bool (sx && !ox) := (hd 19 (by decide)).2
          have h1 : x.tmps.getD 84 undef = .bool (sx && !ox) := (hd 28 (by decide)).2
          simp [execOp, Act.eval, h0, h1, go_sem]
          exact ⟨rfl, hj⟩
      | 30, ho =>
        as_aux_lemma =>
          obtain rfl := Option.some.inj ho
          intro x wx done hj hdn hrest hd
          have h0 : x.tmps.getD 70 undef = .bool true := (hd 14 (by decide)).2
          have h1 : x.tmps.getD 85 undef = .bool true := (hd 29 (by decide)).2
          simp [execOp, Act.eval, h0, h1, go_sem]
          exact ⟨rfl, hj⟩
      | 31, ho =>
        as_aux_lemma =>
          obtain rfl := Option.some.inj ho
          intro x wx done hj hdn hrest hd
          have h : x.tmps.getD 86 undef = .bool true := (hd 30 (by decide)).2
          exact ⟨h, hj⟩
      | 32, ho =>
        as_aux_lemma =>
          obtain rfl := Option.some.inj ho
          intro x wx done hj hdn hrest hd
          have h : x.tmps.getD 7 undef = .pointer (some ⟨w3.heap.size, 0, none⟩) := (hrest 7 (by decide)).trans e7
          obtain ⟨t0, t1, t2, t3, t4, t5, t6, t7, _⟩ := (HP.out.below hj HP.out.lt).cells
          simp [execOp, Act.eval, h, go_sem, t0, t1, t2, t3, t4, t5, t6, t7]
          exact ⟨rfl, hj⟩
      | 33, ho =>
        as_aux_lemma =>
          obtain rfl := Option.some.inj ho
          intro x wx done hj hdn hrest hd
          have h : x.tmps.getD 8 undef = .pointer (some ⟨w3.heap.size + 1, 0, none⟩) := (hrest 8 (by decide)).trans e8
          obtain ⟨t0, t1, t2, t3, t4, t5, t6, t7, _⟩ := (HQ.out.below hj HQ.out.lt).cells
          simp [execOp, Act.eval, h, go_sem, t0, t1, t2, t3, t4, t5, t6, t7]
          exact ⟨rfl, hj⟩
      | 34, ho =>
        as_aux_lemma =>
          obtain rfl := Option.some.inj ho
          intro x wx done hj hdn hrest hd
          have h0 : x.tmps.getD 88 undef = .agg #[.bool s.b0, .bool s.b1, .bool s.b2, .bool s.b3, .bool s.b4, .bool s.b5, .bool s.b6, .bool s.b7] := (hd 32 (by decide)).2
          have h1 : x.tmps.getD 89 undef = .agg #[.bool o.b0, .bool o.b1, .bool o.b2, .bool o.b3, .bool o.b4, .bool o.b5, .bool o.b6, .bool o.b7] := (hd 33 (by decide)).2
          simp [execOp, Act.eval, h0, h1, go_sem]
          exact j_call1 hj (but_any s o wx)
      | 35, ho =>
        as_aux_lemma =>
          obtain rfl := Option.some.inj ho
          intro x wx done hj hdn hrest hd
          have h : x.tmps.getD 8 undef = .pointer (some ⟨w3.heap.size + 1, 0, none⟩) := (hrest 8 (by decide)).trans e8
          obtain ⟨t0, t1, t2, t3, t4, t5, t6, t7, _⟩ := (HQ.out.below hj HQ.out.lt).cells
          simp [execOp, Act.eval, h, go_sem, t0, t1, t2, t3, t4, t5, t6, t7]
          exact ⟨rfl, hj⟩
      | 36, ho =>
        as_aux_lemma =>
          obtain rfl := Option.some.inj ho
          intro x wx done hj hdn hrest hd
          have h0 : x.tmps.getD 90 undef = .agg #[.bool (butS s o).b0, .bool (butS s o).b1, .bool (butS s o).b2, .bool (butS s o).b3, .bool (butS s o).b4, .bool (butS s o).b5, .bool (butS s o).b6, .bool (butS s o).b7] := (hd 34 (by decide)).2
          have h1 : x.tmps.getD 91 undef = .agg #[.bool o.b0, .bool o.b1, .bool o.b2, .bool o.b3, .bool o.b4, .bool o.b5, .bool o.b6, .bool o.b7] := (hd 35 (by decide)).2
          simp [execOp, Act.eval, h0, h1, go_sem]
          exact j_call1 hj (by have h := or_any (butS s o) o wx; rw [but_or] at h; exact h)
      | 37, ho =>
        as_aux_lemma =>
          obtain rfl := Option.some.inj ho
          intro x wx done hj hdn hrest hd
          have h : x.tmps.getD 7 undef = .pointer (some ⟨w3.heap.size, 0, none⟩) := (hrest 7 (by decide)).trans e7
          obtain ⟨t0, t1, t2, t3, t4, t5, t6, t7, _⟩ := (HP.out.below hj HP.out.lt).cells
          simp [execOp, Act.eval, h, go_sem, t0, t1, t2, t3, t4, t5, t6, t7]
          exact ⟨rfl, hj⟩
      | 38, ho =>
        as_aux_lemma =>
          obtain rfl := Option.some.inj ho
          intro x wx done hj hdn hrest hd
          have h : x.tmps.getD 8 undef = .pointer (some ⟨w3.heap.size + 1, 0, none⟩) := (hrest 8 (by decide)).trans e8
          obtain ⟨t0, t1, t2, t3, t4, t5, t6, t7, _⟩ := (HQ.out.below hj HQ.out.lt).cells
          simp [execOp, Act.eval, h, go_sem, t0, t1, t2, t3, t4, t5, t6, t7]
          exact ⟨rfl, hj⟩
      | 39, ho =>
        as_aux_lemma =>
          obtain rfl := Option.some.inj ho
          intro x wx done hj hdn hrest hd
          have h0 : x.tmps.getD 93 undef = .agg #[.bool s.b0, .bool s.b1, .bool s.b2, .bool s.b3, .bool s.b4, .bool s.b5, .bool s.b6, .bool s.b7] := (hd 37 (by decide)).2
          have h1 : x.tmps.getD 94 undef = .agg #[.bool o.b0, .bool o.b1, .bool o.b2, .bool o.b3, .bool o.b4, .bool o.b5, .bool o.b6, .bool o.b7] := (hd 38 (by decide)).2
          simp [execOp, Act.eval, h0, h1, go_sem]
          exact j_call1 hj (or_any s o wx)
      | 40, ho =>
        as_aux_lemma =>
          obtain rfl := Option.some.inj ho
          intro x wx done hj hdn hrest hd
          have h0 : x.tmps.getD 92 undef = .agg #[.bool (orS s o).b0, .bool (orS s o).b1, .bool (orS s o).b2, .bool (orS s o).b3, .bool (orS s o).b4, .bool (orS s o).b5, .bool (orS s o).b6, .bool (orS s o).b7] := (hd 36 (by decide)).2
          have h1 : x.tmps.getD 95 undef = .agg #[.bool (orS s o).b0, .bool (orS s o).b1, .bool (orS s o).b2, .bool (orS s o).b3, .bool (orS s o).b4, .bool (orS s o).b5, .bool (orS s o).b6, .bool (orS s o).b7] := (hd 39 (by decide)).2
          simp [execOp, Act.eval, h0, h1, go_sem]
          exact ⟨rfl, hj⟩
      | 41, ho =>
        as_aux_lemma =>
          obtain rfl := Option.some.inj ho
          intro x wx done hj hdn hrest hd
          have h0 : x.tmps.getD 87 undef = .bool true := (hd 31 (by decide)).2
          have h1 : x.tmps.getD 96 undef = .bool true := (hd 40 (by decide)).2
          simp [execOp, Act.eval, h0, h1, go_sem]
          exact ⟨rfl, hj⟩
      | 42, ho =>
        as_aux_lemma =>
          obtain rfl := Option.some.inj ho
          intro x wx done hj hdn hrest hd
          have h : x.tmps.getD 97 undef = .bool true := (hd 41 (by decide)).2
          exact ⟨h, hj⟩
      | 43, ho =>
        as_aux_lemma =>
          obtain rfl := Option.some.inj ho
          intro x wx done hj hdn hrest hd
          have h : x.tmps.getD 7 undef = .pointer (some ⟨w3.heap.size, 0, none⟩) := (hrest 7 (by decide)).trans e7
          obtain ⟨t0, t1, t2, t3, t4, t5, t6, t7, _⟩ := (HP.out.below hj HP.out.lt).cells
          simp [execOp, Act.eval, h, go_sem, t0, t1, t2, t3, t4, t5, t6, t7]
          exact ⟨rfl, hj⟩
      | 44, ho =>
        as_aux_lemma =>
          obtain rfl := Option.some.inj ho
          intro x wx done hj hdn hrest hd
          have h : x.tmps.getD 7 undef = .pointer (some ⟨w3.heap.size, 0, none⟩) := (hrest 7 (by decide)).trans e7
          obtain ⟨t0, t1, t2, t3, t4, t5, t6, t7, _⟩ := (HP.out.below hj HP.out.lt).cells
          simp [execOp, Act.eval, h, go_sem, t0, t1, t2, t3, t4, t5, t6, t7]
          exact ⟨rfl, hj⟩
      | 45, ho =>
        as_aux_lemma =>
          obtain rfl := Option.some.inj ho
          intro x wx done hj hdn hrest hd
          have h0 : x.tmps.getD 99 undef = .agg #[.bool s.b0, .bool s.b1, .bool s.b2, .bool s.b3, .bool s.b4, .bool s.b5, .bool s.b6, .bool s.b7] := (hd 43 (by decide)).2
          have h1 : x.tmps.getD 100 undef = .agg #[.bool s.b0, .bool s.b1, .bool s.b2, .bool s.b3, .bool s.b4, .bool s.b5, .bool s.b6, .bool s.b7] := (hd 44 (by decide)).2
          simp [execOp, Act.eval, h0, h1, go_sem]
          exact j_call1 hj (by have h := but_any s s wx; rw [but_self] at h; exact h)
      | 46, ho =>
        as_aux_lemma =>
          obtain rfl := Option.some.inj ho
          intro x wx done hj hdn hrest hd
          simp [execOp, Act.eval, go_sem]
          exact ⟨rfl, hj⟩
      | 47, ho =>
        as_aux_lemma =>
          obtain rfl := Option.some.inj ho
          intro x wx done hj hdn hrest hd
          have h0 : x.tmps.getD 101 undef = .agg #[.bool B8.zero.b0, .bool B8.zero.b1, .bool B8.zero.b2, .bool B8.zero.b3, .bool B8.zero.b4, .bool B8.zero.b5, .bool B8.zero.b6, .bool B8.zero.b7] := (hd 45 (by decide)).2
          have h1 : x.tmps.getD 102 undef = .agg #[.bool B8.zero.b0, .bool B8.zero.b1, .bool B8.zero.b2, .bool B8.zero.b3, .bool B8.zero.b4, .bool B8.zero.b5, .bool B8.zero.b6, .bool B8.zero.b7] := (hd 46 (by decide)).2
          simp [execOp, Act.eval, h0, h1, go_sem]
          exact ⟨rfl, hj⟩
      | 48, ho =>
        as_aux_lemma =>
          obtain rfl := Option.some.inj ho
          intro x wx done hj hdn hrest hd
          have h0 : x.tmps.getD 98 undef = .bool true := (hd 42 (by decide)).2
          have h1 : x.tmps.getD 103 undef = .bool true := (hd 47 (by decide)).2
          simp [execOp, Act.eval, h0, h1, go_sem]
          exact ⟨rfl, hj⟩
      | 49, ho =>
        as_aux_lemma =>
          obtain rfl := Option.some.inj ho
          intro x wx done hj hdn hrest hd
          have h : x.tmps.getD 104 undef = .bool true := (hd 48 (by decide)).2
          exact ⟨h, hj⟩
      | n + 50, ho => cases ho
    · intro tm2 wF _ _ h6 hj
      have h6' : tm2.getD 6 undef = .bool true := h6
      have HBX := Lib.hid hj
      rw [Array.getD_eq_getD_getElem?] at h6'
      clear h6 hj
      go_wp2
      exact bodyPost_ret (v := .bool true) (by simp [results, Try.results5, go_sem, h6']) rfl ⟨rfl, HBW.out.trans (HBX.out.mono HBW.out.size)⟩

end Go.Proofs.Ytpoelchjpnbgpaa
