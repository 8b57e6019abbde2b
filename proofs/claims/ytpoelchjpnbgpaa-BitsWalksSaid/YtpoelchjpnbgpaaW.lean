/- BitsWalks, plainly: the blocks of a set rise; what a walk that stopped says; the invariants. -/
import Derived.RangeFuncBox
import Derived.Test.YtpoelchjpnbgpaaJ
namespace Go.Proofs.Ytpoelchjpnbgpaa
open Go.RowKit Go.Sort

theorem elsTo_rise (s : B8) : ∀ k, (elsTo s k).Pairwise (· < ·)
  | 0 => List.Pairwise.nil
  | k + 1 => by
    rw [elsTo, List.pairwise_append]
    refine ⟨elsTo_rise s k, ?_, fun x hx y hy => ?_⟩
    · split
      · exact List.pairwise_singleton _ _
      · exact List.Pairwise.nil
    · have h1 := ((mem_elsTo s x k).1 hx).2.1
      split at hy
      · simp only [List.mem_cons, List.not_mem_nil, or_false] at hy
        subst hy
        exact h1
      · cases hy
theorem els_rise (s : B8) : (els s).Pairwise (· < ·) := elsTo_rise s 8
theorem ofL_els (s : B8) : ofL (els s) = s := B8.ext_get fun i => by
  rw [ofL_get, Bool.eq_iff_iff, decide_eq_true_iff, mem_els]
  constructor
  · exact fun h => h.1
  · intro h
    refine ⟨h, ?_⟩
    by_cases hr : i < 0 ∨ 8 ≤ i
    · rw [B8.get_out s i hr] at h
      cases h
    · omega
/-- The last isn't in the set, or doesn't rise. -/
def Bad (s : B8) (p : List Int) : Prop := ∃ pre x, p = pre ++ [x] ∧ (s.get x = false ∨ (0 < pre.length ∧ x ≤ iat pre (pre.length - 1)))
theorem not_bad {s : B8} {p : List Int} (hp : p <+: els s) : ¬ Bad s p := by
  rintro ⟨pre, x, rfl, h⟩
  have hsub := hp.sublist
  have hx : s.get x = true := (mem_els s x).1 (hsub.subset (by simp))
  rcases h with h | ⟨hl, h⟩
  · rw [hx] at h
    cases h
  · have hr := (els_rise s).sublist hsub
    rw [List.pairwise_append] at hr
    have := hr.2.2 (iat pre (pre.length - 1)) (iat_mem pre _ (by omega)) x (by simp)
    omega
theorem prefix_len {s : B8} {p : List Int} (hp : p <+: els s) : p.length ≤ (els s).length := hp.sublist.length_le

theorem boxed_below {W W' : World} {b : Nat} {t : TypeId} {v : Value} (h : Boxed W b t v) (hB : Below W.heap.size W W') : Boxed W' b t v := (hB.block b h.lt).trans h
theorem boxed_belowN {W W' : World} {n b : Nat} {t : TypeId} {v : Value} (h : Boxed W b t v) (hB : Below n W W') (hn : b < n) : Boxed W' b t v := (hB.block b hn).trans h
/-- What the last region keeps; behind its last operation the result's box holds true. -/
structure JW (w0 : World) (pm pr ps pg pn D1 D2 most : Nat) (s : B8) (a : Option Addr) (b cap : Nat) (L : List Int) (n : Nat) (done : Nat → Bool) (vals : Nat → Value) (w : World) : Prop where
  ent : Below w0.heap.size w0 w
  bm : Boxed w pm 5 (.int .u8 most)
  br : ∃ r, Boxed w pr 4 (.bool r)
  bs : BoxS w ps s
  bg : Boxed w pg 22 (.slice a L.length cap)
  bn : Boxed w pn 3 (.int .i64 n)
  came : CameI w a b 0 L
  d1 : w.heap[D1]? = some (.deferred (some []))
  d2 : w.heap[D2]? = some (.deferred (some []))
  fin : done 22 = true → Boxed w pr 4 (.bool true)
section
variable {w0 w w' : World} {pm pr ps pg pn D1 D2 most : Nat} {s : B8} {a : Option Addr} {b cap : Nat} {L : List Int} {n : Nat} {done done' : Nat → Bool} {vals vals' : Nat → Value}
theorem JW.keep (h : JW w0 pm pr ps pg pn D1 D2 most s a b cap L n done vals w) (hb : Below w.heap.size w w') (hd : done' 22 = true → done 22 = true) : JW w0 pm pr ps pg pn D1 D2 most s a b cap L n done' vals' w' :=
  ⟨h.ent.trans (hb.mono h.ent.size), boxed_below h.bm hb, h.br.imp fun _ q => boxed_below q hb, h.bs.below hb h.bs.lt, boxed_below h.bg hb, boxed_below h.bn hb, h.came.below hb, (hb.block _ (lt_of_block h.d1)).trans h.d1, (hb.block _ (lt_of_block h.d2)).trans h.d2, fun q => boxed_below (h.fin (hd q)) hb⟩
theorem JW.skip {i : Nat} (h : JW w0 pm pr ps pg pn D1 D2 most s a b cap L n done vals w) (hb : Below w.heap.size w w') (hi : i ≠ 22) : JW w0 pm pr ps pg pn D1 D2 most s a b cap L n (mark done i) vals' w' :=
  h.keep hb fun q => by
    unfold mark at q
    rw [if_neg (Ne.symm hi)] at q
    exact q
theorem JW.store (hA : w0.heap.size ≤ pr ∧ pr ≠ pm ∧ pr ≠ ps ∧ pr ≠ pg ∧ pr ≠ pn ∧ (0 < L.length → pr ≠ b) ∧ D1 ≠ pr ∧ D2 ≠ pr) (h : JW w0 pm pr ps pg pn D1 D2 most s a b cap L n done vals w) : JW w0 pm pr ps pg pn D1 D2 most s a b cap L n done' vals' (w.setCell ⟨pr, 0, none⟩ (.bool true)) := by
  obtain ⟨h0, h1, h2, h3, h4, h5, h7, h8⟩ := hA
  obtain ⟨r, hr⟩ := h.br
  have hf := hr.set (.bool true)
  have hg := grownBy_setCell' w pr (.bool true)
  refine ⟨h.ent.setCell (p := ⟨pr, 0, none⟩) h0 _, h.bm.other h1.symm _, ⟨true, hf⟩, ?_, h.bg.other h3.symm _, h.bn.other h4.symm _, ⟨h.came.1, fun q => ?_, h.came.2.2.1, fun k hk => ?_⟩, (Below.heap_setCell _ _ _ _ h7).trans h.d1, (Below.heap_setCell _ _ _ _ h8).trans h.d2, fun _ => hf⟩
  · exact (Below.heap_setCell _ _ _ _ h2.symm).trans h.bs
  · exact Nat.lt_of_lt_of_le (h.came.2.1 q) hg.size
  · have hp : 0 < L.length := by omega
    have h6 := h5 hp
    exact (hg.cell_far ⟨b, 0 + k, none⟩ (h.came.2.1 hp) (fun e => h6 (by injection e with e; exact e.symm))).trans (h.came.2.2.2 k hk)
end

end Go.Proofs.Ytpoelchjpnbgpaa
