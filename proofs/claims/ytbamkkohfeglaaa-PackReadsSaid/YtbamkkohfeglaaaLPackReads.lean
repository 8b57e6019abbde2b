/- Proved: the law PackReads returns true for every input, and its arguments read afterwards as they did. No condition. -/
import Derived.Test.YtbamkkohfeglaaaV
import Derived.Test.YtbamkkohfeglaaaP
import Derived.Test.YtbamkkohfeglaaaO
namespace Go.Proofs.Ytbamkkohfeglaaa
open Go.ChangeShapes Go.WideShapes Go.ChangeAt Go.RowKit

set_option maxRecDepth 100000 in
theorem PackReads_lifted (os : Os) (started : os.Started) (H : Type) (enc : TypeId × Value → H) :
    ReturnsInHanded {} Try.checked os 7 .any (Rows.packReadsSpec.pre6 enc Try.prog Try.f7 Rows.packReadsRow.domain false) (Rows.packReadsSpec.post enc Try.prog Try.f7 false true false false) := by
  refine returnsInHanded_of_change_sized (C := Try.checked) Try.own started (by kernel_rfl) Try.func7
    (ChangeSpec.witness6 (enc := enc) (C := Try.checked) false ⟨#[], #[.slice none 0 0, .slice none 0 0], []⟩ 8 (by kernel_rfl) (by kernel_rfl) (by kernel_rfl) (by kernel_rfl)) ?_
  intro W base args ds gs before hval0 hW hcnd hsz0 _
  have hval : ∀ (j : Nat) t v, Try.f7.params[j]? = some t → args[j]? = some v → Value.okWide Try.prog W .any base t v := hval0
  have hW' := hW
  obtain ⟨p, q, hA0, hV, rfl, hfz, hnd⟩ := hW
  have hA : DataW.TrodAll enc Try.prog W 0 (fun _ => true) true Try.f7.params.toList args.toList ds p := hA0
  rw [Try.params7] at hA hval
  obtain ⟨v0, vs0, d0, ds0, p0, q0, hargs, rfl, rfl, h0, r0⟩ := trodAll_cons hA
  obtain ⟨v1, vs1, d1, ds1, p1, q1, rfl, rfl, rfl, h1, r1⟩ := trodAll_cons r0
  obtain ⟨rfl, rfl, rfl⟩ := trodAll_nil r1
  obtain rfl : args = #[v0, v1] := by cases args; simp_all
  obtain ⟨rfl, rfl⟩ := trodVars_none hV
  have hsz : (DataW.weightsEach Try.prog ([22, 38] ++ Rows.packReadsSpec.plain.varTypes Try.prog) ([d0, d1] ++ [])).all (· ≤ reachBytes) = true := by have h := hsz0; rw [Try.params7] at h; exact h
  have lt0 : ∀ x ∈ p0, x.block < W.heap.size := by obtain ⟨m, hm⟩ := h0; exact DataW.trod_lt m _ _ _ hm
  obtain ⟨a0, c0, l0, rfl, came0, e0⟩ := came_bytes (hval 0 22 v0 rfl rfl) h0
  have g0 : l0.length ≤ 140737488351232 := by
    rcases e0 with e0 | ⟨es, sp, ed, e0⟩
    · omega
    · have h := sized_slice hsz (j := 0) (t := 22) (elems := es) (spare := sp) rfl (by rw [ed]; rfl) Try.underlying22
      rw [Try.bytes5, Nat.mul_one] at h
      unfold reachBytes at h
      omega
  have lt1 : ∀ x ∈ p1, x.block < W.heap.size := by obtain ⟨m, hm⟩ := h1; exact DataW.trod_lt m _ _ _ hm
  obtain ⟨a1, b1, off1, c1, l1, rfl, came1⟩ := came_ops (hval 1 38 v1 rfl rfl) h1
  clear hA0 hval0
  refine (reads_walk a0 c0 l0 a1 b1 off1 c1 l1 W came0 came1).mono fun e W' ⟨he, bel⟩ => ?_
  subst he
  exact ⟨_, rfl, _, _, _, [], _, [], hW', trodAll_mk1 (shut_bool Try.underlying4 _), (trodAll_cons_mk (Below.trod Try.laidOut (by kernel_rfl) (of_decide_eq_true (by kernel_rfl)) h0 bel lt0) (trodAll_cons_mk (Below.trod Try.laidOut (by kernel_rfl) (of_decide_eq_true (by kernel_rfl)) h1 bel lt1) trodAll_mk0)), rfl, bel.frame _, fun h => by cases h⟩

theorem PackReads_holds : Rows.PackReadsSaid :=
  OpenClaim.holds_of_wide 7 Try.f7 rfl rfl rfl rfl rfl rfl rfl ⟨rfl, rfl, rfl, rfl, rfl⟩ rfl rfl rfl rfl rfl (by kernel_rfl) Try.func7 (by kernel_rfl)
    (of_decide_eq_true (by kernel_rfl)) (by unfold Func.isWrapper; first | (rw [if_pos (by decide +kernel)]; kernel_rfl) | (rw [if_neg (by decide +kernel)]; exact ⟨rfl, rfl⟩))
    (fun os started H enc _ => PackReads_lifted os started H enc)

#print axioms PackReads_holds
end Go.Proofs.Ytbamkkohfeglaaa
