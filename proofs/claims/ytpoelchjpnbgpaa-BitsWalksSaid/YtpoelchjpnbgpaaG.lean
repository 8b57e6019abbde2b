/- Sets, plainly: what lies in Or and But, how many. -/
import Derived.Test.YtpoelchjpnbgpaaF
namespace Go.Proofs.Ytpoelchjpnbgpaa
open Go.RowKit Go.Sort

theorem mem_elsTo (s : B8) (i : Int) : ∀ k, i ∈ elsTo s k ↔ (0 ≤ i ∧ i < k ∧ s.get i = true)
  | 0 => by simp [elsTo]; omega
  | k + 1 => by
    rw [elsTo, List.mem_append, mem_elsTo s i k]
    constructor
    · rintro (⟨h1, h2, h3⟩ | h)
      · exact ⟨h1, by omega, h3⟩
      · split at h
        · rename_i hk
          simp only [List.mem_cons, List.not_mem_nil, or_false] at h
          subst h
          exact ⟨by omega, by omega, hk⟩
        · cases h
    · rintro ⟨h1, h2, h3⟩
      by_cases e : i = k
      · subst e
        exact .inr (by rw [if_pos h3]; simp)
      · exact .inl ⟨h1, by omega, h3⟩
theorem mem_els (s : B8) (i : Int) : i ∈ els s ↔ s.get i = true := by
  rw [els, mem_elsTo]
  constructor
  · exact fun h => h.2.2
  · intro h
    by_cases hr : i < 0 ∨ 8 ≤ i
    · rw [B8.get_out s i hr] at h
      cases h
    · exact ⟨by omega, by omega, h⟩
theorem foldF_get (zs : List Int) : ∀ (s : B8) (i : Int), (zs.foldl (fun s b => s.set b false) s).get i = (s.get i && !decide (i ∈ zs)) := by
  induction zs with
  | nil => intro s i; simp
  | cons z zs ih =>
    intro s i
    rw [List.foldl_cons, ih, B8.get_set]
    by_cases h : 0 ≤ i ∧ i < 8
    · by_cases e : i = z
      · subst e
        rw [if_pos ⟨rfl, h⟩]
        simp
      · rw [if_neg (fun q => e q.1)]
        simp [e]
    · rw [if_neg (by omega), B8.get_out s i (by omega)]
      simp
theorem or_get (s o : B8) (i : Int) : (orS s o).get i = (s.get i || o.get i) := by
  rw [orS, orF, fold_get]
  congr 1
  by_cases h : o.get i = true
  · rw [h, decide_eq_true_iff]
    refine ⟨(mem_els o i).2 h, ?_⟩
    by_cases hr : i < 0 ∨ 8 ≤ i
    · rw [B8.get_out o i hr] at h
      cases h
    · omega
  · rw [show o.get i = false from by simpa using h, decide_eq_false_iff_not]
    exact fun q => h ((mem_els o i).1 q.1)
theorem but_get (s o : B8) (i : Int) : (butS s o).get i = (s.get i && !o.get i) := by
  rw [butS, butF, foldF_get]
  congr 2
  by_cases h : o.get i = true
  · rw [h, decide_eq_true_iff]
    exact (mem_els o i).2 h
  · rw [show o.get i = false from by simpa using h, decide_eq_false_iff_not]
    exact fun q => h ((mem_els o i).1 q)
def cnt (s : B8) : Nat := s.b0.toNat + s.b1.toNat + s.b2.toNat + s.b3.toNat + s.b4.toNat + s.b5.toNat + s.b6.toNat + s.b7.toNat
theorem els_length (s : B8) : (els s).length = cnt s := by
  obtain ⟨b0, b1, b2, b3, b4, b5, b6, b7⟩ := s
  have h : ∀ (l : List Int) (c : Bool) (z : Int), (l ++ if c = true then [z] else []).length = l.length + c.toNat := fun l c z => by
    cases c <;> simp
  simp only [els, elsTo, h]
  simp [B8.get, cnt]
theorem orS_eq (s o : B8) : orS s o = ⟨s.b0 || o.b0, s.b1 || o.b1, s.b2 || o.b2, s.b3 || o.b3, s.b4 || o.b4, s.b5 || o.b5, s.b6 || o.b6, s.b7 || o.b7⟩ := by
  apply B8.ext_get
  intro i
  rw [or_get]
  by_cases h : 0 ≤ i ∧ i < 8
  · obtain rfl | rfl | rfl | rfl | rfl | rfl | rfl | rfl : i = 0 ∨ i = 1 ∨ i = 2 ∨ i = 3 ∨ i = 4 ∨ i = 5 ∨ i = 6 ∨ i = 7 := by omega
    all_goals rfl
  · rw [B8.get_out _ _ (by omega), B8.get_out _ _ (by omega), B8.get_out _ _ (by omega)]
    rfl
theorem butS_eq (s o : B8) : butS s o = ⟨s.b0 && !o.b0, s.b1 && !o.b1, s.b2 && !o.b2, s.b3 && !o.b3, s.b4 && !o.b4, s.b5 && !o.b5, s.b6 && !o.b6, s.b7 && !o.b7⟩ := by
  apply B8.ext_get
  intro i
  rw [but_get]
  by_cases h : 0 ≤ i ∧ i < 8
  · obtain rfl | rfl | rfl | rfl | rfl | rfl | rfl | rfl : i = 0 ∨ i = 1 ∨ i = 2 ∨ i = 3 ∨ i = 4 ∨ i = 5 ∨ i = 6 ∨ i = 7 := by omega
    all_goals rfl
  · rw [B8.get_out _ _ (by omega), B8.get_out _ _ (by omega), B8.get_out _ _ (by omega)]
    rfl
theorem cnt_or (s o : B8) : (els (orS s o)).length = (els s).length + (els (butS o s)).length := by
  rw [els_length, els_length, els_length, orS_eq, butS_eq]
  have h : ∀ a b : Bool, (a || b).toNat = a.toNat + (b && !a).toNat := by decide
  simp only [cnt, h]
  omega
theorem cnt_but (s o : B8) : (els (butS s o)).length ≤ (els s).length := by
  rw [els_length, els_length, butS_eq]
  have h : ∀ a b : Bool, (a && !b).toNat ≤ a.toNat := by decide
  simp only [cnt]
  have h0 := h s.b0 o.b0
  have h1 := h s.b1 o.b1
  have h2 := h s.b2 o.b2
  have h3 := h s.b3 o.b3
  have h4 := h s.b4 o.b4
  have h5 := h s.b5 o.b5
  have h6 := h s.b6 o.b6
  have h7 := h s.b7 o.b7
  omega
def more (s : B8) (x : Int) : Nat := if s.get x = false ∧ 0 ≤ x ∧ x < 8 then 1 else 0
theorem cnt_with (s : B8) (x : Int) : (els (s.set x true)).length = (els s).length + more s x := by
  by_cases h : 0 ≤ x ∧ x < 8
  · rw [els_length, els_length, more]
    obtain ⟨b0, b1, b2, b3, b4, b5, b6, b7⟩ := s
    obtain rfl | rfl | rfl | rfl | rfl | rfl | rfl | rfl : x = 0 ∨ x = 1 ∨ x = 2 ∨ x = 3 ∨ x = 4 ∨ x = 5 ∨ x = 6 ∨ x = 7 := by omega
    · cases b0 <;> simp [cnt, B8.set, B8.get] <;> omega
    · cases b1 <;> simp [cnt, B8.set, B8.get] <;> omega
    · cases b2 <;> simp [cnt, B8.set, B8.get] <;> omega
    · cases b3 <;> simp [cnt, B8.set, B8.get] <;> omega
    · cases b4 <;> simp [cnt, B8.set, B8.get] <;> omega
    · cases b5 <;> simp [cnt, B8.set, B8.get] <;> omega
    · cases b6 <;> simp [cnt, B8.set, B8.get] <;> omega
    · cases b7 <;> simp [cnt, B8.set, B8.get]
  · rw [B8.set_out s x true (by omega), more, if_neg (by omega)]
    rfl
theorem set_set (s : B8) (x : Int) : (s.set x true).set x false = s.set x false := by
  apply B8.ext_get
  intro i
  rw [B8.get_set, B8.get_set, B8.get_set]
  split <;> rfl

end Go.Proofs.Ytpoelchjpnbgpaa
