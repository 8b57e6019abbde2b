/- The law CutGreatest, walked: true at every list of writes and every two cuts. -/
import Derived.Test.YtckijalkodpjhaaF
namespace Go.Proofs.Ytckijalkodpjhaa
open Go.RowKit Go.Sort
attribute [local go_sem] eqIn33

/-- Some ending that a contract speaks of. -/
theorem calls_some {P : Program} {f : FuncId} {args : Array Value} {w : World} {R : Ending → World → Prop} (h : Calls P f args w R) : ∃ e w', R e w' := by
  obtain ⟨e, w', _, hr, _⟩ := h []
  exact ⟨e, w', hr⟩

/-- Few writes that lie in memory, with numbers of the kind int that are not too small. -/
structure Laid (w : World) (a : Option Addr) (b off : Nat) (l : List Wr) : Prop where
  ha : 0 < l.length → a = some ⟨b, off, none⟩
  hb : 0 < l.length → b < w.heap.size
  hl : l.length ≤ 1000
  hc : LiesAt w b off l
  hs : ∀ k, k < l.length → -1152921504606846976 ≤ (wat l k).s ∧ (wat l k).s ≤ 9223372036854775807

theorem LiesAt.below' {w w' : World} {B b off : Nat} {l : List Wr} (h : LiesAt w b off l) (hw : Below B w w') (hb : 0 < l.length → b < B) : LiesAt w' b off l := fun k hk => h.below hw (hb (by omega)) k hk
theorem Laid.below {w w' : World} {a : Option Addr} {b off : Nat} {l : List Wr} (h : Laid w a b off l) (hw : Below w.heap.size w w') : Laid w' a b off l :=
  ⟨h.ha, fun hp => Nat.lt_of_lt_of_le (h.hb hp) hw.size, h.hl, h.hc.below' hw h.hb, h.hs⟩
theorem Laid.alloc {w : World} {a : Option Addr} {b off : Nat} {l : List Wr} (h : Laid w a b off l) (o : Obj) : Laid (w.alloc o) a b off l :=
  h.below ((Below.refl _ w).alloc (Nat.le_refl _) o)
theorem BadSpec.unique {c : C4} {l : List Wr} {i k i' k' : Nat} {b b' : Bool} (h : BadSpec c l i k b) (h' : BadSpec c l i' k' b') : i = i' ∧ k = k' ∧ b = b' := by
  have no : ∀ {x : Bool}, x = false → x = true → False := fun h1 h2 => by rw [h1] at h2; cases h2
  rcases h with ⟨rfl, rfl, rfl, hn⟩ | ⟨rfl, hi, hk, hy, h1, h2⟩
  · rcases h' with ⟨rfl, rfl, rfl, _⟩ | ⟨rfl, hi, hk, hy, _⟩
    · exact ⟨rfl, rfl, rfl⟩
    · exact (no (hn _ _ hk hi) hy).elim
  · rcases h' with ⟨rfl, rfl, rfl, hn⟩ | ⟨rfl, hi', hk', hy', h1', h2'⟩
    · exact (no (hn _ _ hk hi) hy).elim
    · have ek : k = k' := by
        rcases Nat.lt_trichotomy k k' with h | h | h
        · exact (no (h1' _ h _ hi) hy).elim
        · exact h
        · exact (no (h1 _ h _ hi') hy').elim
      subst ek
      have ei : i = i' := by
        rcases Nat.lt_trichotomy i i' with h | h | h
        · exact (no (h2' _ h) hy).elim
        · exact h
        · exact (no (h2 _ h) hy').elim
      exact ⟨ei, rfl, rfl⟩

theorem Laid.bad {w : World} {a : Option Addr} {b off : Nat} {l : List Wr} (h : Laid w a b off l) (cap : Nat) (c0 c1 c2 c3 : Int) :
    Calls Try.prog 10 #[.slice a l.length cap, .agg #[.int .i64 c0, .int .i64 c1, .int .i64 c2, .int .i64 c3]] w (BadPost ⟨c0, c1, c2, c3⟩ l w) :=
  bad_any a b off cap l c0 c1 c2 c3 w h.ha h.hb (by have := h.hl; omega) h.hc
theorem Laid.gr {w : World} {a : Option Addr} {b off : Nat} {l : List Wr} (h : Laid w a b off l) (cap : Nat) (c0 c1 c2 c3 : Int) :
    Calls Try.prog 12 #[.slice a l.length cap, .agg #[.int .i64 c0, .int .i64 c1, .int .i64 c2, .int .i64 c3]] w (GrPost ⟨c0, c1, c2, c3⟩ l w) :=
  gr_any a b off cap l c0 c1 c2 c3 w h.ha h.hb (by have := h.hl; omega) h.hc h.hs
/-- There is a greatest closed cut; and the call hands it back. -/
theorem Laid.gr_some {w : World} {a : Option Addr} {b off : Nat} {l : List Wr} (h : Laid w a b off l) (c : C4) : ∃ g, GrSpec l c g := by
  obtain ⟨_, _, x0, x1, x2, x3, _, hg, _⟩ := calls_some (h.gr 0 c.c0 c.c1 c.c2 c.c3)
  exact ⟨_, hg⟩
theorem Laid.gr_is {w : World} {a : Option Addr} {b off : Nat} {l : List Wr} (h : Laid w a b off l) (cap : Nat) (c0 c1 c2 c3 g0 g1 g2 g3 : Int) (hg : GrSpec l ⟨c0, c1, c2, c3⟩ ⟨g0, g1, g2, g3⟩) :
    Calls Try.prog 12 #[.slice a l.length cap, .agg #[.int .i64 c0, .int .i64 c1, .int .i64 c2, .int .i64 c3]] w fun e w' => e = .returned (.agg #[.int .i64 g0, .int .i64 g1, .int .i64 g2, .int .i64 g3]) ∧ Below w.heap.size w w' :=
  (h.gr cap c0 c1 c2 c3).mono fun e w' ⟨x0, x1, x2, x3, he, hx, hb⟩ => by
    have := hx.unique hg
    simp only [C4.mk.injEq] at this
    obtain ⟨rfl, rfl, rfl, rfl⟩ := this
    exact ⟨he, hb⟩
/-- The same writes, of the program's own type: where they lie. -/
def MadeP (l : List Wr) (w : World) (e : Ending) (w' : World) : Prop :=
  ∃ (a : Option Addr) (b cap : Nat), e = .returned (.slice a l.length cap) ∧ Laid w' a b 0 l ∧ Below w.heap.size w w'
theorem Laid.made {w : World} {a : Option Addr} {b off : Nat} {l : List Wr} (h : Laid w a b off l) (cap : Nat) : Calls Try.prog 11 #[.slice a l.length cap] w (MadeP l w) :=
  (made_any a b off cap l w h.ha h.hb h.hl h.hc).mono fun _ _ ⟨a', b', cap', he, h1, h2, h3, h4⟩ => ⟨a', b', cap', he, ⟨h1, h2, h.hl, h3, h.hs⟩, h4⟩

/-- What is known of a slice of writes that came in. -/
def Came (w : World) (a : Option Addr) (b off : Nat) (l : List Wr) : Prop :=
  (0 < l.length → a = some ⟨b, off, none⟩) ∧ (0 < l.length → b < w.heap.size) ∧ l.length ≤ 9223372036854775807 ∧ LiesAt w b off l ∧ ∀ k, k < l.length → (wat l k).s ≤ 9223372036854775807

theorem Came.laid {w : World} {a : Option Addr} {b off : Nat} {l : List Wr} (h : Came w a b off l) (hs : smB l = true) : Laid w a b off l := by
  obtain ⟨h0, h1, h2, h3, h4⟩ := h
  simp only [smB, decide_eq_true_eq] at hs
  exact ⟨h0, h1, by omega, h3, fun k hk => ⟨hs.2 k hk, h4 k hk⟩⟩

/-- What the law's text comes to in the end. -/
theorem cg_end {l : List Wr} {c o g : C4} (hg : GrSpec l c g) (ho : Closed l o) : (!(blB o c) || blB o g) = true := by
  by_cases h : blB o c = true
  · rw [h]
    simp only [Bool.not_true, Bool.false_or]
    simp only [blB, decide_eq_true_eq] at h ⊢
    exact hg.2.2 o ho h
  · have : blB o c = false := by simpa using h
    rw [this]; rfl
theorem GrSpec.bl {l : List Wr} {c g : C4} (hg : GrSpec l c g) : blB g c = true := by
  simp only [blB, decide_eq_true_eq]
  exact hg.2.1
theorem GrSpec.notbad {l : List Wr} {c g : C4} (hg : GrSpec l c g) {i k : Nat} {b : Bool} (h : BadSpec g l i k b) : b = false := by
  rcases h with ⟨h, _⟩ | ⟨_, hi, hk, hy, _⟩
  · exact h
  · rw [hg.1 k i hk hi] at hy; cases hy
theorem BadSpec.closed {l : List Wr} {c : C4} {i k : Nat} (h : BadSpec c l i k false) : Closed l c := by
  rcases h with ⟨_, _, _, h⟩ | ⟨h, _⟩
  · exact h
  · cases h

section
variable (a : Option Addr) (b off cap : Nat) (l : List Wr) (c0 c1 c2 c3 o0 o1 o2 o3 : Int) (w : World)
set_option maxHeartbeats 800000 in
theorem cg_large (ha : 0 < l.length → a = some ⟨b, off, none⟩) (hb : 0 < l.length → b < w.heap.size) (hl : l.length ≤ 9223372036854775807) (hc : LiesAt w b off l) (hsm : smB l = false) :
    Calls Try.prog 5 #[.slice a l.length cap, .agg #[.int .i64 c0, .int .i64 c1, .int .i64 c2, .int .i64 c3], .agg #[.int .i64 o0, .int .i64 o1, .int .i64 o2, .int .i64 o3]] w fun e w' => e = .returned (.bool true) ∧ Below w.heap.size w w' := by
  have HA := Lib.hid ha
  have HB := Lib.hid hb
  have HC := Lib.hid hc
  clear ha hb hc
  go_enter Try.func5, Try.ntmps5
  go_wp2_with fail
  refine (awake_any _).mono ?_
  rintro e w1 ⟨rfl, hb1⟩
  have HB1 := Lib.hid ((((Below.refl _ w).alloc (Nat.le_refl _) (.cells #[.int .i64 c0, .int .i64 c1, .int .i64 c2, .int .i64 c3] 23)).alloc (by simp) (.cells #[.int .i64 o0, .int .i64 o1, .int .i64 o2, .int .i64 o3] 23)).trans (hb1.mono (by simp; omega)))
  clear hb1
  go_wp2_with fail
  refine (small_any a b off cap l _ HA.out hl (HC.out.below' HB1.out HB.out)).mono ?_
  rintro e w2 ⟨rfl, hb2⟩
  have HB2 := Lib.hid (HB1.out.trans (hb2.mono HB1.out.size))
  clear hb2
  go_wp2_with fail
  refine (awake_any _).mono ?_
  rintro e w3 ⟨rfl, hb3⟩
  have HB3 := Lib.hid (HB2.out.trans (hb3.mono HB2.out.size))
  clear hb3
  go_wp2
  go_ret
  exact ⟨rfl, HB3.out⟩
end

end Go.Proofs.Ytckijalkodpjhaa
