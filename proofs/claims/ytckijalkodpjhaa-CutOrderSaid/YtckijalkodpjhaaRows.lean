/-
  No cell of these rows narrows 'for every input' (looked for: loops, veiled, ifaces, maps, wideKeys, modest, calm, conditions, laid).
  DERIVED. THE GIVEN ROWS OF THIS SEAT. 5 by the template 'for every input the law returns true; each argument reads behind the call as it read before'; 0 by the template 'total and deterministic' (their statements: YtckijalkodpjhaaTotals.lean).
  GIVEN WITH THE SEED: the statements are not yours to turn. If you find one false, say at which input.
  Laid BY PROGRAM, IN A SANDBOX (cutbox-rows.mjs): the forced cells as the released guide's own fill.sh prints them over the translation ec996e52c38dfc29… (all of the seat's roots in one cut). By AI agents, Wed Nov 11 2026. No macro, syntax, notation, axiom, sorry.
-/
import Derived.Test.YtckijalkodpjhaaChecked
import GoSem.Claim
import GoSem.ClaimJoined
import GoSem.ClaimMapViews
import Derived.JoinedTies
import Derived.KernelRfl
namespace Go.Proofs.Ytckijalkodpjhaa
/- THE CELL 'sum', in the pinned program and in every row, IS THE sha256 OF THE DUMP (.gsa) THAT YtckijalkodpjhaaProg.lean LOADS. Nothing in Lean hashes anything: it is a label: what it is worth is what the hold of that sum in a sandbox is worth. -/
noncomputable def Try.pinned : Pinned := { name := "ytckijalkodpjhaa", sum := "ec996e52c38dfc291322f61d304320d1c2cc6511b23644aa3cb70366374cd67f", checked := Try.checked }
namespace Rows
def none {H : Type} : Left H := { results := [], args := [] }

/-- 'isobarlaw18.CutOrder': WHATEVER THE INPUT: true; the input reads as it did. -/
def cutOrderSpec : ChangeSpec := { name := "cutOrder", fn := fun _ => fun
  | [d1, d2, d3] => { results := [.lit (.bool true)], args := [d1, d2, d3] }
  | _ => none }
def cutOrderRow : OpenClaim := { program := "ytckijalkodpjhaa", sum := "ec996e52c38dfc291322f61d304320d1c2cc6511b23644aa3cb70366374cd67f", func := "isobar/isobarlaw18.CutOrder", spec := "cutOrder", apart := false }
def CutOrderSaid : Prop := cutOrderRow.holds Try.pinned (OpenSpec.ofChange cutOrderSpec)

/-- ITS FALSE NEIGHBOUR: 'it returns false'. Refute it at one input. -/
def cutOrderWrong : ChangeSpec := { name := "cutOrder", fn := fun _ => fun
  | [d1, d2, d3] => { results := [.lit (.bool false)], args := [d1, d2, d3] }
  | _ => none }
def CutOrderWrongFalsely : Prop := cutOrderRow.holds Try.pinned (OpenSpec.ofChange cutOrderWrong)

/-- 'isobarlaw18.CutTells': WHATEVER THE INPUT: true; the input reads as it did. -/
def cutTellsSpec : ChangeSpec := { name := "cutTells", fn := fun _ => fun
  | [d1, d2, d3] => { results := [.lit (.bool true)], args := [d1, d2, d3] }
  | _ => none }
def cutTellsRow : OpenClaim := { program := "ytckijalkodpjhaa", sum := "ec996e52c38dfc291322f61d304320d1c2cc6511b23644aa3cb70366374cd67f", func := "isobar/isobarlaw18.CutTells", spec := "cutTells", apart := false }
def CutTellsSaid : Prop := cutTellsRow.holds Try.pinned (OpenSpec.ofChange cutTellsSpec)

/-- ITS FALSE NEIGHBOUR: 'it returns false'. Refute it at one input. -/
def cutTellsWrong : ChangeSpec := { name := "cutTells", fn := fun _ => fun
  | [d1, d2, d3] => { results := [.lit (.bool false)], args := [d1, d2, d3] }
  | _ => none }
def CutTellsWrongFalsely : Prop := cutTellsRow.holds Try.pinned (OpenSpec.ofChange cutTellsWrong)

/-- 'isobarlaw18.CutGreatest': WHATEVER THE INPUT: true; the input reads as it did. -/
def cutGreatestSpec : ChangeSpec := { name := "cutGreatest", fn := fun _ => fun
  | [d1, d2, d3] => { results := [.lit (.bool true)], args := [d1, d2, d3] }
  | _ => none }
def cutGreatestRow : OpenClaim := { program := "ytckijalkodpjhaa", sum := "ec996e52c38dfc291322f61d304320d1c2cc6511b23644aa3cb70366374cd67f", func := "isobar/isobarlaw18.CutGreatest", spec := "cutGreatest", apart := false }
def CutGreatestSaid : Prop := cutGreatestRow.holds Try.pinned (OpenSpec.ofChange cutGreatestSpec)

/-- ITS FALSE NEIGHBOUR: 'it returns false'. Refute it at one input. -/
def cutGreatestWrong : ChangeSpec := { name := "cutGreatest", fn := fun _ => fun
  | [d1, d2, d3] => { results := [.lit (.bool false)], args := [d1, d2, d3] }
  | _ => none }
def CutGreatestWrongFalsely : Prop := cutGreatestRow.holds Try.pinned (OpenSpec.ofChange cutGreatestWrong)

/-- 'isobarlaw18.CutJoins': WHATEVER THE INPUT: true; the input reads as it did. -/
def cutJoinsSpec : ChangeSpec := { name := "cutJoins", fn := fun _ => fun
  | [d1, d2, d3] => { results := [.lit (.bool true)], args := [d1, d2, d3] }
  | _ => none }
def cutJoinsRow : OpenClaim := { program := "ytckijalkodpjhaa", sum := "ec996e52c38dfc291322f61d304320d1c2cc6511b23644aa3cb70366374cd67f", func := "isobar/isobarlaw18.CutJoins", spec := "cutJoins", apart := false }
def CutJoinsSaid : Prop := cutJoinsRow.holds Try.pinned (OpenSpec.ofChange cutJoinsSpec)

/-- ITS FALSE NEIGHBOUR: 'it returns false'. Refute it at one input. -/
def cutJoinsWrong : ChangeSpec := { name := "cutJoins", fn := fun _ => fun
  | [d1, d2, d3] => { results := [.lit (.bool false)], args := [d1, d2, d3] }
  | _ => none }
def CutJoinsWrongFalsely : Prop := cutJoinsRow.holds Try.pinned (OpenSpec.ofChange cutJoinsWrong)

/-- 'isobarlaw18.CutMore': WHATEVER THE INPUT: true; the input reads as it did. -/
def cutMoreSpec : ChangeSpec := { name := "cutMore", fn := fun _ => fun
  | [d1, d2, d3, d4] => { results := [.lit (.bool true)], args := [d1, d2, d3, d4] }
  | _ => none }
def cutMoreRow : OpenClaim := { program := "ytckijalkodpjhaa", sum := "ec996e52c38dfc291322f61d304320d1c2cc6511b23644aa3cb70366374cd67f", func := "isobar/isobarlaw18.CutMore", spec := "cutMore", apart := false }
def CutMoreSaid : Prop := cutMoreRow.holds Try.pinned (OpenSpec.ofChange cutMoreSpec)

/-- ITS FALSE NEIGHBOUR: 'it returns false'. Refute it at one input. -/
def cutMoreWrong : ChangeSpec := { name := "cutMore", fn := fun _ => fun
  | [d1, d2, d3, d4] => { results := [.lit (.bool false)], args := [d1, d2, d3, d4] }
  | _ => none }
def CutMoreWrongFalsely : Prop := cutMoreRow.holds Try.pinned (OpenSpec.ofChange cutMoreWrong)

/- THE SECOND FORM. 'bulk': how many values and letters a reading holds, each counted each time it is reached (what is shared counts as often as it is met; a slice's spare places count too). A statement '..UptoSaid' is the law's where the arguments, and the package variables that the reading takes, are together of bulk at most 1048576: NARROWER than '..Said'. Prove '..Said' where nothing that the law and all that it calls make is longer than what came in: it says more and counts as full. Else prove '..UptoSaid'. A law counts once. -/
mutual
def uptoBulk {H : Type} : DataW H → Nat
  | .lit (.string bytes) => bytes.length + 1
  | .lit _ => 1
  | .nil => 1
  | .ptr d => uptoBulk d + 1
  | .slice elems spare => uptoBulkAll elems + uptoBulkAll spare + 1
  | .agg parts => uptoBulkAll parts + 1
  | .iface _ d => uptoBulk d + 1
  | .map entries => uptoBulkEntries entries + 1
  | .held _ => 1
def uptoBulkAll {H : Type} : List (DataW H) → Nat
  | [] => 0
  | d :: r => uptoBulk d + uptoBulkAll r
def uptoBulkEntries {H : Type} : List (Lit × DataW H) → Nat
  | [] => 0
  | x :: r => uptoBulkEntry x + uptoBulkEntries r
def uptoBulkEntry {H : Type} : Lit × DataW H → Nat
  | (.string bytes, d) => bytes.length + uptoBulk d + 1
  | (_, d) => uptoBulk d + 1
 end
def uptoSmall : (H : Type) → List (DataW H) → Bool := fun _ ds => decide (uptoBulkAll ds ≤ 1048576)
def OpenSpec.upto (s : _root_.Go.ChangeSpec) : _root_.Go.OpenSpec := { _root_.Go.OpenSpec.ofChange s with cond := some uptoSmall }

/-- 'isobarlaw18.CutOrder', WHERE WHAT IT READS IS OF BULK AT MOST 1048576: true; the input reads as it did. -/
def cutOrderUptoRow : OpenClaim := { program := "ytckijalkodpjhaa", sum := "ec996e52c38dfc291322f61d304320d1c2cc6511b23644aa3cb70366374cd67f", func := "isobar/isobarlaw18.CutOrder", spec := "cutOrder", apart := false, narrowed := true }
def CutOrderUptoSaid : Prop := cutOrderUptoRow.holds Try.pinned (OpenSpec.upto cutOrderSpec)

/-- 'isobarlaw18.CutTells', WHERE WHAT IT READS IS OF BULK AT MOST 1048576: true; the input reads as it did. -/
def cutTellsUptoRow : OpenClaim := { program := "ytckijalkodpjhaa", sum := "ec996e52c38dfc291322f61d304320d1c2cc6511b23644aa3cb70366374cd67f", func := "isobar/isobarlaw18.CutTells", spec := "cutTells", apart := false, narrowed := true }
def CutTellsUptoSaid : Prop := cutTellsUptoRow.holds Try.pinned (OpenSpec.upto cutTellsSpec)

/-- 'isobarlaw18.CutGreatest', WHERE WHAT IT READS IS OF BULK AT MOST 1048576: true; the input reads as it did. -/
def cutGreatestUptoRow : OpenClaim := { program := "ytckijalkodpjhaa", sum := "ec996e52c38dfc291322f61d304320d1c2cc6511b23644aa3cb70366374cd67f", func := "isobar/isobarlaw18.CutGreatest", spec := "cutGreatest", apart := false, narrowed := true }
def CutGreatestUptoSaid : Prop := cutGreatestUptoRow.holds Try.pinned (OpenSpec.upto cutGreatestSpec)

/-- 'isobarlaw18.CutJoins', WHERE WHAT IT READS IS OF BULK AT MOST 1048576: true; the input reads as it did. -/
def cutJoinsUptoRow : OpenClaim := { program := "ytckijalkodpjhaa", sum := "ec996e52c38dfc291322f61d304320d1c2cc6511b23644aa3cb70366374cd67f", func := "isobar/isobarlaw18.CutJoins", spec := "cutJoins", apart := false, narrowed := true }
def CutJoinsUptoSaid : Prop := cutJoinsUptoRow.holds Try.pinned (OpenSpec.upto cutJoinsSpec)

/-- 'isobarlaw18.CutMore', WHERE WHAT IT READS IS OF BULK AT MOST 1048576: true; the input reads as it did. -/
def cutMoreUptoRow : OpenClaim := { program := "ytckijalkodpjhaa", sum := "ec996e52c38dfc291322f61d304320d1c2cc6511b23644aa3cb70366374cd67f", func := "isobar/isobarlaw18.CutMore", spec := "cutMore", apart := false, narrowed := true }
def CutMoreUptoSaid : Prop := cutMoreUptoRow.holds Try.pinned (OpenSpec.upto cutMoreSpec)

end Rows
end Go.Proofs.Ytckijalkodpjhaa
