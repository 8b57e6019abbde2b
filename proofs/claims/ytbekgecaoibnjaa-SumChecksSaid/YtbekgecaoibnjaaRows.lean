/-
  No cell of these rows narrows 'for every input' (looked for: loops, veiled, ifaces, maps, wideKeys, modest, calm, conditions, laid).
  DERIVED. THE GIVEN ROWS OF THIS SEAT. 6 by the template 'for every input the law returns true; each argument reads behind the call as it read before'; 0 by the template 'total and deterministic' (their statements: YtbekgecaoibnjaaTotals.lean).
  GIVEN WITH THE SEED: the statements are not yours to turn. If you find one false, say at which input.
  Laid BY PROGRAM, IN A SANDBOX (cutbox-rows.mjs): the forced cells as the released guide's own fill.sh prints them over the translation c7ff4d44b705d359… (all of the seat's roots in one cut). By AI agents, Wed Nov 11 2026. No macro, syntax, notation, axiom, sorry.
-/
import Derived.Test.YtbekgecaoibnjaaChecked
import GoSem.Claim
import GoSem.ClaimJoined
import GoSem.ClaimMapViews
import Derived.JoinedTies
import Derived.KernelRfl
namespace Go.Proofs.Ytbekgecaoibnjaa
/- THE CELL 'sum', in the pinned program and in every row, IS THE sha256 OF THE DUMP (.gsa) THAT YtbekgecaoibnjaaProg.lean LOADS. Nothing in Lean hashes anything: it is a label: what it is worth is what the hold of that sum in a sandbox is worth. -/
noncomputable def Try.pinned : Pinned := { name := "ytbekgecaoibnjaa", sum := "c7ff4d44b705d359dd422edc209ab486f0a8a322d870e8333f15e0e28c709044", checked := Try.checked }
namespace Rows
def none {H : Type} : Left H := { results := [], args := [] }

/-- 'isobarlaw02.SumChecks': WHATEVER THE INPUT: true; the input reads as it did. -/
def sumChecksSpec : ChangeSpec := { name := "sumChecks", fn := fun _ => fun
  | [d] => { results := [.lit (.bool true)], args := [d] }
  | _ => none }
def sumChecksRow : OpenClaim := { program := "ytbekgecaoibnjaa", sum := "c7ff4d44b705d359dd422edc209ab486f0a8a322d870e8333f15e0e28c709044", func := "isobar/isobarlaw02.SumChecks", spec := "sumChecks", apart := false }
def SumChecksSaid : Prop := sumChecksRow.holds Try.pinned (OpenSpec.ofChange sumChecksSpec)

/-- ITS FALSE NEIGHBOUR: 'it returns false'. Refute it at one input. -/
def sumChecksWrong : ChangeSpec := { name := "sumChecks", fn := fun _ => fun
  | [d] => { results := [.lit (.bool false)], args := [d] }
  | _ => none }
def SumChecksWrongFalsely : Prop := sumChecksRow.holds Try.pinned (OpenSpec.ofChange sumChecksWrong)

/-- 'isobarlaw02.SumSectors': WHATEVER THE INPUT: true; the input reads as it did. -/
def sumSectorsSpec : ChangeSpec := { name := "sumSectors", fn := fun _ => fun
  | [d1, d2] => { results := [.lit (.bool true)], args := [d1, d2] }
  | _ => none }
def sumSectorsRow : OpenClaim := { program := "ytbekgecaoibnjaa", sum := "c7ff4d44b705d359dd422edc209ab486f0a8a322d870e8333f15e0e28c709044", func := "isobar/isobarlaw02.SumSectors", spec := "sumSectors", apart := false }
def SumSectorsSaid : Prop := sumSectorsRow.holds Try.pinned (OpenSpec.ofChange sumSectorsSpec)

/-- ITS FALSE NEIGHBOUR: 'it returns false'. Refute it at one input. -/
def sumSectorsWrong : ChangeSpec := { name := "sumSectors", fn := fun _ => fun
  | [d1, d2] => { results := [.lit (.bool false)], args := [d1, d2] }
  | _ => none }
def SumSectorsWrongFalsely : Prop := sumSectorsRow.holds Try.pinned (OpenSpec.ofChange sumSectorsWrong)

/-- 'isobarlaw02.SumLinear': WHATEVER THE INPUT: true; the input reads as it did. -/
def sumLinearSpec : ChangeSpec := { name := "sumLinear", fn := fun _ => fun
  | [d1, d2, d3] => { results := [.lit (.bool true)], args := [d1, d2, d3] }
  | _ => none }
def sumLinearRow : OpenClaim := { program := "ytbekgecaoibnjaa", sum := "c7ff4d44b705d359dd422edc209ab486f0a8a322d870e8333f15e0e28c709044", func := "isobar/isobarlaw02.SumLinear", spec := "sumLinear", apart := false }
def SumLinearSaid : Prop := sumLinearRow.holds Try.pinned (OpenSpec.ofChange sumLinearSpec)

/-- ITS FALSE NEIGHBOUR: 'it returns false'. Refute it at one input. -/
def sumLinearWrong : ChangeSpec := { name := "sumLinear", fn := fun _ => fun
  | [d1, d2, d3] => { results := [.lit (.bool false)], args := [d1, d2, d3] }
  | _ => none }
def SumLinearWrongFalsely : Prop := sumLinearRow.holds Try.pinned (OpenSpec.ofChange sumLinearWrong)

/-- 'isobarlaw02.SumOpens': WHATEVER THE INPUT: true; the input reads as it did. -/
def sumOpensSpec : ChangeSpec := { name := "sumOpens", fn := fun _ => fun
  | [d1, d2] => { results := [.lit (.bool true)], args := [d1, d2] }
  | _ => none }
def sumOpensRow : OpenClaim := { program := "ytbekgecaoibnjaa", sum := "c7ff4d44b705d359dd422edc209ab486f0a8a322d870e8333f15e0e28c709044", func := "isobar/isobarlaw02.SumOpens", spec := "sumOpens", apart := false }
def SumOpensSaid : Prop := sumOpensRow.holds Try.pinned (OpenSpec.ofChange sumOpensSpec)

/-- ITS FALSE NEIGHBOUR: 'it returns false'. Refute it at one input. -/
def sumOpensWrong : ChangeSpec := { name := "sumOpens", fn := fun _ => fun
  | [d1, d2] => { results := [.lit (.bool false)], args := [d1, d2] }
  | _ => none }
def SumOpensWrongFalsely : Prop := sumOpensRow.holds Try.pinned (OpenSpec.ofChange sumOpensWrong)

/-- 'isobarlaw02.SumTurned': WHATEVER THE INPUT: true; the input reads as it did. -/
def sumTurnedSpec : ChangeSpec := { name := "sumTurned", fn := fun _ => fun
  | [d1, d2, d3] => { results := [.lit (.bool true)], args := [d1, d2, d3] }
  | _ => none }
def sumTurnedRow : OpenClaim := { program := "ytbekgecaoibnjaa", sum := "c7ff4d44b705d359dd422edc209ab486f0a8a322d870e8333f15e0e28c709044", func := "isobar/isobarlaw02.SumTurned", spec := "sumTurned", apart := false }
def SumTurnedSaid : Prop := sumTurnedRow.holds Try.pinned (OpenSpec.ofChange sumTurnedSpec)

/-- ITS FALSE NEIGHBOUR: 'it returns false'. Refute it at one input. -/
def sumTurnedWrong : ChangeSpec := { name := "sumTurned", fn := fun _ => fun
  | [d1, d2, d3] => { results := [.lit (.bool false)], args := [d1, d2, d3] }
  | _ => none }
def SumTurnedWrongFalsely : Prop := sumTurnedRow.holds Try.pinned (OpenSpec.ofChange sumTurnedWrong)

/-- 'isobarlaw02.SumShort': WHATEVER THE INPUT: true; the input reads as it did. -/
def sumShortSpec : ChangeSpec := { name := "sumShort", fn := fun _ => fun
  | [d] => { results := [.lit (.bool true)], args := [d] }
  | _ => none }
def sumShortRow : OpenClaim := { program := "ytbekgecaoibnjaa", sum := "c7ff4d44b705d359dd422edc209ab486f0a8a322d870e8333f15e0e28c709044", func := "isobar/isobarlaw02.SumShort", spec := "sumShort", apart := false }
def SumShortSaid : Prop := sumShortRow.holds Try.pinned (OpenSpec.ofChange sumShortSpec)

/-- ITS FALSE NEIGHBOUR: 'it returns false'. Refute it at one input. -/
def sumShortWrong : ChangeSpec := { name := "sumShort", fn := fun _ => fun
  | [d] => { results := [.lit (.bool false)], args := [d] }
  | _ => none }
def SumShortWrongFalsely : Prop := sumShortRow.holds Try.pinned (OpenSpec.ofChange sumShortWrong)

/- THE SECOND FORM. 'bulk': how many values and letters a reading holds, each counted each time it is reached (what is shared counts as often as it is met; a slice's spare places count too). A statement '..UptoSaid' is the law's where the arguments, and the package variables that the reading takes, are together of bulk at most 1048576: NARROWER than '..Said'. Prove '..Said' where nothing that the law and all that it calls make is longer than what came in: it says more and counts as full. Else prove '..UptoSaid'. A law counts once. -/
mutual
def uptoBulk {H : Type} : DataW H → Nat
  | .lit (.string bytes) => bytes.length + 1
  | .lit _ => 1
  | .nil => 1
  | .ptr d => uptoBulk d + 1
  | .slice elems spare => uptoBulkAll elems + uptoBulkAll spare + 1
  | .agg parts => uptoBulkAll parts + 1
  | .iface _ d => uptoBulk d + 1
  | .map entries => uptoBulkEntries entries + 1
  | .held _ => 1
def uptoBulkAll {H : Type} : List (DataW H) → Nat
  | [] => 0
  | d :: r => uptoBulk d + uptoBulkAll r
def uptoBulkEntries {H : Type} : List (Lit × DataW H) → Nat
  | [] => 0
  | x :: r => uptoBulkEntry x + uptoBulkEntries r
def uptoBulkEntry {H : Type} : Lit × DataW H → Nat
  | (.string bytes, d) => bytes.length + uptoBulk d + 1
  | (_, d) => uptoBulk d + 1
 end
def uptoSmall : (H : Type) → List (DataW H) → Bool := fun _ ds => decide (uptoBulkAll ds ≤ 1048576)
def OpenSpec.upto (s : _root_.Go.ChangeSpec) : _root_.Go.OpenSpec := { _root_.Go.OpenSpec.ofChange s with cond := some uptoSmall }

/-- 'isobarlaw02.SumChecks', WHERE WHAT IT READS IS OF BULK AT MOST 1048576: true; the input reads as it did. -/
def sumChecksUptoRow : OpenClaim := { program := "ytbekgecaoibnjaa", sum := "c7ff4d44b705d359dd422edc209ab486f0a8a322d870e8333f15e0e28c709044", func := "isobar/isobarlaw02.SumChecks", spec := "sumChecks", apart := false, narrowed := true }
def SumChecksUptoSaid : Prop := sumChecksUptoRow.holds Try.pinned (OpenSpec.upto sumChecksSpec)

/-- 'isobarlaw02.SumSectors', WHERE WHAT IT READS IS OF BULK AT MOST 1048576: true; the input reads as it did. -/
def sumSectorsUptoRow : OpenClaim := { program := "ytbekgecaoibnjaa", sum := "c7ff4d44b705d359dd422edc209ab486f0a8a322d870e8333f15e0e28c709044", func := "isobar/isobarlaw02.SumSectors", spec := "sumSectors", apart := false, narrowed := true }
def SumSectorsUptoSaid : Prop := sumSectorsUptoRow.holds Try.pinned (OpenSpec.upto sumSectorsSpec)

/-- 'isobarlaw02.SumLinear', WHERE WHAT IT READS IS OF BULK AT MOST 1048576: true; the input reads as it did. -/
def sumLinearUptoRow : OpenClaim := { program := "ytbekgecaoibnjaa", sum := "c7ff4d44b705d359dd422edc209ab486f0a8a322d870e8333f15e0e28c709044", func := "isobar/isobarlaw02.SumLinear", spec := "sumLinear", apart := false, narrowed := true }
def SumLinearUptoSaid : Prop := sumLinearUptoRow.holds Try.pinned (OpenSpec.upto sumLinearSpec)

/-- 'isobarlaw02.SumOpens', WHERE WHAT IT READS IS OF BULK AT MOST 1048576: true; the input reads as it did. -/
def sumOpensUptoRow : OpenClaim := { program := "ytbekgecaoibnjaa", sum := "c7ff4d44b705d359dd422edc209ab486f0a8a322d870e8333f15e0e28c709044", func := "isobar/isobarlaw02.SumOpens", spec := "sumOpens", apart := false, narrowed := true }
def SumOpensUptoSaid : Prop := sumOpensUptoRow.holds Try.pinned (OpenSpec.upto sumOpensSpec)

/-- 'isobarlaw02.SumTurned', WHERE WHAT IT READS IS OF BULK AT MOST 1048576: true; the input reads as it did. -/
def sumTurnedUptoRow : OpenClaim := { program := "ytbekgecaoibnjaa", sum := "c7ff4d44b705d359dd422edc209ab486f0a8a322d870e8333f15e0e28c709044", func := "isobar/isobarlaw02.SumTurned", spec := "sumTurned", apart := false, narrowed := true }
def SumTurnedUptoSaid : Prop := sumTurnedUptoRow.holds Try.pinned (OpenSpec.upto sumTurnedSpec)

/-- 'isobarlaw02.SumShort', WHERE WHAT IT READS IS OF BULK AT MOST 1048576: true; the input reads as it did. -/
def sumShortUptoRow : OpenClaim := { program := "ytbekgecaoibnjaa", sum := "c7ff4d44b705d359dd422edc209ab486f0a8a322d870e8333f15e0e28c709044", func := "isobar/isobarlaw02.SumShort", spec := "sumShort", apart := false, narrowed := true }
def SumShortUptoSaid : Prop := sumShortUptoRow.holds Try.pinned (OpenSpec.upto sumShortSpec)

end Rows
end Go.Proofs.Ytbekgecaoibnjaa
