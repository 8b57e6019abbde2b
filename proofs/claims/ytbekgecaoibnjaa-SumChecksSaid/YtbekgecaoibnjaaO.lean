/- How the arguments of the laws are opened. -/
import Derived.Test.YtbekgecaoibnjaaProg
import Derived.Test.YtbekgecaoibnjaaRows
import Derived.ProofKit
import Derived.OpenShut
import Derived.ChangeOld
import Derived.ChangeMaps5
namespace Go.Proofs.Ytbekgecaoibnjaa
open Go.ChangeShapes Go.WideShapes Go.ChangeAt Go.RowKit

theorem Try.own : ownKnob Try.prog.godebug = none := by kernel_rfl
theorem Try.laidOut : laidOutB Try.prog = true := by kernel_rfl

end Go.Proofs.Ytbekgecaoibnjaa
