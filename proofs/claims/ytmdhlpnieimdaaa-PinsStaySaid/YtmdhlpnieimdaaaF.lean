/- What the statements' frames need. -/
import Derived.Test.YtmdhlpnieimdaaaK1
import Derived.ProofKit
import Derived.OpenShut
namespace Go.Proofs.Ytmdhlpnieimdaaa
open Go.ChangeShapes Go.WideShapes Go.ChangeAt Go.RowKit

theorem own : ownKnob Try.prog.godebug = none := by kernel_rfl
theorem laidOut : laidOutB Try.prog = true := by kernel_rfl
end Go.Proofs.Ytmdhlpnieimdaaa
