/- What the statements' frames need. -/
import Derived.Test.YtmdhlpnieimdaaaK1
import Derived.ProofKit
import Derived.OpenShut
namespace Go.Proofs.Ytmdhlpnieimdaaa
open Go.ChangeShapes Go.WideShapes Go.ChangeAt Go.RowKit

end Go.Proofs.Ytmdhlpnieimdaaa
