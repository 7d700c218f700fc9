/- The frame of a law's proof: closed facts on the program. -/
import Derived.Test.YtchiclnnoealdaaRows
import Derived.Test.YtchiclnnoealdaaDagK
import Derived.WalkKit
import Derived.ProofKit
import Derived.OpenShut
import Derived.ShutString
import Derived.ChangeOld
import Derived.Below
import Derived.SizedLaws
namespace Go.Proofs.Ytchiclnnoealdaa
open Go.ChangeShapes Go.WideShapes Go.ChangeAt Go.RowKit
theorem own : ownKnob Try.prog.godebug = none := by kernel_rfl
end Go.Proofs.Ytchiclnnoealdaa
