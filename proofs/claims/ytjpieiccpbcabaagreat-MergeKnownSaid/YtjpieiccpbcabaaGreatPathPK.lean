/- Plain: paths as the program and as the document make them. -/
import Derived.Test.YtjpieiccpbcabaaGreatTreePK
namespace Go.Proofs.YtjpieiccpbcabaaGreat
set_option linter.unusedVariables false
set_option linter.unusedSimpArgs false

end Go.Proofs.YtjpieiccpbcabaaGreat
