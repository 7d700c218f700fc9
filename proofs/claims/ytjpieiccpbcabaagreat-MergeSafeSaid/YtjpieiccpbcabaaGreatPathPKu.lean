/- Plain: paths as the program and as the document make them. -/
import Derived.Test.YtjpieiccpbcabaaGreatTreePKu
set_option linter.unusedVariables false
set_option linter.unusedSimpArgs false
namespace Go.Proofs.YtjpieiccpbcabaaGreat
end Go.Proofs.YtjpieiccpbcabaaGreat
