/- Plain: what turns one tree into another one: moves, what goes to the trash, edits; numbered from a stamp on. -/
import Derived.Test.YtjpieiccpbcabaaGreatTreePK
namespace Go.Proofs.YtjpieiccpbcabaaGreat
set_option linter.unusedVariables false
set_option linter.unusedSimpArgs false

end Go.Proofs.YtjpieiccpbcabaaGreat
