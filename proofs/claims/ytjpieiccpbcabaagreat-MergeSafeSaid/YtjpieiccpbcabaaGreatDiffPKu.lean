/- Plain: what turns one tree into another one: moves, what goes to the trash, edits; numbered from a stamp on. -/
import Derived.Test.YtjpieiccpbcabaaGreatTreePKu
set_option linter.unusedVariables false
set_option linter.unusedSimpArgs false
namespace Go.Proofs.YtjpieiccpbcabaaGreat
end Go.Proofs.YtjpieiccpbcabaaGreat
