/- Contracts: the reference's RightLabel, rightItem, RightDir. Contract: the reference's RightChange. Contract: the reference's SameHeads, of equal heads. (rdI, ex_ldH_at) Contracts: the reference's Same of rows (their heads equal), of operations. (rdI, ex_ldS_at) -/
import Derived.Test.YtjpieiccpbcabaaGreatR3bKu
import Derived.Test.YtjpieiccpbcabaaGreatGlPKu
set_option linter.unusedVariables false
set_option linter.unusedSimpArgs false
namespace Go.Proofs.YtjpieiccpbcabaaGreat
open Go.RowKit
end Go.Proofs.YtjpieiccpbcabaaGreat
namespace Go.Proofs.YtjpieiccpbcabaaGreat
open Go.RowKit
end Go.Proofs.YtjpieiccpbcabaaGreat
namespace Go.Proofs.YtjpieiccpbcabaaGreat
open Go.RowKit
theorem A_H (x:Hd):codH.A x = (.int .i64 x.At.T :: .int .i64 x.At.R :: bv x.Data.1).toArray:=Cod.A_eq codH x
theorem sizeI' (w:World):(sizeOf 24).run Tryz.prog w = .ok 32 w:=Tryz.sizeOf24 w
@[simp] theorem str_beqG (a b:List UInt8):((str a).toList == (str b).toList) = decide (a = b):=by
 rw [str_toList,str_toList]
 by_cases h:a = b
 ·simp [h]
 ·simp [h]
def shR (x y:RwP):Bool:=decide (x.Node = y.Node) && (decide (x.Parent = y.Parent) && (decide (x.At = y.At) && decide (x.Name = y.Name)))
end Go.Proofs.YtjpieiccpbcabaaGreat
