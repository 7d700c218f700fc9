/- MergeSafe's walk, as the law's frame asks for it. -/
import Derived.Test.YtjpieiccpbcabaaGreatMgSwKu
set_option linter.unusedVariables false
set_option linter.unusedSimpArgs false
namespace Go.Proofs.YtjpieiccpbcabaaGreat
open Go.RowKit
theorem lawSafe15 (W:World) (A0:Option Addr) (c0:Nat) (rs0:List Tri) (hs0:Sl W A0 (codTr.row rs0)) (hb0:rs0.length ≤ 140737488355328) (a1 a2:Int) :
  Calls Tryz.prog 6 #[.slice A0 rs0.length c0,.int .i64 a1,.int .i64 a2] W (Gives W (.bool true)):=safe15_any W A0 c0 _ rs0 a1 a2 rfl hs0 (by omega)
end Go.Proofs.YtjpieiccpbcabaaGreat
