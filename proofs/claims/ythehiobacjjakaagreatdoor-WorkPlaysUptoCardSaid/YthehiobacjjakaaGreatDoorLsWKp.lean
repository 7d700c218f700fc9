/- The law WorkLists: its walk. -/
import Derived.Test.YthehiobacjjakaaGreatDoorFrameLKp
import Derived.Test.YthehiobacjjakaaGreatDoorRfDKp
import Derived.Test.YthehiobacjjakaaGreatDoorRfPKp
import Derived.Test.YthehiobacjjakaaGreatDoorSmVKp
import Derived.Test.YthehiobacjjakaaGreatDoorR13RKp
import Derived.Deep.CutRange
set_option linter.unusedVariables false
set_option linter.unusedSimpArgs false
namespace Go.Proofs.YthehiobacjjakaaGreatDoor
open Go.RowKit Go.Maps Go.Sort
theorem nodes_ok {xs:List RwP} (h:TreeOk xs):NodesOk xs:=fun x hx=>by
 have:=rightR_node (h.ok x hx)
 unfold rightS at this
 simp only [Bool.and_eq_true,decide_eq_true_eq] at this
 omega
end Go.Proofs.YthehiobacjjakaaGreatDoor
