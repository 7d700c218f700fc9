/- Walks: the stable sort of a row of structs: swapRange, rotate, insertionSort, symMerge, stable. (ex_ldO_at) Walks: the stable sort of a row of structs: symMerge, stable, SortStableFunc. (ex_ldO_at, Fr.sameO) Walks: the stable sort of a row of structs: symMerge in general; stable, SortStableFunc. (ex_ldO_at, Fr.sameO) Walks: the stable sort of a row of structs: stable, SortStableFunc. -/
import Derived.Test.YtefcalkbfaefgaaGreatStabZK
import Derived.Test.YtefcalkbfaefgaaGreatGvCK
namespace Go.Proofs.YtefcalkbfaefgaaGreat
open Go.RowKit Go.Sort
set_option linter.unusedVariables false
set_option linter.unusedSimpArgs false
theorem Fr.sameO {w w' : World} (f : Fr noB w w') : ∀ b o, b < w.heap.size → codO.rd w' b o = codO.rd w b o := fun b o h => Cod.rd_keep (f.block b h (by simp [noB]))
end Go.Proofs.YtefcalkbfaefgaaGreat
namespace Go.Proofs.YtefcalkbfaefgaaGreat
open Go.RowKit Go.Sort
set_option linter.unusedVariables false
set_option linter.unusedSimpArgs false
end Go.Proofs.YtefcalkbfaefgaaGreat
namespace Go.Proofs.YtefcalkbfaefgaaGreat
open Go.RowKit Go.Sort
set_option linter.unusedVariables false
set_option linter.unusedSimpArgs false
end Go.Proofs.YtefcalkbfaefgaaGreat
namespace Go.Proofs.YtefcalkbfaefgaaGreat
open Go.RowKit Go.Sort
set_option linter.unusedVariables false
set_option linter.unusedSimpArgs false
end Go.Proofs.YtefcalkbfaefgaaGreat
