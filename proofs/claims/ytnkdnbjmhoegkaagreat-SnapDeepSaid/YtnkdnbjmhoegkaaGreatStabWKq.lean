/- Walks: the stable sort of a row of structs: swapRange, rotate, insertionSort, symMerge, stable. (ex_ldR_at) -/
import Derived.Test.YtnkdnbjmhoegkaaGreatRowCKq
import Derived.Test.YtnkdnbjmhoegkaaGreatStabCKq
import Derived.Test.YtnkdnbjmhoegkaaGreatQFrKq
import Derived.Test.YtnkdnbjmhoegkaaGreatRegQKq
import Derived.Sort.WalkA
import Derived.Deep.LoopGhost
import Derived.Shelf.RegionOpenPlain
set_option linter.unusedVariables false
set_option linter.unusedSimpArgs false
namespace Go.Proofs.YtnkdnbjmhoegkaaGreat
open Go.RowKit Go.Sort
instance:Inhabited RwW:=⟨zRwW⟩
theorem Fr.sameR {w w':World} (f:Fr noB w w'):∀ b o,b < w.heap.size → codR.rd w' b o = codR.rd w b o:=fun b o h=>Cod.rd_keep (f.block b h (by simp [noB]))
end Go.Proofs.YtnkdnbjmhoegkaaGreat
