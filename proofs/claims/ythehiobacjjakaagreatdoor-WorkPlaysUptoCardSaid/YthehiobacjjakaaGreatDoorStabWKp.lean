/- Plain: the steps of a stable sort: cuts found by halving, merges, blocks. Walks: the stable sort of a row of structs: swapRange, rotate, insertionSort, symMerge, stable. (ex_ldR_at) -/
import Derived.Test.YthehiobacjjakaaGreatDoorStabCKp
import Derived.Test.YthehiobacjjakaaGreatDoorFrameRKp
import Derived.Test.YthehiobacjjakaaGreatDoorQFrKp
import Derived.Test.YthehiobacjjakaaGreatDoorRegTKp
import Derived.Sort.WalkA
import Derived.Deep.LoopGhost
import Derived.Shelf.RegionOpenPlain
set_option linter.unusedVariables false
set_option linter.unusedSimpArgs false
namespace Go.Proofs.YthehiobacjjakaaGreatDoor
open Go.Sort
set_option linter.unusedSectionVars false
section
variable {α:Type} [Inhabited α] {lt:α → α → Bool}
def Blocks (lt:α → α → Bool) (k n:Nat) (d:Array α):Prop:=∀ i,SortedIn lt (i * k) (min ((i + 1) * k) n) d
theorem Blocks.all {k n:Nat} {d:Array α} (h:Blocks lt k n d) (hn:n ≤ k):SortedIn lt 0 n d:=by
 have:=h 0
 rw [Nat.zero_mul,Nat.zero_add,Nat.one_mul,Nat.min_eq_right hn] at this
 exact this
end
end Go.Proofs.YthehiobacjjakaaGreatDoor
namespace Go.Proofs.YthehiobacjjakaaGreatDoor
open Go.RowKit Go.Sort
instance:Inhabited RwW:=⟨zRwW⟩
theorem Fr.sameR {w w':World} (f:Fr noB w w'):∀ b o,b < w.heap.size → codR.rd w' b o = codR.rd w b o:=fun b o h=>Cod.rd_keep (f.block b h (by simp [noB]))
end Go.Proofs.YthehiobacjjakaaGreatDoor
