/- Variables that hold an ID (a block of their own): BoxI's first part, for seats without dag. -/
import Derived.Test.YthehiobacjjakaaGreatDoorIdRowKp
import Derived.ChangeMaps
set_option linter.unusedVariables false
set_option linter.unusedSimpArgs false
namespace Go.Proofs.YthehiobacjjakaaGreatDoor
open Go.RowKit
noncomputable def elseR {α:Type} (r:Result α):Result α:=r
theorem elseR_eq {α:Type} (r:Result α):r = elseR r:=rfl
theorem frameMapB {w:World} {r:Nat} (hlt:r < w.heap.size) (o:Obj):Fr (oneB r) w (ChangeMaps.setBlock w r o) ∧ (ChangeMaps.setBlock w r o).heap.size = w.heap.size ∧ (ChangeMaps.setBlock w r o).heap[r]? = some o:=by
 refine ⟨⟨rfl,rfl,rfl,by simp [ChangeMaps.setBlock],fun b hb hn=>?_⟩,by simp [ChangeMaps.setBlock],?_⟩
 ·simp only [ChangeMaps.setBlock,Array.getElem?_setIfInBounds]
  rw [if_neg (fun e=>hn e.symm)]
 ·simp [ChangeMaps.setBlock,hlt]
theorem idA_inj {x y:ID} (h:idA x = idA y):x = y:=encI_inj (congrArg Value.agg h)
end Go.Proofs.YthehiobacjjakaaGreatDoor
