/- Contract: the reader's Id. -/
import Derived.Test.YtdandpaeeodolaaGreatRdrWK
import Derived.Test.YtdandpaeeodolaaGreatBoxOK
import Derived.Laws.CopyRow
import Derived.Laws.IdiomCopy
import Derived.Laws.Rows
namespace Go.Proofs.YtdandpaeeodolaaGreat
open Go.RowKit
set_option linter.unusedVariables false
set_option linter.unusedSimpArgs false

theorem setRow_box {w : World} {b : Nat} {y : ID} (h : bxI w b = some y) (x : ID) : bxI (w.setRow b (bv x.1).toArray) b = some x ∧ Fr (oneB b) w (w.setRow b (bv x.1).toArray) := by
  have hh := bxI_at h
  have hl := bxI_lt h
  refine ⟨bxI_of ?_, ⟨rfl, rfl, rfl, ?_, fun k hk hn => ?_⟩⟩
  · simp only [ido, idA_eq] at hh ⊢
    exact setRow_heap w b _ _ _ _ hh
  · simp [World.setRow]
  · have : ¬ b = k := fun e => hn e.symm
    simp only [World.setRow, Array.getElem?_modify]
    rw [if_neg this]
theorem idOf_eq (l : List UInt8) (h : l.length = 32) : (idOf l).1 = l := congrArg Subtype.val (show idOf l = ⟨l, h⟩ from dif_pos h)
theorem rdId_len (s : RS) : (rdId s).2.1.length ≤ s.1.length := rdTake_len _ _
end Go.Proofs.YtdandpaeeodolaaGreat
