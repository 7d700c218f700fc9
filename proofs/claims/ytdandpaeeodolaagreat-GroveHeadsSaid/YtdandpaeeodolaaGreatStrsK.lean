/- Bytes and strings: conversions. -/
import Derived.Test.YtdandpaeeodolaaGreatEncK
import Derived.Laws.BytesArg
import Derived.Lib.SlBytesConst
namespace Go.Proofs.YtdandpaeeodolaaGreat
open Go.RowKit
set_option linter.unusedVariables false
set_option linter.unusedSimpArgs false

/-- The bytes of a string, as the model has them. -/
def str (l : List UInt8) : ByteArray := ⟨l.toArray⟩

theorem str_toList (l : List UInt8) : (str l).toList = l := by rw [ByteArray.toList_eq]; rfl

theorem strOfNums_bytes (l : List UInt8) : strOfNums (l.map fun b => (b.toNat : Int)) = str l := by
  unfold strOfNums str
  simp [List.map_map, Function.comp_def]

theorem getD_nums (l : List UInt8) (i : Nat) (h : i < l.length) : (l.map fun b => (b.toNat : Int)).getD i 0 = ((l[i]).toNat : Int) := by simp [List.getD, h]

/-- What a new block holds, whatever of it is marked. -/
theorem Sl.newF (w : World) (t : TypeId) (cs : List Value) (f : Nat × Nat) : Sl (w.alloc (.cells cs.toArray t f)) (some ⟨w.heap.size, 0, none⟩) cs := by
  intro _
  have hh : (w.alloc (.cells cs.toArray t f)).heap[w.heap.size]? = some (.cells cs.toArray t f) := heap_alloc_new w _
  refine ⟨w.heap.size, 0, rfl, (Array.getElem?_eq_some_iff.1 hh).1, fun j u hu => ?_⟩
  rw [Nat.zero_add, cell_of_row _ _ j cs.toArray t f hh]
  simpa using hu
end Go.Proofs.YtdandpaeeodolaaGreat
