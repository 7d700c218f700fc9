/- Bytes and strings: conversions. -/
import Derived.Test.YtahllkifmmjbdaaEncKp
import Derived.Laws.BytesArg
import Derived.Lib.SlBytesConst
set_option linter.unusedVariables false
set_option linter.unusedSimpArgs false
namespace Go.Proofs.Ytahllkifmmjbdaa
open Go.RowKit
def str (l:List UInt8):ByteArray:=⟨l.toArray⟩
theorem str_toList (l:List UInt8):(str l).toList = l:=by rw [ByteArray.toList_eq];rfl
theorem strOfNums_bytes (l:List UInt8):strOfNums (l.map fun b=>(b.toNat:Int)) = str l:=by
 unfold strOfNums str
 simp [List.map_map,Function.comp_def]
theorem getD_nums (l:List UInt8) (i:Nat) (h:i < l.length):(l.map fun b=>(b.toNat:Int)).getD i 0 = ((l[i]).toNat:Int):=by simp [List.getD,h]
theorem conv_str (w:World) (A:Option Addr) (n c:Nat) (l:List UInt8) (hn:l.length = n) (hs:Sl w A (bv l)) :
  (convert 25 9 (.slice A n c)).run Try.prog w = .ok (.string (str l)) w:=by
 subst hn
 cases l with
 | nil =>
  cases A with
  | none=>exact run_convert_bytes_nil w 25 5 Try.underlying25 Try.underlying5 _ _ 9 Try.underlying9
  | some a =>
   rw [run_convert_bytes_string w 25 9 5 _ _ _ Try.underlying25 Try.underlying5 Try.underlying9]
   have:=run_bytesToString (P:=Try.prog) w a 0 c [] (by simp [loadCells,loadCellsFrom])
   exact this
 | cons b t =>
  obtain ⟨g,off,rfl,hg,hc⟩:=hs (by simp [bv])
  have:=run_convert_bytes_arg (P:=Try.prog) w 25 5 Try.underlying25 Try.underlying5 g off (b :: t).length c ((b :: t).map fun b=>(b.toNat:Int)) (by simp) (by
   intro i hi
   rw [hc i _ (bv_get (b :: t) i hi),getD_nums _ i hi]) 9 Try.underlying9
  rw [this,strOfNums_bytes]
@[simp] theorem conv_const (w:World) (C:Array Value) (n c:Nat) :
  (convert 25 25 (.slice (some ⟨w.heap.size,0,none⟩) n c)).run Try.prog (w.alloc (.cells C 5)) = .ok (.slice (some ⟨w.heap.size,0,none⟩) n c) (w.alloc (.cells C 5 (C.size,C.size + 1))) :=
 Lib.run_convert_bytes_const w 25 5 C n c Try.underlying25 Try.underlying5
theorem Sl.newF (w:World) (t:TypeId) (cs:List Value) (f:Nat × Nat):Sl (w.alloc (.cells cs.toArray t f)) (some ⟨w.heap.size,0,none⟩) cs:=by
 intro _
 have hh:(w.alloc (.cells cs.toArray t f)).heap[w.heap.size]? = some (.cells cs.toArray t f):=heap_alloc_new w _
 refine ⟨w.heap.size,0,rfl,(Array.getElem?_eq_some_iff.1 hh).1,fun j u hu=>?_⟩
 rw [Nat.zero_add,cell_of_row _ _ j cs.toArray t f hh]
 simpa using hu
end Go.Proofs.Ytahllkifmmjbdaa
