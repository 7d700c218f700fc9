/- A function that holds a range over a function. -/
import Derived.Test.YtahllkifmmjbdaaProg
import Derived.RangeFuncNested
import Derived.RangeFuncBound
import Derived.RangeFuncCalls
import Derived.RangeFuncLeaves
import Derived.Shelf.Abstract
import Derived.Shelf.RegionOpen
import Derived.WalkKit
import Derived.OwnWalkIn
import Derived.TacticsInMore
import Derived.LoopNIn
import Derived.LoopIn
set_option linter.unusedVariables false
set_option linter.unusedSimpArgs false
namespace Go.Proofs.Ytahllkifmmjbdaa
open Go.RowKit Go.Shelf
def retP (fn:Func) (R:Ending → World → Prop):Exit → Act → World → Prop
 | .ret,a,w=>LeavesInM Fence.wide 8 Try.prog fn a.tmps R a.defers .returning w
 | _,_,_=>False
theorem callsM {f:FuncId} {fn:Func} {c:Code} {args:Array Value} {w:World} {R:Ending → World → Prop} (hf:Try.prog.funcs[f]? = some fn) (hb:fn.body = some c)
  (h:c.wp Try.prog (retP fn R) { tmps:=args ++ Array.replicate (fn.ntmps - args.size) undef,defers:=[] } w):Calls Try.prog f args w R :=
 callsIn_wide.1 (callsIn_of_wp_marks (n:=8) hf hb trivial (wpIn_wide.2 (wp_mono h (fun e a w h=>by cases e <;> first | exact h | exact h.elim))) rfl)
theorem leaveM1 {fn:Func} {R:Ending → World → Prop} {a:Act} {w:World} {v:Value} {D:Nat} (hd:a.defers = [{ target:=.collected D,args:=#[] }]) (hD:w.heap[D]? = some (.deferred (some []))) (hv:(results fn a.tmps).run Try.prog (w.putObj D (.deferred none)) = .ok v (w.putObj D (.deferred none))) (hR:R (.returned v) (w.putObj D (.deferred none))):retP fn R .ret a w:=by
 show LeavesInM Fence.wide 8 Try.prog fn a.tmps R a.defers .returning w
 rw [hd]
 exact ⟨by simp,.inl ⟨_,_,rfl,run_takeDeferred hD,⟨v,hv,hR⟩⟩⟩
end Go.Proofs.Ytahllkifmmjbdaa
