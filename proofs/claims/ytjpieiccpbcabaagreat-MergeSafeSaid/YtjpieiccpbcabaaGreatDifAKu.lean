/- Contracts: differ.trash, snap.last, snap.fixed; tables: of, depth, place; sameData. (ex_ldS_at) -/
import Derived.Test.YtjpieiccpbcabaaGreatTreeSKu
import Derived.Test.YtjpieiccpbcabaaGreatPathPKu
import Derived.Test.YtjpieiccpbcabaaGreatRdCKu
import Derived.Test.YtjpieiccpbcabaaGreatDiffPKu
import Derived.Deep.LoopGhost
set_option linter.unusedVariables false
set_option linter.unusedSimpArgs false
namespace Go.Proofs.YtjpieiccpbcabaaGreat
open Go.RowKit
theorem Cod.bxd_box {α:Type} {C:Cod α} (w:World) (x:α):C.bxd (w.alloc (.cells (C.A x) C.t)) w.heap.size = some x:=by
 have h:=Cod.bxd_new (C:=C) w x
 rwa [show C.o x = .cells (C.A x) C.t from by unfold Cod.o;rfl] at h
theorem bxS_box (w:World) (x:St):codS.bxd (w.alloc (.cells (codS.A x) 80)) w.heap.size = some x:=Cod.bxd_box w x
@[simp] theorem fldR_1 (w:World) (r:RwW):(Instr.field 110 (.agg (codR.A r)) 1).run Tryz.prog w = .ok (.agg (codS.A r.Parent)) w:=by
 rw [Cod.A_eq,Cod.A_eq]
 kernel_rfl
theorem stCell {w:World} {b:Nat} {s:St} (h:codS.rd w b 0 = some s):w.cell? ⟨b,0,none⟩ = some (.int .i64 s.T) ∧ w.cell? ⟨b,1,none⟩ = some (.int .i64 s.R) :=
 ⟨by simpa using Cod.rd_cell h 0 (v:=.int .i64 s.T) rfl,by simpa using Cod.rd_cell h 1 (v:=.int .i64 s.R) rfl⟩
/-! tables -/
end Go.Proofs.YtjpieiccpbcabaaGreat
