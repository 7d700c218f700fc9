/- Plain: what turns one tree into another one: moves, what goes to the trash, edits; numbered from a stamp on. Plain: paths as the program and as the document make them. Contracts: differ.trash, snap.last, snap.fixed; tables: of, depth, place; sameData. (ex_ldS_at) -/
import Derived.Test.YtnkdnbjmhoegkaaGreatTreePKq
import Derived.Test.YtnkdnbjmhoegkaaGreatSnpTKq
import Derived.Test.YtnkdnbjmhoegkaaGreatGetTKq
import Derived.Deep.LoopGhost
set_option linter.unusedVariables false
set_option linter.unusedSimpArgs false
namespace Go.Proofs.YtnkdnbjmhoegkaaGreat
end Go.Proofs.YtnkdnbjmhoegkaaGreat
namespace Go.Proofs.YtnkdnbjmhoegkaaGreat
open Go.RowKit
theorem Cod.bxd_box {α:Type} {C:Cod α} (w:World) (x:α):C.bxd (w.alloc (.cells (C.A x) C.t)) w.heap.size = some x:=by
 have h:=Cod.bxd_new (C:=C) w x
 rwa [show C.o x = .cells (C.A x) C.t from by unfold Cod.o;rfl] at h
theorem bxS_box (w:World) (x:St):codS.bxd (w.alloc (.cells (codS.A x) 24)) w.heap.size = some x:=Cod.bxd_box w x
set_option maxRecDepth 100000 in
theorem last_any (w:World):Calls Tryz.prog 19 #[] w (Gives w (.agg (codS.A lastS))):=by
 go_enter Tryz.func19,Tryz.ntmps19
 go_wp2_with fail
 refine bodyPost_ret (ret_row okS rfl _ _ w.heap.size lastS (by rfl) (Cod.bxd_new w _)) rfl ?_
 exact ⟨rfl,(Fr.refl noB w).alloc _⟩
theorem stCell {w:World} {b:Nat} {s:St} (h:codS.rd w b 0 = some s):w.cell? ⟨b,0,none⟩ = some (.int .i64 s.T) ∧ w.cell? ⟨b,1,none⟩ = some (.int .i64 s.R) :=
 ⟨by simpa using Cod.rd_cell h 0 (v:=.int .i64 s.T) rfl,by simpa using Cod.rd_cell h 1 (v:=.int .i64 s.R) rfl⟩
set_option maxRecDepth 100000 in
theorem nfixed_any (w:World) (s:St):Calls Tryz.prog 32 #[.agg (codS.A s)] w (Gives w (.bool (fixedS s))):=by
 have f0:Fr noB w (w.alloc (.cells (codS.A s) 24)):=(Fr.refl noB w).alloc _
 obtain ⟨q1,q2⟩:=stCell (Cod.bxd_rd (bxS_box w s))
 obtain ⟨T,R⟩:=s
 simp only at q1 q2
 by_cases h1:T = 0
 ·subst h1
  by_cases h2:R = 0
  ·subst h2
   have e:fixedS ⟨0,0⟩ = true:=rfl
   have E:=Lib.hid e
   clear e
   go_enter Tryz.func32,Tryz.ntmps32
   go_wp2_with fail
   go_ret
   exact ⟨by rw [E.out];rfl,f0⟩
  ·by_cases h3:R = 1
   ·subst h3
    have e:fixedS ⟨0,1⟩ = true:=rfl
    have E:=Lib.hid e
    clear e
    go_enter Tryz.func32,Tryz.ntmps32
    go_wp2_with fail
    go_ret
    exact ⟨by rw [E.out];rfl,f0⟩
   ·have e:fixedS ⟨0,R⟩ = false:=by simp [fixedS,h2,h3]
    have h2':(R == 0) = false:=by simpa using h2
    have h3':(R == 1) = false:=by simpa using h3
    have E:=Lib.hid e
    clear e
    go_enter Tryz.func32,Tryz.ntmps32
    go_wp2_with fail
    go_ret
    exact ⟨by rw [E.out];rfl,f0⟩
 ·have e:fixedS ⟨T,R⟩ = false:=by simp [fixedS,h1]
  have h1':(T == 0) = false:=by simpa using h1
  have E:=Lib.hid e
  clear e
  go_enter Tryz.func32,Tryz.ntmps32
  go_wp2_with fail
  go_ret
  exact ⟨by rw [E.out];rfl,f0⟩
/-! tables -/
end Go.Proofs.YtnkdnbjmhoegkaaGreat
