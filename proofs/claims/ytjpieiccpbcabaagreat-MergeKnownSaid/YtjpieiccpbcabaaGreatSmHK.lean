/- Contract: the reference's Cmp. (ex_ld_arr: loads of arrays are met by that rule.) Arrays of 32 bytes by value and in variables (as the reference's functions have IDs). Contracts: the reference's order of stamps, Right, Name, zero. Contract: the reference's Good. Contracts: the reference's RightLabel, rightItem, RightDir. Contract: the reference's RightChange. Contract: the reference's SameHeads, of equal heads. (rdI, ex_ldH_at) -/
import Derived.Test.YtjpieiccpbcabaaGreatGvKK
import Derived.Test.YtjpieiccpbcabaaGreatCptK
import Derived.Test.YtjpieiccpbcabaaGreatRegMK
namespace Go.Proofs.YtjpieiccpbcabaaGreat
open Go.RowKit Go.Maps Go.Sort Go.Shelf
set_option linter.unusedVariables false
set_option linter.unusedSimpArgs false

end Go.Proofs.YtjpieiccpbcabaaGreat
namespace Go.Proofs.YtjpieiccpbcabaaGreat
open Go.RowKit Go.Maps Go.Sort Go.Shelf
set_option linter.unusedVariables false
set_option linter.unusedSimpArgs false

@[irreducible] noncomputable def stC (w:World) (v u:Value):Result Next:=((Instr.storeAt 23 v u).run Tryz.prog w).andThen (fun _ w=>.ok .skip w)
end Go.Proofs.YtjpieiccpbcabaaGreat
namespace Go.Proofs.YtjpieiccpbcabaaGreat
open Go.RowKit
set_option linter.unusedVariables false
set_option linter.unusedSimpArgs false

set_option maxRecDepth 100000 in
theorem r3cmp_any (w:World) (x y:St):Calls Tryz.prog 29 #[.agg (codS.A x),.agg (codS.A y)] w (Gives w (.int .i64 (cmpS x y))):=by
 have f0:Fr noB w ((w.alloc (.cells (codS.A x) 80)).alloc (.cells (codS.A y) 80)):=((Fr.refl noB w).alloc _).alloc _
 have q1:=Cod.rd_fr0 (Cod.rd_new (C:=codS) w 80 x) ((Fr.refl noB _).alloc (.cells (codS.A y) 80))
 have q2:=Cod.rd_new (C:=codS) (w.alloc (.cells (codS.A x) 80)) 80 y
 have hz:(w.alloc (.cells (codS.A x) 80)).heap.size = w.heap.size + 1:=by simp
 rw [hz] at q2
 have a1:=Cod.rd_cell q1 0 (v:=.int .i64 x.T) rfl
 have a2:=Cod.rd_cell q1 1 (v:=.int .i64 x.R) rfl
 have b1:=Cod.rd_cell q2 0 (v:=.int .i64 y.T) rfl
 have b2:=Cod.rd_cell q2 1 (v:=.int .i64 y.R) rfl
 simp only [Nat.zero_add] at a1 a2 b1 b2
 clear hz q1 q2
 go_enter Tryz.func29,Tryz.ntmps29
 go_upto_region 1 with fail
 generalize (w.alloc (.cells (codS.A x) 80)).alloc (.cells (codS.A y) 80) = W0 at f0 a1 a2 b1 b2 ⊢
 generalize w.heap.size = P at a1 a2 b1 b2 ⊢
 by_cases h1:x.T < y.T
 ·have E:=Lib.hid (show cmpS x y = -1 by simp [cmpS,h1])
  go_wp2_with fail
  go_ret
  exact ⟨by rw [E.out];rfl,f0⟩
 ·by_cases h2:x.T = y.T
  ·have h2b:(x.T == y.T) = true:=by simp [h2]
   by_cases h3:x.R < y.R
   ·have E:=Lib.hid (show cmpS x y = -1 by simp [cmpS,h2,h3])
    clear h2
    go_wp2_with fail
    go_ret
    exact ⟨by rw [E.out];rfl,f0⟩
   ·by_cases h4:x.R = y.R
    ·have h4b:(x.R == y.R) = true:=by simp [h4]
     have E:=Lib.hid (show cmpS x y = 0 by simp [cmpS,h2,h4])
     clear h2 h4
     go_wp2_with fail
     go_ret
     exact ⟨by rw [E.out];rfl,f0⟩
    ·have h4b:(x.R == y.R) = false:=by rw [beq_eq_false_iff_ne];exact h4
     have h5:y.R < x.R:=by omega
     have E:=Lib.hid (show cmpS x y = 1 by simp [cmpS,h2,h3,h5])
     clear h2 h4 h5
     go_wp2_with fail
     go_ret
     exact ⟨by rw [E.out];rfl,f0⟩
  ·have h2b:(x.T == y.T) = false:=by rw [beq_eq_false_iff_ne];exact h2
   have h5:y.T < x.T:=by omega
   have E:=Lib.hid (show cmpS x y = 1 by simp [cmpS,h1,h5])
   clear h2 h5
   go_wp2_with fail
   go_ret
   exact ⟨by rw [E.out];rfl,f0⟩
end Go.Proofs.YtjpieiccpbcabaaGreat
namespace Go.Proofs.YtjpieiccpbcabaaGreat
open Go.RowKit
set_option linter.unusedVariables false
set_option linter.unusedSimpArgs false

end Go.Proofs.YtjpieiccpbcabaaGreat
namespace Go.Proofs.YtjpieiccpbcabaaGreat
open Go.RowKit
set_option linter.unusedVariables false
set_option linter.unusedSimpArgs false

end Go.Proofs.YtjpieiccpbcabaaGreat
namespace Go.Proofs.YtjpieiccpbcabaaGreat
open Go.RowKit
set_option linter.unusedVariables false
set_option linter.unusedSimpArgs false

end Go.Proofs.YtjpieiccpbcabaaGreat
namespace Go.Proofs.YtjpieiccpbcabaaGreat
open Go.RowKit
set_option linter.unusedVariables false
set_option linter.unusedSimpArgs false

end Go.Proofs.YtjpieiccpbcabaaGreat
