/- The steps of a script of WorkPlays' laws in memory; start; does. (ex_ldS_at) -/
import Derived.Test.YthehiobacjjakaaGreatDoorWlEKv
import Derived.Test.YthehiobacjjakaaGreatDoorWlGKv
set_option linter.unusedVariables false
set_option linter.unusedSimpArgs false
namespace Go.Proofs.YthehiobacjjakaaGreatDoor
open Go.RowKit Go.Maps Go.Sort
structure OpL where
 Kind:Int
 A:List UInt8
 Z:List UInt8
 ID:ID
def zOpL:OpL:=⟨0,[],[],zID⟩
instance:Inhabited OpL:=⟨zOpL⟩
set_option maxRecDepth 100000 in
theorem start_any (w:World):Calls Tryz.prog 24 #[] w (Gives w (.agg (codS.A ⟨10,1⟩))):=by
 go_enter Tryz.func24,Tryz.ntmps24
 go_upto_region 1 with fail
 have f0:Fr noB w (w.alloc (codS.o zSt)):=(Fr.refl noB w).alloc _
 have b0:=Cod.bxd_new (C:=codS) w zSt
 have hst:=okS.stR_box b0 ⟨10,1⟩
 obtain ⟨p1,_,n1⟩:=Cod.put_fr b0 ⟨10,1⟩
 have HB:=Lib.hid (And.intro (f0.step1 p1 (Nat.le_refl _)) n1)
 clear f0 b0 p1 n1
 go_wp2_with fail
 refine bodyPost_ret (ret_row okS rfl _ _ _ _ (by rfl) HB.out.2) rfl ?_
 exact ⟨rfl,HB.out.1⟩
end Go.Proofs.YthehiobacjjakaaGreatDoor
