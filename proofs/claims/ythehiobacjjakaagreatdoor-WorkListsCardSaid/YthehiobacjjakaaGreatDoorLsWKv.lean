/- The law WorkLists: its walk. -/
import Derived.Test.YthehiobacjjakaaGreatDoorFrameLKv
import Derived.Test.YthehiobacjjakaaGreatDoorRfDKv
import Derived.Test.YthehiobacjjakaaGreatDoorRfPKv
import Derived.Test.YthehiobacjjakaaGreatDoorSmVKv
import Derived.Test.YthehiobacjjakaaGreatDoorR13RKv
import Derived.Deep.CutRange
set_option linter.unusedVariables false
set_option linter.unusedSimpArgs false
namespace Go.Proofs.YthehiobacjjakaaGreatDoor
open Go.RowKit Go.Maps Go.Sort
theorem nodes_ok {xs:List RwP} (h:TreeOk xs):NodesOk xs:=fun x hx=>by
 have:=rightR_node (h.ok x hx)
 unfold rightS at this
 simp only [Bool.and_eq_true,decide_eq_true_eq] at this
 omega
set_option maxRecDepth 100000 in
set_option maxHeartbeats 2000000 in
theorem lists_any (W0:World) (hT0:HasT W0) (hM0:HasMW W0) (A:Option Addr) (c n:Nat) (rs:List RwW) (xs:List RwP) (hn:rs.length = n) (hs:Sl W0 A (codR.row rs)) (hb:rs.length ≤ 140737488355328) (hX:RwsIn W0 rs xs) (hbd:∀ x ∈ xs,x.Heads.length ≤ 2932031007402) :
  Calls Tryz.prog 4 #[.slice A n c] W0 (Gives W0 (.bool true)):=by
 subst hn
 have AL:=Lib.hid (alive17_any W0 hT0 hM0)
 have RT:=Lib.hid (fun w' (f:Fr noB W0 w')=>r13right_any w' A c rs.length rs xs rfl (hs.fr0 f) hb (hX.fr f))
 have LI:=Lib.hid (fun w' (f:Fr noB W0 w')=>li_any w' A c rs.length rs xs rfl (hs.fr0 f) hb (hX.fr f) hbd (hT0.fr f))
 have HLX:=Lib.hid hX.len
 by_cases h40:40 < rs.length
 ·have i40:(40:Int) < (rs.length:Int):=by omega
  clear hs hX hbd hT0 hM0
  go_enter Tryz.func4,Tryz.ntmps4
  go_wp2_with (go_at_call 8;refine AL.out.mono ?_;rintro e w1 ⟨rfl,f1⟩)
  go_ret
  exact ⟨rfl,f1⟩
 have i40:¬ (40:Int) < (rs.length:Int):=by omega
 by_cases hT:TreeOk xs
 ·have RL:=Lib.hid (fun w' (f:Fr noB W0 w')=>rlist_any w' A c rs.length rs xs rfl (hs.fr0 f) (by omega) (hX.fr f) (nodes_ok hT) (ptD xs) (fun x hx hl=>(ptD_spec hT hx hl).1))
  have HTR:=Lib.hid hT
  have HB:=Lib.hid (show rs.length ≤ 40 by omega)
  clear hs hX hbd hT0 hM0 h40 hT
  go_enter Tryz.func4,Tryz.ntmps4
  go_upto_region 7 with (first
   | (go_at_call 8;refine AL.out.mono ?_;rintro e w1 ⟨rfl,f1⟩)
   | (go_at_call 23;refine (RT.out _ f1).mono ?_;rintro e w2 ⟨b,rfl,f2,hbb⟩;rw [hbb.2 HTR.out]))
  have F2:=Lib.hid (f1.step0 f2)
  clear f1 f2 hbb
  go_wp2_with (first
   | (go_at_call 21;refine (LI.out _ F2.out).mono ?_;rintro e w3 ⟨A3,c3,os,ys,rfl,o3,a3,y3,f3⟩)
   | (go_at_call 22;refine (RL.out _ (F2.out.step0 f3)).mono ?_;rintro e w4 ⟨A4,c4,qs,rfl,s4,a4,f4⟩;rw [refL_eq HTR.out y3] at a4)
   | (go_at_call 20;refine (same17_any _ A3 A4 c3 c4 _ _ os qs ys rfl rfl ((Sl.own o3:Sl _ A3 (codEn.row os)).fr0 f4) s4 (a3.map fun r x k=>k.frH f4 (NoH.nob _)) a4 (by rw [a3.1];have:=y3.len HTR.out;have:=HLX.out;have:=HB.out;omega)).mono ?_;rintro e w5 ⟨rfl,f5⟩))
  go_ret
  exact ⟨rfl,(F2.out.step0 f3).step0 (f4.step0 f5)⟩
 ·have HNT:=Lib.hid hT
  clear hs hX hbd hT0 hM0 h40 hT
  go_enter Tryz.func4,Tryz.ntmps4
  go_wp2_with (first
   | (go_at_call 8;refine AL.out.mono ?_;rintro e w1 ⟨rfl,f1⟩)
   | (go_at_call 23;refine (RT.out _ f1).mono ?_;rintro e w2 ⟨b,rfl,f2,hbb⟩;rw [show b = false by (cases b with | false=>rfl | true=>exact absurd (hbb.1 rfl) HNT.out)])
   | (go_at_call 21;refine (LI.out _ (f1.step0 f2)).mono ?_;rintro e w3 ⟨A3,c3,os,ys,rfl,o3,a3,y3,f3⟩;rw [show os.length = 0 by (rw [a3.1,y3.none HNT.out];rfl)]))
  go_ret
  exact ⟨rfl,(f1.step0 f2).step0 f3⟩
theorem lawLists17 (W:World) (hT:HasT W) (hM:HasMW W) (A:Option Addr) (c:Nat) (rs:List RwW) (xs:List RwP) (hs:Sl W A (codR.row rs)) (hb:rs.length ≤ 140737488355328) (hX:RwsIn W rs xs) (hbd:∀ x ∈ xs,x.Heads.length ≤ 2932031007402) :
  Calls Tryz.prog 4 #[.slice A rs.length c] W (Gives W (.bool true)):=lists_any W hT hM A c _ rs xs rfl hs hb hX hbd
end Go.Proofs.YthehiobacjjakaaGreatDoor
