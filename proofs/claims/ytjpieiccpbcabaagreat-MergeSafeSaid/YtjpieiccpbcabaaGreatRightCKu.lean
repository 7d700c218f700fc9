/- Contracts: stamp.Name, stamp.move, stamp.edit, stamp.Good. Contract: stamp.edit. Contract: stamp.Good. Contracts: slices.IndexFunc, slices.ContainsFunc, obj.rise with closures. Contracts: the closures of obj.rightItem, rightDir, rightChange; rightItem, rightDir, rightLabel. Contracts: slices.Index and Contains of IDs, the closures of obj.rightChange, obj.rightChange. -/
import Derived.Test.YtjpieiccpbcabaaGreatNameXKu
import Derived.Test.YtjpieiccpbcabaaGreatQFrKu
import Derived.Test.YtjpieiccpbcabaaGreatEqsKu
import Derived.Deep.LoopGhost
import Derived.Test.YtjpieiccpbcabaaGreatRiseWKu
import Derived.Test.YtjpieiccpbcabaaGreatRegTKu
set_option linter.unusedVariables false
set_option linter.unusedSimpArgs false
namespace Go.Proofs.YtjpieiccpbcabaaGreat
open Go.RowKit
theorem hasB_not (l:List UInt8):(l.all fun b=>decide (b ≠ 0) && decide (b ≠ 47) && decide (b ≠ 10)) = !hasB l:=by
 unfold hasB
 induction l with
 | nil=>rfl
 | cons b l ih=>rw [List.all_cons,List.any_cons,ih];simp [Bool.not_or]
set_option maxRecDepth 100000 in
theorem name_any (w:World) (l:List UInt8) (hl:l.length ≤ 140737488355328):Calls Tryz.prog 164 #[.string (str l)] w (Gives w (.bool (nameOk l))):=by
 have hz:=str_size l
 have hT:(str l).toList = l:=str_toList l
 have hB:nameOk l = (decide (1 ≤ l.length) && decide (l.length ≤ 60) && decide (l ≠ [46]) && decide (l ≠ [46,46]) && !hasB l):=by
  unfold nameOk;rw [hasB_not]
 have hC:=Lib.hid (fun (h60:l.length ≤ 60)=>containsAny_chs w (str l) (by rw [hz];omega))
 have HB:=Lib.hid hB
 have HT:=Lib.hid hT
 have e0:(str l).data.toList = l:=by simp [str]
 rw [e0] at hC
 clear hB hT e0
 by_cases h1:1 ≤ l.length
 ·have i1:(1:Int) ≤ (l.length:Int):=by omega
  by_cases h2:l.length ≤ 60
  ·have i2:(l.length:Int) ≤ 60:=by omega
   by_cases h3:l = [46]
   ·have a1:(str l).toList = [46]:=by rw [HT.out,h3]
    have a2:((str l).toList == [46]) = true:=by rw [a1];rfl
    have H:=Lib.hid (HB.out.trans (by simp [h3]):nameOk l = false)
    clear HB h3
    go_enter Tryz.func164,Tryz.ntmps164
    go_wp2_with fail
    go_ret
    exact ⟨by rw [H.out];rfl,Fr.refl _ _⟩
   ·have a1:¬ (str l).toList = [46]:=by rw [HT.out];exact h3
    have a2:((str l).toList == [46]) = false:=by simpa using a1
    by_cases h4:l = [46,46]
    ·have a3:(str l).toList = [46,46]:=by rw [HT.out,h4]
     have a4:((str l).toList == [46,46]) = true:=by rw [a3];rfl
     have H:=Lib.hid (HB.out.trans (by simp [h4]):nameOk l = false)
     clear HB h4 h3 a1
     go_enter Tryz.func164,Tryz.ntmps164
     go_wp2_with fail
     go_ret
     exact ⟨by rw [H.out];rfl,Fr.refl _ _⟩
    ·have a3:¬ (str l).toList = [46,46]:=by rw [HT.out];exact h4
     have a4:((str l).toList == [46,46]) = false:=by simpa using a3
     have H:=Lib.hid (HB.out.trans (by simp [h1,h2,h3,h4]):nameOk l = !hasB l)
     clear HB h3 h4
     go_enter Tryz.func164,Tryz.ntmps164
     go_wp2_with fail
     go_at_call 176
     refine (hC.out (by omega)).mono ?_
     rintro e w1 ⟨rfl,hf⟩
     go_wp2_with fail
     go_ret
     exact ⟨by rw [H.out];rfl,hf⟩
  ·have i2:¬ (l.length:Int) ≤ 60:=by omega
   have H:=Lib.hid (HB.out.trans (by simp [h2]):nameOk l = false)
   clear HB
   go_enter Tryz.func164,Tryz.ntmps164
   go_wp2_with fail
   go_ret
   exact ⟨by rw [H.out];rfl,Fr.refl _ _⟩
 ·have i1:¬ (1:Int) ≤ (l.length:Int):=by omega
  have H:=Lib.hid (HB.out.trans (by simp [h1]):nameOk l = false)
  clear HB
  go_enter Tryz.func164,Tryz.ntmps164
  go_wp2_with fail
  go_ret
  exact ⟨by rw [H.out];rfl,Fr.refl _ _⟩
def opOf (r:OpW) (ov:List St):Opn:=⟨r.Kind,r.At,r.Node,r.Parent,r.Name,r.Data,ov⟩
set_option maxRecDepth 100000 in
theorem move_any (w:World) (r:OpW) (hl:r.Name.length ≤ 140737488355328) (ov:List St) (hov:ov.length = r.n):Calls Tryz.prog 134 #[.agg (codO.A r)] w (Gives w (.bool (moveOk (opOf r ov)))):=by
 have f0:Fr noB w (w.alloc (.cells (codO.A r) 83)):=(Fr.refl noB w).alloc _
 obtain ⟨q1,q2,q3,q4,q5,q6,q7,q8,q9,q10⟩:=opAt (Cod.rd_new w 83 r)
 have hP:w.heap.size < (w.alloc (.cells (codO.A r) 83)).heap.size:=by simp
 have hM:moveOk (opOf r ov) = (decide (cmpS r.Node r.At ≤ 0) && (rightS r.Parent || fixedS r.Parent) && nameOk r.Name && decide (r.Data = zID) && decide (r.n = 0)):=by unfold moveOk opOf;rw [hov]
 have HM:=Lib.hid hM
 clear hM hov q2 q3 q10
 go_enter Tryz.func134,Tryz.ntmps134
 go_upto_region 1 with fail
 generalize w.alloc (.cells (codO.A r) 83) = W0 at f0 q1 q4 q5 q6 q7 q8 q9 hP ⊢
 generalize w.heap.size = P at q1 q4 q5 q6 q7 q8 q9 hP ⊢
 go_wp2_with (first
  | (go_at_call 76;refine (scmp_v _ r.Node r.At).mono ?_;rintro e w1 ⟨rfl,f1⟩;obtain ⟨L1,L2,L3,L4,L5,L6⟩:=f1.same)
  | (go_at_call 124;refine (right_v _ _).mono ?_;rintro e w2 ⟨rfl,f2⟩;replace f1:=f1.step0 f2;clear L1 L2 L3 L4 L5 L6;obtain ⟨L1,L2,L3,L4,L5,L6⟩:=f1.same)
  | (go_at_call 163;refine (fixed_v _ _).mono ?_;rintro e w2 ⟨rfl,f2⟩;replace f1:=f1.step0 f2;clear L1 L2 L3 L4 L5 L6;obtain ⟨L1,L2,L3,L4,L5,L6⟩:=f1.same)
  | (go_at_call 164;refine (name_any _ _ hl).mono ?_;rintro e w2 ⟨rfl,f2⟩;replace f1:=f1.step0 f2;clear L1 L2 L3 L4 L5 L6;obtain ⟨L1,L2,L3,L4,L5,L6⟩:=f1.same))
 all_goals clear L1 L2 L3 L4 L5 L6 q1 q4 q5 q6 q7 q8 q9 hP
 all_goals
  go_ret
  have hn0:((r.n:Int) == 0) = decide (r.n = 0):=by rw [Bool.eq_iff_iff];simp
  refine ⟨?_,f0.step0 f1⟩
  rw [HM.out]
  first
  | (simp [*];done)
  | (have hle:¬ cmpS r.Node r.At ≤ 0:=by omega
     simp [hle];done)
end Go.Proofs.YtjpieiccpbcabaaGreat
namespace Go.Proofs.YtjpieiccpbcabaaGreat
open Go.RowKit
theorem all_take_succ {α:Type} (p:α → Bool) (l:List α) (k:Nat) (h:k < l.length):(l.take (k + 1)).all p = ((l.take k).all p && p l[k]):=by
 rw [List.take_succ_eq_append_getElem h,List.all_append];simp
theorem all_take_false {α:Type} {p:α → Bool} {l:List α} {k:Nat} (h:(l.take k).all p = false):l.all p = false:=by
 rw [← Bool.not_eq_true] at h ⊢
 intro ha
 apply h
 rw [List.all_eq_true] at ha ⊢
 exact fun x hx=>ha x (List.mem_of_mem_take hx)
theorem rise_take_succ {α:Type} (cf:α → α → Int) (l:List α) (k:Nat) (h:k < l.length) (h0:riseB cf (l.take k) = true) (h1:∀ (h:0 < k),cf (l[k - 1]'(by omega)) l[k] < 0):riseB cf (l.take (k + 1)) = true:=by
 rw [riseB_iff] at h0 ⊢
 intro j hj
 rw [List.length_take] at hj
 simp only [List.getElem_take]
 rcases Nat.lt_or_ge (j + 1) k with hk | hk
 ·have:=h0 j (by rw [List.length_take];omega)
  simpa only [List.getElem_take] using this
 ·have e:j = k - 1:=by omega
  subst e
  have:=h1 (by omega)
  simp only [show k - 1 + 1 = k by omega]
  exact this
theorem rise_false {α:Type} (cf:α → α → Int) (l:List α) (k:Nat) (h:k < l.length) (hk:0 < k) (h1:¬ cf (l[k - 1]'(by omega)) l[k] < 0):riseB cf l = false:=by
 rw [← Bool.not_eq_true]
 intro h0
 rw [riseB_iff] at h0
 have:=h0 (k - 1) (by omega)
 simp only [show k - 1 + 1 = k by omega] at this
 exact h1 this
theorem rise_zero {α:Type} (cf:α → α → Int) (l:List α):riseB cf (l.take 0) = true:=by simp [riseB]
theorem Sl.adC {α:Type} {C:Cod α} {w:World} {A:Option Addr} {l:List α} (h:Sl w A (C.row l)) (hl:0 < l.length):∃ g off,A = some ⟨g,off,none⟩ ∧ g < w.heap.size:=by
 obtain ⟨g,off,e,hg,_⟩:=h (Cod.row_ne (by intro h0;subst h0;simp at hl))
 exact ⟨g,off,e,hg⟩
def EdR (W:World) (p:St → Bool) (ov:List St) (gk:Nat) (iv:Value) (wr:World):Prop:=∃ k:Nat,iv = .int .i64 (k:Int) ∧ gk = ov.length - k ∧ k ≤ ov.length ∧ Fr noB W wr ∧ (ov.take k).all p = true ∧ riseB cmpS (ov.take k) = true
set_option maxRecDepth 100000 in
set_option maxHeartbeats 2000000 in
theorem edit_any (w:World) (r:OpW) (ov:List St) (hov:ov.length = r.n) (hs:Sl w r.A (codS.row ov)) (hb:ov.length ≤ 140737488355328):Calls Tryz.prog 135 #[.agg (codO.A r)] w (Gives w (.bool (editOk (opOf r ov)))):=by
 have f0:Fr noB w (w.alloc (.cells (codO.A r) 83)):=(Fr.refl noB w).alloc _
 obtain ⟨q1,q2,q3,q4,q5,q6,q7,q8,q9,q10⟩:=opAt (Cod.rd_new w 83 r)
 have hP:w.heap.size < (w.alloc (.cells (codO.A r) 83)).heap.size:=by simp
 have hM:editOk (opOf r ov) = (decide (cmpS r.Node r.At < 0) && decide (r.Parent = zSt) && decide (r.Name = []) && decide (r.Data ≠ zID) && decide (r.n ≤ 64) && (ov.all fun s=>rightS s && decide (cmpS s r.At < 0)) && riseB cmpS ov):=by unfold editOk opOf;rw [hov]
 have HM:=Lib.hid hM
 replace hs:=hs.fr0 f0
 clear hM q2 q3 q10
 go_enter Tryz.func135,Tryz.ntmps135
 go_upto_region 1 with fail
 generalize w.alloc (.cells (codO.A r) 83) = W0 at f0 hs q1 q4 q5 q6 q7 q8 q9 hP ⊢
 generalize w.heap.size = P at q1 q4 q5 q6 q7 q8 q9 hP ⊢
 have HOV:=Lib.hid hov
 clear hov
 go_wp2_with ((go_at_call 76;refine (scmp_v _ r.Node r.At).mono ?_;rintro e w1 ⟨rfl,f1⟩;obtain ⟨L1,L2,L3,L4,L5,L6⟩:=f1.same))
 all_goals first
  | (go_ret
     refine ⟨?_,f0.step0 f1⟩
     rw [HM.out]
     try rw [str_toList] at *
     first
     | (simp [*];done)
     | (have hle:¬ cmpS r.Node r.At < 0:=by omega
        simp [hle];done)
     | (have hle:¬ r.n ≤ 64:=by omega
        simp [hle];done))
  | skip
 have h1:cmpS r.Node r.At < 0 ∧ (r.n:Int) ≤ 64:=‹_›
 have h2:r.Parent = zSt:=‹_›
 have h3:(str r.Name).toList = []:=‹_›
 have h4:¬ r.Data = zID:=‹_›
 rw [str_toList] at h3
 have HM2:Hid (editOk (opOf r ov) = ((ov.all fun s=>rightS s && decide (cmpS s r.At < 0)) && riseB cmpS ov)):=Lib.hid (by
  rw [HM.out]
  have h6:r.n ≤ 64:=by omega
  simp [h1.1,h2,h3,h4,h6])
 clear HM h1 h2 h3 h4 L1 L2 L3 L4 L5 L6
 replace hs:=hs.fr0 f1
 have r4:=(f1.same.st _ 1 hP).trans q4
 have r9:=(f1.same.cell _ 40 hP).trans q9
 have hP1:P < w1.heap.size:=Nat.lt_of_lt_of_le hP f1.size
 replace f0:=f0.step0 f1
 clear q1 q4 q5 q6 q7 q8 q9 hP f1 W0
 rw [← HOV.out] at r9 ⊢
 clear HOV
 generalize r.A = A at hs r9 ⊢
 generalize hpp:(fun s=>rightS s && decide (cmpS s r.At < 0)) = pp at HM2
 have HPP:=Lib.hid hpp
 clear hpp
 go_loopg [37] ov.length (fun gk iv wr=>EdR w1 pp ov gk iv wr)
 case atStart=>exact ⟨0,rfl,by omega,by omega,Fr.refl _ _,by simp,rise_zero _ _⟩
 case round =>
  obtain ⟨k,rfl,rfl,hk,hf,ha,hri⟩:=hrel
  have HA:=Lib.hid ha
  have HRI:=Lib.hid hri
  clear ha hri
  by_cases hlt:k < ov.length
  ·have i1:(k:Int) < (ov.length:Int):=by omega
   obtain ⟨g,off,rfl,hg⟩:=hs.adC (by omega)
   have e1:codS.rd wr g (off + k * 2) = some ov[k]:=(hs.fr0 hf).rd k hlt
   have e4:=(hf.same.st _ 1 hP1).trans r4
   have e9:=(hf.same.cell _ 40 hP1).trans r9
   have hP2:P < wr.heap.size:=Nat.lt_of_lt_of_le hP1 hf.size
   have hgw:g < wr.heap.size:=Nat.lt_of_lt_of_le hg hf.size
   have i0:(0:Int) ≤ (k:Int):=by omega
   have hpx:pp ov[k] = (rightS ov[k] && decide (cmpS ov[k] r.At < 0)):=by rw [← HPP.out]
   have bad1:pp ov[k] = false → editOk (opOf r ov) = false:=fun h=>by
    have h1:=all_take_succ pp ov k hlt
    rw [h,Bool.and_false] at h1
    rw [HM2.out,all_take_false h1];rfl
   have good1:pp ov[k] = true → (ov.take (k + 1)).all pp = true:=fun h=>by rw [all_take_succ pp ov k hlt,HA.out,h];rfl
   have pv:∀ (h:0 < k),∃ p,codS.rd wr g (off + (k - 1) * 2) = some p ∧ (¬ cmpS p ov[k] < 0 → editOk (opOf r ov) = false) ∧ (cmpS p ov[k] < 0 → riseB cmpS (ov.take (k + 1)) = true):=fun h =>
    ⟨ov[k - 1]'(by omega),(hs.fr0 hf).rd (k - 1) (by omega),fun h1=>by rw [HM2.out,rise_false cmpS ov k hlt h h1,Bool.and_false],fun h1=>rise_take_succ cmpS ov k hlt HRI.out (fun _=>h1)⟩
   have pz:k = 0 → riseB cmpS (ov.take (k + 1)) = true:=fun h=>rise_take_succ cmpS ov k hlt HRI.out (fun h'=>absurd h' (by omega))
   generalize ov[k] = x at e1 hpx bad1 good1 pv
   have fA:Fr noB wr (wr.alloc (codS.o x)):=(Fr.refl noB wr).alloc _
   have n1:codS.rd (wr.alloc (codS.o x)) wr.heap.size 0 = some x:=Cod.rd_new' wr x
   have n2:wr.heap.size < (wr.alloc (codS.o x)).heap.size:=by simp
   have BAD1:=Lib.hid bad1
   have PV:=Lib.hid pv
   have GOOD1:=Lib.hid good1
   have PZ:=Lib.hid pz
   have HPX:=Lib.hid hpx
   clear bad1 good1 hpx pv pz
   go_wp2_with fail
   have s4:=(fA.same.st _ 1 hP2).trans e4
   have s9:=(fA.same.cell _ 40 hP2).trans e9
   have hP3:=Nat.lt_of_lt_of_le hP2 fA.size
   have hg3:=Nat.lt_of_lt_of_le hgw fA.size
   replace fA:=hf.step0 fA
   have pv':∀ (h:0 < k),∃ p,codS.rd (wr.alloc (codS.o x)) g (off + (k - 1) * 2) = some p ∧ (¬ cmpS p x < 0 → editOk (opOf r ov) = false) ∧ (cmpS p x < 0 → riseB cmpS (ov.take (k + 1)) = true):=fun h=>by
    obtain ⟨p,h1,h2,h3⟩:=PV.out h
    exact ⟨p,(((Fr.refl noB wr).alloc (codS.o x)).same.st _ _ hgw).trans h1,fun h=>h2 (by omega),h3⟩
   have PV':=Lib.hid pv'
   clear e1 e4 e9 hP2 hgw PV pv'
   generalize wr.alloc (codS.o x) = W at fA n1 n2 s4 s9 hP3 hg3 PV' ⊢
   generalize wr.heap.size = N at n1 n2 ⊢
   have C2:∀ w,Calls Tryz.prog 76 #[.agg (codS.A x),.agg (codS.A r.At)] w (Gives w (.int .i64 (cmpS x r.At))):=fun w=>scmp_v w x r.At
   by_cases hr:rightS x = true
   ·have C1:∀ w,Calls Tryz.prog 124 #[.agg (codS.A x)] w (Gives w (.bool true)):=fun w=>Gives.val (right_v w x) (by rw [hr])
    by_cases hc:cmpS x r.At < 0
    ·have GP:pp x = true:=by rw [HPX.out,hr];simp [hc]
     have hc1:¬ (0:Int) ≤ cmpS x r.At:=by omega
     by_cases hk0:k = 0
     ·have G1:=Lib.hid (GOOD1.out GP)
      have G2:=Lib.hid (PZ.out hk0)
      have j0:¬ (0:Int) < (k:Int):=by omega
      have j9:¬ 0 < k:=by omega
      clear GP hk0
      refine wp_region_fr (by kernel_rfl) (by kernel_rfl) ?_
      refine wpQ_take (v:=?_) (by rfl) (fun wS hS=>?_) ?_
      rotate_left
      ·obtain ⟨L1,L2,L3,L4,L5,L6⟩:=Fr.same hS;go_simp;try with_reducible rfl
      try simp only [sA1,sA2,sA3,Act.put,sA4,sA5,sA6]
      refine wpQ_call (by rfl) (fun wS hS=>⟨_,_,?qh263,Calls.fr hS (C1 _)⟩) ?qk263
      case qh263=>obtain ⟨L1,L2,L3,L4,L5,L6⟩:=Fr.same hS;go_simp;try with_reducible rfl
      try simp only [sA1,sA2,sA3,Act.put,sA4,sA5,sA6]
      iterate 5
       refine wpQ_take (v:=?_) (by rfl) (fun wS hS=>?_) ?_
       rotate_left
       ·obtain ⟨L1,L2,L3,L4,L5,L6⟩:=Fr.same hS;go_simp;try with_reducible rfl
       try simp only [sA1,sA2,sA3,Act.put,sA4,sA5,sA6]
      refine wpQ_call (by rfl) (fun wS hS=>⟨_,_,?qh271,Calls.fr hS (C2 _)⟩) ?qk271
      case qh271=>obtain ⟨L1,L2,L3,L4,L5,L6⟩:=Fr.same hS;go_simp;try with_reducible rfl
      try simp only [sA1,sA2,sA3,Act.put,sA4,sA5,sA6]
      iterate 6
       refine wpQ_take (v:=?_) (by rfl) (fun wS hS=>?_) ?_
       rotate_left
       ·obtain ⟨L1,L2,L3,L4,L5,L6⟩:=Fr.same hS;go_simp;try with_reducible rfl
       try simp only [sA1,sA2,sA3,Act.put,sA4,sA5,sA6]
      iterate 9
       refine wpQ_off (by rfl) ?_
       try simp only [sA1,sA2,sA3,Act.put,sA4,sA5,sA6]
      iterate 2
       refine wpQ_take (v:=?_) (by rfl) (fun wS hS=>?_) ?_
       rotate_left
       ·obtain ⟨L1,L2,L3,L4,L5,L6⟩:=Fr.same hS;go_simp;try with_reducible rfl
       try simp only [sA1,sA2,sA3,Act.put,sA4,sA5,sA6]
      refine wpQ_nil ?_
      intro w1 f1
      go_wp2_with fail
      go_roundg (ov.length - (k + 1))
      case measure=>omega
      case rel=>exact ⟨k + 1,by simp,rfl,by omega,fA.step0 f1,G1.out,G2.out⟩
     ·have hk1:0 < k:=by omega
      have j0:(0:Int) < (k:Int):=by omega
      have m1:IntKind.i64.wrap ((k:Int) - 1) = ((k - 1:Nat):Int):=by rw [IntKind.wrap_i64];omega
      obtain ⟨p,e2,B2,G2⟩:=PV'.out hk1
      have GG2:=Lib.hid G2
      have BB2:=Lib.hid B2
      have q2:k - 1 < ov.length:=by omega
      clear G2 B2
      generalize hqe:k - 1 = q at m1 e2 q2
      have C3:∀ w,Calls Tryz.prog 76 #[.agg (codS.A p),.agg (codS.A x)] w (Gives w (.int .i64 (cmpS p x))):=fun w=>scmp_v w p x
      have j1:(0:Int) ≤ (q:Int):=by omega
      have j2:(q:Int) < (ov.length:Int):=by omega
      by_cases hpc:cmpS p x < 0
      ·have hpc1:¬ (0:Int) ≤ cmpS p x:=by omega
       have G1:=Lib.hid (GOOD1.out GP)
       have G2:=Lib.hid (GG2.out hpc)
       clear GP hqe hk0
       refine wp_region_fr (by kernel_rfl) (by kernel_rfl) ?_
       refine wpQ_take (v:=?_) (by rfl) (fun wS hS=>?_) ?_
       rotate_left
       ·obtain ⟨L1,L2,L3,L4,L5,L6⟩:=Fr.same hS;go_simp;try with_reducible rfl
       try simp only [sA1,sA2,sA3,Act.put,sA4,sA5,sA6]
       refine wpQ_call (by rfl) (fun wS hS=>⟨_,_,?qh315,Calls.fr hS (C1 _)⟩) ?qk315
       case qh315=>obtain ⟨L1,L2,L3,L4,L5,L6⟩:=Fr.same hS;go_simp;try with_reducible rfl
       try simp only [sA1,sA2,sA3,Act.put,sA4,sA5,sA6]
       iterate 5
        refine wpQ_take (v:=?_) (by rfl) (fun wS hS=>?_) ?_
        rotate_left
        ·obtain ⟨L1,L2,L3,L4,L5,L6⟩:=Fr.same hS;go_simp;try with_reducible rfl
        try simp only [sA1,sA2,sA3,Act.put,sA4,sA5,sA6]
       refine wpQ_call (by rfl) (fun wS hS=>⟨_,_,?qh323,Calls.fr hS (C2 _)⟩) ?qk323
       case qh323=>obtain ⟨L1,L2,L3,L4,L5,L6⟩:=Fr.same hS;go_simp;try with_reducible rfl
       try simp only [sA1,sA2,sA3,Act.put,sA4,sA5,sA6]
       iterate 13
        refine wpQ_take (v:=?_) (by rfl) (fun wS hS=>?_) ?_
        rotate_left
        ·obtain ⟨L1,L2,L3,L4,L5,L6⟩:=Fr.same hS;go_simp;try with_reducible rfl
        try simp only [sA1,sA2,sA3,Act.put,sA4,sA5,sA6]
       refine wpQ_call (by rfl) (fun wS hS=>⟨_,_,?qh331,Calls.fr hS (C3 _)⟩) ?qk331
       case qh331=>obtain ⟨L1,L2,L3,L4,L5,L6⟩:=Fr.same hS;go_simp;try with_reducible rfl
       try simp only [sA1,sA2,sA3,Act.put,sA4,sA5,sA6]
       iterate 3
        refine wpQ_take (v:=?_) (by rfl) (fun wS hS=>?_) ?_
        rotate_left
        ·obtain ⟨L1,L2,L3,L4,L5,L6⟩:=Fr.same hS;go_simp;try with_reducible rfl
        try simp only [sA1,sA2,sA3,Act.put,sA4,sA5,sA6]
       refine wpQ_nil ?_
       intro w1 f1
       go_wp2_with fail
       go_roundg (ov.length - (k + 1))
       case measure=>omega
       case rel=>exact ⟨k + 1,by simp,rfl,by omega,fA.step0 f1,G1.out,G2.out⟩
      ·have hpc1:(0:Int) ≤ cmpS p x:=by omega
       have E0:=BB2.out hpc
       clear GP hqe hk0
       have E:=Lib.hid E0
       clear E0
       refine wp_region_fr (by kernel_rfl) (by kernel_rfl) ?_
       refine wpQ_take (v:=?_) (by rfl) (fun wS hS=>?_) ?_
       rotate_left
       ·obtain ⟨L1,L2,L3,L4,L5,L6⟩:=Fr.same hS;go_simp;try with_reducible rfl
       try simp only [sA1,sA2,sA3,Act.put,sA4,sA5,sA6]
       refine wpQ_call (by rfl) (fun wS hS=>⟨_,_,?qh355,Calls.fr hS (C1 _)⟩) ?qk355
       case qh355=>obtain ⟨L1,L2,L3,L4,L5,L6⟩:=Fr.same hS;go_simp;try with_reducible rfl
       try simp only [sA1,sA2,sA3,Act.put,sA4,sA5,sA6]
       iterate 5
        refine wpQ_take (v:=?_) (by rfl) (fun wS hS=>?_) ?_
        rotate_left
        ·obtain ⟨L1,L2,L3,L4,L5,L6⟩:=Fr.same hS;go_simp;try with_reducible rfl
        try simp only [sA1,sA2,sA3,Act.put,sA4,sA5,sA6]
       refine wpQ_call (by rfl) (fun wS hS=>⟨_,_,?qh363,Calls.fr hS (C2 _)⟩) ?qk363
       case qh363=>obtain ⟨L1,L2,L3,L4,L5,L6⟩:=Fr.same hS;go_simp;try with_reducible rfl
       try simp only [sA1,sA2,sA3,Act.put,sA4,sA5,sA6]
       iterate 13
        refine wpQ_take (v:=?_) (by rfl) (fun wS hS=>?_) ?_
        rotate_left
        ·obtain ⟨L1,L2,L3,L4,L5,L6⟩:=Fr.same hS;go_simp;try with_reducible rfl
        try simp only [sA1,sA2,sA3,Act.put,sA4,sA5,sA6]
       refine wpQ_call (by rfl) (fun wS hS=>⟨_,_,?qh371,Calls.fr hS (C3 _)⟩) ?qk371
       case qh371=>obtain ⟨L1,L2,L3,L4,L5,L6⟩:=Fr.same hS;go_simp;try with_reducible rfl
       try simp only [sA1,sA2,sA3,Act.put,sA4,sA5,sA6]
       iterate 3
        refine wpQ_take (v:=?_) (by rfl) (fun wS hS=>?_) ?_
        rotate_left
        ·obtain ⟨L1,L2,L3,L4,L5,L6⟩:=Fr.same hS;go_simp;try with_reducible rfl
        try simp only [sA1,sA2,sA3,Act.put,sA4,sA5,sA6]
       refine wpQ_nil ?_
       intro w1 f1
       go_wp2_with fail
       go_ret
       exact ⟨by rw [E.out];rfl,(f0.step0 fA).step0 f1⟩
    ·have hc1:(0:Int) ≤ cmpS x r.At:=by omega
     have E0:=BAD1.out (by rw [HPX.out];simp [hc])
     have E:=Lib.hid E0
     clear E0
     refine wp_region_fr (by kernel_rfl) (by kernel_rfl) ?_
     refine wpQ_take (v:=?_) (by rfl) (fun wS hS=>?_) ?_
     rotate_left
     ·obtain ⟨L1,L2,L3,L4,L5,L6⟩:=Fr.same hS;go_simp;try with_reducible rfl
     try simp only [sA1,sA2,sA3,Act.put,sA4,sA5,sA6]
     refine wpQ_call (by rfl) (fun wS hS=>⟨_,_,?qh393,Calls.fr hS (C1 _)⟩) ?qk393
     case qh393=>obtain ⟨L1,L2,L3,L4,L5,L6⟩:=Fr.same hS;go_simp;try with_reducible rfl
     try simp only [sA1,sA2,sA3,Act.put,sA4,sA5,sA6]
     iterate 5
      refine wpQ_take (v:=?_) (by rfl) (fun wS hS=>?_) ?_
      rotate_left
      ·obtain ⟨L1,L2,L3,L4,L5,L6⟩:=Fr.same hS;go_simp;try with_reducible rfl
      try simp only [sA1,sA2,sA3,Act.put,sA4,sA5,sA6]
     refine wpQ_call (by rfl) (fun wS hS=>⟨_,_,?qh401,Calls.fr hS (C2 _)⟩) ?qk401
     case qh401=>obtain ⟨L1,L2,L3,L4,L5,L6⟩:=Fr.same hS;go_simp;try with_reducible rfl
     try simp only [sA1,sA2,sA3,Act.put,sA4,sA5,sA6]
     iterate 3
      refine wpQ_take (v:=?_) (by rfl) (fun wS hS=>?_) ?_
      rotate_left
      ·obtain ⟨L1,L2,L3,L4,L5,L6⟩:=Fr.same hS;go_simp;try with_reducible rfl
      try simp only [sA1,sA2,sA3,Act.put,sA4,sA5,sA6]
     iterate 13
      refine wpQ_off (by rfl) ?_
      try simp only [sA1,sA2,sA3,Act.put,sA4,sA5,sA6]
     refine wpQ_take (v:=?_) (by rfl) (fun wS hS=>?_) ?_
     rotate_left
     ·obtain ⟨L1,L2,L3,L4,L5,L6⟩:=Fr.same hS;go_simp;try with_reducible rfl
     try simp only [sA1,sA2,sA3,Act.put,sA4,sA5,sA6]
     refine wpQ_nil ?_
     intro w1 f1
     go_wp2_with fail
     go_ret
     exact ⟨by rw [E.out];rfl,(f0.step0 fA).step0 f1⟩
   ·have hr':rightS x = false:=by simpa using hr
    have C1:∀ w,Calls Tryz.prog 124 #[.agg (codS.A x)] w (Gives w (.bool false)):=fun w=>Gives.val (right_v w x) (by rw [hr'])
    have E0:=BAD1.out (by rw [HPX.out];simp [hr'])
    clear hr
    have E:=Lib.hid E0
    clear E0
    refine wp_region_fr (by kernel_rfl) (by kernel_rfl) ?_
    refine wpQ_take (v:=?_) (by rfl) (fun wS hS=>?_) ?_
    rotate_left
    ·obtain ⟨L1,L2,L3,L4,L5,L6⟩:=Fr.same hS;go_simp;try with_reducible rfl
    try simp only [sA1,sA2,sA3,Act.put,sA4,sA5,sA6]
    refine wpQ_call (by rfl) (fun wS hS=>⟨_,_,?qh432,Calls.fr hS (C1 _)⟩) ?qk432
    case qh432=>obtain ⟨L1,L2,L3,L4,L5,L6⟩:=Fr.same hS;go_simp;try with_reducible rfl
    try simp only [sA1,sA2,sA3,Act.put,sA4,sA5,sA6]
    iterate 2
     refine wpQ_take (v:=?_) (by rfl) (fun wS hS=>?_) ?_
     rotate_left
     ·obtain ⟨L1,L2,L3,L4,L5,L6⟩:=Fr.same hS;go_simp;try with_reducible rfl
     try simp only [sA1,sA2,sA3,Act.put,sA4,sA5,sA6]
    iterate 5
     refine wpQ_off (by rfl) ?_
     try simp only [sA1,sA2,sA3,Act.put,sA4,sA5,sA6]
    iterate 2
     refine wpQ_take (v:=?_) (by rfl) (fun wS hS=>?_) ?_
     rotate_left
     ·obtain ⟨L1,L2,L3,L4,L5,L6⟩:=Fr.same hS;go_simp;try with_reducible rfl
     try simp only [sA1,sA2,sA3,Act.put,sA4,sA5,sA6]
    iterate 13
     refine wpQ_off (by rfl) ?_
     try simp only [sA1,sA2,sA3,Act.put,sA4,sA5,sA6]
    refine wpQ_take (v:=?_) (by rfl) (fun wS hS=>?_) ?_
    rotate_left
    ·obtain ⟨L1,L2,L3,L4,L5,L6⟩:=Fr.same hS;go_simp;try with_reducible rfl
    try simp only [sA1,sA2,sA3,Act.put,sA4,sA5,sA6]
    refine wpQ_nil ?_
    intro w1 f1
    go_wp2_with fail
    go_ret
    exact ⟨by rw [E.out];rfl,(f0.step0 fA).step0 f1⟩
  ·have hkl:k = ov.length:=by omega
   subst hkl
   have e:editOk (opOf r ov) = true:=by
    have h1:=HA.out
    have h2:=HRI.out
    rw [List.take_length] at h1 h2
    rw [HM2.out,h1,h2];rfl
   have E:=Lib.hid e
   clear e hlt
   go_wp2_with fail
   go_ret
   exact ⟨by rw [E.out];rfl,f0.step0 hf⟩
end Go.Proofs.YtjpieiccpbcabaaGreat
namespace Go.Proofs.YtjpieiccpbcabaaGreat
open Go.RowKit
structure OpIn (w:World) (r:OpW) (o:Opn):Prop where
 eq:o = opOf r o.Over
 len:o.Over.length = r.n
 sl:Sl w r.A (codS.row o.Over)
 bd:o.Over.length ≤ 140737488355328
 nm:r.Name.length ≤ 140737488355328
theorem OpIn.fr {w w':World} {r:OpW} {o:Opn} (h:OpIn w r o) (f:Fr noB w w'):OpIn w' r o:=⟨h.eq,h.len,h.sl.fr0 f,h.bd,h.nm⟩
set_option maxRecDepth 100000 in
set_option maxHeartbeats 2000000 in
theorem sgood_any (w:World) (r:OpW) (o:Opn) (h:OpIn w r o):Calls Tryz.prog 105 #[.agg (codO.A r)] w (Gives w (.bool (goodOp o))):=by
 obtain ⟨he,hlen,hs,hbd,hnm⟩:=h
 generalize o.Over = ov at he hlen hs hbd
 subst he
 have f0:Fr noB w (w.alloc (.cells (codO.A r) 83)):=(Fr.refl noB w).alloc _
 obtain ⟨q1,q2,q3,q4,q5,q6,q7,q8,q9,q10⟩:=opAt (Cod.rd_new w 83 r)
 have hP:w.heap.size < (w.alloc (.cells (codO.A r) 83)).heap.size:=by simp
 have hM:goodOp (opOf r ov) = (rightS r.At && rightS r.Node && (if r.Kind = 1 then moveOk (opOf r ov) else if r.Kind = 2 then editOk (opOf r ov) else false)):=rfl
 have HM:=Lib.hid hM
 have HL:=Lib.hid hlen
 replace hs:=hs.fr0 f0
 clear hM hlen q2 q3 q6 q7 q8 q9
 go_enter Tryz.func105,Tryz.ntmps105
 go_upto_region 1 with fail
 generalize w.alloc (.cells (codO.A r) 83) = W0 at f0 hs q1 q4 q5 q10 hP ⊢
 generalize w.heap.size = P at q1 q4 q5 q10 hP ⊢
 have f1:Fr noB W0 W0:=Fr.refl _ _
 obtain ⟨L1,L2,L3,L4,L5,L6⟩:=f1.same
 go_wp2_with (first
  | (go_at_call 124;refine (right_v _ _).mono ?_;rintro e w2 ⟨rfl,f2⟩;replace f1:=f1.step0 f2;clear L1 L2 L3 L4 L5 L6;obtain ⟨L1,L2,L3,L4,L5,L6⟩:=f1.same)
  | (go_at_call 134;refine (move_any _ r hnm ov HL.out).mono ?_;rintro e w2 ⟨rfl,f2⟩;replace f1:=f1.step0 f2;clear L1 L2 L3 L4 L5 L6;obtain ⟨L1,L2,L3,L4,L5,L6⟩:=f1.same)
  | (go_at_call 135;refine (edit_any _ r ov HL.out (hs.fr0 f1) hbd).mono ?_;rintro e w2 ⟨rfl,f2⟩;replace f1:=f1.step0 f2;clear L1 L2 L3 L4 L5 L6;obtain ⟨L1,L2,L3,L4,L5,L6⟩:=f1.same))
 all_goals clear L1 L2 L3 L4 L5 L6 q1 q4 q5 q10 hP
 all_goals
  go_ret
  refine ⟨?_,f0.step0 f1⟩
  rw [HM.out]
  first
  | (simp [*];done)
  | (simp_all;done)
end Go.Proofs.YtjpieiccpbcabaaGreat
namespace Go.Proofs.YtjpieiccpbcabaaGreat
open Go.RowKit
def IxR (W:World) (n:Nat) (p:Nat → Bool) (gk:Nat) (iv:Value) (wr:World):Prop:=∃ k:Nat,iv = .int .i64 (k:Int) ∧ gk = n - k ∧ k ≤ n ∧ (∀ j,j < k → p j = false) ∧ Fr noB W wr
theorem any_hit {n:Nat} {p:Nat → Bool} {k:Nat} (hk:k < n) (h:p k = true):(List.range n).any p = true:=List.any_eq_true.2 ⟨k,List.mem_range.2 hk,h⟩
theorem any_none {n:Nat} {p:Nat → Bool} (h:∀ j,j < n → p j = false):(List.range n).any p = false:=by
 rw [← Bool.not_eq_true]
 intro ha
 obtain ⟨k,hk,hp⟩:=List.any_eq_true.1 ha
 rw [h k (List.mem_range.1 hk)] at hp;cases hp
def IxTo (w:World) (b:Bool) (e:Ending) (w':World):Prop:=∃ z:Int,e = .returned (.int .i64 z) ∧ decide (0 ≤ z) = b ∧ Fr noB w w'
set_option maxRecDepth 100000 in
set_option maxHeartbeats 1000000 in
theorem opIndexF_any (w:World) (A:Option Addr) (c n:Nat) (l:List OpW) (hn:l.length = n) (hs:Sl w A (codO.row l)) (hb:l.length ≤ 140737488355328) (cp:Value) (p:Nat → Bool)
  (hf:∀ w',Fr noB w w' → ∀ i (hi:i < l.length),Calls Tryz.prog 125 #[.agg (codO.A l[i]),cp] w' (Gives w' (.bool (p i)))) :
  Calls Tryz.prog 97 #[.slice A n c,.func (.func 125) #[] #[cp]] w (IxTo w ((List.range l.length).any p)):=by
 subst hn
 go_enter Tryz.func97,Tryz.ntmps97
 go_wp2_with fail
 go_loopg [8] l.length (fun gk iv wr=>IxR w l.length p gk iv wr)
 case atStart=>exact ⟨0,rfl,by omega,by omega,fun j hj=>absurd hj (by omega),Fr.refl _ _⟩
 case round =>
  obtain ⟨k,rfl,rfl,hk,hj,hf0⟩:=hrel
  have HJ:=Lib.hid hj
  clear hj
  by_cases hlt:k < l.length
  ·have i1:(k:Int) < (l.length:Int):=by omega
   have i0:(0:Int) ≤ (k:Int):=by omega
   obtain ⟨g,off,rfl,hg⟩:=hs.adC (by omega)
   have e1:codO.rd wr g (off + k * 41) = some l[k]:=(hs.fr0 hf0).rd k hlt
   have hc:=hf wr hf0 k hlt
   generalize l[k] = x at e1 hc
   by_cases hp:p k = true
   ·rw [hp] at hc
    have HP:=Lib.hid (any_hit hlt hp)
    clear hp
    go_wp2_with (go_at_call 125;refine hc.mono ?_;rintro e w1 ⟨rfl,f1⟩)
    go_ret
    exact ⟨k,rfl,by rw [HP.out];simp,hf0.step0 f1⟩
   ·have hp':p k = false:=by simpa using hp
    rw [hp'] at hc
    have HP:=Lib.hid hp'
    clear hp hp'
    go_wp2_with (go_at_call 125;refine hc.mono ?_;rintro e w1 ⟨rfl,f1⟩)
    go_roundg (l.length - (k + 1))
    case measure=>omega
    case rel=>exact ⟨k + 1,by simp,rfl,by omega,fun j hj=>by
     rcases Nat.lt_or_ge j k with h | h
     ·exact HJ.out j h
     ·have:j = k:=by omega
      rw [this];exact HP.out,hf0.step0 f1⟩
  ·have hkl:k = l.length:=by omega
   subst hkl
   have i1:¬ (l.length:Int) < (l.length:Int):=by omega
   have HP:=Lib.hid (any_none HJ.out)
   go_wp2_with fail
   go_ret
   exact ⟨-1,rfl,by rw [HP.out];rfl,hf0⟩
set_option maxRecDepth 100000 in
theorem opContainsF_any (w:World) (A:Option Addr) (c n:Nat) (l:List OpW) (hn:l.length = n) (hs:Sl w A (codO.row l)) (hb:l.length ≤ 140737488355328) (cp:Value) (p:Nat → Bool)
  (hf:∀ w',Fr noB w w' → ∀ i (hi:i < l.length),Calls Tryz.prog 125 #[.agg (codO.A l[i]),cp] w' (Gives w' (.bool (p i)))) :
  Calls Tryz.prog 66 #[.slice A n c,.func (.func 125) #[] #[cp]] w (Gives w (.bool ((List.range l.length).any p))):=by
 have h:=Lib.hid (opIndexF_any w A c n l hn hs hb cp p hf)
 clear hf hs
 subst hn
 generalize (List.range l.length).any p = b at h
 go_enter Tryz.func66,Tryz.ntmps66
 go_wp2_with (go_at_call 97;refine h.out.mono ?_;rintro e w1 ⟨z,rfl,hz,f1⟩)
 go_ret
 exact ⟨by rw [← hz];rfl,f1⟩
set_option maxRecDepth 100000 in
set_option maxHeartbeats 1000000 in
theorem oRiseOp_any (w:World) (A:Option Addr) (c n:Nat) (l:List OpW) (hn:l.length = n) (hs:Sl w A (codO.row l)) (hb:l.length ≤ 140737488355328) (cf:OpW → OpW → Int)
  (hf:∀ w x y,Calls Tryz.prog 127 #[.agg (codO.A x),.agg (codO.A y)] w (Gives w (.int .i64 (cf x y)))) :
  Calls Tryz.prog 126 #[.slice A n c,.func (.func 127) #[] #[]] w (Gives w (.bool (riseB cf l))):=by
 subst hn
 have HRI:=Lib.hid (riseB_iff cf l)
 go_enter Tryz.func126,Tryz.ntmps126
 go_wp2_with fail
 go_loopg [5] l.length (fun gk iv wr=>RisR w l.length (fun i j=>if h:i < l.length ∧ j < l.length then cf (l[i]'h.1) (l[j]'h.2) else 0) gk iv wr)
 case atStart=>exact ⟨1,rfl,by omega,by omega,.inr rfl,fun j hj=>by omega,Fr.refl _ _⟩
 case round =>
  obtain ⟨k,rfl,rfl,hk1,hk2,hj,hf0⟩:=hrel
  by_cases hlt:k < l.length
  ·have i0:(0:Int) ≤ (k:Int):=by omega
   have i1:(k:Int) < (l.length:Int):=by omega
   obtain ⟨g,off,rfl,hg⟩:=hs.adC (by omega)
   have q2:k - 1 < l.length:=by omega
   have r1:codO.rd wr g (off + (k - 1) * 41) = some (l[k - 1]'q2):=(hs.fr0 hf0).rd (k - 1) q2
   have r2:codO.rd wr g (off + k * 41) = some l[k]:=(hs.fr0 hf0).rd k hlt
   have hgw:g < wr.heap.size:=Nat.lt_of_lt_of_le hg hf0.size
   have hbad:¬ cf (l[k - 1]'q2) l[k] < 0 → riseB cf l = false:=fun h=>by
    rw [← Bool.not_eq_true]
    intro ht
    have:=HRI.out.1 ht (k - 1) (by omega)
    simp only [show k - 1 + 1 = k by omega] at this
    exact h this
   have hok:cf (l[k - 1]'q2) l[k] < 0 → ∀ j,j + 1 < k + 1 → (fun i j=>if h:i < l.length ∧ j < l.length then cf (l[i]'h.1) (l[j]'h.2) else 0) j (j + 1) < 0:=fun h j hjk=>by
    rcases Nat.lt_or_ge (j + 1) k with h1 | h1
    ·exact hj j h1
    ·have e:j = k - 1:=by omega
     subst e
     simp only
     rw [dif_pos ⟨by omega,by omega⟩]
     simp only [show k - 1 + 1 = k by omega]
     exact h
   generalize l[k - 1]'q2 = p at r1 hbad hok
   generalize l[k] = p2 at r2 hbad hok
   have HBAD:=Lib.hid hbad
   have HOK:=Lib.hid hok
   clear hbad hok hj
   generalize hqe:k - 1 = q at r1 q2
   have m1:IntKind.i64.wrap ((k:Int) - 1) = (q:Int):=by rw [IntKind.wrap_i64];omega
   have j0:(0:Int) ≤ (q:Int):=by omega
   have j1:(q:Int) < (l.length:Int):=by omega
   clear hqe
   have C1:=fun w=>hf w p p2
   generalize cf p p2 = z at C1 HBAD HOK
   by_cases hz:z < 0
   ·have hz2:¬ (0:Int) ≤ z:=by omega
    have H:=Lib.hid (HOK.out hz)
    go_wp2_with fail
    refine wp_region_fr (by kernel_rfl) (by kernel_rfl) ?_
    iterate 10
     refine wpQ_take (v:=?_) (by rfl) (fun wS hS=>?_) ?_
     rotate_left
     ·obtain ⟨L1,L2,L3,L4,L5,L6⟩:=Fr.same hS;go_simp;try with_reducible rfl
     try simp only [sA1,sA2,sA3,Act.put,sA4,sA5,sA6]
    refine wpQ_call (by rfl) (fun wS hS=>⟨_,_,?qh238,Calls.fr hS (C1 _)⟩) ?qk238
    case qh238=>obtain ⟨L1,L2,L3,L4,L5,L6⟩:=Fr.same hS;go_simp;try with_reducible rfl
    try simp only [sA1,sA2,sA3,Act.put,sA4,sA5,sA6]
    refine wpQ_take (v:=?_) (by rfl) (fun wS hS=>?_) ?_
    rotate_left
    ·obtain ⟨L1,L2,L3,L4,L5,L6⟩:=Fr.same hS;go_simp;try with_reducible rfl
    try simp only [sA1,sA2,sA3,Act.put,sA4,sA5,sA6]
    refine wpQ_nil ?_
    intro w1 f1
    go_wp2_with fail
    go_roundg (l.length + 1 - (k + 1))
    case measure=>omega
    case rel=>exact ⟨k + 1,by simp,rfl,by omega,by omega,H.out,hf0.step0 f1⟩
   ·have hz2:(0:Int) ≤ z:=by omega
    have H:=Lib.hid (HBAD.out hz)
    clear hz
    go_wp2_with fail
    refine wp_region_fr (by kernel_rfl) (by kernel_rfl) ?_
    iterate 10
     refine wpQ_take (v:=?_) (by rfl) (fun wS hS=>?_) ?_
     rotate_left
     ·obtain ⟨L1,L2,L3,L4,L5,L6⟩:=Fr.same hS;go_simp;try with_reducible rfl
     try simp only [sA1,sA2,sA3,Act.put,sA4,sA5,sA6]
    refine wpQ_call (by rfl) (fun wS hS=>⟨_,_,?qh261,Calls.fr hS (C1 _)⟩) ?qk261
    case qh261=>obtain ⟨L1,L2,L3,L4,L5,L6⟩:=Fr.same hS;go_simp;try with_reducible rfl
    try simp only [sA1,sA2,sA3,Act.put,sA4,sA5,sA6]
    refine wpQ_take (v:=?_) (by rfl) (fun wS hS=>?_) ?_
    rotate_left
    ·obtain ⟨L1,L2,L3,L4,L5,L6⟩:=Fr.same hS;go_simp;try with_reducible rfl
    try simp only [sA1,sA2,sA3,Act.put,sA4,sA5,sA6]
    refine wpQ_nil ?_
    intro w1 f1
    go_wp2_with fail
    go_ret
    exact ⟨by rw [H.out];rfl,hf0.step0 f1⟩
  ·have e:riseB cf l = true:=HRI.out.2 (fun j h=>by
    have h1:=hj j (by omega)
    simp only at h1
    rw [dif_pos ⟨by omega,h⟩] at h1
    exact h1)
   have E:=Lib.hid e
   clear e hj
   go_wp2_with fail
   go_ret
   exact ⟨by rw [E.out];rfl,hf0⟩
end Go.Proofs.YtjpieiccpbcabaaGreat
namespace Go.Proofs.YtjpieiccpbcabaaGreat
open Go.RowKit
set_option maxRecDepth 100000 in
theorem oRC3_any (w:World) (x y:OpW):Calls Tryz.prog 127 #[.agg (codO.A x),.agg (codO.A y)] w (Gives w (.int .i64 (cmpS x.At y.At))):=by
 have f0:Fr noB w ((w.alloc (.cells (codO.A x) 83)).alloc (.cells (codO.A y) 83)):=((Fr.refl noB w).alloc _).alloc _
 have hz:(w.alloc (.cells (codO.A x) 83)).heap.size = w.heap.size + 1:=by simp
 have q1:=(opAt (Cod.rd_fr0 (Cod.rd_new w 83 x) ((Fr.refl noB _).alloc (.cells (codO.A y) 83)))).At
 have q2:=(opAt (Cod.rd_new (w.alloc (.cells (codO.A x) 83)) 83 y)).At
 rw [hz] at q2
 clear hz
 go_enter Tryz.func127,Tryz.ntmps127
 go_upto_region 1 with fail
 generalize (w.alloc (.cells (codO.A x) 83)).alloc (.cells (codO.A y) 83) = W0 at f0 q1 q2 ⊢
 generalize w.heap.size = P at q1 q2 ⊢
 go_wp2_with (go_at_call 76;refine (scmp_v _ x.At y.At).mono ?_;rintro e w1 ⟨rfl,f1⟩)
 go_ret
 exact ⟨rfl,f0.step0 f1⟩
def itOf (r:ItW) (hs:List Hd):It:=⟨r.Node,r.At,r.Name,r.Sub,hs⟩
structure ItIn (w:World) (r:ItW) (x:It):Prop where
 eq:x = itOf r x.Heads
 len:x.Heads.length = r.n
 sl:Sl w r.A (codH.row x.Heads)
 bd:x.Heads.length ≤ 140737488355328
 nm:r.Name.length ≤ 140737488355328
theorem riseB_map {α β:Type} (f:α → β) (cf:β → β → Int):∀ l:List α,riseB cf (l.map f) = riseB (fun a b=>cf (f a) (f b)) l
 | []=>rfl
 | [x]=>rfl
 | x :: y :: l=>by
  have:=riseB_map f cf (y :: l)
  simp only [List.map_cons] at this ⊢
  unfold riseB
  rw [this]
theorem any_not {α:Type} (p:α → Bool) (l:List α):l.any (fun x=>!p x) = !l.all p:=by
 induction l with
 | nil=>rfl
 | cons x l ih=>rw [List.any_cons,List.all_cons,ih,Bool.not_and]
theorem any_range {α:Type} (l:List α) (p:α → Bool) (q:Nat → Bool) (h:∀ i (hi:i < l.length),q i = p l[i]):(List.range l.length).any q = l.any p:=by
 rw [Bool.eq_iff_iff,List.any_eq_true,List.any_eq_true]
 constructor
 ·rintro ⟨i,hi,hq⟩
  have hi:=List.mem_range.1 hi
  exact ⟨l[i],List.getElem_mem hi,by rw [← h i hi];exact hq⟩
 ·rintro ⟨x,hx,hp⟩
  obtain ⟨i,hi,rfl⟩:=List.mem_iff_getElem.1 hx
  exact ⟨i,List.mem_range.2 hi,by rw [h i hi];exact hp⟩
end Go.Proofs.YtjpieiccpbcabaaGreat
namespace Go.Proofs.YtjpieiccpbcabaaGreat
open Go.RowKit
set_option maxRecDepth 100000 in
set_option maxHeartbeats 1000000 in
theorem idIndex_any (w:World) (A:Option Addr) (c n:Nat) (l:List ID) (hn:l.length = n) (hs:Sl w A (idc l)) (hb:l.length ≤ 140737488355328) (x:ID) :
  Calls Tryz.prog 161 #[.slice A n c,encI x] w (IxTo w (l.any fun y=>decide (x = y))):=by
 subst hn
 have f0:Fr noB w (w.alloc (.cells (idA x) 24)):=(Fr.refl noB w).alloc _
 have q0:rdI (w.alloc (.cells (idA x) 24)) w.heap.size 0 = some x:=rdI_new w x
 have hP:w.heap.size < (w.alloc (.cells (idA x) 24)).heap.size:=by simp
 replace hs:=hs.fr0 f0
 go_enter Tryz.func161,Tryz.ntmps161
 go_upto_region 1 with fail
 generalize w.alloc (.cells (idA x) 24) = W0 at f0 q0 hs hP ⊢
 generalize w.heap.size = P at q0 hP ⊢
 go_wp2_with fail
 go_loopg [8] l.length (fun gk iv wr=>IxR W0 l.length (fun i=>if h:i < l.length then decide (x = l[i]) else false) gk iv wr)
 case atStart=>exact ⟨0,rfl,by omega,by omega,fun j hj=>absurd hj (by omega),Fr.refl _ _⟩
 case round =>
  obtain ⟨k,rfl,rfl,hk,hj,hf⟩:=hrel
  have HJ:=Lib.hid hj
  clear hj
  by_cases hlt:k < l.length
  ·have i1:(k:Int) < (l.length:Int):=by omega
   have i0:(0:Int) ≤ (k:Int):=by omega
   obtain ⟨g,off,rfl⟩:=hs.ad (by omega)
   have r1:rdI wr.drew P 0 = some x:=rdI_fr q0 hP hf.drew (by simp [noB])
   have r2:rdI wr.drew g (off + k * 32) = some l[k]:=(hs.fr0 hf.drew).id k hlt
   have hgood:x = l[k] → (l.any fun y=>decide (x = y)) = true:=fun h=>List.any_eq_true.2 ⟨l[k],List.getElem_mem hlt,by simpa using h⟩
   have hstep:¬ x = l[k] → ∀ j,j < k + 1 → (fun i=>if h:i < l.length then decide (x = l[i]) else false) j = false:=fun h j hj=>by
    rcases Nat.lt_or_ge j k with h1 | h1
    ·exact HJ.out j h1
    ·have e:j = k:=by omega
     subst e
     simp only
     rw [dif_pos hlt]
     simpa using h
   generalize l[k] = y at r2 hgood hstep
   have HG:=Lib.hid hgood
   have HS:=Lib.hid hstep
   clear hgood hstep
   have keep:∀ w' w'':World,Fr noB w' w'' → (rdI w' P 0 = some x ∧ rdI w' g (off + k * 32) = some y) → (rdI w'' P 0 = some x ∧ rdI w'' g (off + k * 32) = some y):=fun w' w'' f h =>
    ⟨rdI_fr h.1 (rdI_lt h.1) f (by simp [noB]),rdI_fr h.2 (rdI_lt h.2) f (by simp [noB])⟩
   go_wp2_with fail
   refine wp_region_M 5 6 [⟨2048,8,0⟩,⟨4096,1,0⟩,⟨8192,32,0⟩,⟨16384,12288,6⟩,⟨32768,16384,8⟩,⟨65536,34816,17⟩] [(true,0),(true,1),(true,2),(true,3),(true,4)] (fun w'=>rdI w' P 0 = some x ∧ rdI w' g (off + k * 32) = some y) (by kernel_rfl) rfl (by kernel_rfl) (by kernel_rfl) (by kernel_rfl) ⟨r1,r2⟩ (fun hA hF=>?_)
   iterate 5
    refine wpAnyS_take (v:=?_) hA rfl (fun _ _ _ h=>h) (Or.inl ⟨by rfl,?_⟩) hF (fun hA=>?_)
    rotate_left
    ·intro wS hSw;(try dsimp only at hSw);obtain ⟨s1,s2⟩:=hSw;first | (apply Eq.trans;apply ex_ld_id;exact rfl;exact rfl;assumption;with_reducible rfl) | (go_simp;try with_reducible rfl)
    try simp only [sA1,sA2,sA3,Act.put,sA4,sA5,sA6]
   refine wpAnyS_end hA rfl ?_
   simp only [List.drop_succ_cons,List.drop_zero]
   clear hF
   by_cases hxy:x = y
   ·have H:=Lib.hid (HG.out hxy)
    go_wp2_with fail
    go_ret
    exact ⟨k,rfl,by rw [H.out];simp,(f0.step0 hf).drew⟩
   ·have H:=Lib.hid (HS.out hxy)
    go_wp2_with fail
    go_roundg (l.length - (k + 1))
    case measure=>omega
    case rel=>exact ⟨k + 1,by simp,rfl,by omega,H.out,hf.drew⟩
  ·have hkl:k = l.length:=by omega
   subst hkl
   have i1:¬ (l.length:Int) < (l.length:Int):=by omega
   have e:(l.any fun y=>decide (x = y)) = false:=by
    rw [← Bool.not_eq_true]
    intro ha
    obtain ⟨y,hy,hp⟩:=List.any_eq_true.1 ha
    obtain ⟨i,hi,rfl⟩:=List.mem_iff_getElem.1 hy
    have:=HJ.out i hi
    simp only at this
    rw [dif_pos hi,hp] at this
    cases this
   have HP:=Lib.hid e
   clear e
   go_wp2_with fail
   go_ret
   exact ⟨-1,rfl,by rw [HP.out];rfl,f0.step0 hf⟩
set_option maxRecDepth 100000 in
theorem idContains_any (w:World) (A:Option Addr) (c n:Nat) (l:List ID) (hn:l.length = n) (hs:Sl w A (idc l)) (hb:l.length ≤ 140737488355328) (x:ID) :
  Calls Tryz.prog 122 #[.slice A n c,encI x] w (Gives w (.bool (l.any fun y=>decide (x = y)))):=by
 have f0:Fr noB w (w.alloc (.cells (idA x) 24)):=(Fr.refl noB w).alloc _
 have q0:rdI (w.alloc (.cells (idA x) 24)) w.heap.size 0 = some x:=rdI_new w x
 have h:=Lib.hid (idIndex_any _ A c n l hn (hs.fr0 f0) hb x)
 clear hs
 subst hn
 generalize (l.any fun y=>decide (x = y)) = b at h
 go_enter Tryz.func122,Tryz.ntmps122
 go_upto_region 1 with fail
 generalize w.alloc (.cells (idA x) 24) = W0 at f0 q0 h ⊢
 go_wp2_with (go_at_call 161;refine h.out.mono ?_;rintro e w1 ⟨z,rfl,hz,f1⟩)
 go_ret
 exact ⟨by rw [← hz];rfl,f0.step0 f1⟩
set_option maxRecDepth 100000 in
set_option maxHeartbeats 1000000 in
theorem rc1_any (w:World) (r:OpW) (o:Opn) (h:OpIn w r o) (PC:Nat) (hPC:PC < w.heap.size) (T R:Int) (c1:w.cell? ⟨PC,1,none⟩ = some (.int .i64 T)) (c2:w.cell? ⟨PC,2,none⟩ = some (.int .i64 R)) :
  Calls Tryz.prog 121 #[.agg (codO.A r),.pointer (some ⟨PC,0,none⟩)] w (Gives w (.bool (goodOp o && decide (o.At.T ≤ T) && decide (o.At.R = R)))):=by
 have f0:Fr noB w (w.alloc (.cells (codO.A r) 83)):=(Fr.refl noB w).alloc _
 obtain ⟨q1,q2,q3,q4,q5,q6,q7,q8,q9,q10⟩:=opAt (Cod.rd_new w 83 r)
 have hP:w.heap.size < (w.alloc (.cells (codO.A r) 83)).heap.size:=by simp
 have hc:=Lib.hid (sgood_any _ r o (h.fr f0))
 have ea:o.At = r.At:=by rw [h.eq];rfl
 rw [ea]
 have d1:=(f0.same.cell PC 1 hPC).trans c1
 have d2:=(f0.same.cell PC 2 hPC).trans c2
 have hPC2:=Nat.lt_of_lt_of_le hPC f0.size
 clear q1 q4 q5 q6 q7 q8 q9 c1 c2 hPC h ea
 go_enter Tryz.func121,Tryz.ntmps121
 go_upto_region 1 with fail
 generalize w.alloc (.cells (codO.A r) 83) = W0 at f0 q2 q3 q10 hP hc d1 d2 hPC2 ⊢
 generalize w.heap.size = P at q2 q3 q10 hP ⊢
 go_wp2_with (go_at_call 105;refine hc.out.mono ?_;rintro e w1 ⟨rfl,f1⟩;obtain ⟨L1,L2,L3,L4,L5,L6⟩:=f1.same)
 all_goals clear L1 L2 L3 L4 L5 L6 q2 q3 q10 d1 d2
 all_goals
  go_ret
  refine ⟨?_,f0.step0 f1⟩
  have he:(r.At.R == R) = decide (r.At.R = R):=by rw [Bool.eq_iff_iff];simp
  first
  | (simp [*];done)
  | (simp [*];intro ha;omega)
set_option maxRecDepth 100000 in
set_option maxHeartbeats 1000000 in
theorem rc2_any (w:World) (r:OpW) (o:Opn) (h:OpIn w r o) (V PC:Nat) (hV:V < w.heap.size) (hPC:PC < w.heap.size) (T R:Int) (cv:w.cell? ⟨V,0,none⟩ = some (.func (.func 121) #[] #[.pointer (some ⟨PC,0,none⟩)])) (c1:w.cell? ⟨PC,1,none⟩ = some (.int .i64 T)) (c2:w.cell? ⟨PC,2,none⟩ = some (.int .i64 R)) :
  Calls Tryz.prog 125 #[.agg (codO.A r),.pointer (some ⟨V,0,none⟩)] w (Gives w (.bool (!(goodOp o && decide (o.At.T ≤ T) && decide (o.At.R = R))))):=by
 have f0:Fr noB w (w.alloc (.cells (codO.A r) 83)):=(Fr.refl noB w).alloc _
 have q:=Cod.rd_new (C:=codO) w 83 r
 have d0:=(f0.same.cell V 0 hV).trans cv
 have hc:=Lib.hid (rc1_any _ r o (h.fr f0) PC (Nat.lt_of_lt_of_le hPC f0.size) T R ((f0.same.cell PC 1 hPC).trans c1) ((f0.same.cell PC 2 hPC).trans c2))
 generalize (goodOp o && decide (o.At.T ≤ T) && decide (o.At.R = R)) = b at hc ⊢
 clear cv c1 c2 h
 go_enter Tryz.func125,Tryz.ntmps125
 go_upto_region 1 with fail
 generalize w.alloc (.cells (codO.A r) 83) = W0 at f0 q d0 hc ⊢
 go_wp2_with (go_at_call 121;refine hc.out.mono ?_;rintro e w1 ⟨rfl,f1⟩)
 go_ret
 exact ⟨by cases b <;> rfl,f0.step0 f1⟩
structure OpsIn (w:World) (rs:List OpW) (xs:List Opn):Prop where
 len:rs.length = xs.length
 at_:∀ i (h:i < rs.length) (h':i < xs.length),OpIn w rs[i] xs[i]
theorem OpsIn.fr {w w':World} {rs:List OpW} {xs:List Opn} (h:OpsIn w rs xs) (f:Fr noB w w'):OpsIn w' rs xs:=⟨h.len,fun i h1 h2=>(h.at_ i h1 h2).fr f⟩
structure CgIn (w:World) (r:CgW) (rs:List OpW) (c:Chg):Prop where
 time:c.Time = r.Time
 R:c.R = r.R
 tree:c.Tree = r.Tree
 msg:c.Msg = r.Msg
 pl:c.Parents.length = r.pn
 ps:Sl w r.PA (idc c.Parents)
 ol:rs.length = r.on
 os:Sl w r.OA (codO.row rs)
 ops:OpsIn w rs c.Ops
 pb:c.Parents.length ≤ 140737488355328
 ob:rs.length ≤ 140737488355328
 mb:r.Msg.length ≤ 140737488355328
theorem CgIn.fr {w w':World} {r:CgW} {rs:List OpW} {c:Chg} (h:CgIn w r rs c) (f:Fr noB w w'):CgIn w' r rs c :=
 ⟨h.time,h.R,h.tree,h.msg,h.pl,h.ps.fr0 f,h.ol,h.os.fr0 f,h.ops.fr f,h.pb,h.ob,h.mb⟩
@[simp] theorem run_store_fn (P:Program) (w:World) (a:Addr) (m:Mode) (f:Fn) (g c:Array Value):(store a (.func f g c) m).run P w = stored P w a (.func f g c) m:=run_store P w a _ m rfl
set_option maxRecDepth 100000 in
set_option maxHeartbeats 4000000 in
theorem rightChange_any (w:World) (r:CgW) (rs:List OpW) (c:Chg) (h:CgIn w r rs c):Calls Tryz.prog 92 #[.agg (codC.A r)] w (Gives w (.bool (rightCh c))):=by
 have fa:Fr noB w (w.alloc (.cells (codC.A r) 35)):=(Fr.refl noB w).alloc _
 obtain ⟨q1,q2,q3,q4,q5,q6,q7⟩:=cgAt (Cod.rd_new w 35 r)
 have hP:w.heap.size < (w.alloc (.cells (codC.A r) 35)).heap.size:=by simp
 have hmf:∀ (fn:Fn) (first cap:Array Value) (w:World),(Instr.makeFunc fn first cap).run Tryz.prog w = .ok (.func fn first cap) w:=fun _ _ _ _=>rfl
 go_enter Tryz.func92,Tryz.ntmps92
 go_upto_region 1 with fail
 generalize w.alloc (.cells (codC.A r) 35) = Wa at fa q1 q2 q3 q4 q5 q6 q7 hP ⊢
 generalize w.heap.size = P at q1 q2 q3 q4 q5 q6 q7 hP ⊢
 have fb:Fr noB Wa (Wa.alloc (.cells #[.func (.func 121) #[] #[.pointer (some ⟨P,0,none⟩)]] 139)):=(Fr.refl noB Wa).alloc _
 have cv:(Wa.alloc (.cells #[.func (.func 121) #[] #[.pointer (some ⟨P,0,none⟩)]] 139)).cell? ⟨Wa.heap.size,0,none⟩ = some (.func (.func 121) #[] #[.pointer (some ⟨P,0,none⟩)]):=by simp
 have hV:Wa.heap.size < (Wa.alloc (.cells #[.func (.func 121) #[] #[.pointer (some ⟨P,0,none⟩)]] 139)).heap.size:=by simp
 obtain ⟨L1,L2,L3,L4,L5,L6⟩:=fb.same
 replace q1:=(L1 P 0 hP).trans q1
 replace q2:=(L1 P 1 hP).trans q2
 replace q3:=(L1 P 2 hP).trans q3
 replace q4:=(L1 P 3 hP).trans q4
 replace q5:=(L3 P 4 hP).trans q5
 replace q6:=(L1 P 36 hP).trans q6
 clear L1 L2 L3 L4 L5 L6 q7
 replace hP:=Nat.lt_of_lt_of_le hP fb.size
 have fab:=fa.step0 fb
 have h2:=h.fr fab
 go_upto_region 3 with fail
 generalize Wa.alloc (.cells #[.func (.func 121) #[] #[.pointer (some ⟨P,0,none⟩)]] 139) = W0 at fab q1 q2 q3 q4 q5 q6 hP h2 cv hV ⊢
 generalize Wa.heap.size = V at cv hV ⊢
 clear fb fa h
 obtain ⟨h3,h4,h5,h6,h7,h8,h9,h10,h11,h12,h13,h14⟩:=h2
 have hM:rightCh c = (decide (r.pn ≤ 2) && (!(c.Parents.any fun y=>decide (zID = y))) && riseB cmpI c.Parents && rightS ⟨r.Time,r.R⟩ && decide (r.Msg.length ≤ 200) && decide (r.Tree ≠ zID) && decide (r.on ≤ 64) && !(decide (r.pn = 2) && decide (0 < r.on)) &&
   (!(List.range rs.length).any fun i=>if hi:i < c.Ops.length then !(goodOp c.Ops[i] && decide (c.Ops[i].At.T ≤ r.Time) && decide (c.Ops[i].At.R = r.R)) else true) && riseB (fun a b:OpW=>cmpS a.At b.At) rs):=by
  have hl:=h11.len
  unfold rightCh
  rw [h7,h3,h4,h5,h6,← h9,hl]
  congr 1
  ·congr 1
   ·congr 1
    ·congr 1
     ·congr 1
      ·congr 1
       ·congr 1
        ·congr 1
         ·congr 1
          rw [show (fun y=>decide (zID = y)) = fun y=>!decide (y ≠ zID) from funext fun y=>by by_cases hy:y = zID <;> simp [hy,eq_comm],any_not,Bool.not_not]
   ·rw [any_range c.Ops (fun o=>!(goodOp o && decide (o.At.T ≤ r.Time) && decide (o.At.R = r.R))) _ (fun i hi=>by rw [dif_pos hi]),any_not,Bool.not_not]
  ·have e:c.Ops.map (·.At) = rs.map (·.At):=by
    refine List.ext_getElem (by simp [hl]) fun i h1 h2=>?_
    simp only [List.getElem_map]
    have:=(h11.at_ i (by simpa using h2) (by simpa using h1)).eq
    rw [this];rfl
   have e1:=riseB_map (fun x:Opn=>x.At) cmpS c.Ops
   have e2:=riseB_map (fun x:OpW=>x.At) cmpS rs
   rw [← e1,← e2,e]
 have HM:=Lib.hid hM
 have hA:=fun w1 (hf:Fr noB W0 w1)=>idContains_any w1 r.PA r.pc r.pn c.Parents h7 (h8.fr0 hf) h12 zID
 have hB:=fun w1 (hf:Fr noB W0 w1)=>riseID_any w1 r.PA r.pc r.pn c.Parents h7 (h8.fr0 hf) h12
 have hC:=fun w1 (hf:Fr noB W0 w1)=>opContainsF_any w1 r.OA r.oc r.on rs h9 (h10.fr0 hf) h13 (.pointer (some ⟨V,0,none⟩)) (fun i=>if hi:i < c.Ops.length then !(goodOp c.Ops[i] && decide (c.Ops[i].At.T ≤ r.Time) && decide (c.Ops[i].At.R = r.R)) else true) (fun w' hf' i hi=>by
  have hi2:i < c.Ops.length:=by rw [← h11.len];exact hi
  have hg:=hf.step0 hf'
  rw [dif_pos hi2]
  exact rc2_any w' rs[i] c.Ops[i] ((h11.fr hg).at_ i hi hi2) V P (Nat.lt_of_lt_of_le hV hg.size) (Nat.lt_of_lt_of_le hP hg.size) r.Time r.R ((hg.same.cell V 0 hV).trans cv) ((hg.same.cell P 1 hP).trans q2) ((hg.same.cell P 2 hP).trans q3))
 have hD:=fun w1 (hf:Fr noB W0 w1)=>oRiseOp_any w1 r.OA r.oc r.on rs h9 (h10.fr0 hf) h13 (fun a b=>cmpS a.At b.At) oRC3_any
 have HA:=Lib.hid hA
 have HB:=Lib.hid hB
 have HC:=Lib.hid hC
 have HD:=Lib.hid hD
 have HZ:=Lib.hid (str_size r.Msg)
 clear hM hA hB hC hD h3 h4 h5 h6 h7 h8 h9 h10 h11 h12 h13 h14 cv hV
 generalize (c.Parents.any fun y=>decide (zID = y)) = b1 at HA HM
 generalize riseB cmpI c.Parents = b2 at HB HM
 generalize ((List.range rs.length).any fun i=>if hi:i < c.Ops.length then !(goodOp c.Ops[i] && decide (c.Ops[i].At.T ≤ r.Time) && decide (c.Ops[i].At.R = r.R)) else true) = b3 at HC HM
 generalize riseB (fun a b:OpW=>cmpS a.At b.At) rs = b4 at HD HM
 have f1:Fr noB W0 W0:=Fr.refl _ _
 obtain ⟨L1,L2,L3,L4,L5,L6⟩:=f1.same
 go_wp2_with (first
  | (go_at_call 122;refine (HA.out _ f1).mono ?_;rintro e w3 ⟨rfl,f2⟩;replace f1:=f1.step0 f2;clear L1 L2 L3 L4 L5 L6;obtain ⟨L1,L2,L3,L4,L5,L6⟩:=f1.same)
  | (go_at_call 123;refine (HB.out _ f1).mono ?_;rintro e w3 ⟨rfl,f2⟩;replace f1:=f1.step0 f2;clear L1 L2 L3 L4 L5 L6;obtain ⟨L1,L2,L3,L4,L5,L6⟩:=f1.same)
  | (go_at_call 124;refine (right_v _ ⟨r.Time,r.R⟩).mono ?_;rintro e w3 ⟨rfl,f2⟩;replace f1:=f1.step0 f2;clear L1 L2 L3 L4 L5 L6;obtain ⟨L1,L2,L3,L4,L5,L6⟩:=f1.same)
  | (go_at_call 66;refine (HC.out _ f1).mono ?_;rintro e w3 ⟨rfl,f2⟩;replace f1:=f1.step0 f2;clear L1 L2 L3 L4 L5 L6;obtain ⟨L1,L2,L3,L4,L5,L6⟩:=f1.same)
  | (go_at_call 126;refine (HD.out _ f1).mono ?_;rintro e w3 ⟨rfl,f2⟩;replace f1:=f1.step0 f2;clear L1 L2 L3 L4 L5 L6;obtain ⟨L1,L2,L3,L4,L5,L6⟩:=f1.same))
 all_goals clear L1 L2 L3 L4 L5 L6 q1 q2 q3 q4 q5 q6 hP
 all_goals
  go_ret
  refine ⟨?_,fab.step0 f1⟩
  rw [HM.out]
  have hz:=HZ.out
  first
  | (simp [*];done)
  | (simp_all;done)
  | (simp_all;omega)
  | (simp_all;rename_i hor;rcases hor with hor | hor <;> first | (simp [hor];done) | (intros;omega))
end Go.Proofs.YtjpieiccpbcabaaGreat
