/- Contracts: the closures of obj.rightItem, rightDir, rightChange; rightItem, rightDir, rightLabel. Contracts: slices.Index and Contains of IDs, the closures of obj.rightChange, obj.rightChange. -/
import Derived.Test.YthehiobacjjakaaGreatDoorListFKn
import Derived.Test.YthehiobacjjakaaGreatDoorRegMKn
set_option linter.unusedVariables false
set_option linter.unusedSimpArgs false
namespace Go.Proofs.YthehiobacjjakaaGreatDoor
open Go.RowKit
set_option maxRecDepth 100000 in
theorem oRD2_any (w:World) (x y:ItW):Calls Tryz.prog 138 #[.agg (codT.A x),.agg (codT.A y)] w (Gives w (.int .i64 (cmpS x.Node y.Node))):=by
 have f0:Fr noB w ((w.alloc (.cells (codT.A x) 95)).alloc (.cells (codT.A y) 95)):=((Fr.refl noB w).alloc _).alloc _
 have hz:(w.alloc (.cells (codT.A x) 95)).heap.size = w.heap.size + 1:=by simp
 have q1:=(itAt (Cod.rd_fr0 (Cod.rd_new w 95 x) ((Fr.refl noB _).alloc (.cells (codT.A y) 95)))).node
 have q2:=(itAt (Cod.rd_new (w.alloc (.cells (codT.A x) 95)) 95 y)).node
 rw [hz] at q2
 clear hz
 go_enter Tryz.func138,Tryz.ntmps138
 go_upto_region 1 with fail
 generalize (w.alloc (.cells (codT.A x) 95)).alloc (.cells (codT.A y) 95) = W0 at f0 q1 q2 ⊢
 generalize w.heap.size = P at q1 q2 ⊢
 go_wp2_with (go_at_call 45;refine (scmp_v _ x.Node y.Node).mono ?_;rintro e w1 ⟨rfl,f1⟩)
 go_ret
 exact ⟨rfl,f0.step0 f1⟩
set_option maxRecDepth 100000 in
theorem oRI1_any (w:World) (x y:Hd):Calls Tryz.prog 157 #[.agg (codH.A x),.agg (codH.A y)] w (Gives w (.int .i64 (cmpS x.At y.At))):=by
 have f0:Fr noB w ((w.alloc (.cells (codH.A x) 78)).alloc (.cells (codH.A y) 78)):=((Fr.refl noB w).alloc _).alloc _
 have hz:(w.alloc (.cells (codH.A x) 78)).heap.size = w.heap.size + 1:=by simp
 have q1:=(hdAt (Cod.rd_fr0 (Cod.rd_new w 78 x) ((Fr.refl noB _).alloc (.cells (codH.A y) 78)))).At
 have q2:=(hdAt (Cod.rd_new (w.alloc (.cells (codH.A x) 78)) 78 y)).At
 rw [hz] at q2
 clear hz
 go_enter Tryz.func157,Tryz.ntmps157
 go_upto_region 1 with fail
 generalize (w.alloc (.cells (codH.A x) 78)).alloc (.cells (codH.A y) 78) = W0 at f0 q1 q2 ⊢
 generalize w.heap.size = P at q1 q2 ⊢
 go_wp2_with (go_at_call 45;refine (scmp_v _ x.At y.At).mono ?_;rintro e w1 ⟨rfl,f1⟩)
 go_ret
 exact ⟨rfl,f0.step0 f1⟩
def itOf (r:ItW) (hs:List Hd):It:=⟨r.Node,r.At,r.Name,r.Sub,hs⟩
structure ItIn (w:World) (r:ItW) (x:It):Prop where
 eq:x = itOf r x.Heads
 len:x.Heads.length = r.n
 sl:Sl w r.A (codH.row x.Heads)
 bd:x.Heads.length ≤ 140737488355328
 nm:r.Name.length ≤ 140737488355328
theorem ItIn.fr {w w':World} {r:ItW} {o:It} (h:ItIn w r o) (f:Fr noB w w'):ItIn w' r o:=⟨h.eq,h.len,h.sl.fr0 f,h.bd,h.nm⟩
def HdR (W:World) (p:Hd → Bool) (hs:List Hd) (gk:Nat) (iv:Value) (wr:World):Prop:=∃ k:Nat,iv = .int .i64 (k:Int) ∧ gk = hs.length - k ∧ k ≤ hs.length ∧ Fr noB W wr ∧ (hs.take k).all p = true
set_option maxRecDepth 100000 in
set_option maxHeartbeats 2000000 in
theorem rightItem_any (w:World) (r:ItW) (x:It) (h:ItIn w r x):Calls Tryz.prog 136 #[.agg (codT.A r)] w (Gives w (.bool (rightIt x))):=by
 obtain ⟨he,hlen,hs,hbd,hnm⟩:=h
 generalize x.Heads = hd at he hlen hs hbd
 subst he
 have f0:Fr noB w (w.alloc (.cells (codT.A r) 95)):=(Fr.refl noB w).alloc _
 obtain ⟨q1,q2,q3,q4,q5,q6⟩:=itAt (Cod.rd_new w 95 r)
 have hP:w.heap.size < (w.alloc (.cells (codT.A r) 95)).heap.size:=by simp
 have hM:rightIt (itOf r hd) = (rightS r.Node && rightS r.At && decide (0 ≤ cmpS r.At r.Node) && nameOk r.Name && decide (r.n ≤ 1000) && (hd.all fun h=>rightS h.At && decide (0 < cmpS h.At r.Node) && decide (h.Data ≠ zID)) && riseB (fun a b:Hd=>cmpS a.At b.At) hd):=by unfold rightIt itOf;rw [hlen]
 have HM:=Lib.hid hM
 have HL:=Lib.hid hlen
 replace hs:=hs.fr0 f0
 clear hM hlen q4 q6
 go_enter Tryz.func136,Tryz.ntmps136
 go_upto_region 1 with fail
 generalize w.alloc (.cells (codT.A r) 95) = W0 at f0 hs q1 q2 q3 q5 hP ⊢
 generalize w.heap.size = P at q1 q2 q3 q5 hP ⊢
 have f1:Fr noB W0 W0:=Fr.refl _ _
 obtain ⟨L1,L2,L3,L4,L5,L6⟩:=f1.same
 go_wp2_with (first
  | (go_at_call 83;refine (right_v _ _).mono ?_;rintro e w2 ⟨rfl,f2⟩;replace f1:=f1.step0 f2;clear L1 L2 L3 L4 L5 L6;obtain ⟨L1,L2,L3,L4,L5,L6⟩:=f1.same)
  | (go_at_call 45;refine (scmp_v _ r.At r.Node).mono ?_;rintro e w2 ⟨rfl,f2⟩;replace f1:=f1.step0 f2;clear L1 L2 L3 L4 L5 L6;obtain ⟨L1,L2,L3,L4,L5,L6⟩:=f1.same)
  | (go_at_call 70;refine (name_any _ _ hnm).mono ?_;rintro e w2 ⟨rfl,f2⟩;replace f1:=f1.step0 f2;clear L1 L2 L3 L4 L5 L6;obtain ⟨L1,L2,L3,L4,L5,L6⟩:=f1.same))
 all_goals first
  | (go_ret
     refine ⟨?_,f0.step0 f1⟩
     rw [HM.out]
     first
     | (simp [*];done)
     | (have hle:¬ 0 ≤ cmpS r.At r.Node:=by omega
        simp [hle];done)
     | (have hle:¬ r.n ≤ 1000:=by omega
        simp [hle];done))
  | skip
 have HM2:Hid (rightIt (itOf r hd) = ((hd.all fun h=>rightS h.At && decide (0 < cmpS h.At r.Node) && decide (h.Data ≠ zID)) && riseB (fun a b:Hd=>cmpS a.At b.At) hd)):=Lib.hid (by
  rw [HM.out]
  have h6:r.n ≤ 1000:=by omega
  simp [*])
 clear HM L1 L2 L3 L4 L5 L6
 replace hs:=hs.fr0 f1
 have r4:=(f1.same.st _ 0 hP).trans q1
 have r9:=(f1.same.cell _ 37 hP).trans q5
 have hP1:P < w2.heap.size:=Nat.lt_of_lt_of_le hP f1.size
 replace f0:=f0.step0 f1
 clear q1 q2 q3 q5 hP f1
 rw [← HL.out] at r9 ⊢
 clear HL
 generalize r.A = A at hs r9 ⊢
 generalize hpp:(fun h:Hd=>rightS h.At && decide (0 < cmpS h.At r.Node) && decide (h.Data ≠ zID)) = pp at HM2
 have HPP:=Lib.hid hpp
 clear hpp
 go_loopg [38] hd.length (fun gk iv wr=>HdR w2 pp hd gk iv wr)
 case atStart=>exact ⟨0,rfl,by omega,by omega,Fr.refl _ _,by simp⟩
 case round =>
  obtain ⟨k,rfl,rfl,hk,hf,ha⟩:=hrel
  have HA:=Lib.hid ha
  clear ha
  by_cases hlt:k < hd.length
  ·have i1:(k:Int) < (hd.length:Int):=by omega
   obtain ⟨g,off,rfl,hg⟩:=hs.adC (by omega)
   have e1:codH.rd wr g (off + k * 34) = some hd[k]:=(hs.fr0 hf).rd k hlt
   have e4:=(hf.same.st _ 0 hP1).trans r4
   have hP2:P < wr.heap.size:=Nat.lt_of_lt_of_le hP1 hf.size
   have i0:(0:Int) ≤ (k:Int):=by omega
   have hpx:pp hd[k] = (rightS hd[k].At && decide (0 < cmpS hd[k].At r.Node) && decide (hd[k].Data ≠ zID)):=by rw [← HPP.out]
   have bad1:pp hd[k] = false → rightIt (itOf r hd) = false:=fun h=>by
    have h1:=all_take_succ pp hd k hlt
    rw [h,Bool.and_false] at h1
    rw [HM2.out,all_take_false h1];rfl
   have good1:pp hd[k] = true → (hd.take (k + 1)).all pp = true:=fun h=>by rw [all_take_succ pp hd k hlt,HA.out,h];rfl
   generalize hd[k] = x at e1 hpx bad1 good1
   have fA:Fr noB wr (wr.alloc (codH.o x)):=(Fr.refl noB wr).alloc _
   obtain ⟨n1,n2,n3⟩:=hdAt (Cod.rd_new' wr x)
   have n4:wr.heap.size < (wr.alloc (codH.o x)).heap.size:=by simp
   have BAD1:=Lib.hid bad1
   have GOOD1:=Lib.hid good1
   have HPX:=Lib.hid hpx
   clear bad1 good1 hpx n3
   go_wp2_with fail
   have s4:=(fA.same.st _ 0 hP2).trans e4
   have hP3:=Nat.lt_of_lt_of_le hP2 fA.size
   replace fA:=hf.step0 fA
   clear e1 e4 hP2
   generalize wr.alloc (codH.o x) = W at fA n1 n2 s4 hP3 n4 ⊢
   generalize wr.heap.size = N at n1 n2 n4 ⊢
   have f1:Fr noB W W:=Fr.refl _ _
   obtain ⟨L1,L2,L3,L4,L5,L6⟩:=f1.same
   go_wp2_with (first
    | (go_at_call 83;refine (right_v _ x.At).mono ?_;rintro e w3 ⟨rfl,f2⟩;replace f1:=f1.step0 f2;clear L1 L2 L3 L4 L5 L6;obtain ⟨L1,L2,L3,L4,L5,L6⟩:=f1.same)
    | (go_at_call 45;refine (scmp_v _ x.At r.Node).mono ?_;rintro e w3 ⟨rfl,f2⟩;replace f1:=f1.step0 f2;clear L1 L2 L3 L4 L5 L6;obtain ⟨L1,L2,L3,L4,L5,L6⟩:=f1.same))
   all_goals clear L1 L2 L3 L4 L5 L6 n1 n2 n4 s4
   all_goals first
    | (go_ret
       refine ⟨?_,(f0.step0 fA).step0 f1⟩
       rw [BAD1.out (by
        rw [HPX.out]
        first
        | (simp [*];done)
        | (have hle:¬ 0 < cmpS x.At r.Node:=by omega
           simp [hle];done)
        | (rename_i hor
           rcases hor with b | b
           ·exfalso;omega
           ·simp [b]))]
       rfl)
    | (have G1:=GOOD1.out (by
        rw [HPX.out]
        have hle:0 < cmpS x.At r.Node:=by omega
        simp [*])
       go_roundg (hd.length - (k + 1))
       case measure=>omega
       case rel=>exact ⟨k + 1,by simp,rfl,by omega,fA.step0 f1,G1⟩)
  ·have hkl:k = hd.length:=by omega
   subst hkl
   have i1:¬ (hd.length:Int) < (hd.length:Int):=by omega
   have e9:=(hf.same.cell _ 37 hP1).trans r9
   have h1:=HA.out
   rw [List.take_length] at h1
   have E:Hid (rightIt (itOf r hd) = riseB (fun a b:Hd=>cmpS a.At b.At) hd):=Lib.hid (by rw [HM2.out,h1,Bool.true_and])
   clear h1 hlt
   have hr:=oRiseHead_any wr A r.c hd.length hd rfl (hs.fr0 hf) hbd (fun a b=>cmpS a.At b.At) oRI1_any
   generalize riseB (fun a b:Hd=>cmpS a.At b.At) hd = b at E hr
   go_wp2_with (go_at_call 156;refine hr.mono ?_;rintro e w3 ⟨rfl,f2⟩)
   go_ret
   exact ⟨by rw [E.out];rfl,(f0.step0 hf).step0 f2⟩
structure ItsIn (w:World) (rs:List ItW) (xs:List It):Prop where
 len:rs.length = xs.length
 at_:∀ i (h:i < rs.length) (h':i < xs.length),ItIn w rs[i] xs[i]
theorem ItsIn.fr {w w':World} {rs:List ItW} {xs:List It} (h:ItsIn w rs xs) (f:Fr noB w w'):ItsIn w' rs xs:=⟨h.len,fun i h1 h2=>(h.at_ i h1 h2).fr f⟩
set_option maxRecDepth 100000 in
theorem rd1_any (w:World) (r:ItW) (x:It) (h:ItIn w r x):Calls Tryz.prog 135 #[.agg (codT.A r)] w (Gives w (.bool (!rightIt x))):=by
 have f0:Fr noB w (w.alloc (.cells (codT.A r) 95)):=(Fr.refl noB w).alloc _
 have q:=Cod.rd_new (C:=codT) w 95 r
 have hc:=Lib.hid (rightItem_any _ r x (h.fr f0))
 go_enter Tryz.func135,Tryz.ntmps135
 go_upto_region 1 with fail
 generalize w.alloc (.cells (codT.A r) 95) = W0 at f0 q hc ⊢
 go_wp2_with (go_at_call 136;refine hc.out.mono ?_;rintro e w1 ⟨rfl,f1⟩)
 go_ret
 exact ⟨by cases rightIt x <;> rfl,f0.step0 f1⟩
theorem riseB_map {α β:Type} (f:α → β) (cf:β → β → Int):∀ l:List α,riseB cf (l.map f) = riseB (fun a b=>cf (f a) (f b)) l
 | []=>rfl
 | [x]=>rfl
 | x :: y :: l=>by
  have:=riseB_map f cf (y :: l)
  simp only [List.map_cons] at this ⊢
  unfold riseB
  rw [this]
theorem any_not {α:Type} (p:α → Bool) (l:List α):l.any (fun x=>!p x) = !l.all p:=by
 induction l with
 | nil=>rfl
 | cons x l ih=>rw [List.any_cons,List.all_cons,ih,Bool.not_and]
theorem any_range {α:Type} (l:List α) (p:α → Bool) (q:Nat → Bool) (h:∀ i (hi:i < l.length),q i = p l[i]):(List.range l.length).any q = l.any p:=by
 rw [Bool.eq_iff_iff,List.any_eq_true,List.any_eq_true]
 constructor
 ·rintro ⟨i,hi,hq⟩
  have hi:=List.mem_range.1 hi
  exact ⟨l[i],List.getElem_mem hi,by rw [← h i hi];exact hq⟩
 ·rintro ⟨x,hx,hp⟩
  obtain ⟨i,hi,rfl⟩:=List.mem_iff_getElem.1 hx
  exact ⟨i,List.mem_range.2 hi,by rw [h i hi];exact hp⟩
set_option maxRecDepth 100000 in
set_option maxHeartbeats 1000000 in
theorem rightDir_any (w:World) (A:Option Addr) (c n:Nat) (rs:List ItW) (xs:List It) (hn:rs.length = n) (hs:Sl w A (codT.row rs)) (hb:rs.length ≤ 140737488355328) (h:ItsIn w rs xs) :
  Calls Tryz.prog 114 #[.slice A n c] w (Gives w (.bool (rightDr xs))):=by
 subst hn
 have hl:=h.len
 have hM:rightDr xs = (decide (rs.length ≤ 1000) && (!(List.range rs.length).any fun i=>if hi:i < xs.length then !rightIt xs[i] else true) && riseB (fun a b:ItW=>cmpS a.Node b.Node) rs):=by
  unfold rightDr
  rw [hl]
  congr 1
  ·congr 1
   rw [any_range xs (fun x=>!rightIt x) _ (fun i hi=>by rw [dif_pos hi]),any_not,Bool.not_not]
  ·have e:xs.map (·.Node) = rs.map (·.Node):=by
    refine List.ext_getElem (by simp [hl]) fun i h1 h2=>?_
    simp only [List.getElem_map]
    have:=(h.at_ i (by simpa using h2) (by simpa using h1)).eq
    rw [this];rfl
   have e1:=riseB_map (fun x:It=>x.Node) cmpS xs
   have e2:=riseB_map (fun x:ItW=>x.Node) cmpS rs
   rw [← e1,← e2,e]
 have HM:=Lib.hid hM
 clear hM
 have hC:=fun w1 (hf:Fr noB w w1)=>itContainsF_any w1 A c rs.length rs rfl (hs.fr0 hf) hb (.bool false) (fun i=>if hi:i < xs.length then !rightIt xs[i] else true) (fun w' hf' i hi=>by
  rw [dif_pos (by omega)]
  exact rd1_any w' rs[i] (xs[i]'(by omega)) ((h.fr (hf.step0 hf')).at_ i hi (by omega)))
 have hR:=fun w1 (hf:Fr noB w w1)=>oRiseItem_any w1 A c rs.length rs rfl (hs.fr0 hf) hb (fun a b=>cmpS a.Node b.Node) oRD2_any
 have HC:=Lib.hid hC
 have HR:=Lib.hid hR
 clear hC hR hl
 generalize (List.range rs.length).any (fun i=>if hi:i < xs.length then !rightIt xs[i] else true) = b1 at HC HM
 generalize riseB (fun a b:ItW=>cmpS a.Node b.Node) rs = b2 at HR HM
 have f1:Fr noB w w:=Fr.refl _ _
 go_enter Tryz.func114,Tryz.ntmps114
 go_wp2_with (first
  | (go_at_call 134;refine (HC.out _ f1).mono ?_;rintro e w3 ⟨rfl,f2⟩;replace f1:=f1.step0 f2)
  | (go_at_call 137;refine (HR.out _ f1).mono ?_;rintro e w3 ⟨rfl,f2⟩;replace f1:=f1.step0 f2))
 all_goals
  go_ret
  refine ⟨?_,f1⟩
  rw [HM.out]
  first
  | (simp [*];done)
  | (have hle:¬ rs.length ≤ 1000:=by omega
     simp [hle];done)
  | (have hle:rs.length ≤ 1000:=by omega
     simp [*];done)
end Go.Proofs.YthehiobacjjakaaGreatDoor
namespace Go.Proofs.YthehiobacjjakaaGreatDoor
open Go.RowKit
end Go.Proofs.YthehiobacjjakaaGreatDoor
