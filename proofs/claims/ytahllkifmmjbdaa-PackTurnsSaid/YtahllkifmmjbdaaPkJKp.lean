/- Contracts: the keys of a map of IDs, gathered and sorted (slices.SortedFunc(maps.Keys(m), sha.Cmp)). -/
import Derived.Test.YtahllkifmmjbdaaPkIKp
import Derived.Test.YtahllkifmmjbdaaIdSortKp
import Derived.Test.YtahllkifmmjbdaaRetMKp
import Derived.RangeFuncNested
import Derived.RangeFuncBound
import Derived.RangeFuncCalls
import Derived.RangeFuncLeaves
import Derived.Shelf.Abstract
import Derived.Shelf.RegionOpen
import Derived.WalkKit
import Derived.OwnWalkIn
import Derived.TacticsInMore
import Derived.LoopNIn
import Derived.LoopIn
set_option linter.unusedVariables false
set_option linter.unusedSimpArgs false
namespace Go.Proofs.Ytahllkifmmjbdaa
open Go.RowKit Go.Maps Go.Sort Go.Shelf
set_option maxRecDepth 100000
attribute [local go_sem] Oper.semAt_some
theorem RngL.cnt {w:World} {it r:Nat} {kv left:List (ID × Value)} (h:RngL encI w it r kv left):w.rangeLeft r it = left.length:=by
 obtain ⟨es,clock,seen,hi,hb,he,hl⟩:=h
 unfold World.rangeLeft
 rw [hb,hi]
 have:=congrArg List.length hl
 simpa using this
theorem RngL.nek {w:World} {it r:Nat} {kv left:List (ID × Value)} (h:RngL encI w it r kv left):it ≠ r:=by
 rintro rfl
 obtain ⟨es,clock,seen,hi,hb,_⟩:=h
 rw [hi] at hb;cases hb
theorem RngL.walks {w w':World} {it r:Nat} {kv left:List (ID × Value)} (h:RngL encI w it r kv left) (k:KeepsWalks w w'):RngL encI w' it r kv left:=by
 obtain ⟨es,clock,seen,hi,hb,rest⟩:=h
 exact ⟨es,clock,seen,k.same _ _ hi rfl,k.same _ _ hb rfl,rest⟩
theorem RngL.walk {w:World} {it r:Nat} {kv left:List (ID × Value)} (h:RngL encI w it r kv left):∃ o:Obj,w.heap[it]? = some o ∧ o.isWalk = true:=by
 obtain ⟨es,clock,seen,hi,_⟩:=h
 exact ⟨_,hi,rfl⟩
theorem Fr.grown {w w':World} {p:Nat} (f:Fr (oneB p) w w'):w.grownBy w' (some p):=⟨f.os,f.tape,f.output,f.size,fun k hk hn=>f.block k hk (fun e=>hn (by rw [show k = p from e]))⟩
theorem Fr.grown0 {w w':World} (f:Fr noB w w'):w.grownBy w' none:=⟨f.os,f.tape,f.output,f.size,fun k hk hn=>f.block k hk (by simp [noB])⟩
/-! inside a fence the operations are those outside -/
theorem semW (ρ:Operand → Value) (o:Oper) (w:World):(Oper.semAt Fence.wide.round ρ o).run Try.prog w = (execOp ρ o).run Try.prog w:=rfl
theorem semLd (l:Nat) (ρ:Operand → Value) (d:Option Nat) (ty:TypeId) (a:Operand) (t:TypeId) (p:String) (f:Array Edge) (g:Option (Nat × Bool)) (w:World) :
  (Oper.semAt (Fence.wide.inRound l).round ρ { dst:=d,op:=.load ty a,type:=t,pos:=p,after:=f,guard:=g }).run Try.prog w = (execOp ρ { dst:=d,op:=.load ty a,type:=t,pos:=p,after:=f,guard:=g }).run Try.prog w:=by rw [Oper.semAt_eq _ _ _ (by simp)]
theorem semSt (l:Nat) (ρ:Operand → Value) (d:Option Nat) (ty:TypeId) (a x:Operand) (t:TypeId) (p:String) (f:Array Edge) (g:Option (Nat × Bool)) (w:World) :
  (Oper.semAt (Fence.wide.inRound l).round ρ { dst:=d,op:=.store ty a x,type:=t,pos:=p,after:=f,guard:=g }).run Try.prog w = (execOp ρ { dst:=d,op:=.store ty a x,type:=t,pos:=p,after:=f,guard:=g }).run Try.prog w:=by rw [Oper.semAt_eq _ _ _ (by simp)]
theorem semAl (l:Nat) (ρ:Operand → Value) (d:Option Nat) (ty:TypeId) (t:TypeId) (p:String) (f:Array Edge) (g:Option (Nat × Bool)) (w:World) :
  (Oper.semAt (Fence.wide.inRound l).round ρ { dst:=d,op:=.alloc ty,type:=t,pos:=p,after:=f,guard:=g }).run Try.prog w = (execOp ρ { dst:=d,op:=.alloc ty,type:=t,pos:=p,after:=f,guard:=g }).run Try.prog w:=by rw [Oper.semAt_eq _ _ _ (by simp)]
theorem semBs (l:Nat) (ρ:Operand → Value) (d:Option Nat) (ty:TypeId) (k:Nat) (xs:Array (Nat × Operand)) (t:TypeId) (p:String) (f:Array Edge) (g:Option (Nat × Bool)) (w:World) :
  (Oper.semAt (Fence.wide.inRound l).round ρ { dst:=d,op:=.buildSlice ty k xs,type:=t,pos:=p,after:=f,guard:=g }).run Try.prog w = (execOp ρ { dst:=d,op:=.buildSlice ty k xs,type:=t,pos:=p,after:=f,guard:=g }).run Try.prog w:=by rw [Oper.semAt_eq _ _ _ (by simp)]
attribute [local simp ↓] semW semLd semSt semAl semBs
set_option maxHeartbeats 2000000 in
theorem keysB_in (n:Nat) (hn:1 ≤ n) (l Bs r:Nat) (kv:List (ID × Value)) (J Jx:List ID → World → Prop) (W:World) (hJ:AbidesFrom W.heap.size J)
  (hY:∀ pre x W1,J pre W1 → pre.length < kv.length → YieldAt Fence.wide (n - 1) Try.prog l #[encI x] W1 fun e W'=>(e = .returned (.bool true) ∧ J (pre ++ [x]) W' ∧ KeepsWalks W1 W') ∨ (e = .returned (.bool false) ∧ Jx (pre ++ [x]) W'))
  (hBs:W.cell? ⟨Bs,0,none⟩ = some (.map (some r))) (hm:mpI W r = some kv) (h0:J [] W) :
  CallsIn Fence.wide n Try.prog 64 #[.func (.yield l) #[] #[],.pointer (some ⟨Bs,0,none⟩)] W fun e W'=>(∃ v,e = .returned v) ∧ ((∃ ys:List ID,ys.Perm (kv.map (·.1)) ∧ J ys W') ∨ (∃ pre:List ID,True ∧ Jx pre W')):=by
 refine callsIn_of_wp Try.func64 rfl trivial ?_ rfl
 simp only [Try.ntmps64,List.size_toArray,List.length_cons,List.length_nil,Nat.reduceAdd,Nat.reduceSub,Array.replicate_succ,Array.replicate_zero,List.push_toArray,List.append_toArray,List.nil_append,List.cons_append]
 obtain ⟨hr1,hr2⟩:=rng_all Try.underlying43 hm
 gi_wp2
 have hJ1:J [] (W.alloc (rngO W r)):=hJ [] W _ none h0 (World.grownBy_alloc W _ none) (fun r e=>by cases e)
 have hWz:W.heap.size ≤ (W.alloc (rngO W r)).heap.size:=by simp
 obtain ⟨it,hit⟩:∃ it,it = W.heap.size:=⟨_,rfl⟩
 rw [← hit] at hr2 ⊢
 have HIT:=Lib.hid hit
 clear hr1 hm hBs h0 hit
 generalize W.alloc (rngO W r) = W1 at hr2 hJ1 hWz ⊢
 have hJ':AbidesFrom it J:=by rw [HIT.out];exact hJ
 clear hJ
 gi_loopw [3] (fun _ wr=>∃ (left:List (ID × Value)) (pre:List ID),RngL encI wr it r kv left ∧ (pre ++ left.map (·.1)).Perm (kv.map (·.1)) ∧ J pre wr) (fun _ wr=>wr.rangeLeft r it)
 case atStart=>exact ⟨kv,[],hr2,by simp,hJ1⟩
 case round =>
  obtain ⟨left,pre,hrg,hperm,hJs⟩:=hrel
  have hlen:pre.length + left.length = kv.length:=by have:=hperm.length_eq;simpa using this
  have hcn:=hrg.cnt
  rcases hrg.next keyI hrg.nek 0 with ⟨hl0,hrun⟩ | ⟨l1,q,l2,w2,hl,hq,hrun,hrg2,f2,hent⟩
  ·gi_wp2
   go_end0
   subst hl0
   exact ⟨⟨_,rfl⟩,.inl ⟨pre,by simpa using hperm,hJs⟩⟩
  ·have he:=hent noB w2 (Fr.refl _ _) (by simp [noB]) (by simp [noB])
   have hJ2:J pre w2:=hJ' pre wr w2 (some it) hJs f2.grown (fun r e=>by cases e;exact ⟨Nat.le_refl _,hrg.walk⟩)
   obtain ⟨x,v⟩:=q
   have fx:Fr noB w2 (putB (w2.alloc (ido zID)) w2.heap.size x):=((Fr.refl noB w2).alloc _).trans (putB_fr (bxI_new w2 zID) x).1 (fun b hb e=>by have e:b = w2.heap.size:=e;omega)
   have hJ3:J pre (putB (w2.alloc (ido zID)) w2.heap.size x):=hJ' pre w2 _ none hJ2 fx.grown0 (fun r e=>by cases e)
   have hb3:=bxI_rd (putB_fr (bxI_new w2 zID) x).2.2
   have hrg3:=hrg2.fr fx (by simp [noB]) (by simp [noB])
   obtain ⟨fn,tmps,assign,body,hy,hR⟩:=hY pre x _ hJ3 (by rw [← hlen,hl];simp;omega)
   have HRG:=Lib.hid hrg3
   have HL:=Lib.hid hl
   have HCN:=Lib.hid hcn
   have HPM:=Lib.hid hperm
   clear hrg3 hl hcn hperm fx hJ2 hJ3 hlen hrg2 hrg hJs hent f2
   gi_wp2
   refine hR.mono ?_
   rintro e W3 (⟨rfl,hJ3,hk3⟩ | ⟨rfl,hJx3⟩)
   ·gi_wp2
    have hrg4:=HRG.out.walks hk3
    go_roundw
    case rel=>exact ⟨l1 ++ l2,pre ++ [x],hrg4,(by
     have:=HPM.out
     rw [HL.out] at this
     refine List.Perm.trans ?_ this
     simp only [List.map_append,List.map_cons,List.append_assoc,List.singleton_append]
     exact List.Perm.append_left _ List.perm_middle.symm),hJ3⟩
    case measure=>rw [hrg4.cnt,HCN.out,HL.out];simp
   ·gi_wp2
    refine bodyPost_ret (results_none rfl _ _ _) rfl ?_
    exact ⟨⟨_,rfl⟩,.inr ⟨_,trivial,hJx3⟩⟩
set_option maxHeartbeats 2000000 in
theorem keysS_in (n:Nat) (hn:1 ≤ n) (l Bs r:Nat) (kv:List (ID × Value)) (J Jx:List ID → World → Prop) (W:World) (hJ:AbidesFrom W.heap.size J)
  (hY:∀ pre x W1,J pre W1 → pre.length < kv.length → YieldAt Fence.wide (n - 1) Try.prog l #[encI x] W1 fun e W'=>(e = .returned (.bool true) ∧ J (pre ++ [x]) W' ∧ KeepsWalks W1 W') ∨ (e = .returned (.bool false) ∧ Jx (pre ++ [x]) W'))
  (hBs:W.cell? ⟨Bs,0,none⟩ = some (.map (some r))) (hm:mpI W r = some kv) (h0:J [] W) :
  CallsIn Fence.wide n Try.prog 66 #[.func (.yield l) #[] #[],.pointer (some ⟨Bs,0,none⟩)] W fun e W'=>(∃ v,e = .returned v) ∧ ((∃ ys:List ID,ys.Perm (kv.map (·.1)) ∧ J ys W') ∨ (∃ pre:List ID,True ∧ Jx pre W')):=by
 refine callsIn_of_wp Try.func66 rfl trivial ?_ rfl
 simp only [Try.ntmps66,List.size_toArray,List.length_cons,List.length_nil,Nat.reduceAdd,Nat.reduceSub,Array.replicate_succ,Array.replicate_zero,List.push_toArray,List.append_toArray,List.nil_append,List.cons_append]
 obtain ⟨hr1,hr2⟩:=rng_all Try.underlying46 hm
 gi_wp2
 have hJ1:J [] (W.alloc (rngO W r)):=hJ [] W _ none h0 (World.grownBy_alloc W _ none) (fun r e=>by cases e)
 have hWz:W.heap.size ≤ (W.alloc (rngO W r)).heap.size:=by simp
 obtain ⟨it,hit⟩:∃ it,it = W.heap.size:=⟨_,rfl⟩
 rw [← hit] at hr2 ⊢
 have HIT:=Lib.hid hit
 clear hr1 hm hBs h0 hit
 generalize W.alloc (rngO W r) = W1 at hr2 hJ1 hWz ⊢
 have hJ':AbidesFrom it J:=by rw [HIT.out];exact hJ
 clear hJ
 gi_loopw [3] (fun _ wr=>∃ (left:List (ID × Value)) (pre:List ID),RngL encI wr it r kv left ∧ (pre ++ left.map (·.1)).Perm (kv.map (·.1)) ∧ J pre wr) (fun _ wr=>wr.rangeLeft r it)
 case atStart=>exact ⟨kv,[],hr2,by simp,hJ1⟩
 case round =>
  obtain ⟨left,pre,hrg,hperm,hJs⟩:=hrel
  have hlen:pre.length + left.length = kv.length:=by have:=hperm.length_eq;simpa using this
  have hcn:=hrg.cnt
  rcases hrg.next keyI hrg.nek 0 with ⟨hl0,hrun⟩ | ⟨l1,q,l2,w2,hl,hq,hrun,hrg2,f2,hent⟩
  ·gi_wp2
   go_end0
   subst hl0
   exact ⟨⟨_,rfl⟩,.inl ⟨pre,by simpa using hperm,hJs⟩⟩
  ·have he:=hent noB w2 (Fr.refl _ _) (by simp [noB]) (by simp [noB])
   have hJ2:J pre w2:=hJ' pre wr w2 (some it) hJs f2.grown (fun r e=>by cases e;exact ⟨Nat.le_refl _,hrg.walk⟩)
   obtain ⟨x,v⟩:=q
   have fx:Fr noB w2 (putB (w2.alloc (ido zID)) w2.heap.size x):=((Fr.refl noB w2).alloc _).trans (putB_fr (bxI_new w2 zID) x).1 (fun b hb e=>by have e:b = w2.heap.size:=e;omega)
   have hJ3:J pre (putB (w2.alloc (ido zID)) w2.heap.size x):=hJ' pre w2 _ none hJ2 fx.grown0 (fun r e=>by cases e)
   have hb3:=bxI_rd (putB_fr (bxI_new w2 zID) x).2.2
   have hrg3:=hrg2.fr fx (by simp [noB]) (by simp [noB])
   obtain ⟨fn,tmps,assign,body,hy,hR⟩:=hY pre x _ hJ3 (by rw [← hlen,hl];simp;omega)
   have HRG:=Lib.hid hrg3
   have HL:=Lib.hid hl
   have HCN:=Lib.hid hcn
   have HPM:=Lib.hid hperm
   clear hrg3 hl hcn hperm fx hJ2 hJ3 hlen hrg2 hrg hJs hent f2
   gi_wp2
   refine hR.mono ?_
   rintro e W3 (⟨rfl,hJ3,hk3⟩ | ⟨rfl,hJx3⟩)
   ·gi_wp2
    have hrg4:=HRG.out.walks hk3
    go_roundw
    case rel=>exact ⟨l1 ++ l2,pre ++ [x],hrg4,(by
     have:=HPM.out
     rw [HL.out] at this
     refine List.Perm.trans ?_ this
     simp only [List.map_append,List.map_cons,List.append_assoc,List.singleton_append]
     exact List.Perm.append_left _ List.perm_middle.symm),hJ3⟩
    case measure=>rw [hrg4.cnt,HCN.out,HL.out];simp
   ·gi_wp2
    refine bodyPost_ret (results_none rfl _ _ _) rfl ?_
    exact ⟨⟨_,rfl⟩,.inr ⟨_,trivial,hJx3⟩⟩
def KeysGive (gf:Nat) (w:World) (Bs:Nat) (ks:List ID):Prop:=SeqStopsK Fence.wide 7 Try.prog gf #[.pointer (some ⟨Bs,0,none⟩)] (fun x:ID=>#[encI x]) KeepsWalks (fun ys=>ys.Perm ks) (fun _=>True) ks.length w
theorem keysB_give (w:World) (Bs r:Nat) (kv:List (ID × Value)) (hBs:w.cell? ⟨Bs,0,none⟩ = some (.map (some r))) (hm:mpI w r = some kv):KeysGive 64 w Bs (kv.map (·.1)):=by
 intro l J Jx W hW hJ hJx hY h0
 have f:Fr noB w W:=Fr.ofBelow hW
 exact keysB_in 7 (by omega) l Bs r kv J Jx W hJ (by simpa using hY) (cell_fr0 hBs f) (mpI_fr hm f (by simp [noB])) h0
theorem keysS_give (w:World) (Bs r:Nat) (kv:List (ID × Value)) (hBs:w.cell? ⟨Bs,0,none⟩ = some (.map (some r))) (hm:mpI w r = some kv):KeysGive 66 w Bs (kv.map (·.1)):=by
 intro l J Jx W hW hJ hJx hY h0
 have f:Fr noB w W:=Fr.ofBelow hW
 exact keysS_in 7 (by omega) l Bs r kv J Jx W hJ (by simpa using hY) (cell_fr0 hBs f) (mpI_fr hm f (by simp [noB])) h0
def KysTo (w:World) (ks:List ID) (e:Ending) (w':World):Prop:=∃ (A:Option Addr) (c:Nat) (os:List ID),e = .returned (.slice A os.length c) ∧ OwnD w w' A c os ∧ os.Perm ks ∧ Fr noB w w'
theorem wpListIn_appD {F:Fence} {n:Nat} (w0 w:World) {ops:Array Oper} {rest:List Oper} {o:Oper} {a:Act} {Q:Exit → Act → World → Prop} (hgd:o.guard = none) (s x:Operand)
  (ho:o.op = .call { callee:=.builtin .append,args:=#[s,x],argTypes:=#[40,40] })
  (As:Option Addr) (ns cs:Nat) (lo:List ID) (hs:a.eval s = .slice As ns cs) (hns:lo.length = ns) (hown:OwnD w0 w As cs lo)
  (A:Option Addr) (m c:Nat) (news:List ID) (hx:a.eval x = .slice A m c) (hr:Sl w A (idc news)) (hl:news.length = m)
  (hbytes:lo.length + news.length ≤ 1000000000000) (hbase:w0.heap.size ≤ w.heap.size)
  (h:∀ A' c' w',(lo ++ news).length ≤ c' → c' ≤ maxLen → OwnD w0 w' A' c' (lo ++ news) → w.grownBy w' (As.map (·.block)) → wpListIn F n Try.prog ops Q rest (a.put o.dst (.slice A' (lo ++ news).length c')) w') :
  wpListIn F n Try.prog ops Q (o :: rest) a w:=by
 subst hns
 refine wpListIn_plain hgd fun K hK'=>?_
 obtain ⟨v',w',hrun,h1,h2,h3⟩:=run_app (P:=Try.prog) w etIDs o.type w0.heap.size _ lo.length (idc lo) hown A m c (idc news) hr (by rw [idc_length,hl]) (idc_one _) (by rw [← hl];omega) hbase
 rw [← idc_append] at h1
 have h1':=own_idc h1
 obtain ⟨A',c',rfl,hc1,hc2⟩:=own_form h1'
 rw [ownBlock_sl] at h2
 unfold Oper.wpIn
 refine ⟨by simp [Oper.about,ho,resolve,Target.leads,Sem.run_pure],?_⟩
 rw [Oper.semAt_plain F _ _ (by rw [ho];intro c hc';cases hc')]
 simp [execOp,ho,resolve,invoke,builtin,hs,hx,hrun,Result.andThen]
 have:=h A' c' w' hc1 hc2 h1' h2
 simp only [List.length_append] at this
 exact hK' _ _ this
theorem keeps_fr {M:Nat → Prop} {W W':World} (f:Fr M W W') (hM:∀ k o,M k → W.heap[k]? = some o → o.isCells = true):KeepsOthers W W' :=
 ⟨f.size,fun k o hk ho=>(f.block k (Array.getElem?_eq_some_iff.1 hk).1 (fun e=>by rw [hM k o e hk] at ho;cases ho)).trans hk⟩
theorem keepsW_fr {M:Nat → Prop} {W W':World} (f:Fr M W W') (hM:∀ k o,M k → W.heap[k]? = some o → o.isCells = true):KeepsWalks W W' :=
 ⟨f.size,fun k o hk ho=>(keeps_fr f hM).same k o hk (Obj.not_cells_of_walk ho)⟩
theorem own_cells {w:World} {base:Nat} {e:TypeId} {size n c:Nat} {A:Option Addr} {xs:List Value} (h:w.ownsRow base e size (.slice A n c) n xs):∀ k o,A.map (·.block) = some k → w.heap[k]? = some o → o.isCells = true:=by
 intro k o hk ho
 rcases h.2 with ⟨hv,_⟩ | ⟨g',cap,cu,hv,_,hh,_⟩
 ·injection hv with hv;subst hv;cases hk
 ·injection hv with hv
  subst hv
  injection hk with hk
  have hk:g' = k:=hk
  subst hk
  rw [hh] at ho
  injection ho with ho
  subst ho;rfl
set_option maxHeartbeats 4000000 in
theorem appseq_any (w:World) (gf Bs:Nat) (ks:List ID) (hk:ks.length ≤ 1000000000) (eg:∀ args w,(callFunc gf args).run Try.prog w = .ok (.enter gf args) w) (hg:KeysGive gf w Bs ks):Calls Try.prog 74 #[.slice none 0 0,.func (.func gf) #[] #[.pointer (some ⟨Bs,0,none⟩)]] w (KysTo w ks):=by
 refine callsM Try.func74 rfl ?_
 simp only [Try.ntmps74,List.size_toArray,List.length_cons,List.length_nil,Nat.reduceAdd,Nat.reduceSub,Array.replicate_succ,Array.replicate_zero,List.push_toArray,List.append_toArray,List.nil_append,List.cons_append]
 obtain ⟨Bx,hBx⟩:∃ Bx,Bx = w.heap.size:=⟨_,rfl⟩
 have f0:Fr noB w (w.alloc (.cells #[.slice none 0 0] 40)):=(Fr.refl noB w).alloc _
 have b0:Blk (w.alloc (.cells #[.slice none 0 0] 40)) Bx 40 [.slice none 0 0]:=by rw [hBx];exact Blk.new w 40 [.slice none 0 0]
 have hz0:(w.alloc (.cells #[.slice none 0 0] 40)).heap.size = Bx + 1:=by rw [hBx];simp
 have hg0:KeysGive gf (w.alloc (.cells #[.slice none 0 0] 40)) Bs ks:=fun l J Jx W hW hJ hJx hY h0=>hg l J Jx W (by
  have h1:=f0.below
  exact h1.trans (hW.mono (by simp))) hJ hJx hY h0
 go_wp2_with fail
 rw [← hBx]
 have HBX:=Lib.hid hBx
 have HZ0:=Lib.hid hz0
 clear hBx hz0
 generalize w.alloc (.cells #[.slice none 0 0] 40) = W0 at f0 b0 hg0 HZ0 ⊢
 refine wpIn_wide.1 (wpIn_rangeFunc_ownH (F:=Fence.wide) (n:=8) rfl (by omega) (gf:=gf) (lb:=#[.pointer (some ⟨Bs,0,none⟩)]) rfl trivial eg hg0 walksK_t walksK_b (Below.refl _ _) (fun _=>rfl)
  (fun pre W=>∃ (A:Option Addr) (c:Nat),Blk W Bx 40 [.slice A pre.length c] ∧ OwnD w W A c pre ∧ Fr noB w W ∧ W0.heap.size ≤ W.heap.size) (fun _ _ _=>False) ?own (fun _ _ _ _ _ h _ _=>h) ⟨none,0,b0,World.ownsRow_nil _ _ _ _,f0,Nat.le_refl _⟩
  (fun x a' W=>∃ Bv,W0.heap.size ≤ Bv ∧ bxI W Bv = some x ∧ a' = { tmps:=#[.slice none 0 0,.func (.func gf) #[] #[.pointer (some ⟨Bs,0,none⟩)],.pointer (some ⟨Bx,0,none⟩),undef,.slice none 0 0,.pointer (some ⟨Bv,0,none⟩),.func (.func gf) #[] #[.pointer (some ⟨Bs,0,none⟩)],encI x,undef,undef,undef,undef,undef],defers:=[] }) ?ownx ?assign ?body ?done ?stop)
 case own =>
  rintro pre W W' row ⟨A,c,h1,h2,h3,hz⟩ hgr hrow
  have f:Fr (fun k=>row = some k) W W':=Fr.ofGrown hgr (fun g hg=>hg)
  refine ⟨A,c,h1.fr f (fun e=>?_),own_fr h2 f (fun g hg e=>?_),h3.step f (fun b hb=>.inl ?_),Nat.le_trans hz f.size⟩
  ·have:=(hrow Bx e).1
   have:=HZ0.out
   omega
  ·obtain ⟨_,o,ho,hc⟩:=hrow g e
   rcases h2.2 with ⟨hv,_⟩ | ⟨g',cap,cu,hv,_,hh,_⟩
   ·rw [hv] at hg;simp [Value.ownBlock] at hg
   ·rw [hv] at hg
    have e':g' = g:=by simpa [Value.ownBlock] using hg
    subst e'
    rw [ho] at hh
    injection hh with hh
    subst hh
    cases hc
  ·have:=(hrow b hb).1
   have:=f0.size
   omega
 case ownx =>
  rintro x a' _ W W' row ⟨Bv,h1,h2,h3⟩ hgr hrow
  have f:Fr (fun k=>row = some k) W W':=Fr.ofGrown hgr (fun g hg=>hg)
  refine ⟨Bv,h1,bxI_fr h2 f (fun e=>?_),h3⟩
  obtain ⟨_,o,ho,hc⟩:=hrow Bv e
  have hh:=bxI_at h2
  rw [ho] at hh
  injection hh with hh
  subst hh
  cases hc
 case assign =>
  rintro l pre x W K ⟨A,c,h1,h2,h3,hz⟩ hK
  have g:=putB_fr (bxI_new W zID) x
  have fx:Fr noB W (putB (W.alloc (ido zID)) W.heap.size x):=((Fr.refl noB W).alloc _).trans g.1 (fun b hb e=>by have e:b = W.heap.size:=e;omega)
  have hx:=hK { tmps:=#[.slice none 0 0,.func (.func gf) #[] #[.pointer (some ⟨Bs,0,none⟩)],.pointer (some ⟨Bx,0,none⟩),undef,.slice none 0 0,.pointer (some ⟨W.heap.size,0,none⟩),.func (.func gf) #[] #[.pointer (some ⟨Bs,0,none⟩)],encI x,undef,undef,undef,undef,undef],defers:=[] } (putB (W.alloc (ido zID)) W.heap.size x) ⟨fx.size,fun k o _ hk _=>(fx.block k (Array.getElem?_eq_some_iff.1 hk).1 (by simp [noB])).trans hk⟩ ⟨fx.size,fun k o hk _=>(fx.block k (Array.getElem?_eq_some_iff.1 hk).1 (by simp [noB])).trans hk⟩ ⟨A,c,h1.fr fx (by simp [noB]),own_fr h2 fx (fun _ _=>by simp [noB]),h3.step0 fx,Nat.le_trans hz fx.size⟩ ⟨W.heap.size,hz,g.2.2,rfl⟩
  clear hK
  simp only [List.size_toArray]
  gi_wp2
  exact hx
 case body =>
  rintro l pre x a' W _ _ ⟨A,c,h1,h2,h3,hz⟩ ⟨Bv,h4,h5,rfl⟩ hlen
  have e2:W.cell? ⟨Bx,0,none⟩ = some (.slice A pre.length c):=h1.cell 0
  have e5:=bxI_rd h5
  have fn:Fr noB W (W.alloc (rowo [x])):=(Fr.refl noB W).alloc _
  have sl:=sl_new W [x]
  have ho2:OwnD w (W.alloc (rowo [x])) A c pre:=own_fr h2 fn (fun _ _=>by simp [noB])
  have sz:w.heap.size ≤ (W.alloc (rowo [x])).heap.size:=(h3.step0 fn).size
  have hne:∀ g,A.map (·.block) = some g → g ≠ Bx:=fun g hg=>h1.ne_own h2 (by decide) g (by rw [ownBlock_sl'];exact hg)
  have HNE:=Lib.hid hne
  have H1:=Lib.hid (h1.fr fn (by simp [noB]))
  have H2:=Lib.hid h2
  have H3:=Lib.hid h3
  have HZ:=Lib.hid hz
  have HBB:=Lib.hid h1
  have HFN:=Lib.hid fn
  clear h1 h2 h3 hz hne fn h5 h4
  gi_wp2_with (gi_at_builtin;refine wpListIn_appD w _ rfl _ _ rfl A pre.length c pre rfl rfl ho2 (some ⟨W.heap.size,0,none⟩) 1 1 [x] rfl sl rfl (by simp;omega) sz ?_;intro A8 c8 w8 hc8 hmx8 ho8 hg8;have f8:=Fr.ofGrown (M:=fun b=>A.map (·.block) = some b) hg8 (fun _ h=>h);have b8:=H1.out.fr f8 (fun e=>HNE.out _ e rfl);have z8:=b8.frozen 0;have v8:w8.cell? ⟨Bx,0,none⟩ = some (.slice A pre.length c):=b8.cell 0;have HB8:=Lib.hid b8;have HO8:=Lib.hid ho8;have HF8:=Lib.hid f8;clear hc8 hmx8 hg8 f8 b8 ho8 ho2 sl sz e2 e5)
  have fs:Fr (oneB Bx) w8 (w8.setCell ⟨Bx,0,none⟩ (.slice A8 (pre.length + 1) c8)):=(Fr.refl (oneB Bx) w8).setCell (p:=⟨Bx,0,none⟩) (fun _=>rfl) _
  have fw:Fr (fun k=>k = Bx ∨ A.map (·.block) = some k) W (w8.setCell ⟨Bx,0,none⟩ (.slice A8 (pre.length + 1) c8)):=((HFN.out.any (M:=fun k=>k = Bx ∨ A.map (·.block) = some k)).trans HF8.out (fun b _ h=>.inr h)).trans fs (fun b _ h=>.inl h)
  have hcl:∀ k o,(k = Bx ∨ A.map (·.block) = some k) → W.heap[k]? = some o → o.isCells = true:=by
   rintro k o (rfl | hk) ho
   ·have:=HBB.out
    unfold Blk at this
    rw [this] at ho
    injection ho with ho
    subst ho;rfl
   ·exact own_cells H2.out k o hk ho
  refine ⟨(keeps_fr fw hcl).from _,keepsW_fr fw hcl,A8,c8,?_,?_,?_,Nat.le_trans HZ.out fw.size⟩
  ·have:=HB8.out.set 0 (.slice A8 (pre.length + 1) c8)
   simpa using this
  ·refine own_fr HO8.out fs (fun g hg e=>?_)
   exact HB8.out.ne_own HO8.out (by decide) g hg e
  ·refine H3.out.step fw (fun b hb=>.inl ?_)
   rcases hb with rfl | hb
   ·have:=HBX.out;omega
   ·exact (H2.out.lt b (by rw [ownBlock_sl'];exact hb)).1
 case done =>
  rintro D xs W hD hS ⟨A,c,h1,h2,h3,hz⟩ hD'
  have e2:W.cell? ⟨Bx,0,none⟩ = some (.slice A xs.length c):=h1.cell 0
  clear hg0 b0
  go_wp2_with fail
  have fD:Fr (oneB D) W (W.putObj D (.deferred none)):=Fr.ofGrown (grownBy_putObj' W D (.deferred none)) (fun g hg=>by injection hg with hg;exact hg.symm)
  refine leaveM1 rfl hD' (results_tmp rfl _ _ _) ?_
  refine ⟨A,c,xs,rfl,own_fr h2 fD (fun g hg e=>?_),hS,h3.step1 fD ?_⟩
  ·have e:g = D:=e
   subst e
   rcases h2.2 with ⟨hv,_⟩ | ⟨g',cap,cu,hv,_,hh,_⟩
   ·rw [hv] at hg;simp [Value.ownBlock] at hg
   ·rw [hv] at hg
    have e':g' = g:=by simpa [Value.ownBlock] using hg
    subst e'
    rw [hD'] at hh
    cases hh
  ·have:=f0.size
   omega
 case stop =>
  rintro D c pre W _ _ h _
  exact h.elim
def SrtTo (w:World) (ks:List ID) (e:Ending) (w':World):Prop:=∃ (A:Option Addr) (c:Nat) (os:List ID),e = .returned (.slice A (sortBy cmpI os).length c) ∧ OwnD w w' A c (sortBy cmpI os) ∧ os.Perm ks ∧ Fr noB w w'
set_option maxHeartbeats 4000000 in
theorem ksort_any (w:World) (gf Bs:Nat) (ks:List ID) (hk:ks.length ≤ 1000000000) (eg:∀ args w,(callFunc gf args).run Try.prog w = .ok (.enter gf args) w) (hg:KeysGive gf w Bs ks):Calls Try.prog 39 #[.func (.func gf) #[] #[.pointer (some ⟨Bs,0,none⟩)],.func (.func 41) #[] #[]] w (SrtTo w ks):=by
 have CC:=Lib.hid (show Calls Try.prog 62 #[.func (.func gf) #[] #[.pointer (some ⟨Bs,0,none⟩)]] w (KysTo w ks) from by
  go_enter Try.func62,Try.ntmps62
  go_wp2_with (go_at_call 74;refine (appseq_any w gf Bs ks hk eg hg).mono ?_;rintro e w1 ⟨A,c,os,rfl,ho,hp,hf⟩;have HO:=Lib.hid ho;have HP:=Lib.hid hp;have HF:=Lib.hid hf;clear ho hp hf)
  go_ret
  exact ⟨A,c,os,rfl,HO.out,HP.out,HF.out⟩)
 go_enter Try.func39,Try.ntmps39
 go_wp2_with first
  | (go_at_call 62;refine CC.out.mono ?_;rintro e w1 ⟨A,c,os,rfl,ho,hp,hf⟩;have HO:=Lib.hid ho;have HP:=Lib.hid hp;have HF:=Lib.hid hf;clear ho hp hf)
  | (go_at_call 63;refine (sortC_any w w1 A c _ os rfl HO.out (by have:=HP.out.length_eq;omega)).mono ?_;rintro e w2 ⟨rfl,ho2,hf2⟩;have HO2:=Lib.hid ho2;have HF2:=Lib.hid hf2;clear ho2 hf2)
 go_ret
 refine ⟨A,c,os,by rw [sortBy_length];rfl,HO2.out,HP.out,HF.out.step HF2.out (fun b hb=>.inl (HO.out.lt b (by rw [ownBlock_sl'];exact hb)).1)⟩
end Go.Proofs.Ytahllkifmmjbdaa
