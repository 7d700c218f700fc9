/- Contracts: the closure of grove's Insert; slices.Backward of what has been done. (ex_ldS_at, ex_ldD_at) A tree of operations (grove) in memory; the range over what is undone. (ex_ldS_at, ex_ldD_at) A tree under change: what Insert and Clone hold in between. -/
import Derived.Test.YtjpieiccpbcabaaGreatGvGKu
import Derived.RangeFuncNested
import Derived.RangeFuncBound
import Derived.RangeFuncCalls
import Derived.RangeFuncLeaves
import Derived.Shelf.Abstract
import Derived.Shelf.RegionOpen
import Derived.WalkKit
import Derived.OwnWalkIn
import Derived.TacticsInMore
import Derived.LoopNIn
import Derived.LoopIn
set_option linter.unusedVariables false
set_option linter.unusedSimpArgs false
namespace Go.Proofs.YtjpieiccpbcabaaGreat
open Go.RowKit Go.Shelf
set_option maxRecDepth 100000 in
set_option maxHeartbeats 1000000 in
theorem gvInsert1_any (w:World) (TB b O:Nat) (t:TrW) (hTB:w.cell? ⟨TB,0,none⟩ = some (.pointer (some ⟨b,0,none⟩))) (ht:TrB w b t) (ds:List DnW) (hn:ds.length = t.n) (hs:Sl w t.A (codD.row ds)) (s:St) (hO:codS.rd w O 1 = some s) (i:Nat) (hi:i < ds.length) :
  Calls Tryz.prog 107 #[.int .i64 (i:Int),.pointer (some ⟨TB,0,none⟩),.pointer (some ⟨O,0,none⟩)] w (Gives w (.bool (decide (0 ≤ cmpS ds[i].op.At s)))):=by
 have hl:=ht.log
 rw [← hn] at hl
 generalize hA:t.A = A at hl hs
 obtain ⟨g,off,rfl,hg⟩:=hs.adC (by omega)
 have e1:codS.rd w g (off + i * 51 + 1) = some ds[i].op.At:=(dnAt (hs.rd i hi)).At
 generalize ds[i].op.At = a at e1
 generalize t.c = c at hl
 have i0:(0:Int) ≤ (i:Int):=by omega
 have i1:(i:Int) < (ds.length:Int):=by omega
 generalize ds.length = n at hl i1
 have CC:=Lib.hid (fun w'=>scmp_v w' a s)
 generalize hz:cmpS a s = z at CC
 clear hz hs ht hA
 go_enter Tryz.func107,Tryz.ntmps107
 go_upto_region 1 with fail
 have hk:∀ w' w'':World,Fr noB w' w'' → (w'.cell? ⟨TB,0,none⟩ = some (.pointer (some ⟨b,0,none⟩)) ∧ w'.cell? ⟨b,1,none⟩ = some (.slice (some ⟨g,off,none⟩) n c) ∧ codS.rd w' g (off + i * 51 + 1) = some a ∧ codS.rd w' O 1 = some s) → (w''.cell? ⟨TB,0,none⟩ = some (.pointer (some ⟨b,0,none⟩)) ∧ w''.cell? ⟨b,1,none⟩ = some (.slice (some ⟨g,off,none⟩) n c) ∧ codS.rd w'' g (off + i * 51 + 1) = some a ∧ codS.rd w'' O 1 = some s):=fun w' w'' f h=>⟨cell_fr0 h.1 f,cell_fr0 h.2.1 f,Cod.rd_fr0 h.2.2.1 f,Cod.rd_fr0 h.2.2.2 f⟩
 have fd:Fr noB w w.drew:=(Fr.refl noB w).drew
 refine wp_region_M 13 14 [⟨32,2,0⟩,⟨64,32,1⟩,⟨128,64,2⟩,⟨256,128,4⟩,⟨512,1,0⟩,⟨1024,768,24⟩,⟨2048,1024,32⟩,⟨4096,2048,64⟩,⟨8192,4096,128⟩,⟨16384,4,0⟩,⟨32768,16384,512⟩,⟨65536,40960,1280⟩,⟨131072,65536,2048⟩,⟨16,131072,8191⟩] [(true,0),(true,1),(true,2),(true,3),(true,4),(true,5),(true,6),(true,7),(true,8),(true,9),(true,10),(false,11),(true,12)] (fun w'=>w'.cell? ⟨TB,0,none⟩ = some (.pointer (some ⟨b,0,none⟩)) ∧ w'.cell? ⟨b,1,none⟩ = some (.slice (some ⟨g,off,none⟩) n c) ∧ codS.rd w' g (off + i * 51 + 1) = some a ∧ codS.rd w' O 1 = some s) (by kernel_rfl) rfl (by kernel_rfl) (by kernel_rfl) (by kernel_rfl) (hk _ _ fd ⟨hTB,hl,e1,hO⟩) (fun hA hF=>?_)
 iterate 11
  refine wpAnyS_take (v:=?_) hA rfl (fun _ _ _ h=>h) (Or.inl ⟨by rfl,?_⟩) hF (fun hA=>?_)
  rotate_left
  ·intro wS hSw;(try dsimp only at hSw);obtain ⟨s1,s2,s3,s4⟩:=hSw;first | (apply Eq.trans;apply ex_ldS_at;exact rfl;exact rfl;assumption;with_reducible rfl) | (go_simp;try with_reducible rfl)
  try simp only [sA1,sA2,sA3,Act.put,sA4,sA5,sA6]
 refine wpAnyS_one hA rfl (fun K' hK=>?_)
 go_simp
 go_at_call 76
 refine (CC.out _).mono ?_
 rintro e w2 ⟨rfl,f2⟩
 replace hF:=hk _ _ f2 hF
 refine hK.out _ _ hF (fun hA=>?_)
 clear hK K'
 as_aux_lemma =>
 refine wpAnyS_take (v:=?_) hA rfl (fun _ _ _ h=>h) (Or.inl ⟨by rfl,?_⟩) hF (fun hA=>?_)
 rotate_left
 ·intro wS hSw;(try dsimp only at hSw);obtain ⟨s1,s2,s3,s4⟩:=hSw;first | (apply Eq.trans;apply ex_ldS_at;exact rfl;exact rfl;assumption;with_reducible rfl) | (go_simp;try with_reducible rfl)
 try simp only [sA1,sA2,sA3,Act.put,sA4,sA5,sA6]
 refine wpAnyS_end hA rfl ?_
 simp only [List.drop_succ_cons,List.drop_zero]
 clear hF hk
 go_wp2_with fail
 go_ret
 exact ⟨rfl,fd.step0 f2⟩
def BkTo (w:World) (A:Option Addr) (n c:Nat) (e:Ending) (w':World):Prop:=e = .returned (.func (.func 136) #[] #[.pointer (some ⟨w.heap.size,0,none⟩)]) ∧ w' = w.alloc (.cells #[.slice A n c] 153)
set_option maxRecDepth 100000 in
theorem bkDones_any (w:World) (A:Option Addr) (n c:Nat):Calls Tryz.prog 109 #[.slice A n c] w (BkTo w A n c):=by
 go_enter Tryz.func109,Tryz.ntmps109
 go_wp2_with fail
 go_ret
 exact ⟨rfl,rfl⟩
def upF (N k:Nat):List (Fin N):=((List.finRange N).drop k).reverse
theorem upF_succ {N k:Nat} (h:k < N):upF N k = upF N (k + 1) ++ [⟨k,h⟩]:=by
 unfold upF
 have hk:k < (List.finRange N).length:=by simpa using h
 rw [List.drop_eq_getElem_cons hk,List.reverse_cons]
 simp
theorem upF_all (N:Nat):upF N N = []:=by
 unfold upF
 rw [List.drop_of_length_le (by simp)];rfl
theorem upF_len (N k:Nat):(upF N k).length = N - k:=by simp [upF]
def KpB (m n₀:Nat) (W W':World):Prop:=Fr (fun k=>k = m ∨ n₀ ≤ k) W W'
theorem KpB.refl {m n₀:Nat} (W:World):KpB m n₀ W W:=Fr.refl _ _
theorem KpB.trans {m n₀:Nat} {A B C:World} (h:KpB m n₀ A B) (k:KpB m n₀ B C):KpB m n₀ A C:=Fr.trans h k (fun _ _ h=>h)
theorem KpB.book {m n₀:Nat} {w:World} (hn:n₀ ≤ w.heap.size) (W:World) (l:Nat) (o o':Obj) (hl:w.heap.size ≤ l) (h:W.heap[l]? = some o) (_:o.isCells = false) (_:o.isWalk = false):KpB m n₀ W (W.putObj l o'):=by
 have g:=grownBy_putObj' W l o'
 exact Fr.ofGrown g (fun r e=>.inr (by cases e;omega))
attribute [local go_sem] Oper.semAt_some
/-! inside a fence the operations are those outside: the rules on values of several cells are met -/
theorem sem_w (ρ:Operand → Value) (o:Oper) (w:World):(Oper.semAt Fence.wide.round ρ o).run Tryz.prog w = (execOp ρ o).run Tryz.prog w:=rfl
theorem sem_ld (l:Nat) (ρ:Operand → Value) (d:Option Nat) (ty:TypeId) (a:Operand) (t:TypeId) (p:String) (f:Array Edge) (g:Option (Nat × Bool)) (w:World) :
  (Oper.semAt (Fence.wide.inRound l).round ρ { dst:=d,op:=.load ty a,type:=t,pos:=p,after:=f,guard:=g }).run Tryz.prog w = (execOp ρ { dst:=d,op:=.load ty a,type:=t,pos:=p,after:=f,guard:=g }).run Tryz.prog w:=by rw [Oper.semAt_eq _ _ _ (by simp)]
theorem sem_st (l:Nat) (ρ:Operand → Value) (d:Option Nat) (ty:TypeId) (a x:Operand) (t:TypeId) (p:String) (f:Array Edge) (g:Option (Nat × Bool)) (w:World) :
  (Oper.semAt (Fence.wide.inRound l).round ρ { dst:=d,op:=.store ty a x,type:=t,pos:=p,after:=f,guard:=g }).run Tryz.prog w = (execOp ρ { dst:=d,op:=.store ty a x,type:=t,pos:=p,after:=f,guard:=g }).run Tryz.prog w:=by rw [Oper.semAt_eq _ _ _ (by simp)]
theorem sem_al (l:Nat) (ρ:Operand → Value) (d:Option Nat) (ty:TypeId) (t:TypeId) (p:String) (f:Array Edge) (g:Option (Nat × Bool)) (w:World) :
  (Oper.semAt (Fence.wide.inRound l).round ρ { dst:=d,op:=.alloc ty,type:=t,pos:=p,after:=f,guard:=g }).run Tryz.prog w = (execOp ρ { dst:=d,op:=.alloc ty,type:=t,pos:=p,after:=f,guard:=g }).run Tryz.prog w:=by rw [Oper.semAt_eq _ _ _ (by simp)]
attribute [local simp ↓] sem_w sem_ld sem_st sem_al
set_option maxRecDepth 100000 in
set_option maxHeartbeats 2000000 in
theorem bk1_in (n:Nat) (hn:1 ≤ n) (N:Nat) (ds:List DnW) (hN:ds.length = N) (hb:N ≤ 100000) (l Bs n₀ m cap:Nat) (A:Option Addr) (hBn:Bs < n₀ ∧ Bs ≠ m) (hA:∀ g,A.map (·.block) = some g → g < n₀ ∧ g ≠ m) (J Jx:List (Fin N) → World → Prop)
  (hY:∀ pre (x:Fin N) W,J pre W → pre.length < N → YieldAt Fence.wide (n - 1) Tryz.prog l #[.int .i64 (x.1:Int),.agg (codD.A (ds[x.1]'(by rw [hN];exact x.2)))] W fun e W' =>
   (e = .returned (.bool true) ∧ J (pre ++ [x]) W' ∧ KpB m n₀ W W') ∨ (e = .returned (.bool false) ∧ Jx (pre ++ [x]) W'))
  (W:World) (hBs:W.cell? ⟨Bs,0,none⟩ = some (.slice A N cap)) (hs:Sl W A (codD.row ds)) (h0:J [] W) :
  CallsIn Fence.wide n Tryz.prog 136 #[.func (.yield l) #[] #[],.pointer (some ⟨Bs,0,none⟩)] W fun e W'=>(∃ v,e = .returned v) ∧
   ((∃ ys,ys = upF N 0 ∧ J ys W') ∨ (∃ pre,True ∧ Jx pre W')):=by
 refine callsIn_of_wp Tryz.func136 rfl trivial ?_ rfl
 simp only [Tryz.ntmps136,List.size_toArray,List.length_cons,List.length_nil,Nat.reduceAdd,Nat.reduceSub,Array.replicate_succ,Array.replicate_zero,List.push_toArray,List.append_toArray,List.nil_append,List.cons_append]
 have wN:IntKind.i64.wrap ((N:Int) - 1) = (N:Int) - 1:=by rw [IntKind.wrap_i64];omega
 gi_wp2
 gi_loopw [3] (fun i wr=>∃ (k:Nat) (z:Int),k ≤ N ∧ i = .int .i64 z ∧ z = (k:Int) - 1 ∧ J (upF N k) wr ∧ KpB m n₀ W wr)
  (fun i _=>(intOf i + 1).toNat)
 case atStart=>exact ⟨N,(N:Int) - 1,Nat.le_refl _,by first | rfl | simp,rfl,by rw [upF_all];exact h0,KpB.refl _⟩
 case round =>
  obtain ⟨k,z,hk,rfl,hz,hJs,hnx⟩:=hrel
  cases k with
  | zero =>
   have hz':¬ (0:Int) ≤ z:=by omega
   clear hz
   gi_wp2
   go_end0
   first | exact ⟨⟨_,rfl⟩,.inl ⟨_,rfl,hJs⟩⟩ | exact ⟨⟨_,rfl⟩,.inl hJs⟩
  | succ q =>
   have hz':z = (q:Int):=by omega
   clear hz
   subst hz'
   have hq:q < N:=by omega
   obtain ⟨g,off,rfl,hg⟩:=hs.adC (by omega)
   obtain ⟨hg1,hg2⟩:=hA g rfl
   have e0:codD.rd W g (off + q * 51) = some (ds[q]'(by omega)):=hs.rd q (by omega)
   have e1:=Cod.rd_fr e0 hnx (by rintro (h | h) <;> omega)
   have eB:wr.cell? ⟨Bs,0,none⟩ = some (.slice (some ⟨g,off,none⟩) N cap):=gcell_fr hBs hnx (by rintro (h | h) <;> omega)
   obtain ⟨fn,tmps,assign,body,hy,hR⟩:=hY _ ⟨q,hq⟩ wr hJs (by rw [upF_len];omega)
   dsimp only at hy
   have i0:(0:Int) ≤ (q:Int):=by omega
   have i1:(q:Int) < (N:Int):=by omega
   have wq:IntKind.i64.wrap ((q:Int) - 1) = (q:Int) - 1:=by rw [IntKind.wrap_i64];omega
   generalize (ds[q]'(by omega)) = d at e1 hy
   gi_wp2
   refine hR.mono ?_
   rintro e W3 (⟨rfl,hJ3,hk3⟩ | ⟨rfl,hJx3⟩)
   ·gi_wp2
    go_roundw
    case rel=>exact ⟨q,(q:Int) - 1,by omega,by first | rfl | simp,rfl,by rw [upF_succ hq];exact hJ3,hnx.trans hk3⟩
    case measure=>first | (simp [intOf];done) | (simp [intOf];omega)
   ·gi_wp2
    refine bodyPost_ret (results_none rfl _ _ _) rfl ?_
    exact ⟨⟨_,rfl⟩,.inr ⟨_,trivial,hJx3⟩⟩
end Go.Proofs.YtjpieiccpbcabaaGreat
namespace Go.Proofs.YtjpieiccpbcabaaGreat
open Go.RowKit Go.Shelf
def SrtL (L:List Opn):Prop:=L.Pairwise (fun a b=>cmpS a.At b.At < 0)
structure GvS (base:Nat) (w:World) (b:Nat) (t:TrW) (L:List Opn):Prop where
 tr:TrB w b t
 bb:base ≤ b
 mm:base ≤ t.m
 rows:∃ rs,mpT w t.m = some (tab rs) ∧ AllO RwO w rs (runX [] L)
 log:∃ ds:List DnW,ds.length = t.n ∧ w.ownsRow base 177 51 (.slice t.A t.n t.c) t.n (codD.row ds) ∧ AllO DnO w ds (logX [] L)
 ok:∀ o ∈ L,goodOp o = true
def trM (b:Nat) (t:TrW):Nat → Prop:=fun k=>k = b ∨ k = t.m ∨ t.A.map (·.block) = some k
theorem runX_heads (L:List Opn) (xs:List RwP) (N:Nat) (h:∀ x ∈ xs,x.Heads.length ≤ N):∀ x ∈ runX xs L,x.Heads.length ≤ N + L.length:=by
 induction L generalizing xs N with
 | nil=>simpa [runX] using h
 | cons o L ih =>
  intro x hx
  have:=ih (doX xs o) (N + 1) (fun y hy=>by
   unfold doX at hy
   cases hn:newR xs o with
   | none=>rw [hn] at hy;have:=h y hy;omega
   | some r =>
    rw [hn] at hy
    rcases mem_put hy with rfl | ⟨hy,_⟩
    ·unfold newR at hn
     split at hn
     ·split at hn
      ·cases hn
      ·injection hn with hn
       subst hn
       show (hdsR xs o.Node).length ≤ _
       unfold hdsR
       cases hf:findR xs o.Node with
       | none=>simp
       | some q=>have:=h q (findR_some hf).1;simp only;omega
     ·cases hf:findR xs o.Node with
      | none=>rw [hf] at hn;cases hn
      | some q =>
       rw [hf] at hn
       injection hn with hn
       subst hn
       have:=h q (findR_some hf).1
       have:=List.length_filter_le (fun h:Hd=>!decide (h.At ∈ o.Over)) q.Heads
       show (leftH o.Over q.Heads ++ [_]).length ≤ _
       unfold leftH
       simp only [List.length_append,List.length_singleton]
       omega
    ·have:=h y hy;omega) x hx
  simp only [List.length_cons]
  omega
theorem GvS.heads {base:Nat} {w:World} {b:Nat} {t:TrW} {L:List Opn} (h:GvS base w b t L) (hL:L.length ≤ 1000000):∀ x ∈ runX [] L,x.Heads.length ≤ 1000000:=fun x hx=>by
 have:=runX_heads L [] 0 (by simp) x hx
 omega
theorem GvS.len {base:Nat} {w:World} {b:Nat} {t:TrW} {L:List Opn} (h:GvS base w b t L):t.n = L.length:=by
 obtain ⟨ds,h1,_,h2⟩:=h.log
 rw [← h1,h2.1,logX_len]
theorem GvS.fr {base:Nat} {w w':World} {b:Nat} {t:TrW} {L:List Opn} (h:GvS base w b t L) {M:Nat → Prop} (f:Fr M w w') (hs:NoHS M w) (h1:¬ M b) (h2:¬ M t.m) (h3:∀ g,t.A.map (·.block) = some g → ¬ M g):GvS base w' b t L:=by
 obtain ⟨rs,r1,r2⟩:=h.rows
 obtain ⟨ds,d1,d2,d3⟩:=h.log
 exact ⟨h.tr.fr f h1,h.bb,h.mm,⟨rs,mpT_fr r1 f h2,r2.map fun r x k=>k.fr f hs⟩,⟨ds,d1,own_fr d2 f (fun g hg=>h3 g (by rw [ownBlock_sl'] at hg;exact hg)),d3.map fun r x k=>k.fr f hs⟩,h.ok⟩
theorem GvS.fr0 {base:Nat} {w w':World} {b:Nat} {t:TrW} {L:List Opn} (h:GvS base w b t L) (f:Fr noB w w'):GvS base w' b t L :=
 h.fr f (NoHS.nob _) (by simp [noB]) (by simp [noB]) (fun _ _=>by simp [noB])
set_option maxRecDepth 100000 in
@[simp] theorem dns_l (w:World) (a:Option Addr) (n c:Nat) (k:IntKind) (l:Int) :
  (Instr.slice 153 (.slice a n c) (some (.int k l)) none none).run Tryz.prog w = if 0 ≤ l ∧ l ≤ n then .ok (.slice (cutA a c l.toNat 51) (n - l.toNat) (c - l.toNat)) w else elseR ((Instr.slice 153 (.slice a n c) (some (.int k l)) none none).run Tryz.prog w):=by
 split
 ·rename_i h
  rw [run_slice_l w 153 a n c Tryz.underlying153 k l h.1 h.2];rfl
 ·exact elseR_eq _
def undoWs (rs:List RwW) (N:Nat) (ds:List DnW) (hN:ds.length = N) (pre:List (Fin N)):List RwW:=pre.foldl (fun rs i=>undoW rs (ds[i.1]'(by rw [hN];exact i.2))) rs
def undoXs (xs:List RwP) (N:Nat) (ys:List DnP) (hN:ys.length = N) (pre:List (Fin N)):List RwP:=pre.foldl (fun xs i=>undoX xs (ys[i.1]'(by rw [hN];exact i.2))) xs
theorem undoWs_all {w:World} {N:Nat} {ds:List DnW} {ys:List DnP} (hN:ds.length = N) (hM:ys.length = N) (hd:AllO DnO w ds ys) (pre:List (Fin N)):∀ {rs:List RwW} {xs:List RwP},AllO RwO w rs xs → AllO RwO w (undoWs rs N ds hN pre) (undoXs xs N ys hM pre):=by
 induction pre with
 | nil=>exact fun h=>h
 | cons i pre ih =>
  intro rs xs h
  exact ih (RwsO_.undo h (hd.2 i.1 (by rw [hN];exact i.2) (by rw [hM];exact i.2)))
theorem undoXs_rev (xs:List RwP) (N:Nat) (ys:List DnP) (hN:ys.length = N):undoXs xs N ys hN (upF N 0) = ys.reverse.foldl undoX xs:=by
 have e:ys.reverse = (upF N 0).map (fun i=>ys[i.1]'(by rw [hN];exact i.2)):=by
  subst hN
  unfold upF
  rw [List.drop_zero,List.map_reverse]
  congr 1
  apply List.ext_getElem
  ·simp
  ·intro i h1 h2
   simp
 rw [e,List.foldl_map]
 rfl
structure GvW (base:Nat) (w:World) (b:Nat) (t:TrW) (xs:List RwP) (ys:List DnP):Prop where
 tr:TrB w b t
 bb:base ≤ b
 mm:base ≤ t.m
 rows:∃ rs,mpT w t.m = some (tab rs) ∧ AllO RwO w rs xs
 log:∃ ds:List DnW,ds.length = t.n ∧ w.ownsRow base 177 51 (.slice t.A t.n t.c) t.n (codD.row ds) ∧ AllO DnO w ds ys
theorem GvS.wk {base:Nat} {w:World} {b:Nat} {t:TrW} {L:List Opn} (h:GvS base w b t L):GvW base w b t (runX [] L) (logX [] L):=⟨h.tr,h.bb,h.mm,h.rows,h.log⟩
theorem GvW.tree {base:Nat} {w:World} {b:Nat} {t:TrW} {L:List Opn} (h:GvW base w b t (runX [] L) (logX [] L)) (ok:∀ o ∈ L,goodOp o = true):GvS base w b t L:=⟨h.tr,h.bb,h.mm,h.rows,h.log,ok⟩
theorem GvW.bm {base:Nat} {w:World} {b:Nat} {t:TrW} {xs:List RwP} {ys:List DnP} (h:GvW base w b t xs ys):b ≠ t.m:=by
 obtain ⟨rs,h1,_⟩:=h.rows
 exact mpT_ne h1 h.tr
theorem GvW.ml {base:Nat} {w:World} {b:Nat} {t:TrW} {xs:List RwP} {ys:List DnP} (h:GvW base w b t xs ys):t.m < w.heap.size:=by
 obtain ⟨rs,h1,_⟩:=h.rows
 exact mpT_lt h1
theorem own_blk {w:World} {base:Nat} {e:TypeId} {size n c:Nat} {A:Option Addr} {xs:List Value} (h:w.ownsRow base e size (.slice A n c) n xs) {g:Nat} (hg:A.map (·.block) = some g):base ≤ g ∧ ∃ cur z,w.heap[g]? = some (.cells cur e z):=by
 rcases h.2 with ⟨hv,_⟩ | ⟨blk,cap,cur,hv,hb,hgg,_⟩
 ·injection hv with h1
  rw [h1] at hg;cases hg
 ·injection hv with h1
  rw [h1] at hg
  have e:blk = g:=by simpa using hg
  subst e
  exact ⟨hb,_,_,hgg⟩
theorem GvW.ab {base:Nat} {w:World} {b:Nat} {t:TrW} {xs:List RwP} {ys:List DnP} (h:GvW base w b t xs ys) {g:Nat} (hg:t.A.map (·.block) = some g):g ≠ b ∧ g ≠ t.m ∧ base ≤ g ∧ g < w.heap.size:=by
 obtain ⟨rs,h1,_⟩:=h.rows
 obtain ⟨ds,_,h2,_⟩:=h.log
 obtain ⟨h3,cur,z,h4⟩:=own_blk h2 hg
 refine ⟨Blk.ne_own h.tr h2 (by decide) g (by rw [ownBlock_sl'];exact hg),mpT_ne h1 h4,h3,(Array.getElem?_eq_some_iff.1 h4).1⟩
theorem NoHS.new {M:Nat → Prop} {w:World} (h:∀ b,M b → w.heap.size ≤ b):NoHS M w:=fun b hb cs z=>by
 have:=h b hb
 rw [Array.getElem?_eq_none this]
 exact ⟨fun h=>(by cases h),fun h=>(by cases h)⟩
theorem GvW.fr {base:Nat} {w w':World} {b:Nat} {t:TrW} {xs:List RwP} {ys:List DnP} (h:GvW base w b t xs ys) {M:Nat → Prop} (f:Fr M w w') (hs:NoHS M w) (h1:¬ M b) (h2:¬ M t.m) (h3:∀ g,t.A.map (·.block) = some g → ¬ M g):GvW base w' b t xs ys:=by
 obtain ⟨rs,r1,r2⟩:=h.rows
 obtain ⟨ds,d1,d2,d3⟩:=h.log
 exact ⟨h.tr.fr f h1,h.bb,h.mm,⟨rs,mpT_fr r1 f h2,r2.map fun r x k=>k.fr f hs⟩,⟨ds,d1,own_fr d2 f (fun g hg=>h3 g (by rw [ownBlock_sl'] at hg;exact hg)),d3.map fun r x k=>k.fr f hs⟩⟩
theorem GvW.fr0 {base:Nat} {w w':World} {b:Nat} {t:TrW} {xs:List RwP} {ys:List DnP} (h:GvW base w b t xs ys) (f:Fr noB w w'):GvW base w' b t xs ys :=
 h.fr f (NoHS.nob _) (by simp [noB]) (by simp [noB]) (fun _ _=>by simp [noB])
theorem GvW.setU {base:Nat} {w:World} {b:Nat} {t:TrW} {xs:List RwP} {ys:List DnP} (h:GvW base w b t xs ys) (u:Int):GvW base (w.setCell ⟨b,2,none⟩ (.int .i64 u)) b { t with u:=u } xs ys ∧ Fr (oneB b) w (w.setCell ⟨b,2,none⟩ (.int .i64 u)):=by
 have f:=Cod.set_fr w b 2 (.int .i64 u)
 have hs:NoHS (oneB b) w:=NoHS.blk h.tr (by decide) (by decide)
 obtain ⟨rs,r1,r2⟩:=h.rows
 obtain ⟨ds,d1,d2,d3⟩:=h.log
 refine ⟨⟨?_,h.bb,h.mm,⟨rs,mpT_fr r1 f (fun e=>h.bm (Eq.symm e)),r2.map fun r x k=>k.fr f hs⟩,⟨ds,d1,own_box h.tr d2 (by decide) f,d3.map fun r x k=>k.fr f hs⟩⟩,f⟩
 exact Blk.set h.tr 2 (.int .i64 u)
theorem ex_world (w:World) (base:Nat):∃ w0:World,w0.heap.size = base:=⟨{ w with heap:=Array.replicate base (.map #[] 0) },by simp⟩
theorem GvW.app {base:Nat} {W W1 W2 W3:World} {b:Nat} {t:TrW} {xs:List RwP} {ys:List DnP} (H:GvW base W b t xs ys) (k:Nat) (hk:k ≤ t.n) (f0:Fr (oneB t.m) W W1) {xs':List RwP} {y:DnP}
  (hr:∃ rs',mpT W1 t.m = some (tab rs') ∧ AllO RwO W1 rs' xs') {d:DnW} (hd:DnO W1 d y) (f2:Fr noB W1 W2) {ds:List DnW} (hds:AllO DnO W ds ys) (hdo:W.ownsRow base 177 51 (.slice t.A t.n t.c) t.n (codD.row ds))
  {w0:World} (hw0:w0.heap.size = base) {A':Option Addr} {c':Nat} {l:List DnW} (hl:l = ds.take k ++ [d]) (hl2:l.length = k + 1) (o3:OwnC codD w0 W3 A' c' l) (hg:W2.grownBy W3 (t.A.map (·.block))) (hA':A'.map (·.block) = t.A.map (·.block) ∨ A'.map (·.block) = some W2.heap.size) :
  GvW base (W3.setCell ⟨b,1,none⟩ (.slice A' (k + 1) c')) b { t with A:=A',n:=k + 1,c:=c' } xs' (ys.take k ++ [y]) ∧ Fr (trM b t) W (W3.setCell ⟨b,1,none⟩ (.slice A' (k + 1) c')):=by
 have f3:Fr (fun q=>t.A.map (·.block) = some q) W2 W3:=Fr.ofGrown hg (fun g hg=>hg)
 have f4:=Cod.set_fr W3 b 1 (.slice A' (k + 1) c')
 have bm:=H.bm
 have t1:TrB W1 b t:=H.tr.fr f0 (fun e=>bm e)
 have t2:=t1.fr0 f2
 have t3:TrB W3 b t:=t2.fr f3 (fun e=>(H.ab e).1 rfl)
 have o1:W1.ownsRow base 177 51 (.slice t.A t.n t.c) t.n (codD.row ds):=own_fr hdo f0 (fun g hg hm=>(H.ab (by rw [ownBlock_sl'] at hg;exact hg)).2.1 hm)
 have o2:=own_new0 o1 f2
 have n0:NoHS (oneB t.m) W:=by
  obtain ⟨rs,h1,_⟩:=H.rows
  exact NoHS.map h1
 have n3:NoHS (fun q=>t.A.map (·.block) = some q) W2:=by
  have:=NoHS.own o2 (by decide) (by decide)
  rw [ownBlock_sl'] at this
  exact this
 have n4:NoHS (oneB b) W3:=NoHS.blk t3 (by decide) (by decide)
 obtain ⟨rs',r1,r2⟩:=hr
 have hbs:=Blk.lt H.tr
 have sz:W.heap.size ≤ W2.heap.size:=Nat.le_trans f0.size f2.size
 have hne:∀ g,A'.map (·.block) = some g → g ≠ b:=fun g hg=>by
  rcases hA' with h | h
  ·exact (H.ab (h ▸ hg)).1
  ·rw [h] at hg
   injection hg with hg
   omega
 have bnd:∀ q,t.A.map (·.block) = some q → ¬ t.m = q:=fun q hq e=>(H.ab hq).2.1 e.symm
 have o3':W3.ownsRow base 177 51 (.slice A' (k + 1) c') (k + 1) (codD.row l):=by rw [← hw0,← hl2];exact o3
 refine ⟨⟨Blk.set t3 1 _,H.bb,H.mm,⟨rs',?_,?_⟩,⟨l,hl2,?_,?_⟩⟩,?_⟩
 ·exact mpT_fr (mpT_fr (mpT_fr0 r1 f2) f3 (fun e=>bnd t.m e rfl)) f4 (fun e=>bm (Eq.symm e))
 ·exact r2.map fun r x h=>((h.fr f2 (NoHS.nob _)).fr f3 n3).fr f4 n4
 ·exact own_fr o3' f4 (fun g hg hm=>hne g (by rw [ownBlock_sl'] at hg;exact hg) hm)
 ·rw [hl]
  refine AllO.snoc ((hds.take k).map fun r x h=>(((h.fr f0 n0).fr f2 (NoHS.nob _)).fr f3 n3).fr f4 n4) (((hd.fr f2 (NoHS.nob _)).fr f3 n3).fr f4 n4)
 ·have g1:Fr (trM b t) W W1:=f0.mono (fun q e=>.inr (.inl e))
  have g3:Fr (trM b t) W W3:=(g1.step0 f2).trans f3 (fun q _ e=>.inr (.inr e))
  exact g3.trans f4 (fun q _ e=>.inl e)
def retP (fn:Func) (R:Ending → World → Prop):Exit → Act → World → Prop
 | .ret,a,w=>LeavesInM Fence.wide 8 Tryz.prog fn a.tmps R a.defers .returning w
 | _,_,_=>False
theorem callsM {f:FuncId} {fn:Func} {c:Code} {args:Array Value} {w:World} {R:Ending → World → Prop} (hf:Tryz.prog.funcs[f]? = some fn) (hb:fn.body = some c)
  (h:c.wp Tryz.prog (retP fn R) { tmps:=args ++ Array.replicate (fn.ntmps - args.size) undef,defers:=[] } w):Calls Tryz.prog f args w R :=
 callsIn_wide.1 (callsIn_of_wp_marks (n:=8) hf hb trivial (wpIn_wide.2 (wp_mono h (fun e a w h=>by cases e <;> first | exact h | exact h.elim))) rfl)
theorem leaveM0 {fn:Func} {R:Ending → World → Prop} {a:Act} {w:World} {v:Value} (hd:a.defers = []) (hv:(results fn a.tmps).run Tryz.prog w = .ok v w) (hR:R (.returned v) w):retP fn R .ret a w:=by
 show LeavesInM Fence.wide 8 Tryz.prog fn a.tmps R a.defers .returning w
 rw [hd]
 exact ⟨v,hv,hR⟩
theorem leaveM1 {fn:Func} {R:Ending → World → Prop} {a:Act} {w:World} {v:Value} {D:Nat} (hd:a.defers = [{ target:=.collected D,args:=#[] }]) (hD:w.heap[D]? = some (.deferred (some []))) (hv:(results fn a.tmps).run Tryz.prog (w.putObj D (.deferred none)) = .ok v (w.putObj D (.deferred none))) (hR:R (.returned v) (w.putObj D (.deferred none))):retP fn R .ret a w:=by
 show LeavesInM Fence.wide 8 Tryz.prog fn a.tmps R a.defers .returning w
 rw [hd]
 exact ⟨by simp,.inl ⟨_,_,rfl,run_takeDeferred hD,⟨v,hv,hR⟩⟩⟩
theorem own_capV {w:World} {base:Nat} {e:TypeId} {size n c:Nat} {A:Option Addr} {xs:List Value} (h:w.ownsRow base e size (.slice A n c) n xs):n ≤ c:=by
 obtain ⟨A',c',ev,hcc,_⟩:=own_form h
 injection ev with e1 e2 e3
 omega
theorem dnsCut {w:World} {A:Option Addr} {l:List DnW} (h:Sl w A (codD.row l)) {k c:Nat} (hk:k ≤ l.length) (hc:l.length ≤ c):Sl w (cutA A c k 51) (codD.row (l.drop k)):=by
 have:=h.cut (k:=k) (c:=c) (size:=51) (n:=l.length) (Cod.row_len l) (by decide) hc
 rw [← Cod.row_drop l k hk]
 exact this
set_option maxRecDepth 100000 in
@[simp] theorem dns_h (w:World) (a:Option Addr) (n c:Nat) (k:IntKind) (l:Int) :
  (Instr.slice 153 (.slice a n c) none (some (.int k l)) none).run Tryz.prog w = if 0 ≤ l ∧ l ≤ c then .ok (.slice a l.toNat c) w else elseR ((Instr.slice 153 (.slice a n c) none (some (.int k l)) none).run Tryz.prog w):=by
 split
 ·rename_i h
  have e:(Instr.slice 153 (.slice a n c) none (some (.int k l)) none).run Tryz.prog w = .ok (.slice (cutA a c 0 51) l.toNat c) w:=by
   rw [run_slice_h w 153 a n c Tryz.underlying153 k l h.1 h.2];rfl
  rw [e,cutA_zero]
 ·exact elseR_eq _
theorem logX_take (xs:List RwP) (L:List Opn) (k:Nat) (h:k ≤ L.length):(logX xs L).take k = logX xs (L.take k):=by
 have h1:=logX_app xs (L.take k) (L.drop k)
 rw [List.take_append_drop] at h1
 have h2:(logX xs (L.take k)).length = k:=by rw [logX_len,List.length_take];omega
 rw [h1,List.take_append_of_le_length (by omega),List.take_of_length_le (by omega)]
theorem logX_drop (xs:List RwP) (L:List Opn) (k:Nat) (h:k ≤ L.length):(logX xs L).drop k = logX (runX xs (L.take k)) (L.drop k):=by
 have h1:=logX_app xs (L.take k) (L.drop k)
 rw [List.take_append_drop] at h1
 have h2:(logX xs (L.take k)).length = k:=by rw [logX_len,List.length_take];omega
 rw [h1,List.drop_append_of_le_length (by omega),List.drop_of_length_le (by omega),List.nil_append]
theorem undo_back (L:List Opn) (k:Nat) (h:k ≤ L.length) (ok:∀ o ∈ L,goodOp o = true) (N:Nat) (hN:(logX (runX [] (L.take k)) (L.drop k)).length = N):undoXs (runX [] L) N (logX (runX [] (L.take k)) (L.drop k)) hN (upF N 0) = runX [] (L.take k):=by
 rw [undoXs_rev]
 have h1:=runX_app [] (L.take k) (L.drop k)
 rw [List.take_append_drop] at h1
 rw [h1]
 exact undo_all (runX_gvt GvT.nil fun o ho=>ok o (List.mem_of_mem_take ho)).nd _
theorem logX_was (xs:List RwP) (L:List Opn) (ok:∀ o ∈ L,goodOp o = true) (i:Nat) (h:i < (logX xs L).length):WasOk (logX xs L)[i]:=by
 have h2:i < L.length:=by rw [logX_len] at h;exact h
 rw [logX_get xs L i h2]
 exact doD_was (goodOp_at (ok _ (List.getElem_mem h2))).2.1
def bkA (a:Act) (z:Int) (d:DnW) (Bx:Nat):Act:={ tmps:=((a.tmps.setIfInBounds 69 (.int .i64 z)).setIfInBounds 70 (.agg (codD.A d))).setIfInBounds 8 (.pointer (some ⟨Bx,0,none⟩)),defers:=[] }
theorem undoWs_snoc (rs:List RwW) (N:Nat) (ds:List DnW) (hN:ds.length = N) (pre:List (Fin N)) (x:Fin N):undoWs rs N ds hN (pre ++ [x]) = undoW (undoWs rs N ds hN pre) (ds[x.1]'(by rw [hN];exact x.2)):=by
 unfold undoWs
 rw [List.foldl_append];rfl
set_option maxRecDepth 100000 in
theorem wp_bk {asg body:Code} {Q:Exit → Act → World → Prop} {a:Act} {w:World} {Bs N m c:Nat} {A:Option Addr} {dl:List DnW} (hN:dl.length = N) (hb:N ≤ 100000) (hm:m < w.heap.size) (hg:a.eval (.tmp 68) = .func (.func 136) #[] #[.pointer (some ⟨Bs,0,none⟩)])
  (hBs:w.cell? ⟨Bs,0,none⟩ = some (.slice A N c)) (hBm:Bs ≠ m) (hs:Sl w A (codD.row dl)) (hA:∀ g,A.map (·.block) = some g → g < w.heap.size ∧ g ≠ m) (rs:List RwW) (hr:mpT w m = some (tab rs))
  (hassign:∀ (l:Nat) (z:Int) (d:DnW) (W:World) (K:Act → World → Prop),K (bkA a z d W.heap.size) (W.alloc (codD.o d)) → asg.wpIn (Fence.wide.inRound l) 6 Tryz.prog (Exit.then K (fun _ _ _=>False)) { tmps:=(a.tmps.setIfInBounds 69 (.int .i64 z)).setIfInBounds 70 (.agg (codD.A d)),defers:=[] } W)
  (hbody:∀ (l:Nat) (x:Fin N) (pre:List (Fin N)) (Bx:Nat) (W:World),w.heap.size ≤ Bx → KpB m w.heap.size w W → mpT W m = some (tab (undoWs rs N dl hN pre)) → codD.bxd W Bx = some (dl[x.1]'(by rw [hN];exact x.2)) →
   ∀ K:Act → World → Prop,(∀ a' W',mpT W' m = some (tab (undoWs rs N dl hN (pre ++ [x]))) → Fr (oneB m) W W' → K a' W') → body.wpIn (Fence.wide.inRound l) 6 Tryz.prog (Exit.then K (fun _ _ _=>False)) (bkA a (x.1:Int) (dl[x.1]'(by rw [hN];exact x.2)) Bx) W)
  (hdone:∀ (D:Nat) (W:World),w.heap.size ≤ D → mpT W m = some (tab (undoWs rs N dl hN (upF N 0))) → KpB m w.heap.size w W → W.heap[D]? = some (.deferred (some [])) → Q .normal { a with defers:={ target:=.collected D,args:=#[] } :: a.defers } W) :
  (Code.rangeFunc (.tmp 68) #[69,70] asg body).wp Tryz.prog Q a w:=by
 have hseq:SeqStopsK Fence.wide 7 Tryz.prog 136 #[.pointer (some ⟨Bs,0,none⟩)] (fun x:Fin N=>#[.int .i64 (x.1:Int),.agg (codD.A (dl[x.1]'(by rw [hN];exact x.2)))]) (KpB m w.heap.size) (fun ys=>ys = upF N 0) (fun _=>True) N w:=by
  intro l J Jx W hW _ _ hY h0
  have f:Fr noB w W:=Fr.ofBelow hW
  exact bk1_in 7 (by omega) N dl hN hb l Bs w.heap.size m c A ⟨World.block_lt_of_cell? _ _ hBs,hBm⟩ hA J Jx hY W (cell_fr0 hBs f) (hs.fr0 f) h0
 refine wpIn_wide.1 (wpIn_rangeFunc_ownH (F:=Fence.wide) (n:=8) rfl (by omega) hg trivial (enters_of Tryz.func136 (by kernel_rfl) rfl) hseq KpB.trans (fun W l o o' hl h h1 h2=>KpB.book (Nat.le_refl _) W l o o' hl h h1 h2) (Below.refl _ _) (fun _=>rfl)
  (fun pre W=>mpT W m = some (tab (undoWs rs N dl hN pre)) ∧ KpB m w.heap.size w W) (fun _ _ _=>False) ?own (fun _ _ _ _ _ h _ _=>h) ⟨hr,KpB.refl _⟩
  (fun x a' W=>∃ Bx,w.heap.size ≤ Bx ∧ codD.bxd W Bx = some (dl[x.1]'(by rw [hN];exact x.2)) ∧ a' = bkA a (x.1:Int) (dl[x.1]'(by rw [hN];exact x.2)) Bx) ?ownx ?assign ?body ?done ?stop)
 case own =>
  rintro pre W W' row ⟨h1,h2⟩ hgr hrow
  have f:Fr (fun k=>row = some k) W W':=Fr.ofGrown hgr (fun g hg=>hg)
  refine ⟨mpT_fr h1 f (fun e=>by have:=(hrow m e).1;omega),KpB.trans h2 (f.mono fun k hk=>.inr (hrow k hk).1)⟩
 case ownx =>
  rintro x a' _ W W' row ⟨Bx,h1,h2,h3⟩ hgr hrow
  have f:Fr (fun k=>row = some k) W W':=Fr.ofGrown hgr (fun g hg=>hg)
  refine ⟨Bx,h1,Cod.bxd_fr h2 f (fun e=>?_),h3⟩
  obtain ⟨_,o,ho,hc⟩:=hrow Bx e
  have hh:=Cod.bxd_blk h2
  unfold Blk at hh
  rw [ho] at hh
  injection hh with hh
  subst hh
  cases hc
 case assign =>
  rintro l pre x W K ⟨h1,h2⟩ hK
  have hx:=hassign l (x.1:Int) (dl[x.1]'(by rw [hN];exact x.2)) W K (hK _ _ ((KeepsOthers.alloc _ _).from _) ((Fr.refl _ W).alloc _) ⟨mpT_fr0 h1 ((Fr.refl _ W).alloc _),h2.trans ((Fr.refl _ W).alloc _)⟩ ⟨W.heap.size,h2.size,Cod.bxd_new (C:=codD) W _,rfl⟩)
  refine cast (congrArg (fun t=>Code.wpIn (Fence.wide.inRound l) 6 Tryz.prog asg (Exit.then K (fun _ _ _=>False)) { tmps:=t,defers:=[] } W) ?_) hx
  simp
 case body =>
  rintro l pre x a' W _ _ ⟨h1,h2⟩ ⟨Bx,h3,h4,rfl⟩ _
  refine wpIn_mono (hbody l x pre Bx W h3 h2 h1 h4 (fun a' W'=>KeepsFrom w.heap.size W W' ∧ KpB m w.heap.size W W' ∧ mpT W' m = some (tab (undoWs rs N dl hN (pre ++ [x]))) ∧ KpB m w.heap.size w W') (fun a' W' g1 g2=>?_)) ?_
  ·have g3:KpB m w.heap.size W W':=g2.mono fun k hk=>.inl hk
   refine ⟨⟨g2.size,fun k o hk ho _=>(g2.block k (Array.getElem?_eq_some_iff.1 ho).1 (fun e=>by have:k = m:=e;omega)).trans ho⟩,g3,g1,h2.trans g3⟩
  ·intro e a'' W' h
   cases e <;> first | exact h | exact h.elim
 case done =>
  rintro D xs W hD rfl ⟨h1,h2⟩ hD'
  exact hdone D W hD h1 h2 hD'
 case stop =>
  rintro D c pre W _ _ h _
  exact h.elim
end Go.Proofs.YtjpieiccpbcabaaGreat
