/- Contracts: stamp.Sort of operations that have risen already; grove's Ops. (ex_ldO_at, ex_ldD_at) Contract: grove's Ops. (ex_ldO_at, ex_ldD_at) stamp.Cmp with its exact world; rows and stamps sorted by slices.SortFunc. (ex_ldS_at) Rows and stamps sorted by slices.SortFunc. cmp.Compare at strings; the order of a node's kids: by name, then by stamp. Contract: grove's Rows. (ex_ldR_at) -/
import Derived.Test.YtjpieiccpbcabaaGreatGvTKu
import Derived.Test.YtjpieiccpbcabaaGreatIdSortKu
import Derived.Laws.Cover1
set_option linter.unusedVariables false
set_option linter.unusedSimpArgs false
namespace Go.Proofs.YtjpieiccpbcabaaGreat
open Go.RowKit Go.Sort
attribute [local go_sem] Oper.semAt_some
theorem Cod.row_set {α:Type} {C:Cod α} {o:Nat} {u:Value}:∀ (l:List α) (k:Nat) (hk:k < l.length) (x':α) (_:o < C.n) (_:(C.cs l[k]).set o u = C.cs x'),(C.row l).set (k * C.n + o) u = C.row (l.set k x')
 | [],k,hk,_,_,_=>absurd hk (by simp)
 | x :: t,0,_,x',ho,h=>by
  have e:C.row (x :: t) = C.cs x ++ C.row t:=by simp [Cod.row]
  have e':C.row (x' :: t) = C.cs x' ++ C.row t:=by simp [Cod.row]
  simp only [List.getElem_cons_zero] at h
  rw [Nat.zero_mul,Nat.zero_add,List.set_cons_zero,e,e',List.set_append_left _ _ (by rw [C.len];exact ho),h]
 | x :: t,k + 1,hk,x',ho,h=>by
  have e:C.row (x :: t) = C.cs x ++ C.row t:=by simp [Cod.row]
  have e':C.row (x :: t.set k x') = C.cs x ++ C.row (t.set k x'):=by simp [Cod.row]
  have ih:=Cod.row_set t k (by simpa using hk) x' ho (by simpa using h)
  have e3:(k + 1) * C.n + o = k * C.n + o + C.n:=by rw [Nat.add_mul];omega
  rw [List.set_cons_succ,e,e',List.set_append_right _ _ (by rw [C.len,e3];omega),C.len,e3,Nat.add_sub_cancel,ih]
theorem OwnC.put1 {α:Type} {C:Cod α} {w0 w:World} {A:Option Addr} {c g:Nat} {l:List α} (h:OwnC C w0 w A c l) (hA:A = some ⟨g,0,none⟩) (k:Nat) (hk:k < l.length) (o:Nat) (ho:o < C.n) (u:Value) (x':α) (hx:(C.cs l[k]).set o u = C.cs x') :
  OwnC C w0 (w.setCell ⟨g,k * C.n + o,none⟩ u) A c (l.set k x') ∧ Fr (oneB g) w (w.setCell ⟨g,k * C.n + o,none⟩ u) ∧ w.frozen? ⟨g,k * C.n + o,none⟩ = false:=by
 have hlen:(l.set k x').length = l.length:=by simp
 rcases h.2 with ⟨hv,h00⟩ | ⟨blk,cap,cur,hv,hb,hg,hnc,hm,hs,ht⟩
 ·omega
 ·injection hv with h1 _ h3
  rw [hA] at h1
  injection h1 with h1
  injection h1 with h1
  subst h1;subst h3
  have hg':Blk w g C.t cur.toList:=by unfold Blk;rw [Array.toArray_toList];exact hg
  have hst:=Blk.set hg' (k * C.n + o) u
  refine ⟨⟨by rw [Cod.row_len],.inr ⟨g,c,(cur.toList.set (k * C.n + o) u).toArray,by rw [hA,hlen],hb,hst,by rw [hlen];exact hnc,hm,?_,?_⟩⟩,Cod.set_fr w g _ u,Blk.frozen hg' _⟩
  ·simp only [List.size_toArray,List.length_set]
   rw [← hs];simp
  ·rw [hlen,← Cod.row_set l k hk x' ho hx,← ht]
   simp [List.take_set]
structure OpN (base:Nat) (w:World) (r:OpW) (o:Opn):Prop where
 op:OpO w r o
 own:w.ownsRow base 80 2 (.slice r.A r.n r.c) r.n (codS.row o.Over)
theorem OpN.fr0 {base:Nat} {w w':World} {r:OpW} {o:Opn} (h:OpN base w r o) (f:Fr noB w w'):OpN base w' r o:=⟨h.op.fr f (NoHS.nob _),own_new0 h.own f⟩
theorem OpN.frG {base g:Nat} {w w':World} {r:OpW} {o:Opn} (h:OpN base w r o) {cur:Array Value} {z:Nat × Nat} (hb:w.heap[g]? = some (.cells cur 83 z)) (f:Fr (oneB g) w w'):OpN base w' r o:=by
 refine ⟨h.op.fr f (fun b hb' cs z'=>?_),own_fr h.own f (fun q hq hm=>?_)⟩
 ·have e:b = g:=hb'
  subst e
  rw [hb]
  exact ⟨fun h=>(by injection h with h;injection h with _ h;exact absurd h (by decide)),fun h=>(by injection h with h;injection h with _ h;exact absurd h (by decide))⟩
 ·rw [ownBlock_sl'] at hq
  obtain ⟨_,cur',z',h4⟩:=own_blk h.own hq
  have e:q = g:=hm
  subst e
  rw [hb] at h4
  injection h4 with h4
  injection h4 with _ h4
  exact absurd h4 (by decide)
theorem OpN.frA {base c:Nat} {w0 w w':World} {A:Option Addr} {l:List OpW} {r:OpW} {o:Opn} (h:OpN base w r o) (ho:OwnC codO w0 w A c l) (f:Fr (fun b=>A.map (·.block) = some b) w w'):OpN base w' r o:=by
 have hn:=NoHS.own ho (by decide) (by decide)
 rw [ownBlock_sl'] at hn
 refine ⟨h.op.fr f hn,own_fr h.own f (fun q hq hm=>?_)⟩
 rw [ownBlock_sl'] at hq
 obtain ⟨_,cur,z,h4⟩:=own_blk h.own hq
 exact (hn q hm cur z).2 h4
def SoLoop (w:World) (A:Option Addr) (c:Nat) (os:List Opn) (gk:Nat) (iv:Value) (wr:World):Prop :=
 ∃ (k:Nat) (rs:List OpW),iv = .int .i64 (k:Int) ∧ gk = os.length - k ∧ k ≤ os.length ∧ rs.length = os.length ∧ OwnC codO w wr A c rs ∧ (∀ i (h:i < rs.length) (h':i < os.length),(k ≤ i → OpIn w rs[i] os[i]) ∧ (i < k → OpN w.heap.size wr rs[i] os[i])) ∧ Fr noB w wr
end Go.Proofs.YtjpieiccpbcabaaGreat
namespace Go.Proofs.YtjpieiccpbcabaaGreat
open Go.RowKit Go.Sort
attribute [local go_sem] Oper.semAt_some
end Go.Proofs.YtjpieiccpbcabaaGreat
namespace Go.Proofs.YtjpieiccpbcabaaGreat
open Go.RowKit Go.Sort Go.Shelf
def GivesX (w:World) (v:Value) (e:Ending) (w':World):Prop:=e = .returned v ∧ ∃ q os',w' = grow (w.drewN q) os'
theorem three_grow (w:World) (a b c:Obj):((w.alloc a).alloc b).drew.alloc c = grow (w.drewN 1) #[a,b,c]:=by
 rw [alloc_eq_grow,alloc_eq_grow,alloc_eq_grow]
 unfold grow World.drew World.drewN
 simp only [Array.append_assoc]
 rfl
set_option maxRecDepth 100000 in
theorem scmpX_any (w:World) (a b:St):Calls Tryz.prog 76 #[encS a,encS b] w (GivesX w (.int .i64 (cmpS a b))):=by
 have f1:Fr noB (w.alloc (sto a)) ((w.alloc (sto a)).alloc (sto b)):=(Fr.refl noB _).alloc _
 have f0:Fr noB w ((w.alloc (sto a)).alloc (sto b)):=((Fr.refl noB w).alloc _).alloc _
 obtain ⟨a0,a1⟩:=sto_cell w a
 obtain ⟨b0,b1⟩:=sto_cell (w.alloc (sto a)) b
 rw [World.size_alloc] at b0 b1
 have A0:=cell_fr0 a0 f1
 have A1:=cell_fr0 a1 f1
 have hcs:=cmpS_or a b
 have HCS:=Lib.hid hcs
 clear hcs a0 a1 f1
 go_enter Tryz.func76,Tryz.ntmps76
 go_upto_region 1 with fail
 obtain ⟨W,hW⟩:∃ W,W = (w.alloc (sto a)).alloc (sto b):=⟨_,rfl⟩
 have HW:=Lib.hid hW
 rw [← hW] at f0 b0 b1 A0 A1 ⊢
 clear hW
 generalize w.heap.size + 1 = B at b0 b1 ⊢
 generalize w.heap.size = A at A0 A1 ⊢
 have keep:∀ w' w'':World,Fr noB w' w'' → (w'.cell? ⟨A,0,none⟩ = some (.int .i64 a.T) ∧ w'.cell? ⟨A,1,none⟩ = some (.int .i64 a.R) ∧ w'.cell? ⟨B,0,none⟩ = some (.int .i64 b.T) ∧ w'.cell? ⟨B,1,none⟩ = some (.int .i64 b.R)) → (w''.cell? ⟨A,0,none⟩ = some (.int .i64 a.T) ∧ w''.cell? ⟨A,1,none⟩ = some (.int .i64 a.R) ∧ w''.cell? ⟨B,0,none⟩ = some (.int .i64 b.T) ∧ w''.cell? ⟨B,1,none⟩ = some (.int .i64 b.R)):=fun w' w'' f h=>⟨cell_fr0 h.1 f,cell_fr0 h.2.1 f,cell_fr0 h.2.2.1 f,cell_fr0 h.2.2.2 f⟩
 have fd:=(Fr.refl noB W).drew
 have F0:=keep _ _ fd ⟨A0,A1,b0,b1⟩
 go_wp2_with fail
 refine wp_region_M 12 13 [⟨32,4,0⟩,⟨64,32,1⟩,⟨128,8,0⟩,⟨256,128,4⟩,⟨512,320,10⟩,⟨1024,4,0⟩,⟨2048,1024,32⟩,⟨4096,8,0⟩,⟨8192,4096,128⟩,⟨16384,10240,336⟩,⟨32768,16896,528⟩,⟨65536,32768,1536⟩,⟨16,65536,4095⟩] [(true,0),(true,1),(true,2),(true,3),(true,5),(true,6),(true,7),(true,8),(false,4),(false,9),(false,10),(false,11)] (fun w'=>w'.cell? ⟨A,0,none⟩ = some (.int .i64 a.T) ∧ w'.cell? ⟨A,1,none⟩ = some (.int .i64 a.R) ∧ w'.cell? ⟨B,0,none⟩ = some (.int .i64 b.T) ∧ w'.cell? ⟨B,1,none⟩ = some (.int .i64 b.R)) (by kernel_rfl) rfl (by kernel_rfl) (by kernel_rfl) (by kernel_rfl) F0 (fun hA hF=>?_)
 iterate 8
  refine wpAnyS_take (v:=?_) hA rfl (fun _ _ _ h=>h) (Or.inl ⟨by rfl,?_⟩) hF (fun hA=>?_)
  rotate_left
  ·intro wS hSw;(try dsimp only at hSw);obtain ⟨s1,s2,s3,s4⟩:=hSw;first | (apply Eq.trans;apply ex_ldS_at;exact rfl;exact rfl;assumption;with_reducible rfl) | (go_simp;try with_reducible rfl)
  try simp only [sA1,sA2,sA3,Act.put,sA4,sA5,sA6]
 refine wpAnyS_one hA rfl (fun K' hK=>?_)
 go_simp
 go_at_call 104
 refine (compare64_any _ a.T b.T).mono ?_
 rintro e u1 ⟨rfl,rfl⟩
 replace hF:=keep _ _ (Fr.refl noB _) hF
 refine hK.out _ _ hF (fun hA=>?_)
 clear hK K'
 as_aux_lemma =>
 refine wpAnyS_one hA rfl (fun K' hK=>?_)
 go_simp
 go_at_call 102
 refine (compareI_any _ a.R b.R).mono ?_
 rintro e u2 ⟨rfl,rfl⟩
 replace hF:=keep _ _ (Fr.refl noB _) hF
 refine hK.out _ _ hF (fun hA=>?_)
 clear hK K'
 as_aux_lemma =>
 refine wpAnyS_one hA rfl (fun K' hK=>?_)
 go_simp
 have f3:Fr noB W.drew (W.drew.alloc (.cells #[.int .i64 (cmpZ a.T b.T),.int .i64 (cmpZ a.R b.R)] 3)):=(Fr.refl noB _).alloc _
 have s3:Sl (W.drew.alloc (.cells #[.int .i64 (cmpZ a.T b.T),.int .i64 (cmpZ a.R b.R)] 3)) (some ⟨W.heap.size,0,none⟩) [.int .i64 (cmpZ a.T b.T),.int .i64 (cmpZ a.R b.R)]:=Sl.new W.drew _ _
 replace hF:=keep _ _ f3 hF
 refine hK.out _ _ hF (fun hA=>?_)
 clear hK K'
 as_aux_lemma =>
 refine wpAnyS_one hA rfl (fun K' hK=>?_)
 go_simp
 go_at_call 101
 refine (or_any _ _ _ (cmpZ a.T b.T) (cmpZ a.R b.R) s3).mono ?_
 rintro e u4 ⟨rfl,rfl⟩
 replace hF:=keep _ _ (Fr.refl noB _) hF
 refine hK.out _ _ hF (fun hA=>?_)
 clear hK K'
 as_aux_lemma =>
 refine wpAnyS_end hA rfl ?_
 simp only [List.drop_succ_cons,List.drop_zero]
 clear hF
 go_wp2_with fail
 go_ret
 exact ⟨by rw [HCS.out];rfl,1,#[sto a,sto b,.cells #[.int .i64 (cmpZ a.T b.T),.int .i64 (cmpZ a.R b.R)] 3],by rw [HW.out];exact three_grow _ _ _ _⟩
theorem scmpX_v (w:World) (a b:St):Calls Tryz.prog 76 #[.agg (codS.A a),.agg (codS.A b)] w (GivesX w (.int .i64 (cmpS a b))):=by rw [vS_eq,vS_eq];exact scmpX_any w a b
theorem GivesX.of2 {w:World} {a b:Obj} {v:Value} {e:Ending} {w':World} (h:GivesX ((w.alloc a).alloc b) v e w'):GivesX w v e w':=by
 obtain ⟨h1,q,os',rfl⟩:=h
 refine ⟨h1,q,#[a,b] ++ os',?_⟩
 rw [alloc_eq_grow,alloc_eq_grow]
 unfold grow World.drewN
 rw [show #[a,b] = #[a] ++ #[b] from rfl]
 simp only [Array.append_assoc]
set_option maxRecDepth 100000 in
theorem gvRows1X_any (w:World) (x y:RwW):Calls Tryz.prog 85 #[.agg (codR.A x),.agg (codR.A y)] w (GivesX w (.int .i64 (cmpS x.Node y.Node))):=by
 have b0:codR.bxd (w.alloc (.cells (codR.A x) 110)) w.heap.size = some x:=Cod.bxd_box (C:=codR) w x
 have b1:=Cod.bxd_fr0 b0 ((Fr.refl noB _).alloc (.cells (codR.A y) 110))
 have b2:codR.bxd ((w.alloc (.cells (codR.A x) 110)).alloc (.cells (codR.A y) 110)) (w.alloc (.cells (codR.A x) 110)).heap.size = some y:=Cod.bxd_box (C:=codR) _ y
 have hz:(w.alloc (.cells (codR.A x) 110)).heap.size = w.heap.size + 1:=by simp
 rw [hz] at b2
 have q1:=(rwAt (Cod.bxd_rd b1)).node
 have q2:=(rwAt (Cod.bxd_rd b2)).node
 generalize x.Node = s at q1 ⊢
 generalize y.Node = u at q2 ⊢
 clear b0 b1 b2 hz
 go_enter Tryz.func85,Tryz.ntmps85
 go_wp2_with (go_at_call 76;refine (scmpX_v _ s u).mono ?_;rintro e w2 ⟨rfl,f2⟩)
 go_ret
 exact GivesX.of2 ⟨rfl,f2⟩
theorem Cod.flat {α:Type} [Inhabited α] {C:Cod α}:∀ (l:List α),flatK C.cs C.n l.toArray = (C.row l).toArray:=fun l=>by
 apply Array.ext
 ·simp [flatK,Cod.row_len]
 ·intro t h1 h2
  have hlt:t < l.length * C.n:=by simpa [flatK] using h1
  have hi:t / C.n < l.length:=Nat.div_lt_of_lt_mul (by rw [Nat.mul_comm];exact hlt)
  have hj:t % C.n < C.n:=Nat.mod_lt _ C.pos
  have hd:=Nat.div_add_mod t C.n
  have e1:(C.row l)[t]? = (C.cs l[t / C.n])[t % C.n]?:=by
   have h3:(C.row l).drop (t / C.n * C.n) = C.row (l.drop (t / C.n)):=Cod.row_drop l _ (by omega)
   have h4:C.row (l.drop (t / C.n)) = C.cs l[t / C.n] ++ C.row (l.drop (t / C.n + 1)):=by
    rw [List.drop_eq_getElem_cons hi];unfold Cod.row;rw [List.flatMap_cons]
   have h5:((C.row l).drop (t / C.n * C.n))[t % C.n]? = (C.row l)[t]?:=by
    rw [List.getElem?_drop]
    congr 1
    rw [Nat.mul_comm];exact hd
   rw [← h5,h3,h4,List.getElem?_append_left (by rw [C.len];exact hj)]
  have h6:(C.row l).toArray[t] = (C.cs l[t / C.n])[t % C.n]'(by rw [C.len];exact hj):=by
   have h7:(C.row l)[t]? = some ((C.row l).toArray[t]):=by simp
   rw [e1,List.getElem?_eq_getElem (by rw [C.len];exact hj)] at h7
   injection h7 with h7
   exact h7.symm
  rw [h6]
  simp [flatK,hi,C.len,hj]
theorem putCells_row {α:Type} [Inhabited α] {C:Cod α} (cur:Array Value) (l:List α) (h:l.length * C.n ≤ cur.size):(putCells id 0 (C.row l).toArray cur).toList.take (l.length * C.n) = C.row l:=by
 have hl:=Cod.row_len (C:=C) l
 apply List.ext_getElem?
 intro j
 by_cases hj:j < l.length * C.n
 ·rw [List.getElem?_take_of_lt hj,Array.getElem?_toList]
  simp [putCells,hl,hj,show j < cur.size by omega]
 ·rw [List.getElem?_take_eq_none (by omega),List.getElem?_eq_none (by omega)]
def cfN (x y:RwW):Int:=cmpS x.Node y.Node
theorem swoN:SWO (ltOf cfN) where
 irrefl x:=by simp [ltOf,cfN,cmpS_self]
 trans x y z h1 h2:=by
  simp only [ltOf,decide_eq_true_eq] at *
  unfold cfN at *
  exact cmpS_trans h1 h2
 ntrans x y z h1 h2:=by
  simp only [ltOf,decide_eq_false_iff_not] at *
  unfold cfN at *
  intro h
  have e1:=cmpS_flip x.Node y.Node
  have e2:=cmpS_flip y.Node z.Node
  rcases Int.lt_trichotomy (cmpS y.Node x.Node) 0 with h3 | h3 | h3
  ·exact h2 (cmpS_trans h3 h)
  ·have:=cmpS_zero.1 h3
   rw [this] at h2
   exact h2 h
  ·omega
theorem srtC_any {α:Type} [Inhabited α] (C:Cod α) {ρ:Ren} (L:SlLaysF0.n6 Tryz.prog ρ) (aE:∀ w,(isAgg (ρ.t 24)).run Tryz.prog w = .ok true w) (zE:∀ w,(Go.sizeOf (ρ.t 24)).run Tryz.prog w = .ok C.n w) (cf:α → α → Int) (hO:SWO (ltOf cf)) (g:Nat) (cb:Array Value) (eg:∀ args w,(callFunc g args).run Tryz.prog w = .ok (.enter g args) w)
  (w0 w:World) (A:Option Addr) (c n:Nat) (l:List α) (hn:l.length = n) (ho:OwnC C w0 w A c l) (hl:l.length ≤ 1000000000000)
  (hcmp:∀ blk,A = some ⟨blk,0,none⟩ → blk < w.heap.size → w0.heap.size ≤ blk → CmpLays Tryz.prog g cb C.cs C.n cf blk 0 l.length w) :
  Calls Tryz.prog (ρ.f 6) #[.slice A n c,.func (.func g) #[] cb] w fun e w'=>e = .returned (.tuple #[]) ∧ ∃ l':List α,l'.Perm l ∧ l'.Pairwise (fun x y=>ltOf cf y x = false) ∧ OwnC C w0 w' A c l' ∧ Fr (fun b=>A.map (·.block) = some b) w w':=by
 subst hn
 by_cases h0:l = []
 ·subst h0
  refine (AnyF.slices_SortFunc_none L A c _ w).mono ?_
  rintro e w' ⟨rfl,rfl⟩
  exact ⟨rfl,[],.refl _,.nil,ho,Fr.refl _ _⟩
 ·have ho':=ho
  have hlen:0 < l.length:=List.length_pos_iff.2 h0
  rcases ho'.2 with ⟨hv,h00⟩ | ⟨blk,cap,cur,hv,hb,hg,hnc,hm,hs,ht⟩
  ·omega
  ·injection hv with h1 _ h3
   subst h1;subst h3
   have hblk:blk < w.heap.size:=(Array.getElem?_eq_some_iff.1 hg).1
   have hH:HoldsK C.cs C.n w blk 0 l.toArray:=by
    unfold HoldsK
    rw [Cod.flat]
    intro j hj
    have hj':j < (C.row l).length:=by simpa using hj
    refine ⟨?_,by simp [World.frozen?,hg]⟩
    obtain ⟨g',off',e,_,hc⟩:=(Sl.own ho) (by intro h;rw [h] at hj';simp at hj')
    injection e with e
    injection e with e1 e2
    subst e1;subst e2
    rw [hc j _ (List.getElem?_eq_getElem hj')]
    simp [hj']
   have hS:=AnyQ.slices_SortFunc L C.n aE zE C.cs (fun x=>C.len x) (fun x v hv=>C.one x v hv) cf hO g cb blk 0 c l.toArray w eg (by rw [List.size_toArray];exact hcmp blk rfl hblk hb) hH hblk (by simp;omega)
   rw [List.size_toArray] at hS
   refine hS.mono ?_
   rintro e w' ⟨rfl,d',m,os,hp,hso,rfl⟩
   have hds:d'.size = l.length:=by have:=hp.1;simpa using this
   have hpl:d'.toList.Perm l:=by
    have:=hp.2.2
    rw [show d'.extract 0 l.length = d' by rw [← hds];simp,show l.toArray.extract 0 l.length = l.toArray by simp] at this
    simpa using this
   have hpw:d'.toList.Pairwise (fun x y=>ltOf cf y x = false):=by
    rw [List.pairwise_iff_getElem]
    intro i j hi hj hij
    have hi':i < d'.size:=by simpa using hi
    have hj':j < d'.size:=by simpa using hj
    have:=hso i j (Nat.zero_le _) hij (by omega)
    rw [getElem!_pos d' j hj',getElem!_pos d' i hi'] at this
    simpa using this
   have hlt:d'.toList.length = l.length:=by simpa using hds
   refine ⟨rfl,d'.toList,hpl,hpw,⟨by rw [Cod.row_len],.inr ⟨blk,c,putCells id 0 (C.row d'.toList).toArray cur,by rw [hlt],hb,?_,by rw [hlt];exact hnc,hm,by simp [putCells,hs],?_⟩⟩,?_⟩
   ·unfold sortWorldK putRowK
    rw [heap_grow_old _ _ (by simpa using hblk),← Cod.flat,Array.toArray_toList]
    simp [putRow,mapBlock,Sort.ahead,Array.getElem?_modify,hg,onCells]
   ·exact putCells_row _ _ (by rw [hlt,hs];exact Nat.mul_le_mul_right _ hnc)
   ·refine ⟨rfl,rfl,rfl,by simp [sortWorldK,putRowK,Sort.ahead],fun k hk hne=>?_⟩
    unfold sortWorldK putRowK
    rw [heap_grow_old _ _ (by simpa using hk)]
    have:blk ≠ k:=fun e=>hne (by simp [e])
    simp [putRow,mapBlock,Sort.ahead,Array.getElem?_modify,this]
theorem cmpN_lays (W w:World) (hW:W = w) (x y:RwW):Calls Tryz.prog 85 (#[.agg (codR.cs x).toArray,.agg (codR.cs y).toArray] ++ #[]) W fun e w'=>e = .returned (.int .i64 (cfN x y)) ∧ ∃ q os',w' = grow (W.drewN q) os':=by
 have:=gvRows1X_any W x y
 rw [Cod.A_eq,Cod.A_eq] at this
 rw [Array.append_empty]
 exact this
theorem srtRows_any (w0 w:World) (A:Option Addr) (c n:Nat) (l:List RwW) (hn:l.length = n) (ho:OwnC codR w0 w A c l) (hl:l.length ≤ 1000000000000) :
  Calls Tryz.prog 84 #[.slice A n c,.func (.func 85) #[] #[]] w fun e w'=>e = .returned (.tuple #[]) ∧ ∃ l':List RwW,l'.Perm l ∧ l'.Pairwise (fun x y=>ltOf cfN y x = false) ∧ OwnC codR w0 w' A c l' ∧ Fr (fun b=>A.map (·.block) = some b) w w' :=
 srtC_any codR Tryz.sortR (fun w=>Tryz.isAgg110 w) (fun w=>Tryz.sizeOf110 w) cfN swoN 85 #[] (enters_of Tryz.func85 (by kernel_rfl) rfl) w0 w A c n l hn ho hl (fun blk _ _ _ m os dk _ x y=>cmpN_lays _ _ rfl x y)
end Go.Proofs.YtjpieiccpbcabaaGreat
namespace Go.Proofs.YtjpieiccpbcabaaGreat
open Go.RowKit Go.Maps Go.Sort Go.Shelf
attribute [local go_sem] Oper.semAt_some
theorem RngT.ne {w:World} {it r:Nat} {kv left:List (St × Value)} (h:RngT w it r kv left):it ≠ r:=by
 obtain ⟨_,_,⟨es,clock,seen,hi,hb,_⟩,_,_⟩:=h
 rintro rfl
 rw [hi] at hb;cases hb
theorem RngT.hs {w:World} {it r:Nat} {kv left:List (St × Value)} (h:RngT w it r kv left):NoHS (oneB it) w:=fun b hb cs z=>by
 obtain ⟨_,_,⟨es,clock,seen,hi,hbb,_⟩,_,_⟩:=h
 have e:b = it:=hb
 subst e
 rw [hi]
 exact ⟨fun h=>(by cases h),fun h=>(by cases h)⟩
theorem RngT.nown {w:World} {it r base n c size:Nat} {e:TypeId} {A:Option Addr} {xs:List Value} {kv left:List (St × Value)} (h:RngT w it r kv left) (ho:w.ownsRow base e size (.slice A n c) n xs):∀ g,A.map (·.block) = some g → g ≠ it ∧ g ≠ r:=fun g hg=>by
 obtain ⟨_,cur,z,hgg⟩:=own_blk ho hg
 obtain ⟨_,_,⟨es,clock,seen,hi,hb,_⟩,_,_⟩:=h
 constructor
 ·rintro rfl
  rw [hi] at hgg;cases hgg
 ·rintro rfl
  rw [hb] at hgg;cases hgg
theorem doX_len (xs:List RwP) (o:Opn):(doX xs o).length ≤ xs.length + 1:=by
 unfold doX
 split
 ·omega
 ·unfold putR
  split <;> simp
theorem runX_len (xs:List RwP) (L:List Opn):(runX xs L).length ≤ xs.length + L.length:=by
 induction L generalizing xs with
 | nil=>simp [runX]
 | cons o L ih =>
  have h1:=ih (doX xs o)
  have h2:=doX_len xs o
  show (runX (doX xs o) L).length ≤ _
  simp only [List.length_cons]
  omega
structure RwN (base:Nat) (w:World) (r:RwW) (x:RwP):Prop where
 row:RwO w r x
 own:w.ownsRow base 149 34 (.slice r.A r.n r.c) r.n (codH.row x.Heads)
theorem RwN.fr {base:Nat} {M:Nat → Prop} {w w':World} {r:RwW} {x:RwP} (h:RwN base w r x) (f:Fr M w w') (hs:NoHS M w):RwN base w' r x :=
 ⟨h.row.fr f hs,own_fr h.own f (fun g hg hm=>by
  rw [ownBlock_sl'] at hg
  obtain ⟨_,cur,z,h4⟩:=own_blk h.own hg
  exact (hs g hm cur z).1 h4)⟩
def ApR (a b:RwW):Prop:=∀ g,a.A.map (·.block) = some g → b.A.map (·.block) ≠ some g
theorem ApR.symm {a b:RwW} (h:ApR a b):ApR b a:=fun g hb ha=>h g ha hb
theorem AllO.perm {α β:Type} {R:World → α → β → Prop} {w:World} {rs rs':List α} (hp:rs'.Perm rs):∀ {xs:List β},AllO R w rs xs → ∃ xs',xs'.Perm xs ∧ AllO R w rs' xs':=by
 induction hp with
 | nil=>exact fun h=>⟨_,.refl _,h⟩
 | cons r _ ih =>
  intro xs h
  match xs,h with
  | [],h=>have:=h.1;simp at this
  | x :: xs,h =>
   obtain ⟨ys,h1,h2⟩:=ih h.tail.2
   exact ⟨x :: ys,h1.cons x,AllO.cons h.tail.1 h2⟩
 | swap a b l =>
  intro xs h
  match xs,h with
  | [],h=>have:=h.1;simp at this
  | [x],h=>have:=h.1;simp at this
  | x :: y :: xs,h=>exact ⟨y :: x :: xs,.swap x y xs,AllO.cons h.tail.2.tail.1 (AllO.cons h.tail.1 h.tail.2.tail.2)⟩
 | trans _ _ ih1 ih2 =>
  intro xs h
  obtain ⟨ys,h1,h2⟩:=ih2 h
  obtain ⟨zs,h3,h4⟩:=ih1 h2
  exact ⟨zs,h3.trans h1,h4⟩
def RowsTo (w:World) (xs:List RwP) (e:Ending) (w':World):Prop :=
 ∃ (A:Option Addr) (c:Nat) (rs:List RwW) (ys:List RwP),e = .returned (.slice A rs.length c) ∧ OwnC codR w w' A c rs ∧ AllO (RwN w.heap.size) w' rs ys ∧ rs.Pairwise ApR ∧ ys.Perm xs ∧ ys.Pairwise (fun a b=>cmpS a.Node b.Node < 0) ∧ Fr noB w w'
theorem tab_split {α:Type} {f:α → RwW} {lz:List α} {l1 l2:List (St × Value)} {p:St × Value} (h:tab (lz.map f) = l1 ++ p :: l2) :
  ∃ z1 z z2,lz = z1 ++ z :: z2 ∧ l1 = tab (z1.map f) ∧ p = ((f z).Node,.agg (codR.A (f z))) ∧ l2 = tab (z2.map f):=by
 unfold tab at h ⊢
 rw [List.map_map] at h
 obtain ⟨z1,zr,rfl,h1,h2⟩:=List.map_eq_append_iff.1 h
 obtain ⟨z,z2,rfl,h3,h4⟩:=List.map_eq_cons_iff.1 h2
 exact ⟨z1,z,z2,rfl,by rw [List.map_map];exact h1.symm,h3.symm,by rw [List.map_map];exact h4.symm⟩
theorem tab_nil {α:Type} {f:α → RwW} {lz:List α} (h:tab (lz.map f) = []):lz = []:=by
 unfold tab at h
 simpa using h
theorem tab_app {α:Type} {f:α → RwW} (a b:List α):tab ((a ++ b).map f) = tab (a.map f) ++ tab (b.map f):=by simp [tab]
theorem perm_mid {α:Type} {dz z1 z2 Z:List α} {z:α} (h:(dz ++ (z1 ++ z :: z2)).Perm Z):((dz ++ [z]) ++ (z1 ++ z2)).Perm Z:=by
 refine List.Perm.trans ?_ h
 simp only [List.append_assoc,List.cons_append,List.nil_append]
 exact List.Perm.append_left dz List.perm_middle.symm
theorem NoHS.ownA {w:World} {base size n c:Nat} {e:TypeId} {A:Option Addr} {xs:List Value} (h:w.ownsRow base e size (.slice A n c) n xs) (h1:e ≠ 149) (h2:e ≠ 80):NoHS (fun q=>A.map (·.block) = some q) w:=fun g hg=>NoHS.own h h1 h2 g (by rw [ownBlock_sl'];exact hg)
def RwLoop (w:World) (m:Nat) (rs:List RwW) (Z:List (RwW × RwP)) (gk:Nat) (iv:Value) (wr:World):Prop :=
 ∃ (dz lz:List (RwW × RwP)) (os:List RwW) (A:Option Addr) (c:Nat),gk = lz.length ∧ RngT wr w.heap.size m (tab rs) (tab (lz.map (·.1))) ∧ (dz ++ lz).Perm Z ∧ Fr noB w wr ∧ iv = .slice A os.length c ∧ OwnC codR w wr A c os ∧ AllO (RwN w.heap.size) wr os (dz.map (·.2)) ∧ os.Pairwise ApR
theorem zip_mem {w:World} {rs:List RwW} {xs:List RwP} (h:AllO RwO w rs xs):∀ z ∈ rs.zip xs,RwO w z.1 z.2 ∧ z.2 ∈ xs:=fun z hz=>by
 obtain ⟨i,hi,rfl⟩:=List.getElem_of_mem hz
 simp only [List.length_zip] at hi
 rw [List.getElem_zip]
 exact ⟨h.2 i (by omega) (by omega),List.getElem_mem _⟩
set_option maxRecDepth 100000 in
set_option maxHeartbeats 4000000 in
theorem gvRows_any {base:Nat} {w:World} {b:Nat} {t:TrW} {L:List Opn} (h:GvS base w b t L) (hL:L.length ≤ 100000):Calls Tryz.prog 49 #[.pointer (some ⟨b,0,none⟩)] w (RowsTo w (runX [] L)):=by
 have tm:=h.tr.m
 obtain ⟨rs,hm,hR⟩:=h.rows
 have hbd:=h.heads (by omega)
 have hxl:(runX [] L).length ≤ 100000:=by have:=runX_len [] L;simp only [List.length_nil] at this;omega
 have hnd:((runX [] L).map (·.Node)).Nodup:=runX_nd (by simp) L
 generalize runX [] L = xs at hR hbd hxl hnd ⊢
 have hZ:=Lib.hid (zip_mem hR)
 have hZl:=Lib.hid (show (rs.zip xs).length = xs.length by rw [List.length_zip,hR.1];exact Nat.min_self _)
 have hZ2:=Lib.hid (show (rs.zip xs).map (·.2) = xs by rw [List.map_snd_zip (by rw [hR.1];exact Nat.le_refl _)])
 have hZ1:(rs.zip xs).map (·.1) = rs:=by rw [List.map_fst_zip (by rw [hR.1];exact Nat.le_refl _)]
 have HBD:=Lib.hid hbd
 have HND:=Lib.hid hnd
 obtain ⟨_,hrg⟩:=rngT_all Tryz.underlying152 hm
 have F1:Fr noB w (w.alloc (rngOT w t.m)):=(Fr.refl noB w).alloc _
 have h0:RwLoop w t.m rs (rs.zip xs) xs.length (.slice none 0 0) (w.alloc (rngOT w t.m)):=⟨[],rs.zip xs,[],none,0,hZl.out.symm,by rw [hZ1];exact hrg,by simp,F1,rfl,World.ownsRow_nil _ _ _ _,AllO.nil,.nil⟩
 have HXL:=Lib.hid hxl
 clear hR hbd hnd hZ1 h hL hrg F1 hxl
 generalize rs.zip xs = Z at hZ hZl hZ2 h0
 go_enter Tryz.func49,Tryz.ntmps49
 go_wp2_with fail
 generalize w.alloc (rngOT w t.m) = w1 at h0 ⊢
 clear tm hm
 go_loopg [3] xs.length (fun gk iv wr=>RwLoop w t.m rs Z gk iv wr)
 case atStart=>exact h0
 case round =>
  clear h0
  obtain ⟨dz,lz,os,A,c,rfl,hr,hpm,hf,rfl,ho,ha,hap⟩:=hrel
  have HOL:=Lib.hid (show os.length ≤ 100000 by
   have h1:=ha.1
   have h2:=hpm.length_eq
   have h3:=hZl.out
   have h4:=HXL.out
   simp only [List.length_append,List.length_map] at h1 h2
   omega)
  have HPM:=Lib.hid hpm
  have HA:=Lib.hid ha
  have HAP:=Lib.hid hap
  clear hpm ha hap
  rcases hr.next hr.ne 0 with ⟨h0,hrun⟩ | ⟨l1,p,l2,w3,h0,hp,hwp,hrun,hr3,hf3,hent⟩
  ·have h0':=tab_nil h0
   subst h0'
   have CS:=Lib.hid (srtRows_any w wr A c _ os rfl ho (by have:=HOL.out;omega))
   clear h0
   go_wp2_with (go_at_call 84;refine CS.out.mono ?_;rintro e w4 ⟨rfl,l',hp4,hs4,ho4,hf4⟩)
   go_ret
   have ha4:=HA.out.map fun r x h=>h.fr hf4 (NoHS.ownA ho (by decide) (by decide))
   obtain ⟨ys,hy1,hy2⟩:=ha4.perm hp4
   have hyx:ys.Perm xs:=hy1.trans (by
    have:=HPM.out
    rw [List.append_nil] at this
    rw [← hZ2.out]
    exact this.map _)
   have hl':=hp4.length_eq
   refine ⟨A,c,l',ys,by rw [hl'];rfl,ho4,hy2,hp4.symm.pairwise HAP.out (fun h=>h.symm),hyx,?_,hf.step hf4 (fun g hg=>.inl (own_blk ho hg).1)⟩
   have nd:(ys.map (·.Node)).Nodup:=(hyx.map _).nodup_iff.2 HND.out
   rw [List.pairwise_iff_getElem] at hs4 ⊢
   intro i j hi hj hij
   have h1:¬ cmpS (l'[j]'(by rw [hy2.1];exact hj)).Node (l'[i]'(by rw [hy2.1];exact hi)).Node < 0:=of_decide_eq_false (hs4 i j (by rw [hy2.1];exact hi) (by rw [hy2.1];exact hj) hij)
   rw [← (hy2.2 i (by rw [hy2.1];exact hi) hi).row.inn.node,← (hy2.2 j (by rw [hy2.1];exact hj) hj).row.inn.node] at h1
   have h2:ys[i].Node ≠ ys[j].Node:=fun e=>by
    have:=(List.pairwise_iff_getElem.1 nd) i j (by simpa using hi) (by simpa using hj) hij
    simp only [List.getElem_map] at this
    exact this e
   have h3:=cmpS_flip ys[i].Node ys[j].Node
   have h4:cmpS ys[i].Node ys[j].Node ≠ 0:=fun e=>h2 (cmpS_zero.1 e)
   omega
  ·obtain ⟨z1,z,z2,rfl,rfl,rfl,rfl⟩:=tab_split h0
   have hzm:z ∈ Z:=HPM.out.mem_iff.1 (by simp)
   obtain ⟨hz1,hz2⟩:=hZ.out z hzm
   have hzb:=HBD.out _ hz2
   rw [← tab_app] at hr3
   have hent':=hent noB w3 (Fr.refl _ _) (by simp [noB]) (by simp [noB])
   simp only at hent'
   have hne1:=hr.nown ho
   have ho3:OwnC codR w w3 A c os:=own_fr ho hf3 (fun g hg e=>by rw [ownBlock_sl'] at hg;exact (hne1 g hg).1 e)
   have ha3:=Lib.hid (HA.out.map fun r x h=>h.fr hf3 hr.hs)
   have F3:Fr noB w w3:=hf.step1 hf3 (Nat.le_refl _)
   have hz3:=hz1.fr F3 (NoHS.nob _)
   have HLZ:=Lib.hid (show (z1 ++ z2).length < (z1 ++ z :: z2).length by simp)
   clear h0 hp hwp hent hr hf hf3 hne1 ho hz1 hz2 hzm HA
   simp only at hrun
   obtain ⟨r0,hr0⟩:∃ r,r = z.1:=⟨_,rfl⟩
   have HR0:=Lib.hid hr0
   rw [← hr0] at hrun hent' hz3
   clear hr0
   go_upto_region 5 with fail
   have f12:Fr noB w3 (w3.alloc (codR.o r0)):=(Fr.refl noB w3).alloc _
   have q12:=Cod.rd_new' (C:=codR) w3 r0
   obtain ⟨D2,hD2⟩:∃ x,x = w3.heap.size:=⟨_,rfl⟩
   rw [← hD2] at q12 ⊢
   have o12:=Lib.hid (own_new0 ho3 f12)
   have a12:=Lib.hid (ha3.out.map fun r x h=>h.fr f12 (NoHS.nob _))
   have r12:=Lib.hid (hr3.fr f12 (by simp [noB]) (by simp [noB]))
   have z12:=Lib.hid (hz3.fr f12 (NoHS.nob _))
   have F12:=Lib.hid (F3.step0 f12)
   clear ho3 ha3 hr3 hz3 F3 hD2 f12 hrun hent'
   generalize w3.alloc (codR.o r0) = W12 at q12 o12 a12 r12 z12 F12 ⊢
   go_wp2_with fail
   go_at_call 83
   refine (gvClone1_any W12 r0 z.2 z12.out hzb).mono ?_
   rintro e w5 ⟨r5,rfl,ho5,hn5,f5⟩
   have sl:=Cod.sl_new (C:=codR) w5 [r5]
   have fn:Fr noB w5 (w5.alloc (codR.ro [r5])):=(Fr.refl noB w5).alloc _
   have o6:=own_new0 (own_new0 o12.out f5) fn
   have f6:=f5.step0 fn
   have a6:=Lib.hid (a12.out.map fun r x h=>h.fr f6 (NoHS.nob _))
   have r6:=Lib.hid (r12.out.fr f6 (by simp [noB]) (by simp [noB]))
   have F6:=F12.out.step0 f6
   have n6:=Lib.hid (show RwN w.heap.size (w5.alloc (codR.ro [r5])) r5 z.2 from ⟨ho5.fr fn (NoHS.nob _),own_new0 (own_base hn5 F12.out.size) fn⟩)
   have ap6:=Lib.hid (show ∀ a ∈ os,ApR a r5 from fun a ha g hg hg5=>by
    obtain ⟨i,hi,rfl⟩:=List.getElem_of_mem ha
    have h1:=(a12.out.2 i hi (by rw [← a12.out.1];exact hi)).own
    have h2:=World.ownsRow.lt h1 g (by rw [ownBlock_sl'];exact hg)
    have h3:=(own_blk hn5 hg5).1
    omega)
   clear f6 o12 a12 r12 z12 F12 hn5 ho5 f5 q12 fn
   go_wp2_with (at_builtin;refine wpList_appC' etR w _ rfl _ _ rfl A os.length c os rfl rfl o6 (some ⟨w5.heap.size,0,none⟩) 1 1 [r5] rfl sl rfl (by have:=HOL.out;simp;omega) F6.size ?_;intro A7 c7 w7 hc7 hm7 o7 g7 hA7)
   have fg:Fr (fun q=>A.map (·.block) = some q) (w5.alloc (codR.ro [r5])) w7:=Fr.ofGrown g7 (fun g hg=>hg)
   have hs7:=NoHS.ownA o6 (by decide) (by decide)
   go_roundg (z1 ++ z2).length
   case measure=>simp
   case rel =>
    have hne7:=r6.out.nown o6
    refine ⟨dz ++ [z],z1 ++ z2,os ++ [r5],A7,c7,rfl,r6.out.fr fg (fun e=>(hne7 _ e).1 rfl) (fun e=>(hne7 _ e).2 rfl),perm_mid HPM.out,gv_own F6 o6 g7,?_,o7,?_,?_⟩
    ·simp
    ·rw [List.map_append]
     exact (a6.out.map fun r x h=>h.fr fg hs7).snoc (n6.out.fr fg hs7)
    ·rw [List.pairwise_append]
     exact ⟨HAP.out,by simp,fun a ha b hb=>by rw [List.mem_singleton] at hb;subst hb;exact ap6.out a ha⟩
end Go.Proofs.YtjpieiccpbcabaaGreat
