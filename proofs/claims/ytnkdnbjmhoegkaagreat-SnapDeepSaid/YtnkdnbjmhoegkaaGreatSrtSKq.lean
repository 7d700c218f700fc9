/- stamp.Cmp with its exact world; slices.SortFunc at rows of several cells: snap's rows, sorted. (ex_ldS_at) -/
import Derived.Test.YtnkdnbjmhoegkaaGreatRowCKq
import Derived.Test.YtnkdnbjmhoegkaaGreatRightCKq
import Derived.Test.YtnkdnbjmhoegkaaGreatRegQKq
import Derived.Test.YtnkdnbjmhoegkaaGreatDifAKq
import Derived.Test.YtnkdnbjmhoegkaaGreatStabWKq
import Derived.Test.YtnkdnbjmhoegkaaGreatIdSortOKq
set_option linter.unusedVariables false
set_option linter.unusedSimpArgs false
namespace Go.Proofs.YtnkdnbjmhoegkaaGreat
open Go.RowKit Go.Sort Go.Shelf
def GivesX (w:World) (v:Value) (e:Ending) (w':World):Prop:=e = .returned v ∧ ∃ q os',w' = grow (w.drewN q) os'
theorem three_grow (w:World) (a b c:Obj):((w.alloc a).alloc b).drew.alloc c = grow (w.drewN 1) #[a,b,c]:=by
 rw [alloc_eq_grow,alloc_eq_grow,alloc_eq_grow]
 unfold grow World.drew World.drewN
 simp only [Array.append_assoc]
 rfl
set_option maxRecDepth 100000 in
theorem scmpX_any (w:World) (a b:St):Calls Tryz.prog 27 #[encS a,encS b] w (GivesX w (.int .i64 (cmpS a b))):=by
 have f1:Fr noB (w.alloc (sto a)) ((w.alloc (sto a)).alloc (sto b)):=(Fr.refl noB _).alloc _
 have f0:Fr noB w ((w.alloc (sto a)).alloc (sto b)):=((Fr.refl noB w).alloc _).alloc _
 obtain ⟨a0,a1⟩:=sto_cell w a
 obtain ⟨b0,b1⟩:=sto_cell (w.alloc (sto a)) b
 rw [World.size_alloc] at b0 b1
 have A0:=cell_fr0 a0 f1
 have A1:=cell_fr0 a1 f1
 have hcs:=cmpS_or a b
 have HCS:=Lib.hid hcs
 clear hcs a0 a1 f1
 go_enter Tryz.func27,Tryz.ntmps27
 go_upto_region 1 with fail
 obtain ⟨W,hW⟩:∃ W,W = (w.alloc (sto a)).alloc (sto b):=⟨_,rfl⟩
 have HW:=Lib.hid hW
 rw [← hW] at f0 b0 b1 A0 A1 ⊢
 clear hW
 generalize w.heap.size + 1 = B at b0 b1 ⊢
 generalize w.heap.size = A at A0 A1 ⊢
 have keep:∀ w' w'':World,Fr noB w' w'' → (w'.cell? ⟨A,0,none⟩ = some (.int .i64 a.T) ∧ w'.cell? ⟨A,1,none⟩ = some (.int .i64 a.R) ∧ w'.cell? ⟨B,0,none⟩ = some (.int .i64 b.T) ∧ w'.cell? ⟨B,1,none⟩ = some (.int .i64 b.R)) → (w''.cell? ⟨A,0,none⟩ = some (.int .i64 a.T) ∧ w''.cell? ⟨A,1,none⟩ = some (.int .i64 a.R) ∧ w''.cell? ⟨B,0,none⟩ = some (.int .i64 b.T) ∧ w''.cell? ⟨B,1,none⟩ = some (.int .i64 b.R)):=fun w' w'' f h=>⟨cell_fr0 h.1 f,cell_fr0 h.2.1 f,cell_fr0 h.2.2.1 f,cell_fr0 h.2.2.2 f⟩
 have fd:=(Fr.refl noB W).drew
 have F0:=keep _ _ fd ⟨A0,A1,b0,b1⟩
 go_wp2_with fail
 refine wp_region_M 12 13 [⟨32,4,0⟩,⟨64,32,1⟩,⟨128,8,0⟩,⟨256,128,4⟩,⟨512,320,10⟩,⟨1024,4,0⟩,⟨2048,1024,32⟩,⟨4096,8,0⟩,⟨8192,4096,128⟩,⟨16384,10240,336⟩,⟨32768,16896,528⟩,⟨65536,32768,1536⟩,⟨16,65536,4095⟩] [(true,0),(true,1),(true,2),(true,3),(true,5),(true,6),(true,7),(true,8),(false,4),(false,9),(false,10),(false,11)] (fun w'=>w'.cell? ⟨A,0,none⟩ = some (.int .i64 a.T) ∧ w'.cell? ⟨A,1,none⟩ = some (.int .i64 a.R) ∧ w'.cell? ⟨B,0,none⟩ = some (.int .i64 b.T) ∧ w'.cell? ⟨B,1,none⟩ = some (.int .i64 b.R)) (by kernel_rfl) rfl (by kernel_rfl) (by kernel_rfl) (by kernel_rfl) F0 (fun hA hF=>?_)
 iterate 8
  refine wpAnyS_take (v:=?_) hA rfl (fun _ _ _ h=>h) (Or.inl ⟨by rfl,?_⟩) hF (fun hA=>?_)
  rotate_left
  ·intro wS hSw;(try dsimp only at hSw);obtain ⟨s1,s2,s3,s4⟩:=hSw;first | (apply Eq.trans;apply ex_ldS_at;exact rfl;exact rfl;assumption;with_reducible rfl) | (go_simp;try with_reducible rfl)
  try simp only [sA1,sA2,sA3,Act.put,sA4,sA5,sA6]
 refine wpAnyS_one hA rfl (fun K' hK=>?_)
 go_simp
 go_at_call 44
 refine (compare64_any _ a.T b.T).mono ?_
 rintro e u1 ⟨rfl,rfl⟩
 replace hF:=keep _ _ (Fr.refl noB _) hF
 refine hK.out _ _ hF (fun hA=>?_)
 clear hK K'
 as_aux_lemma =>
 refine wpAnyS_one hA rfl (fun K' hK=>?_)
 go_simp
 go_at_call 45
 refine (compareI_any _ a.R b.R).mono ?_
 rintro e u2 ⟨rfl,rfl⟩
 replace hF:=keep _ _ (Fr.refl noB _) hF
 refine hK.out _ _ hF (fun hA=>?_)
 clear hK K'
 as_aux_lemma =>
 refine wpAnyS_one hA rfl (fun K' hK=>?_)
 go_simp
 have f3:Fr noB W.drew (W.drew.alloc (.cells #[.int .i64 (cmpZ a.T b.T),.int .i64 (cmpZ a.R b.R)] 3)):=(Fr.refl noB _).alloc _
 have s3:Sl (W.drew.alloc (.cells #[.int .i64 (cmpZ a.T b.T),.int .i64 (cmpZ a.R b.R)] 3)) (some ⟨W.heap.size,0,none⟩) [.int .i64 (cmpZ a.T b.T),.int .i64 (cmpZ a.R b.R)]:=Sl.new W.drew _ _
 replace hF:=keep _ _ f3 hF
 refine hK.out _ _ hF (fun hA=>?_)
 clear hK K'
 as_aux_lemma =>
 refine wpAnyS_one hA rfl (fun K' hK=>?_)
 go_simp
 go_at_call 43
 refine (or_any _ _ _ (cmpZ a.T b.T) (cmpZ a.R b.R) s3).mono ?_
 rintro e u4 ⟨rfl,rfl⟩
 replace hF:=keep _ _ (Fr.refl noB _) hF
 refine hK.out _ _ hF (fun hA=>?_)
 clear hK K'
 as_aux_lemma =>
 refine wpAnyS_end hA rfl ?_
 simp only [List.drop_succ_cons,List.drop_zero]
 clear hF
 go_wp2_with fail
 go_ret
 exact ⟨by rw [HCS.out];rfl,1,#[sto a,sto b,.cells #[.int .i64 (cmpZ a.T b.T),.int .i64 (cmpZ a.R b.R)] 3],by rw [HW.out];exact three_grow _ _ _ _⟩
theorem scmpX_v (w:World) (a b:St):Calls Tryz.prog 27 #[.agg (codS.A a),.agg (codS.A b)] w (GivesX w (.int .i64 (cmpS a b))):=by rw [vS_eq,vS_eq];exact scmpX_any w a b
theorem GivesX.of2 {w:World} {a b:Obj} {v:Value} {e:Ending} {w':World} (h:GivesX ((w.alloc a).alloc b) v e w'):GivesX w v e w':=by
 obtain ⟨h1,q,os',rfl⟩:=h
 refine ⟨h1,q,#[a,b] ++ os',?_⟩
 rw [alloc_eq_grow,alloc_eq_grow]
 unfold grow World.drewN
 rw [show #[a,b] = #[a] ++ #[b] from rfl]
 simp only [Array.append_assoc]
set_option maxRecDepth 100000 in
theorem svLoad1X_any (w:World) (x y:RwW):Calls Tryz.prog 26 #[.agg (codR.A x),.agg (codR.A y)] w (GivesX w (.int .i64 (cmpS x.Node y.Node))):=by
 have b0:codR.bxd (w.alloc (.cells (codR.A x) 28)) w.heap.size = some x:=Cod.bxd_box (C:=codR) w x
 have b1:=Cod.bxd_fr0 b0 ((Fr.refl noB _).alloc (.cells (codR.A y) 28))
 have b2:codR.bxd ((w.alloc (.cells (codR.A x) 28)).alloc (.cells (codR.A y) 28)) (w.alloc (.cells (codR.A x) 28)).heap.size = some y:=Cod.bxd_box (C:=codR) _ y
 have hz:(w.alloc (.cells (codR.A x) 28)).heap.size = w.heap.size + 1:=by simp
 rw [hz] at b2
 have q1:=(rwAt (Cod.bxd_rd b1)).node
 have q2:=(rwAt (Cod.bxd_rd b2)).node
 generalize x.Node = s at q1 ⊢
 generalize y.Node = u at q2 ⊢
 clear b0 b1 b2 hz
 go_enter Tryz.func26,Tryz.ntmps26
 go_wp2_with (go_at_call 27;refine (scmpX_v _ s u).mono ?_;rintro e w2 ⟨rfl,f2⟩)
 go_ret
 exact GivesX.of2 ⟨rfl,f2⟩
theorem Cod.flat {α:Type} [Inhabited α] {C:Cod α}:∀ (l:List α),flatK C.cs C.n l.toArray = (C.row l).toArray:=fun l=>by
 apply Array.ext
 ·simp [flatK,Cod.row_len]
 ·intro t h1 h2
  have hlt:t < l.length * C.n:=by simpa [flatK] using h1
  have hi:t / C.n < l.length:=Nat.div_lt_of_lt_mul (by rw [Nat.mul_comm];exact hlt)
  have hj:t % C.n < C.n:=Nat.mod_lt _ C.pos
  have hd:=Nat.div_add_mod t C.n
  have e1:(C.row l)[t]? = (C.cs l[t / C.n])[t % C.n]?:=by
   have h3:(C.row l).drop (t / C.n * C.n) = C.row (l.drop (t / C.n)):=Cod.row_drop l _ (by omega)
   have h4:C.row (l.drop (t / C.n)) = C.cs l[t / C.n] ++ C.row (l.drop (t / C.n + 1)):=by
    rw [List.drop_eq_getElem_cons hi];unfold Cod.row;rw [List.flatMap_cons]
   have h5:((C.row l).drop (t / C.n * C.n))[t % C.n]? = (C.row l)[t]?:=by
    rw [List.getElem?_drop]
    congr 1
    rw [Nat.mul_comm];exact hd
   rw [← h5,h3,h4,List.getElem?_append_left (by rw [C.len];exact hj)]
  have h6:(C.row l).toArray[t] = (C.cs l[t / C.n])[t % C.n]'(by rw [C.len];exact hj):=by
   have h7:(C.row l)[t]? = some ((C.row l).toArray[t]):=by simp
   rw [e1,List.getElem?_eq_getElem (by rw [C.len];exact hj)] at h7
   injection h7 with h7
   exact h7.symm
  rw [h6]
  simp [flatK,hi,C.len,hj]
theorem putCells_row {α:Type} [Inhabited α] {C:Cod α} (cur:Array Value) (l:List α) (h:l.length * C.n ≤ cur.size):(putCells id 0 (C.row l).toArray cur).toList.take (l.length * C.n) = C.row l:=by
 have hl:=Cod.row_len (C:=C) l
 apply List.ext_getElem?
 intro j
 by_cases hj:j < l.length * C.n
 ·rw [List.getElem?_take_of_lt hj,Array.getElem?_toList]
  simp [putCells,hl,hj,show j < cur.size by omega]
 ·rw [List.getElem?_take_eq_none (by omega),List.getElem?_eq_none (by omega)]
def cfN (x y:RwW):Int:=cmpS x.Node y.Node
theorem swoN:SWO (ltOf cfN) where
 irrefl x:=by simp [ltOf,cfN,cmpS_self]
 trans x y z h1 h2:=by
  simp only [ltOf,decide_eq_true_eq] at *
  unfold cfN at *
  exact cmpS_trans h1 h2
 ntrans x y z h1 h2:=by
  simp only [ltOf,decide_eq_false_iff_not] at *
  unfold cfN at *
  intro h
  have e1:=cmpS_flip x.Node y.Node
  have e2:=cmpS_flip y.Node z.Node
  rcases Int.lt_trichotomy (cmpS y.Node x.Node) 0 with h3 | h3 | h3
  ·exact h2 (cmpS_trans h3 h)
  ·have:=cmpS_zero.1 h3
   rw [this] at h2
   exact h2 h
  ·omega
theorem srtC_any {α:Type} [Inhabited α] (C:Cod α) {ρ:Ren} (L:SlLaysF0.n6 Tryz.prog ρ) (aE:∀ w,(isAgg (ρ.t 24)).run Tryz.prog w = .ok true w) (zE:∀ w,(Go.sizeOf (ρ.t 24)).run Tryz.prog w = .ok C.n w) (cf:α → α → Int) (hO:SWO (ltOf cf)) (g:Nat) (cb:Array Value) (eg:∀ args w,(callFunc g args).run Tryz.prog w = .ok (.enter g args) w)
  (w0 w:World) (A:Option Addr) (c n:Nat) (l:List α) (hn:l.length = n) (ho:OwnC C w0 w A c l) (hl:l.length ≤ 1000000000000)
  (hcmp:∀ blk,A = some ⟨blk,0,none⟩ → blk < w.heap.size → w0.heap.size ≤ blk → CmpLays Tryz.prog g cb C.cs C.n cf blk 0 l.length w) :
  Calls Tryz.prog (ρ.f 6) #[.slice A n c,.func (.func g) #[] cb] w fun e w'=>e = .returned (.tuple #[]) ∧ ∃ l':List α,l'.Perm l ∧ l'.Pairwise (fun x y=>ltOf cf y x = false) ∧ OwnC C w0 w' A c l' ∧ Fr (fun b=>A.map (·.block) = some b) w w':=by
 subst hn
 by_cases h0:l = []
 ·subst h0
  refine (AnyF.slices_SortFunc_none L A c _ w).mono ?_
  rintro e w' ⟨rfl,rfl⟩
  exact ⟨rfl,[],.refl _,.nil,ho,Fr.refl _ _⟩
 ·have ho':=ho
  have hlen:0 < l.length:=List.length_pos_iff.2 h0
  rcases ho'.2 with ⟨hv,h00⟩ | ⟨blk,cap,cur,hv,hb,hg,hnc,hm,hs,ht⟩
  ·omega
  ·injection hv with h1 _ h3
   subst h1;subst h3
   have hblk:blk < w.heap.size:=(Array.getElem?_eq_some_iff.1 hg).1
   have hH:HoldsK C.cs C.n w blk 0 l.toArray:=by
    unfold HoldsK
    rw [Cod.flat]
    intro j hj
    have hj':j < (C.row l).length:=by simpa using hj
    refine ⟨?_,by simp [World.frozen?,hg]⟩
    obtain ⟨g',off',e,_,hc⟩:=(Sl.own ho) (by intro h;rw [h] at hj';simp at hj')
    injection e with e
    injection e with e1 e2
    subst e1;subst e2
    rw [hc j _ (List.getElem?_eq_getElem hj')]
    simp [hj']
   have hS:=AnyQ.slices_SortFunc L C.n aE zE C.cs (fun x=>C.len x) (fun x v hv=>C.one x v hv) cf hO g cb blk 0 c l.toArray w eg (by rw [List.size_toArray];exact hcmp blk rfl hblk hb) hH hblk (by simp;omega)
   rw [List.size_toArray] at hS
   refine hS.mono ?_
   rintro e w' ⟨rfl,d',m,os,hp,hso,rfl⟩
   have hds:d'.size = l.length:=by have:=hp.1;simpa using this
   have hpl:d'.toList.Perm l:=by
    have:=hp.2.2
    rw [show d'.extract 0 l.length = d' by rw [← hds];simp,show l.toArray.extract 0 l.length = l.toArray by simp] at this
    simpa using this
   have hpw:d'.toList.Pairwise (fun x y=>ltOf cf y x = false):=by
    rw [List.pairwise_iff_getElem]
    intro i j hi hj hij
    have hi':i < d'.size:=by simpa using hi
    have hj':j < d'.size:=by simpa using hj
    have:=hso i j (Nat.zero_le _) hij (by omega)
    rw [getElem!_pos d' j hj',getElem!_pos d' i hi'] at this
    simpa using this
   have hlt:d'.toList.length = l.length:=by simpa using hds
   refine ⟨rfl,d'.toList,hpl,hpw,⟨by rw [Cod.row_len],.inr ⟨blk,c,putCells id 0 (C.row d'.toList).toArray cur,by rw [hlt],hb,?_,by rw [hlt];exact hnc,hm,by simp [putCells,hs],?_⟩⟩,?_⟩
   ·unfold sortWorldK putRowK
    rw [heap_grow_old _ _ (by simpa using hblk),← Cod.flat,Array.toArray_toList]
    simp [putRow,mapBlock,Sort.ahead,Array.getElem?_modify,hg,onCells]
   ·exact putCells_row _ _ (by rw [hlt,hs];exact Nat.mul_le_mul_right _ hnc)
   ·refine ⟨rfl,rfl,rfl,by simp [sortWorldK,putRowK,Sort.ahead],fun k hk hne=>?_⟩
    unfold sortWorldK putRowK
    rw [heap_grow_old _ _ (by simpa using hk)]
    have:blk ≠ k:=fun e=>hne (by simp [e])
    simp [putRow,mapBlock,Sort.ahead,Array.getElem?_modify,this]
theorem cmpL_lays (W w:World) (hW:W = w) (x y:RwW):Calls Tryz.prog 26 (#[.agg (codR.cs x).toArray,.agg (codR.cs y).toArray] ++ #[]) W fun e w'=>e = .returned (.int .i64 (cfN x y)) ∧ ∃ q os',w' = grow (W.drewN q) os':=by
 have:=svLoad1X_any W x y
 rw [Cod.A_eq,Cod.A_eq] at this
 rw [Array.append_empty]
 exact this
theorem ldRows_any (w0 w:World) (A:Option Addr) (c n:Nat) (l:List RwW) (hn:l.length = n) (ho:OwnC codR w0 w A c l) (hl:l.length ≤ 1000000000000) :
  Calls Tryz.prog 25 #[.slice A n c,.func (.func 26) #[] #[]] w fun e w'=>e = .returned (.tuple #[]) ∧ ∃ l':List RwW,l'.Perm l ∧ l'.Pairwise (fun x y=>ltOf cfN y x = false) ∧ OwnC codR w0 w' A c l' ∧ Fr (fun b=>A.map (·.block) = some b) w w' :=
 srtC_any codR Tryz.sortR (fun w=>Tryz.isAgg28 w) (fun w=>Tryz.sizeOf28 w) cfN swoN 26 #[] (enters_of Tryz.func26 (by kernel_rfl) rfl) w0 w A c n l hn ho hl (fun blk _ _ _ m os dk _ x y=>cmpL_lays _ _ rfl x y)
end Go.Proofs.YtnkdnbjmhoegkaaGreat
