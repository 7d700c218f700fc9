/- DERIVED: THE SHELF's CONTRACTS AT THIS DUMP,IN PLAIN WORDS (tools/lay-plain.mjs out of 'TryzShelf.lean',which tools/lay-shelf.mjs wrote): THE SAME DECLARATIONS UNDER THE SAME NAMES: 'import','namespace','open','def','theorem' AND NOTHING ELSE: no command of the shelf's: FOR A HAND-IN. Each laying: the table of numbers ('.._ren') and one theorem,a field a fact of the dump's own or the kernel's comparison;each contract: ONE APPLICATION. stamp.Cmp with its exact world; slices.SortFunc at values of several cells; the order of texts. (ex_ldS_at) -/
import Derived.Shelf.SlGeneric
import Derived.Ground.SlsfProg
import Derived.Ground.SlgcProg
import Derived.Shelf.SlicesG.Cmp
import Derived.Shelf.SlSortCmp.NoneTotal
import Derived.Test.YthehiobacjjakaaGreatDoorProg
import Derived.Test.YthehiobacjjakaaGreatDoorWlGKp
import Derived.Laws.Cover1
set_option linter.unusedVariables false
set_option linter.unusedSimpArgs false
namespace Go.Proofs
open Go.Shelf
def Tryz.sortE_ren:Go.Shelf.Ren:=⟨fun | 6=>41 | 15=>74 | 14=>73 | 28=>106 | 29=>107 | 20=>98 | 21=>99 | 22=>100 | 23=>101 | 24=>102 | 25=>103 | 26=>104 | 27=>105 | 46=>124 | 47=>125 | 48=>126 | 49=>127 | 50=>128 | 57=>151 | n=>n,fun | 22=>49 | 24=>57 | 25=>91 | 3=>3 | 39=>117 | 0=>0 | 53=>145 | 55=>147 | 4=>4 | 46=>139 | 45=>138 | 50=>124 | 5=>5 | 9=>9 | 66=>156 | 70=>160 | 76=>181 | 77=>182 | n=>n,fun | n=>n⟩
theorem Tryz.sortE:Go.Proofs.SlLaysF0.n6 Tryz.prog Tryz.sortE_ren:={
 mixed:=by kernel_rfl
 f6:=⟨Tryz.f41.name,by decide,Tryz.func41.trans (congrArg some (by kernel_rfl))⟩
 f14:=⟨Tryz.f73.name,by decide,Tryz.func73.trans (congrArg some (by kernel_rfl))⟩
 f15:=Tryz.func74.trans (congrArg some (by kernel_rfl))
 f20:=⟨Tryz.f98.name,by decide,Tryz.func98.trans (congrArg some (by kernel_rfl))⟩
 f21:=⟨Tryz.f99.name,by decide,Tryz.func99.trans (congrArg some (by kernel_rfl))⟩
 f22:=⟨Tryz.f100.name,by decide,Tryz.func100.trans (congrArg some (by kernel_rfl))⟩
 f23:=⟨Tryz.f101.name,by decide,Tryz.func101.trans (congrArg some (by kernel_rfl))⟩
 f24:=⟨Tryz.f102.name,by decide,Tryz.func102.trans (congrArg some (by kernel_rfl))⟩
 f25:=⟨Tryz.f103.name,by decide,Tryz.func103.trans (congrArg some (by kernel_rfl))⟩
 f26:=⟨Tryz.f104.name,by decide,Tryz.func104.trans (congrArg some (by kernel_rfl))⟩
 f27:=⟨Tryz.f105.name,by decide,Tryz.func105.trans (congrArg some (by kernel_rfl))⟩
 f28:=Tryz.func106.trans (congrArg some (by kernel_rfl))
 f29:=Tryz.func107.trans (congrArg some (by kernel_rfl))
 f46:=⟨Tryz.f124.name,by decide,Tryz.func124.trans (congrArg some (by kernel_rfl))⟩
 f47:=Tryz.func125.trans (congrArg some (by kernel_rfl))
 f48:=Tryz.func126.trans (congrArg some (by kernel_rfl))
 f49:=⟨Tryz.f127.name,by decide,Tryz.func127.trans (congrArg some (by kernel_rfl))⟩
 f50:=⟨Tryz.f128.name,by decide,Tryz.func128.trans (congrArg some (by kernel_rfl))⟩
 f57:=⟨Tryz.f151.name,by decide,Tryz.func151.trans (congrArg some (by kernel_rfl))⟩
 t0:=Tryz.underlying0
 a0:=Tryz.isAgg0
 z0:=Tryz.sizeOf0
 v0:=Tryz.zeroValue0
 t3:=Tryz.underlying3
 a3:=Tryz.isAgg3
 z3:=Tryz.sizeOf3
 v3:=Tryz.zeroValue3
 t4:=Tryz.underlying4
 a4:=Tryz.isAgg4
 z4:=Tryz.sizeOf4
 v4:=Tryz.zeroValue4
 t5:=Tryz.underlying5
 a5:=Tryz.isAgg5
 z5:=Tryz.sizeOf5
 v5:=Tryz.zeroValue5
 t9:=Tryz.underlying9
 a9:=Tryz.isAgg9
 z9:=Tryz.sizeOf9
 v9:=Tryz.zeroValue9
 t22:=Tryz.underlying49
 a22:=Tryz.isAgg49
 z22:=Tryz.sizeOf49
 v22:=Tryz.zeroValue49
 t25:=Tryz.underlying91
 a25:=Tryz.isAgg91
 z25:=Tryz.sizeOf91
 v25:=Tryz.zeroValue91
 t39:=Tryz.underlying117
 a39:=Tryz.isAgg117
 z39:=Tryz.sizeOf117
 v39:=Tryz.zeroValue117
 t45:=Tryz.underlying138
 a45:=Tryz.isAgg138
 z45:=Tryz.sizeOf138
 v45:=Tryz.zeroValue138
 t46:=Tryz.underlying139
 a46:=Tryz.isAgg139
 z46:=Tryz.sizeOf139
 v46:=Tryz.zeroValue139
 t50:=Tryz.underlying124
 a50:=Tryz.isAgg124
 z50:=Tryz.sizeOf124
 v50:=Tryz.zeroValue124
 t53:=Tryz.underlying145
 a53:=Tryz.isAgg145
 z53:=Tryz.sizeOf145
 v53:=Tryz.zeroValue145
 t55:=Tryz.underlying147
 a55:=Tryz.isAgg147
 z55:=Tryz.sizeOf147
 v55:=Tryz.zeroValue147
 t66:=Tryz.underlying156
 a66:=Tryz.isAgg156
 z66:=Tryz.sizeOf156
 v66:=Tryz.zeroValue156
 t70:=Tryz.underlying160
 a70:=Tryz.isAgg160
 z70:=Tryz.sizeOf160
 v70:=Tryz.zeroValue160
 t76:=Tryz.underlying181
 a76:=Tryz.isAgg181
 z76:=Tryz.sizeOf181
 v76:=Tryz.zeroValue181
 t77:=Tryz.underlying182
 a77:=Tryz.isAgg182
 z77:=Tryz.sizeOf182
 v77:=Tryz.zeroValue182 }
end Go.Proofs
namespace Go.Proofs.YthehiobacjjakaaGreatDoor
open Go.RowKit Go.Sort Go.Shelf
def GivesX (w:World) (v:Value) (e:Ending) (w':World):Prop:=e = .returned v ∧ ∃ q os',w' = grow (w.drewN q) os'
theorem three_grow (w:World) (a b c:Obj):((w.alloc a).alloc b).drew.alloc c = grow (w.drewN 1) #[a,b,c]:=by
 rw [alloc_eq_grow,alloc_eq_grow,alloc_eq_grow]
 unfold grow World.drew World.drewN
 simp only [Array.append_assoc]
 rfl
set_option maxRecDepth 100000 in
theorem scmpX_any (w:World) (a b:St):Calls Tryz.prog 45 #[encS a,encS b] w (GivesX w (.int .i64 (cmpS a b))):=by
 have f1:Fr noB (w.alloc (sto a)) ((w.alloc (sto a)).alloc (sto b)):=(Fr.refl noB _).alloc _
 have f0:Fr noB w ((w.alloc (sto a)).alloc (sto b)):=((Fr.refl noB w).alloc _).alloc _
 obtain ⟨a0,a1⟩:=sto_cell w a
 obtain ⟨b0,b1⟩:=sto_cell (w.alloc (sto a)) b
 rw [World.size_alloc] at b0 b1
 have A0:=cell_fr0 a0 f1
 have A1:=cell_fr0 a1 f1
 have hcs:=cmpS_or a b
 have HCS:=Lib.hid hcs
 clear hcs a0 a1 f1
 go_enter Tryz.func45,Tryz.ntmps45
 go_upto_region 1 with fail
 obtain ⟨W,hW⟩:∃ W,W = (w.alloc (sto a)).alloc (sto b):=⟨_,rfl⟩
 have HW:=Lib.hid hW
 rw [← hW] at f0 b0 b1 A0 A1 ⊢
 clear hW
 generalize w.heap.size + 1 = B at b0 b1 ⊢
 generalize w.heap.size = A at A0 A1 ⊢
 have keep:∀ w' w'':World,Fr noB w' w'' → (w'.cell? ⟨A,0,none⟩ = some (.int .i64 a.T) ∧ w'.cell? ⟨A,1,none⟩ = some (.int .i64 a.R) ∧ w'.cell? ⟨B,0,none⟩ = some (.int .i64 b.T) ∧ w'.cell? ⟨B,1,none⟩ = some (.int .i64 b.R)) → (w''.cell? ⟨A,0,none⟩ = some (.int .i64 a.T) ∧ w''.cell? ⟨A,1,none⟩ = some (.int .i64 a.R) ∧ w''.cell? ⟨B,0,none⟩ = some (.int .i64 b.T) ∧ w''.cell? ⟨B,1,none⟩ = some (.int .i64 b.R)):=fun w' w'' f h=>⟨cell_fr0 h.1 f,cell_fr0 h.2.1 f,cell_fr0 h.2.2.1 f,cell_fr0 h.2.2.2 f⟩
 have fd:=(Fr.refl noB W).drew
 have F0:=keep _ _ fd ⟨A0,A1,b0,b1⟩
 go_wp2_with fail
 refine wp_region_M 12 13 [⟨32,4,0⟩,⟨64,32,1⟩,⟨128,8,0⟩,⟨256,128,4⟩,⟨512,320,10⟩,⟨1024,4,0⟩,⟨2048,1024,32⟩,⟨4096,8,0⟩,⟨8192,4096,128⟩,⟨16384,10240,336⟩,⟨32768,16896,528⟩,⟨65536,32768,1536⟩,⟨16,65536,4095⟩] [(true,0),(true,1),(true,2),(true,3),(true,5),(true,6),(true,7),(true,8),(false,4),(false,9),(false,10),(false,11)] (fun w'=>w'.cell? ⟨A,0,none⟩ = some (.int .i64 a.T) ∧ w'.cell? ⟨A,1,none⟩ = some (.int .i64 a.R) ∧ w'.cell? ⟨B,0,none⟩ = some (.int .i64 b.T) ∧ w'.cell? ⟨B,1,none⟩ = some (.int .i64 b.R)) (by kernel_rfl) rfl (by kernel_rfl) (by kernel_rfl) (by kernel_rfl) F0 (fun hA hF=>?_)
 iterate 8
  refine wpAnyS_take (v:=?_) hA rfl (fun _ _ _ h=>h) (Or.inl ⟨by rfl,?_⟩) hF (fun hA=>?_)
  rotate_left
  ·intro wS hSw;(try dsimp only at hSw);obtain ⟨s1,s2,s3,s4⟩:=hSw;first | (apply Eq.trans;apply ex_ldS_at;exact rfl;exact rfl;assumption;with_reducible rfl) | (go_simp;try with_reducible rfl)
  try simp only [sA1,sA2,sA3,Act.put,sA4,sA5,sA6]
 refine wpAnyS_one hA rfl (fun K' hK=>?_)
 go_simp
 go_at_call 76
 refine (compare64_any _ a.T b.T).mono ?_
 rintro e u1 ⟨rfl,rfl⟩
 replace hF:=keep _ _ (Fr.refl noB _) hF
 refine hK.out _ _ hF (fun hA=>?_)
 clear hK K'
 as_aux_lemma =>
 refine wpAnyS_one hA rfl (fun K' hK=>?_)
 go_simp
 go_at_call 77
 refine (compareI_any _ a.R b.R).mono ?_
 rintro e u2 ⟨rfl,rfl⟩
 replace hF:=keep _ _ (Fr.refl noB _) hF
 refine hK.out _ _ hF (fun hA=>?_)
 clear hK K'
 as_aux_lemma =>
 refine wpAnyS_one hA rfl (fun K' hK=>?_)
 go_simp
 have f3:Fr noB W.drew (W.drew.alloc (.cells #[.int .i64 (cmpZ a.T b.T),.int .i64 (cmpZ a.R b.R)] 3)):=(Fr.refl noB _).alloc _
 have s3:Sl (W.drew.alloc (.cells #[.int .i64 (cmpZ a.T b.T),.int .i64 (cmpZ a.R b.R)] 3)) (some ⟨W.heap.size,0,none⟩) [.int .i64 (cmpZ a.T b.T),.int .i64 (cmpZ a.R b.R)]:=Sl.new W.drew _ _
 replace hF:=keep _ _ f3 hF
 refine hK.out _ _ hF (fun hA=>?_)
 clear hK K'
 as_aux_lemma =>
 refine wpAnyS_one hA rfl (fun K' hK=>?_)
 go_simp
 go_at_call 43
 refine (or_any _ _ _ (cmpZ a.T b.T) (cmpZ a.R b.R) s3).mono ?_
 rintro e u4 ⟨rfl,rfl⟩
 replace hF:=keep _ _ (Fr.refl noB _) hF
 refine hK.out _ _ hF (fun hA=>?_)
 clear hK K'
 as_aux_lemma =>
 refine wpAnyS_end hA rfl ?_
 simp only [List.drop_succ_cons,List.drop_zero]
 clear hF
 go_wp2_with fail
 go_ret
 exact ⟨by rw [HCS.out];rfl,1,#[sto a,sto b,.cells #[.int .i64 (cmpZ a.T b.T),.int .i64 (cmpZ a.R b.R)] 3],by rw [HW.out];exact three_grow _ _ _ _⟩
theorem scmpX_v (w:World) (a b:St):Calls Tryz.prog 45 #[.agg (codS.A a),.agg (codS.A b)] w (GivesX w (.int .i64 (cmpS a b))):=by rw [vS_eq,vS_eq];exact scmpX_any w a b
section
variable {w w1:World}
def Gr (w w':World):Prop:=∃ q os,w' = grow (w.drewN q) os
theorem Gr.refl (w:World):Gr w w:=⟨0,#[],by simp [grow,World.drewN]⟩
theorem Gr.alloc (h:Gr w w1) (o:Obj):Gr w (w1.alloc o):=by
 obtain ⟨q,os,rfl⟩:=h
 exact ⟨q,os ++ #[o],by rw [alloc_eq_grow,grow_grow]⟩
theorem Gr.drew (h:Gr w w1):Gr w w1.drew:=by
 obtain ⟨q,os,rfl⟩:=h
 exact ⟨q + 1,os,rfl⟩
theorem Gr.trans {w2:World} (h:Gr w w1) (k:Gr w1 w2):Gr w w2:=by
 obtain ⟨q,os,rfl⟩:=h
 obtain ⟨q',os',rfl⟩:=k
 exact ⟨q + q',os ++ os',by simp [grow,World.drewN,Nat.add_assoc]⟩
theorem Gr.fr (h:Gr w w1):Fr noB w w1:=by
 obtain ⟨q,os,rfl⟩:=h
 refine ⟨rfl,rfl,rfl,by simp [grow,World.drewN],fun k hk _=>?_⟩
 simp [grow,World.drewN,Array.getElem?_append_left hk]
end
theorem Cod.flat {α:Type} [Inhabited α] {C:Cod α}:∀ (l:List α),flatK C.cs C.n l.toArray = (C.row l).toArray:=fun l=>by
 apply Array.ext
 ·simp [flatK,Cod.row_len]
 ·intro t h1 h2
  have hlt:t < l.length * C.n:=by simpa [flatK] using h1
  have hi:t / C.n < l.length:=Nat.div_lt_of_lt_mul (by rw [Nat.mul_comm];exact hlt)
  have hj:t % C.n < C.n:=Nat.mod_lt _ C.pos
  have hd:=Nat.div_add_mod t C.n
  have e1:(C.row l)[t]? = (C.cs l[t / C.n])[t % C.n]?:=by
   have h3:(C.row l).drop (t / C.n * C.n) = C.row (l.drop (t / C.n)):=Cod.row_drop l _ (by omega)
   have h4:C.row (l.drop (t / C.n)) = C.cs l[t / C.n] ++ C.row (l.drop (t / C.n + 1)):=by
    rw [List.drop_eq_getElem_cons hi];unfold Cod.row;rw [List.flatMap_cons]
   have h5:((C.row l).drop (t / C.n * C.n))[t % C.n]? = (C.row l)[t]?:=by
    rw [List.getElem?_drop]
    congr 1
    rw [Nat.mul_comm];exact hd
   rw [← h5,h3,h4,List.getElem?_append_left (by rw [C.len];exact hj)]
  have h6:(C.row l).toArray[t] = (C.cs l[t / C.n])[t % C.n]'(by rw [C.len];exact hj):=by
   have h7:(C.row l)[t]? = some ((C.row l).toArray[t]):=by simp
   rw [e1,List.getElem?_eq_getElem (by rw [C.len];exact hj)] at h7
   injection h7 with h7
   exact h7.symm
  rw [h6]
  simp [flatK,hi,C.len,hj]
theorem putCells_row {α:Type} [Inhabited α] {C:Cod α} (cur:Array Value) (l:List α) (h:l.length * C.n ≤ cur.size):(putCells id 0 (C.row l).toArray cur).toList.take (l.length * C.n) = C.row l:=by
 have hl:=Cod.row_len (C:=C) l
 apply List.ext_getElem?
 intro j
 by_cases hj:j < l.length * C.n
 ·rw [List.getElem?_take_of_lt hj,Array.getElem?_toList]
  simp [putCells,hl,hj,show j < cur.size by omega]
 ·rw [List.getElem?_take_eq_none (by omega),List.getElem?_eq_none (by omega)]
theorem srtC_any {α:Type} [Inhabited α] (C:Cod α) {ρ:Ren} (L:SlLaysF0.n6 Tryz.prog ρ) (aE:∀ w,(isAgg (ρ.t 24)).run Tryz.prog w = .ok true w) (zE:∀ w,(Go.sizeOf (ρ.t 24)).run Tryz.prog w = .ok C.n w) (cf:α → α → Int) (hO:SWO (ltOf cf)) (g:Nat) (cb:Array Value) (eg:∀ args w,(callFunc g args).run Tryz.prog w = .ok (.enter g args) w)
  (w0 w:World) (A:Option Addr) (c n:Nat) (l:List α) (hn:l.length = n) (ho:OwnC C w0 w A c l) (hl:l.length ≤ 1000000000000)
  (hcmp:∀ blk,A = some ⟨blk,0,none⟩ → blk < w.heap.size → w0.heap.size ≤ blk → CmpLays Tryz.prog g cb C.cs C.n cf blk 0 l.length w) :
  Calls Tryz.prog (ρ.f 6) #[.slice A n c,.func (.func g) #[] cb] w fun e w'=>e = .returned (.tuple #[]) ∧ ∃ l':List α,l'.Perm l ∧ l'.Pairwise (fun x y=>ltOf cf y x = false) ∧ OwnC C w0 w' A c l' ∧ Fr (fun b=>A.map (·.block) = some b) w w':=by
 subst hn
 by_cases h0:l = []
 ·subst h0
  refine (AnyF.slices_SortFunc_none L A c _ w).mono ?_
  rintro e w' ⟨rfl,rfl⟩
  exact ⟨rfl,[],.refl _,.nil,ho,Fr.refl _ _⟩
 ·have ho':=ho
  have hlen:0 < l.length:=List.length_pos_iff.2 h0
  rcases ho'.2 with ⟨hv,h00⟩ | ⟨blk,cap,cur,hv,hb,hg,hnc,hm,hs,ht⟩
  ·omega
  ·injection hv with h1 _ h3
   subst h1;subst h3
   have hblk:blk < w.heap.size:=(Array.getElem?_eq_some_iff.1 hg).1
   have hH:HoldsK C.cs C.n w blk 0 l.toArray:=by
    unfold HoldsK
    rw [Cod.flat]
    intro j hj
    have hj':j < (C.row l).length:=by simpa using hj
    refine ⟨?_,by simp [World.frozen?,hg]⟩
    obtain ⟨g',off',e,_,hc⟩:=(Sl.own ho) (by intro h;rw [h] at hj';simp at hj')
    injection e with e
    injection e with e1 e2
    subst e1;subst e2
    rw [hc j _ (List.getElem?_eq_getElem hj')]
    simp [hj']
   have hS:=AnyQ.slices_SortFunc L C.n aE zE C.cs (fun x=>C.len x) (fun x v hv=>C.one x v hv) cf hO g cb blk 0 c l.toArray w eg (by rw [List.size_toArray];exact hcmp blk rfl hblk hb) hH hblk (by simp;omega)
   rw [List.size_toArray] at hS
   refine hS.mono ?_
   rintro e w' ⟨rfl,d',m,os,hp,hso,rfl⟩
   have hds:d'.size = l.length:=by have:=hp.1;simpa using this
   have hpl:d'.toList.Perm l:=by
    have:=hp.2.2
    rw [show d'.extract 0 l.length = d' by rw [← hds];simp,show l.toArray.extract 0 l.length = l.toArray by simp] at this
    simpa using this
   have hpw:d'.toList.Pairwise (fun x y=>ltOf cf y x = false):=by
    rw [List.pairwise_iff_getElem]
    intro i j hi hj hij
    have hi':i < d'.size:=by simpa using hi
    have hj':j < d'.size:=by simpa using hj
    have:=hso i j (Nat.zero_le _) hij (by omega)
    rw [getElem!_pos d' j hj',getElem!_pos d' i hi'] at this
    simpa using this
   have hlt:d'.toList.length = l.length:=by simpa using hds
   refine ⟨rfl,d'.toList,hpl,hpw,⟨by rw [Cod.row_len],.inr ⟨blk,c,putCells id 0 (C.row d'.toList).toArray cur,by rw [hlt],hb,?_,by rw [hlt];exact hnc,hm,by simp [putCells,hs],?_⟩⟩,?_⟩
   ·unfold sortWorldK putRowK
    rw [heap_grow_old _ _ (by simpa using hblk),← Cod.flat,Array.toArray_toList]
    simp [putRow,mapBlock,Sort.ahead,Array.getElem?_modify,hg,onCells]
   ·exact putCells_row _ _ (by rw [hlt,hs];exact Nat.mul_le_mul_right _ hnc)
   ·refine ⟨rfl,rfl,rfl,by simp [sortWorldK,putRowK,Sort.ahead],fun k hk hne=>?_⟩
    unfold sortWorldK putRowK
    rw [heap_grow_old _ _ (by simpa using hk)]
    have:blk ≠ k:=fun e=>hne (by simp [e])
    simp [putRow,mapBlock,Sort.ahead,Array.getElem?_modify,this]
theorem less_self:∀ a:List UInt8,Op.bytesLess a a = false
 | []=>rfl
 | x :: a=>by
  have h:¬ x < x:=by rw [UInt8.lt_iff_toNat_lt];omega
  simp [Op.bytesLess,h,less_self a]
theorem less_trans:∀ {a b c:List UInt8},Op.bytesLess a b = true → Op.bytesLess b c = true → Op.bytesLess a c = true
 | [],[],_,h,_=>by simp [Op.bytesLess] at h
 | [],_ :: _,[],_,h=>by simp [Op.bytesLess] at h
 | [],_ :: _,_ :: _,_,_=>rfl
 | _ :: _,[],_,h,_=>by simp [Op.bytesLess] at h
 | _ :: _,_ :: _,[],_,h=>by simp [Op.bytesLess] at h
 | x :: a,y :: b,z :: c,h1,h2=>by
  simp only [Op.bytesLess,Bool.or_eq_true,Bool.and_eq_true,decide_eq_true_eq,beq_iff_eq] at h1 h2 ⊢
  rcases h1 with h1 | ⟨rfl,h1⟩
  ·rcases h2 with h2 | ⟨rfl,h2⟩
   ·rw [UInt8.lt_iff_toNat_lt] at *;exact .inl (by omega)
   ·exact .inl h1
  ·rcases h2 with h2 | ⟨rfl,h2⟩
   ·exact .inl h2
   ·exact .inr ⟨rfl,less_trans h1 h2⟩
theorem less_tri:∀ {a b:List UInt8},Op.bytesLess a b = false → Op.bytesLess b a = false → a = b
 | [],[],_,_=>rfl
 | [],_ :: _,h,_=>by simp [Op.bytesLess] at h
 | _ :: _,[],_,h=>by simp [Op.bytesLess] at h
 | x :: a,y :: b,h1,h2=>by
  simp only [Op.bytesLess,Bool.or_eq_false_iff,Bool.and_eq_false_iff,decide_eq_false_iff_not,beq_eq_false_iff_ne] at h1 h2
  have hxy:x = y:=by
   rw [UInt8.lt_iff_toNat_lt] at h1 h2
   exact UInt8.toNat_inj.1 (by omega)
  subst hxy
  have h3:Op.bytesLess a b = false:=by rcases h1.2 with h | h;· exact absurd rfl h
                                       ·exact h
  have h4:Op.bytesLess b a = false:=by rcases h2.2 with h | h;· exact absurd rfl h
                                       ·exact h
  rw [less_tri h3 h4]
def cmpB (a b:List UInt8):Int:=if Op.bytesLess a b then -1 else if a = b then 0 else 1
theorem cmpB_self (a:List UInt8):cmpB a a = 0:=by unfold cmpB;rw [less_self];simp
theorem cmpB_zero {a b:List UInt8}:cmpB a b = 0 ↔ a = b:=by
 constructor
 ·intro h
  unfold cmpB at h
  split at h
  ·cases h
  ·split at h
   ·assumption
   ·cases h
 ·rintro rfl;exact cmpB_self a
theorem cmpB_lt {a b:List UInt8}:cmpB a b < 0 ↔ Op.bytesLess a b = true:=by
 unfold cmpB
 split
 ·simp [*]
 ·split <;> simp [*,less_self]
theorem nanS_any (w:World) (a:ByteArray):Calls Tryz.prog 75 #[.string a] w fun e w'=>e = .returned (.bool false) ∧ w' = w:=by
 go_enter Tryz.func75,Tryz.ntmps75
 go_wp2
 go_ret
 exact ⟨by simp,rfl⟩
theorem compareS_any (w:World) (a b:List UInt8):Calls Tryz.prog 44 #[.string (str a),.string (str b)] w fun e w'=>e = .returned (.int .i64 (cmpB a b)) ∧ w' = w:=by
 go_enter Tryz.func44,Tryz.ntmps44
 go_wp2_with fail
 go_at_call 75
 refine (nanS_any w (str a)).mono ?_
 rintro e w1 ⟨rfl,rfl⟩
 go_wp2_with fail
 go_at_call 75
 refine (nanS_any _ (str b)).mono ?_
 rintro e w1 ⟨rfl,rfl⟩
 have ha:=str_toList a
 have hb:=str_toList b
 have e1:Op.bytesLess a b = true → cmpB a b = -1:=fun h=>by simp [cmpB,h]
 have e2:Op.bytesLess a b = false → a ≠ b → cmpB a b = 1:=fun h h'=>by simp [cmpB,h,h']
 have e3:Op.bytesLess a b = false → a = b → cmpB a b = 0:=fun h h'=>by rw [h'] at h ⊢;exact cmpB_self b
 cases h1:Op.bytesLess a b with
 | true =>
  have E:=Lib.hid (e1 h1)
  clear e1 e2 e3
  go_wp2_with fail
  go_ret
  exact ⟨by rw [E.out];rfl,rfl⟩
 | false =>
  by_cases h2:a = b
  ·have E:=Lib.hid (e3 h1 h2)
   have hq:(a == b) = true:=by simp [h2]
   clear e1 e2 e3 h2
   go_wp2_with fail
   go_ret
   exact ⟨by rw [E.out];rfl,rfl⟩
  ·have E:=Lib.hid (e2 h1 h2)
   have hq:(a == b) = false:=by simp [h2]
   clear e1 e2 e3 h2
   go_wp2_with fail
   go_ret
   exact ⟨by rw [E.out];rfl,rfl⟩
end Go.Proofs.YthehiobacjjakaaGreatDoor
