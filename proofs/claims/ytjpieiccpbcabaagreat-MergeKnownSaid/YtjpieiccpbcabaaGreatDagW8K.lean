/- Rows of IDs sorted by slices.SortFunc; the order of IDs. Contracts: cmp.Or, the order by depth and ID, sorted, Ancestors, Reaches. Contracts: sorted, Ancestors, Reaches. Contract: Heads. Contract: Bases. -/
import Derived.Test.YtjpieiccpbcabaaGreatSortLK
import Derived.Test.YtjpieiccpbcabaaGreatDagW4K
namespace Go.Proofs.YtjpieiccpbcabaaGreat
open Go.RowKit Go.Maps Go.Sort Go.Shelf
set_option linter.unusedVariables false
set_option linter.unusedSimpArgs false

theorem cbD_anti (a b:List UInt8):Lib.compareBytes a b = - Lib.compareBytes b a:=by
 induction a generalizing b with
 | nil=>cases b <;> simp [Lib.compareBytes]
 | cons x a ih=>cases b with
  | nil=>simp [Lib.compareBytes]
  | cons y b =>
   simp only [Lib.compareBytes]
   rcases Nat.lt_trichotomy x.toNat y.toNat with h | h | h
   ·have h1:x < y:=UInt8.lt_iff_toNat_lt.2 h
    have h2:¬ y < x:=fun h'=>by have:=UInt8.lt_iff_toNat_lt.1 h';omega
    simp [h1,h2]
   ·have h1:¬ x < y:=fun h'=>by have:=UInt8.lt_iff_toNat_lt.1 h';omega
    have h2:¬ y < x:=fun h'=>by have:=UInt8.lt_iff_toNat_lt.1 h';omega
    simp [h1,h2,ih b]
   ·have h1:¬ x < y:=fun h'=>by have:=UInt8.lt_iff_toNat_lt.1 h';omega
    have h2:y < x:=UInt8.lt_iff_toNat_lt.2 h
    simp [h1,h2]
theorem cbD_eq (a b:List UInt8):Lib.compareBytes a b = 0 ↔ a = b:=by
 induction a generalizing b with
 | nil=>cases b <;> simp [Lib.compareBytes]
 | cons x a ih=>cases b with
  | nil=>simp [Lib.compareBytes]
  | cons y b =>
   simp only [Lib.compareBytes]
   rcases Nat.lt_trichotomy x.toNat y.toNat with h | h | h
   ·have h1:x < y:=UInt8.lt_iff_toNat_lt.2 h
    have h2:x ≠ y:=by rintro rfl;omega
    simp [h1,h2]
   ·have h1:¬ x < y:=fun h'=>by have:=UInt8.lt_iff_toNat_lt.1 h';omega
    have h2:¬ y < x:=fun h'=>by have:=UInt8.lt_iff_toNat_lt.1 h';omega
    have h3:x = y:=UInt8.toNat_inj.1 h
    simp [h1,h2,h3,ih b]
   ·have h1:¬ x < y:=fun h'=>by have:=UInt8.lt_iff_toNat_lt.1 h';omega
    have h2:y < x:=UInt8.lt_iff_toNat_lt.2 h
    have h3:x ≠ y:=by rintro rfl;omega
    simp [h1,h2,h3]
theorem cbD_trans (a b c:List UInt8) (h:Lib.compareBytes a b < 0) (h':Lib.compareBytes b c < 0):Lib.compareBytes a c < 0:=by
 induction a generalizing b c with
 | nil=>cases c with
  | nil=>cases b <;> simp [Lib.compareBytes] at h'
  | cons z c=>simp [Lib.compareBytes]
 | cons x a ih=>cases b with
  | nil=>simp [Lib.compareBytes] at h
  | cons y b=>cases c with
   | nil=>simp [Lib.compareBytes] at h'
   | cons z c =>
    simp only [Lib.compareBytes] at h h' ⊢
    have lt_n:∀ u v:UInt8,u < v ↔ u.toNat < v.toNat:=fun u v=>UInt8.lt_iff_toNat_lt
    simp only [lt_n] at h h' ⊢
    by_cases h1:x.toNat < y.toNat
    ·by_cases h2:y.toNat < z.toNat
     ·rw [if_pos (by omega)];decide
     ·rw [if_neg h2] at h'
      by_cases h3:z.toNat < y.toNat
      ·rw [if_pos h3] at h';exact absurd h' (by decide)
      ·rw [if_pos (by omega)];decide
    ·rw [if_neg h1] at h
     by_cases h2:y.toNat < x.toNat
     ·rw [if_pos h2] at h;exact absurd h (by decide)
     ·rw [if_neg h2] at h
      by_cases h3:y.toNat < z.toNat
      ·rw [if_pos (by omega)];decide
      ·rw [if_neg h3] at h'
       by_cases h4:z.toNat < y.toNat
       ·rw [if_pos h4] at h';exact absurd h' (by decide)
       ·rw [if_neg h4] at h'
        rw [if_neg (by omega),if_neg (by omega)]
        exact ih b c h h'
theorem cmpD_eq (x y:ID):cmpI x y = 0 ↔ x = y:=by
 unfold cmpI
 rw [cbD_eq]
 exact ⟨fun h=>Subtype.ext h,fun h=>congrArg Subtype.val h⟩
theorem cmpD_anti (x y:ID):cmpI x y = - cmpI y x:=cbD_anti _ _
theorem cmpD_trans {x y z:ID} (h:cmpI x y < 0) (h':cmpI y z < 0):cmpI x z < 0:=cbD_trans _ _ _ h h'
theorem cmpD_self (x:ID):cmpI x x = 0:=(cmpD_eq x x).2 rfl
theorem lt_cmpI (x y:ID):ltOf cmpI x y = decide (cmpI x y < 0):=rfl
theorem swoI:SWO (ltOf cmpI) where
 irrefl x:=by simp [lt_cmpI,cmpD_self]
 trans x y z h1 h2:=by
  simp only [lt_cmpI,decide_eq_true_eq] at *
  exact cmpD_trans h1 h2
 ntrans x y z h1 h2:=by
  simp only [lt_cmpI,decide_eq_false_iff_not] at *
  intro h
  have e1:=cmpD_anti x y
  have e2:=cmpD_anti y z
  rcases Int.lt_trichotomy (cmpI y x) 0 with h3 | h3 | h3
  ·exact h2 (cmpD_trans h3 h)
  ·have:=(cmpD_eq y x).1 h3;subst this;exact h2 h
  ·omega
theorem totI:∀ x y,(ltOf cmpI) x y = false → (ltOf cmpI) y x = false → x = y:=by
 intro x y h1 h2
 simp only [lt_cmpI,decide_eq_false_iff_not] at *
 have:=cmpD_anti x y
 exact (cmpD_eq x y).1 (by omega)

def encSI (x:ID):List Value:=bv x.1
theorem flat_idc (l:List ID):flatK encSI 32 l.toArray = (idc l).toArray:=by
 apply Array.ext_getElem?
 intro t
 by_cases ht:t < l.length * 32
 ·have hi:t / 32 < l.length:=by omega
  have hj:t % 32 < 32:=Nat.mod_lt _ (by decide)
  have e1:(bv (l[t / 32]).1)[t % 32]? = some ((bv (l[t / 32]).1)[t % 32]'(by simp [(l[t / 32]).2];exact hj)):=List.getElem?_eq_getElem _
  have e2:=idc_get l (t / 32) (t % 32) hi _ e1
  rw [show t / 32 * 32 + t % 32 = t by omega] at e2
  have e3:(idc l).toArray[t]? = _:=(List.getElem?_toArray ..).trans e2
  rw [e3]
  have h3:t < (flatK encSI 32 l.toArray).size:=by simpa using ht
  rw [Array.getElem?_eq_getElem h3]
  congr 1
  have:=get_flatK encSI 32 l.toArray t (by simpa using ht)
  rw [getElem!_pos _ t h3] at this
  rw [this]
  simp [encSI,hi,(l[t / 32]).2,hj]
 ·rw [Array.getElem?_eq_none (by simpa using ht),Array.getElem?_eq_none (by simp [idc_length];omega)]
def sortBy (cf:ID → ID → Int) (l:List ID):List ID:=l.mergeSort fun x y=>!(ltOf cf) y x
theorem sortBy_length (cf:ID → ID → Int) (l:List ID):(sortBy cf l).length = l.length:=List.length_mergeSort l
theorem sortBy_perm (cf:ID → ID → Int) (l:List ID):(sortBy cf l).Perm l:=List.mergeSort_perm l _

theorem putCells_idc (cur:Array Value) (l:List ID) (n:Nat) (hn:n = l.length * 32) (h:l.length * 32 ≤ cur.size):(putCells id 0 (idc l).toArray cur).toList.take n = idc l:=by
 subst hn
 have hl:=idc_length l
 apply List.ext_getElem?
 intro j
 by_cases hj:j < l.length * 32
 ·rw [List.getElem?_take_of_lt hj,Array.getElem?_toList]
  simp [putCells,hl,hj,show j < cur.size by omega]
 ·rw [List.getElem?_take_eq_none (by omega),List.getElem?_eq_none (by omega)]

theorem sort_any (w0 w:World) (A:Option Addr) (c n:Nat) (l:List ID) (hn:l.length = n) (ho:OwnD w0 w A c l) (hl:l.length ≤ 1000000000000) (g:Nat) (cb:Array Value) (cf:ID → ID → Int) (hO:SWO (ltOf cf)) (hT:∀ x y,(ltOf cf) x y = false → (ltOf cf) y x = false → x = y)
  (eg:∀ args w,(callFunc g args).run Tryz.prog w = .ok (.enter g args) w) (hcmp:∀ blk,A = some ⟨blk,0,none⟩ → blk < w.heap.size → CmpLays Tryz.prog g cb encSI 32 cf blk 0 l.length w) :
  Calls Tryz.prog 87 #[.slice A n c,.func (.func g) #[] cb] w fun e w'=>e = .returned (.tuple #[]) ∧ OwnD w0 w' A c (sortBy cf l) ∧ Fr (fun b=>A.map (·.block) = some b) w w':=by
 subst hn
 by_cases h0:l = []
 ·subst h0
  refine (AnyF.slices_SortFunc_none Tryz.sortI A c _ w).mono ?_
  rintro e w' ⟨rfl,rfl⟩
  exact ⟨rfl,by simpa [sortBy] using ho,Fr.refl _ _⟩
 ·have hlen:0 < l.length:=List.length_pos_iff.2 h0
  have ho':=ho
  rcases ho'.2 with ⟨hv,h00⟩ | ⟨blk,cap,cur,hv,hb,hg,hnc,hm,hs,ht⟩
  ·omega
  ·injection hv with h1 _ h3
   subst h1;subst h3
   have hblk:blk < w.heap.size:=(Array.getElem?_eq_some_iff.1 hg).1
   have hH:HoldsK encSI 32 w blk 0 l.toArray:=by
    unfold HoldsK
    rw [flat_idc]
    intro j hj
    have hj':j < (idc l).length:=by simpa using hj
    refine ⟨?_,by simp [World.frozen?,hg]⟩
    have:=(Sl.own ho) (by intro h;rw [h] at hj';simp at hj')
    obtain ⟨g',off',e,_,hc⟩:=this
    injection e with e
    injection e with e1 e2
    subst e1;subst e2
    rw [hc j _ (List.getElem?_eq_getElem hj')]
    simp [hj']
   have hS:=AnyQ.slices_SortFunc_total Tryz.sortI 32 Tryz.isAgg24 sizeID encSI (fun x=>by simp [encSI,x.2]) (fun x v hv=>bv_one _ v hv) cf hO g cb blk 0 c l.toArray w eg (by simpa using hcmp blk rfl hblk) hH hblk (by simp;omega) hT
   change Calls Tryz.prog 87 _ _ _ at hS
   rw [List.size_toArray] at hS
   refine hS.mono ?_
   rintro e w' ⟨rfl,n,os,rfl⟩
   have hsl:(l.mergeSort fun x y=>!(ltOf cf) y x) = sortBy cf l:=rfl
   simp only [List.toList_toArray] at *
   rw [hsl]
   have hlen2:=sortBy_length cf l
   refine ⟨trivial,⟨idc_length _,.inr ⟨blk,c,putCells id 0 (idc (sortBy cf l)).toArray cur,rfl,hb,?_,by rw [hlen2];exact hnc,hm,by simp [putCells,hs],putCells_idc _ _ _ rfl (by rw [hlen2,hs];exact Nat.mul_le_mul_right 32 hnc)⟩⟩,?_⟩
   ·unfold sortWorldK putRowK
    rw [heap_grow_old _ _ (by simpa using hblk),flat_idc]
    simp [putRow,mapBlock,Sort.ahead,Array.getElem?_modify,hg,onCells]
   ·refine ⟨rfl,rfl,rfl,by simp [sortWorldK,putRowK,Sort.ahead],fun k hk hne=>?_⟩
    unfold sortWorldK putRowK
    rw [heap_grow_old _ _ (by simpa using hk)]
    have:blk ≠ k:=fun e=>hne (by simp [e])
    simp [putRow,mapBlock,Sort.ahead,Array.getElem?_modify,this]
theorem sortC_any (w0 w:World) (A:Option Addr) (c n:Nat) (l:List ID) (hn:l.length = n) (ho:OwnD w0 w A c l) (hl:l.length ≤ 1000000000000) :
  Calls Tryz.prog 87 #[.slice A n c,.func (.func 88) #[] #[]] w fun e w'=>e = .returned (.tuple #[]) ∧ OwnD w0 w' A c (sortBy cmpI l) ∧ Fr (fun b=>A.map (·.block) = some b) w w':=by
 refine sort_any w0 w A c n l hn ho hl 88 #[] cmpI swoI totI (enters_of Tryz.func88 (by kernel_rfl) rfl) (fun blk _ _ m os dk hdk x y=>?_)
 have:=cmp_any (sortWorldK encSI 32 w blk 0 m dk os) x y
 simp only [encI,idA_eq] at this
 exact this.mono (fun e w' h=>h)
end Go.Proofs.YtjpieiccpbcabaaGreat
namespace Go.Proofs.YtjpieiccpbcabaaGreat
open Go.RowKit Go.Maps Go.Sort Go.Shelf
set_option linter.unusedVariables false
set_option linter.unusedSimpArgs false

def GrD (w w':World):Prop:=∃ q os,w' = grow (w.drewN q) os
section
variable {w w1:World}
theorem GrD.refl (w:World):GrD w w:=⟨0,#[],by simp [grow,World.drewN]⟩
theorem GrD.alloc (h:GrD w w1) (o:Obj):GrD w (w1.alloc o):=by
 obtain ⟨q,os,rfl⟩:=h
 exact ⟨q,os ++ #[o],by rw [alloc_eq_grow,grow_grow]⟩
theorem GrD.drew (h:GrD w w1):GrD w w1.drew:=by
 obtain ⟨q,os,rfl⟩:=h
 exact ⟨q + 1,os,rfl⟩
theorem GrD.trans {w2:World} (h:GrD w w1) (k:GrD w1 w2):GrD w w2:=by
 obtain ⟨q,os,rfl⟩:=h
 obtain ⟨q',os',rfl⟩:=k
 exact ⟨q + q',os ++ os',by simp [grow,World.drewN,Nat.add_assoc]⟩
theorem GrD.fr (h:GrD w w1):Fr noB w w1:=by
 obtain ⟨q,os,rfl⟩:=h
 refine ⟨rfl,rfl,rfl,by simp [grow,World.drewN],fun k hk _=>?_⟩
 simp [grow,World.drewN,Array.getElem?_append_left hk]
end

@[irreducible] def orID (a b:Int):Int:=if a = 0 then b else a
theorem orID_eq (a b:Int):orID a b = if a = 0 then b else a:=by unfold orID;rfl
theorem orD_any (w:World) (A:Option Addr) (c:Nat) (a b:Int) (h:Sl w A [.int .i64 a,.int .i64 b]) :
  Calls Tryz.prog 101 #[.slice A 2 c] w fun e w'=>e = .returned (.int .i64 (orID a b)) ∧ w' = w:=by
 obtain ⟨g,off,rfl,_,hc⟩:=h (by simp)
 have c0:=hc 0 _ rfl
 have c1:=hc 1 _ rfl
 rw [Nat.add_zero] at c0
 go_enter Tryz.func101,Tryz.ntmps101
 go_wp2
 refine wp_loop_rounds 3 ?_
 by_cases ha:a = 0
 ·by_cases hb:b = 0
  ·subst ha hb
   rw [rounds_succ]
   go_wp2
   rw [rounds_succ]
   go_wp2
   rw [rounds_succ]
   go_wp2
   go_ret
   exact ⟨by simp [orID_eq],rfl⟩
  ·subst ha
   rw [rounds_succ]
   go_wp2
   rw [rounds_succ]
   go_wp2
   go_ret
   exact ⟨by simp [orID_eq],rfl⟩
 ·rw [rounds_succ]
  go_wp2
  go_ret
  exact ⟨by simp [orID_eq,ha],rfl⟩

def cfD (G:Dg) (x y:ID):Int:=orID (Lib.compareInt (depthG G x) (depthG G y)) (cmpI x y)
theorem cfD_lt (G:Dg) (x y:ID):cfD G x y < 0 ↔ depthG G x < depthG G y ∨ (depthG G x = depthG G y ∧ cmpI x y < 0):=by
 unfold cfD
 rw [orID_eq]
 unfold Lib.compareInt
 rcases Nat.lt_trichotomy (depthG G x) (depthG G y) with h | h | h
 ·have h1:((depthG G x:Nat):Int) < depthG G y:=by omega
  simp [h1,h]
 ·have h1:¬ ((depthG G x:Nat):Int) < depthG G y:=by omega
  have h2:¬ ((depthG G y:Nat):Int) < depthG G x:=by omega
  simp [h1,h2,h]
 ·have h1:¬ ((depthG G x:Nat):Int) < depthG G y:=by omega
  have h2:((depthG G y:Nat):Int) < depthG G x:=by omega
  have h3:¬ depthG G x < depthG G y:=by omega
  have h4:depthG G x ≠ depthG G y:=by omega
  simp [h1,h2,h3,h4]
theorem swoD (G:Dg):SWO (ltOf (cfD G)) where
 irrefl x:=by simp [ltOf,cfD_lt,cmpD_self]
 trans x y z h1 h2:=by
  simp only [ltOf,decide_eq_true_eq,cfD_lt] at *
  rcases h1 with h1 | ⟨h1,h1'⟩ <;> rcases h2 with h2 | ⟨h2,h2'⟩
  ·exact .inl (by omega)
  ·exact .inl (by omega)
  ·exact .inl (by omega)
  ·exact .inr ⟨by omega,cmpD_trans h1' h2'⟩
 ntrans x y z h1 h2:=by
  simp only [ltOf,decide_eq_false_iff_not,cfD_lt,not_or,not_and] at *
  refine ⟨by omega,fun e=>?_⟩
  have e1:depthG G x = depthG G y:=by omega
  have e2:depthG G y = depthG G z:=by omega
  have:=swoI.ntrans x y z (by simpa [ltOf] using h1.2 e1) (by simpa [ltOf] using h2.2 e2)
  simpa [ltOf] using this
theorem totD (G:Dg):∀ x y,(ltOf (cfD G)) x y = false → (ltOf (cfD G)) y x = false → x = y:=by
 intro x y h1 h2
 simp only [ltOf,decide_eq_false_iff_not,cfD_lt,not_or,not_and] at *
 have e:depthG G x = depthG G y:=by omega
 exact totI x y (by simpa [ltOf] using h1.2 e) (by simpa [ltOf] using h2.2 e.symm)

theorem compare_any (w:World) (a b:Int):Calls Tryz.prog 102 #[.int .i64 a,.int .i64 b] w fun e w'=>e = .returned (.int .i64 (Lib.compareInt a b)) ∧ w' = w:=AnyG.cmp_Compare_int Tryz.cmpInt a b w
set_option maxRecDepth 100000 in
set_option maxHeartbeats 2000000 in
theorem closure_any (w:World) (D b0:Nat) (F:Nat → Prop) (G:Dg) (h:DagAt w D F G) (hb:w.cell? ⟨b0,0,none⟩ = some (.pointer (some ⟨D,0,none⟩))) (x y:ID) :
  Calls Tryz.prog 100 #[encI x,encI y,.pointer (some ⟨b0,0,none⟩)] w fun e w'=>e = .returned (.int .i64 (cfD G x y)) ∧ GrD w w':=by
 obtain ⟨A,K,kv,ks,h⟩:=h
 obtain ⟨B1,k1,hn1,_⟩:=h.node x
 obtain ⟨B2,k2,hn2,_⟩:=h.node y
 have G1:GrD w ((w.alloc (ido x)).alloc (ido y)).drew:=(((GrD.refl w).alloc _).alloc _).drew
 have lb:b0 < w.heap.size:=World.block_lt_of_cell? _ _ hb
 have fb:∀ w',GrD w w' → w'.cell? ⟨b0,0,none⟩ = some (.pointer (some ⟨D,0,none⟩)):=fun w' g=>(World.cell?_of_block (w:=w) (a:=⟨b0,0,none⟩) (g.fr.block b0 lb (by simp [noB]))).trans hb
 have r1:rdI ((w.alloc (ido x)).alloc (ido y)).drew w.heap.size 0 = some x:=by rw [rdI_drew,rdI_old _ _ _ _ (by simp),rdI_new]
 have r2:rdI ((w.alloc (ido x)).alloc (ido y)).drew (w.heap.size + 1) 0 = some y:=by
  have:=rdI_new (w.alloc (ido x)) y
  rw [World.size_alloc] at this
  rw [rdI_drew];exact this
 have h1:=h.fr0 G1.fr
 have b1:=fb _ G1
 clear hb
 go_enter Tryz.func100,Tryz.ntmps100
 go_wp2_with fail
 refine wp_region_N 20 (fun w'=>w'.cell? ⟨b0,0,none⟩ = some (.pointer (some ⟨D,0,none⟩)) ∧ w'.cell? ⟨D,0,none⟩ = some (.map (some A)) ∧ mpI w' A = some kv ∧ rdI w' w.heap.size 0 = some x ∧ rdI w' (w.heap.size + 1) 0 = some y) (by kernel_rfl) (by kernel_rfl) ⟨b1,h1.c0,h1.all,r1,r2⟩ (fun hA hF=>?_)
 refine wpAnyN_take (i:=0) (v:=?_) hA rfl (by decide) (by kernel_rfl) (by kernel_rfl) (fun _ _ _ h=>h) (Or.inl ⟨by rfl,?_⟩) hF (fun hA=>?_)
 rotate_left
 ·intro wS hSw;(try dsimp only at hSw);obtain ⟨s1,s2,s3,s4,s5⟩:=hSw;first | (apply Eq.trans;apply ex_ld_id;exact rfl;exact rfl;assumption;with_reducible rfl) | (go_simp;try with_reducible rfl)
 try simp only [List.getElem_toArray,List.getElem_cons_zero,List.getElem_cons_succ,Act.put,List.setIfInBounds_toArray,List.set_cons_zero,List.set_cons_succ]
 refine wpAnyN_take (i:=1) (v:=?_) hA rfl (by decide) (by kernel_rfl) (by kernel_rfl) (fun _ _ _ h=>h) (Or.inl ⟨by rfl,?_⟩) hF (fun hA=>?_)
 rotate_left
 ·intro wS hSw;(try dsimp only at hSw);obtain ⟨s1,s2,s3,s4,s5⟩:=hSw;first | (apply Eq.trans;apply ex_ld_id;exact rfl;exact rfl;assumption;with_reducible rfl) | (go_simp;try with_reducible rfl)
 try simp only [List.getElem_toArray,List.getElem_cons_zero,List.getElem_cons_succ,Act.put,List.setIfInBounds_toArray,List.set_cons_zero,List.set_cons_succ]
 refine wpAnyN_take (i:=2) (v:=?_) hA rfl (by decide) (by kernel_rfl) (by kernel_rfl) (fun _ _ _ h=>h) (Or.inl ⟨by rfl,?_⟩) hF (fun hA=>?_)
 rotate_left
 ·intro wS hSw;(try dsimp only at hSw);obtain ⟨s1,s2,s3,s4,s5⟩:=hSw;first | (apply Eq.trans;apply ex_ld_id;exact rfl;exact rfl;assumption;with_reducible rfl) | (go_simp;try with_reducible rfl)
 try simp only [List.getElem_toArray,List.getElem_cons_zero,List.getElem_cons_succ,Act.put,List.setIfInBounds_toArray,List.set_cons_zero,List.set_cons_succ]
 refine wpAnyN_take (i:=3) (v:=?_) hA rfl (by decide) (by kernel_rfl) (by kernel_rfl) (fun _ _ _ h=>h) (Or.inl ⟨by rfl,?_⟩) hF (fun hA=>?_)
 rotate_left
 ·intro wS hSw;(try dsimp only at hSw);obtain ⟨s1,s2,s3,s4,s5⟩:=hSw;first | (apply Eq.trans;apply ex_ld_id;exact rfl;exact rfl;assumption;with_reducible rfl) | (go_simp;try with_reducible rfl)
 try simp only [List.getElem_toArray,List.getElem_cons_zero,List.getElem_cons_succ,Act.put,List.setIfInBounds_toArray,List.set_cons_zero,List.set_cons_succ]
 refine wpAnyN_take (i:=4) (v:=?_) hA rfl (by decide) (by kernel_rfl) (by kernel_rfl) (fun _ _ _ h=>h) (Or.inl ⟨by rfl,?_⟩) hF (fun hA=>?_)
 rotate_left
 ·intro wS hSw;(try dsimp only at hSw);obtain ⟨s1,s2,s3,s4,s5⟩:=hSw;first | (apply Eq.trans;apply ex_ld_id;exact rfl;exact rfl;assumption;with_reducible rfl) | (go_simp;try with_reducible rfl)
 try simp only [List.getElem_toArray,List.getElem_cons_zero,List.getElem_cons_succ,Act.put,List.setIfInBounds_toArray,List.set_cons_zero,List.set_cons_succ]
 refine wpAnyN_take (i:=5) (v:=?_) hA rfl (by decide) (by kernel_rfl) (by kernel_rfl) (fun _ _ _ h=>h) (Or.inl ⟨by rfl,?_⟩) hF (fun hA=>?_)
 rotate_left
 ·intro wS hSw;(try dsimp only at hSw);obtain ⟨s1,s2,s3,s4,s5⟩:=hSw;first | (apply Eq.trans;apply ex_ld_id;exact rfl;exact rfl;assumption;with_reducible rfl) | (go_simp;try with_reducible rfl)
 try simp only [List.getElem_toArray,List.getElem_cons_zero,List.getElem_cons_succ,Act.put,List.setIfInBounds_toArray,List.set_cons_zero,List.set_cons_succ]
 refine wpAnyN_take (i:=6) (v:=?_) hA rfl (by decide) (by kernel_rfl) (by kernel_rfl) (fun _ _ _ h=>h) (Or.inl ⟨by rfl,?_⟩) hF (fun hA=>?_)
 rotate_left
 ·intro wS hSw;(try dsimp only at hSw);obtain ⟨s1,s2,s3,s4,s5⟩:=hSw;first | (apply Eq.trans;apply ex_ld_id;exact rfl;exact rfl;assumption;with_reducible rfl) | (go_simp;try with_reducible rfl)
 try simp only [List.getElem_toArray,List.getElem_cons_zero,List.getElem_cons_succ,Act.put,List.setIfInBounds_toArray,List.set_cons_zero,List.set_cons_succ]
 refine wpAnyN_take (i:=7) (v:=?_) hA rfl (by decide) (by kernel_rfl) (by kernel_rfl) (fun _ _ _ h=>h) (Or.inl ⟨by rfl,?_⟩) hF (fun hA=>?_)
 rotate_left
 ·intro wS hSw;(try dsimp only at hSw);obtain ⟨s1,s2,s3,s4,s5⟩:=hSw;first | (apply Eq.trans;apply ex_ld_id;exact rfl;exact rfl;assumption;with_reducible rfl) | (go_simp;try with_reducible rfl)
 try simp only [List.getElem_toArray,List.getElem_cons_zero,List.getElem_cons_succ,Act.put,List.setIfInBounds_toArray,List.set_cons_zero,List.set_cons_succ]
 refine wpAnyN_take (i:=8) (v:=?_) hA rfl (by decide) (by kernel_rfl) (by kernel_rfl) (fun _ _ _ h=>h) (Or.inl ⟨by rfl,?_⟩) hF (fun hA=>?_)
 rotate_left
 ·intro wS hSw;(try dsimp only at hSw);obtain ⟨s1,s2,s3,s4,s5⟩:=hSw;first | (apply Eq.trans;apply ex_ld_id;exact rfl;exact rfl;assumption;with_reducible rfl) | (go_simp;try with_reducible rfl)
 try simp only [List.getElem_toArray,List.getElem_cons_zero,List.getElem_cons_succ,Act.put,List.setIfInBounds_toArray,List.set_cons_zero,List.set_cons_succ]
 refine wpAnyN_take (i:=9) (v:=?_) hA rfl (by decide) (by kernel_rfl) (by kernel_rfl) (fun _ _ _ h=>h) (Or.inl ⟨by rfl,?_⟩) hF (fun hA=>?_)
 rotate_left
 ·intro wS hSw;(try dsimp only at hSw);obtain ⟨s1,s2,s3,s4,s5⟩:=hSw;first | (apply Eq.trans;apply ex_ld_id;exact rfl;exact rfl;assumption;with_reducible rfl) | (go_simp;try with_reducible rfl)
 try simp only [List.getElem_toArray,List.getElem_cons_zero,List.getElem_cons_succ,Act.put,List.setIfInBounds_toArray,List.set_cons_zero,List.set_cons_succ]
 refine wpAnyN_take (i:=10) (v:=?_) hA rfl (by decide) (by kernel_rfl) (by kernel_rfl) (fun _ _ _ h=>h) (Or.inl ⟨by rfl,?_⟩) hF (fun hA=>?_)
 rotate_left
 ·intro wS hSw;(try dsimp only at hSw);obtain ⟨s1,s2,s3,s4,s5⟩:=hSw;first | (apply Eq.trans;apply ex_ld_id;exact rfl;exact rfl;assumption;with_reducible rfl) | (go_simp;try with_reducible rfl)
 try simp only [List.getElem_toArray,List.getElem_cons_zero,List.getElem_cons_succ,Act.put,List.setIfInBounds_toArray,List.set_cons_zero,List.set_cons_succ]
 refine wpAnyN_take (i:=11) (v:=?_) hA rfl (by decide) (by kernel_rfl) (by kernel_rfl) (fun _ _ _ h=>h) (Or.inl ⟨by rfl,?_⟩) hF (fun hA=>?_)
 rotate_left
 ·intro wS hSw;(try dsimp only at hSw);obtain ⟨s1,s2,s3,s4,s5⟩:=hSw;first | (apply Eq.trans;apply ex_ld_id;exact rfl;exact rfl;assumption;with_reducible rfl) | (go_simp;try with_reducible rfl)
 try simp only [List.getElem_toArray,List.getElem_cons_zero,List.getElem_cons_succ,Act.put,List.setIfInBounds_toArray,List.set_cons_zero,List.set_cons_succ]
 refine wpAnyN_take (i:=12) (v:=?_) hA rfl (by decide) (by kernel_rfl) (by kernel_rfl) (fun _ _ _ h=>h) (Or.inl ⟨by rfl,?_⟩) hF (fun hA=>?_)
 rotate_left
 ·intro wS hSw;(try dsimp only at hSw);obtain ⟨s1,s2,s3,s4,s5⟩:=hSw;first | (apply Eq.trans;apply ex_ld_id;exact rfl;exact rfl;assumption;with_reducible rfl) | (go_simp;try with_reducible rfl)
 try simp only [List.getElem_toArray,List.getElem_cons_zero,List.getElem_cons_succ,Act.put,List.setIfInBounds_toArray,List.set_cons_zero,List.set_cons_succ]
 refine wpAnyN_take (i:=13) (v:=?_) hA rfl (by decide) (by kernel_rfl) (by kernel_rfl) (fun _ _ _ h=>h) (Or.inl ⟨by rfl,?_⟩) hF (fun hA=>?_)
 rotate_left
 ·intro wS hSw;(try dsimp only at hSw);obtain ⟨s1,s2,s3,s4,s5⟩:=hSw;first | (apply Eq.trans;apply ex_ld_id;exact rfl;exact rfl;assumption;with_reducible rfl) | (go_simp;try with_reducible rfl)
 try simp only [List.getElem_toArray,List.getElem_cons_zero,List.getElem_cons_succ,Act.put,List.setIfInBounds_toArray,List.set_cons_zero,List.set_cons_succ]
 refine wpAnyN_take (i:=15) (v:=?_) hA rfl (by decide) (by kernel_rfl) (by kernel_rfl) (fun _ _ _ h=>h) (Or.inl ⟨by rfl,?_⟩) hF (fun hA=>?_)
 rotate_left
 ·intro wS hSw;(try dsimp only at hSw);obtain ⟨s1,s2,s3,s4,s5⟩:=hSw;first | (apply Eq.trans;apply ex_ld_id;exact rfl;exact rfl;assumption;with_reducible rfl) | (go_simp;try with_reducible rfl)
 try simp only [List.getElem_toArray,List.getElem_cons_zero,List.getElem_cons_succ,Act.put,List.setIfInBounds_toArray,List.set_cons_zero,List.set_cons_succ]
 refine wpAnyN_take (i:=16) (v:=?_) hA rfl (by decide) (by kernel_rfl) (by kernel_rfl) (fun _ _ _ h=>h) (Or.inl ⟨by rfl,?_⟩) hF (fun hA=>?_)
 rotate_left
 ·intro wS hSw;(try dsimp only at hSw);obtain ⟨s1,s2,s3,s4,s5⟩:=hSw;first | (apply Eq.trans;apply ex_ld_id;exact rfl;exact rfl;assumption;with_reducible rfl) | (go_simp;try with_reducible rfl)
 try simp only [List.getElem_toArray,List.getElem_cons_zero,List.getElem_cons_succ,Act.put,List.setIfInBounds_toArray,List.set_cons_zero,List.set_cons_succ]
 refine wpAnyN_one (i:=14) hA (by kernel_rfl) (by decide) rfl (fun K' hK=>?_)
 go_simp
 go_at_call 102
 refine (compare_any _ _ _).mono ?_
 rintro e w2 ⟨rfl,rfl⟩
 refine hK.out _ _ ⟨b1,h1.c0,h1.all,r1,r2⟩ (fun hA=>?_)
 clear hK K'
 refine wpAnyN_one (i:=17) hA (by kernel_rfl) (by decide) rfl (fun K' hK=>?_)
 go_simp
 go_at_call 88
 refine (cmp_any _ x y).mono ?_
 rintro e w3 ⟨rfl,hg3⟩
 have hg3:GrD _ _:=hg3
 have f3:=hg3.fr
 have G3:=G1.trans hg3
 have h3:=h.fr0 G3.fr
 have q1:=rdI_fr r1 (rdI_lt r1) f3 (by simp [noB])
 have q2:=rdI_fr r2 (rdI_lt r2) f3 (by simp [noB])
 refine hK.out _ _ ⟨fb _ G3,h3.c0,h3.all,q1,q2⟩ (fun hA=>?_)
 clear hK K'
 refine wpAnyN_one (i:=18) hA (by kernel_rfl) (by decide) rfl (fun K' hK=>?_)
 go_simp
 have G4:GrD w (w3.alloc (.cells #[.int .i64 (Lib.compareInt (depthG G x) (depthG G y)),.int .i64 (cmpI x y)] 3)):=G3.alloc _
 have h4:=h.fr0 G4.fr
 refine hK.out _ _ ⟨fb _ G4,h4.c0,h4.all,by rw [rdI_old _ _ _ _ (rdI_lt q1)];exact q1,by rw [rdI_old _ _ _ _ (rdI_lt q2)];exact q2⟩ (fun hA=>?_)
 clear hK K'
 refine wpAnyN_one (i:=19) hA (by kernel_rfl) (by decide) rfl (fun K' hK=>?_)
 go_simp
 go_at_call 101
 refine (orD_any _ _ _ (Lib.compareInt (depthG G x) (depthG G y)) (cmpI x y) (Sl.new _ _ _)).mono ?_
 rintro e w5 ⟨rfl,rfl⟩
 refine hK.out _ _ ⟨fb _ G4,h4.c0,h4.all,by rw [rdI_old _ _ _ _ (rdI_lt q1)];exact q1,by rw [rdI_old _ _ _ _ (rdI_lt q2)];exact q2⟩ (fun hA=>?_)
 clear hK K'
 refine wpAnyN_end rfl (by kernel_rfl) ?_
 simp only [List.drop_succ_cons,List.drop_zero]
 go_wp2
 go_ret
 exact ⟨rfl,G4⟩

def Rise (cf:ID → ID → Int) (l:List ID):Prop:=l.Pairwise fun x y=>cf x y < 0
theorem sortBy_rise {cf:ID → ID → Int} (hO:SWO (ltOf cf)) (hT:∀ x y,(ltOf cf) x y = false → (ltOf cf) y x = false → x = y) {l:List ID} (hn:l.Nodup):Rise cf (sortBy cf l):=by
 have h1:(sortBy cf l).Pairwise fun x y=>(!(ltOf cf) y x) = true:=by
  refine List.pairwise_mergeSort ?_ ?_ l
  ·intro a b c hab hbc
   simp only [Bool.not_eq_true'] at *
   exact hO.ntrans _ _ _ hbc hab
  ·intro a b
   cases h:ltOf cf b a with
   | false=>simp
   | true =>
    cases h2:ltOf cf a b with
    | false=>simp
    | true=>have:=hO.trans _ _ _ h h2;rw [hO.irrefl] at this;cases this
 have h2:(sortBy cf l).Nodup:=(sortBy_perm cf l).nodup_iff.2 hn
 have h3:=List.Pairwise.and h1 h2
 refine List.Pairwise.imp ?_ h3
 rintro a b ⟨ha,hne⟩
 cases h:ltOf cf a b with
 | true=>simpa [ltOf] using h
 | false=>exact absurd (hT a b h (by simpa using ha)) hne
theorem sortBy_mem (cf:ID → ID → Int) (l:List ID) (x:ID):x ∈ sortBy cf l ↔ x ∈ l:=(sortBy_perm cf l).mem_iff
def NewRise (w:World) (cf:ID → ID → Int) (S:ID → Prop) (e:Ending) (w':World):Prop:=∃ l,NewIDs w l e w' ∧ Rise cf l ∧ (∀ y,y ∈ l ↔ S y) ∧ l.length ≤ 1000000000

theorem RngL.ne_own {w:World} {it r:Nat} {kv left:List (ID × Value)} (h:RngL encI w it r kv left) {base n:Nat} {A:Option Addr} {c:Nat} {l:List ID} (ho:w.ownsRow base 24 32 (.slice A n c) n (idc l)) (g:Nat) (hg:A.map (·.block) = some g):g ≠ it ∧ g ≠ r:=by
 obtain ⟨es,clock,seen,hi,hb,_⟩:=h
 rcases ho.2 with ⟨hv,_⟩ | ⟨g',cap,cur,hv,_,hc,_⟩
 ·injection hv with h1 _ _
  subst h1;cases hg
 ·injection hv with h1 _ _
  subst h1
  simp only [Option.map_some,Option.some.injEq] at hg
  subst hg
  constructor
  ·rintro rfl;rw [hi] at hc;cases hc
  ·rintro rfl;rw [hb] at hc;cases hc

def SorR (w:World) (it R:Nat) (l:List ID) (X:World → Prop) (gk:Nat) (iv:Value) (wr:World):Prop :=
 ∃ left out A c,iv = .slice A out.length c ∧ gk = left.length ∧ RngL encI wr it R (setV l) (setV left) ∧ OwnD w wr A c out ∧ (out ++ left).Perm l ∧ Fr noB w wr ∧ X wr
theorem setV_split {left:List ID} {l1 l2:List (ID × Value)} {p:ID × Value} (h:setV left = l1 ++ p :: l2):∃ a b,left = a ++ p.1 :: b ∧ l1 = setV a ∧ l2 = setV b ∧ p.2 = .bool true:=by
 unfold setV at h
 obtain ⟨a,q,e1,e2,e3⟩:=List.map_eq_append_iff.1 h
 obtain ⟨y,b,e4,e5,e6⟩:=List.map_eq_cons_iff.1 e3
 subst e5
 exact ⟨a,b,by rw [e1,e4],e2.symm,e6.symm,rfl⟩
theorem sortWD_fr (w:World) (blk m:Nat) (dk:Array ID) (os:Array Obj):Fr (oneB blk) w (sortWorldK encSI 32 w blk 0 m dk os):=by
 refine ⟨rfl,rfl,rfl,by simp [sortWorldK,putRowK,Sort.ahead],fun k hk hne=>?_⟩
 unfold sortWorldK putRowK
 rw [heap_grow_old _ _ (by simpa using hk)]
 have:blk ≠ k:=fun e=>hne e.symm
 simp [putRow,mapBlock,Sort.ahead,Array.getElem?_modify,this]

end Go.Proofs.YtjpieiccpbcabaaGreat
namespace Go.Proofs.YtjpieiccpbcabaaGreat
open Go.RowKit Go.Maps Go.Sort Go.Shelf
set_option linter.unusedVariables false
set_option linter.unusedSimpArgs false

set_option maxRecDepth 100000 in
set_option maxHeartbeats 2000000 in
theorem sorted_any (w:World) (D:Nat) (F:Nat → Prop) (G:Dg) (h:DagAt w D F G) (R:Nat) (l:List ID) (hR:mpI w R = some (setV l)) (hl:l.length ≤ 1000000000) :
  Calls Tryz.prog 71 #[.pointer (some ⟨D,0,none⟩),.map (some R)] w (NewRise w (cfD G) (· ∈ l)):=by
 have lR:=mpI_lt hR
 have nd:l.Nodup:=by have:=mpI_nd hR;rwa [keys_setV] at this
 have hm1:mpI (w.alloc (.cells #[.pointer (some ⟨D,0,none⟩)] 42)) R = some (setV l):=by rw [mpI_old _ _ _ lR];exact hR
 obtain ⟨_,hrg⟩:=rng_all Tryz.underlying102 hm1
 have F1:Fr noB w (w.alloc (.cells #[.pointer (some ⟨D,0,none⟩)] 42)):=(Fr.refl noB w).alloc _
 have b1:Blk (w.alloc (.cells #[.pointer (some ⟨D,0,none⟩)] 42)) w.heap.size 42 [.pointer (some ⟨D,0,none⟩)]:=Blk.new w _ _
 go_enter Tryz.func71,Tryz.ntmps71
 go_wp2_with fail
 have F2:Fr noB w ((w.alloc (.cells #[.pointer (some ⟨D,0,none⟩)] 42)).alloc (rngO (w.alloc (.cells #[.pointer (some ⟨D,0,none⟩)] 42)) R)):=F1.alloc _
 have b2:=b1.alloc (rngO (w.alloc (.cells #[.pointer (some ⟨D,0,none⟩)] 42)) R)
 simp only [World.size_alloc] at hrg
 generalize ew:(w.alloc (.cells #[.pointer (some ⟨D,0,none⟩)] 42)).alloc (rngO (w.alloc (.cells #[.pointer (some ⟨D,0,none⟩)] 42)) R) = w2 at hrg F2 b2 ⊢
 clear ew hm1 F1 b1
 go_loopg [5] l.length (fun gk iv wr=>SorR w (w.heap.size + 1) R l (fun wr=>Blk wr w.heap.size 42 [.pointer (some ⟨D,0,none⟩)]) gk iv wr)
 case atStart=>exact ⟨l,[],none,0,rfl,rfl,hrg,World.ownsRow_nil _ _ _ _,by simp,F2,b2⟩
 case round =>
  obtain ⟨left,out,Ao,co,rfl,rfl,hr,ho,hpm,hf,hx⟩:=hrel
  have hpl:=hpm.length_eq
  rw [List.length_append] at hpl
  rcases hr.next keyI (by omega) 0 with ⟨h0,hrun⟩ | ⟨l1,p,l2,w3,h0,hp,hrun,hr3,hf3,hent⟩
  ·have e0:left = []:=by simpa [setV] using h0
   subst e0
   rw [List.append_nil] at hpm
   have HP:=Lib.hid hpm
   clear hpm h0
   have hd:DagAt wr D F G:=h.fr0 hf
   go_wp2_with fail
   go_at_call 87
   refine (sort_any w wr Ao co _ out rfl ho (by omega) 100 #[.pointer (some ⟨w.heap.size,0,none⟩)] (cfD G) (swoD G) (totD G) (enters_of Tryz.func100 (by kernel_rfl) rfl) ?_).mono ?_
   ·intro blk hA hblk m os dk hdk x y
    subst hA
    have hle:w.heap.size ≤ blk:=((Off.own ho) _ rfl).1
    have hne:blk ≠ w.heap.size:=Blk.ne_own hx ho (by decide) blk rfl
    have d2:DagAt (sortWorldK encSI 32 wr blk 0 m dk os) D F G:=by
     refine hd.fr (sortWD_fr wr blk m dk os) (fun b hb e=>?_)
     obtain ⟨_,_,_,_,hh⟩:=h
     have:=hh.lt b hb
     have e':b = blk:=e
     omega
    have b2:=hx.fr (sortWD_fr wr blk m dk os) (fun e=>hne (Eq.symm e))
    have:=closure_any (sortWorldK encSI 32 wr blk 0 m dk os) D w.heap.size F G d2 (Blk.cell b2 0) x y
    simp only [encI,idA_eq] at this
    exact this.mono (fun e w' h=>h)
   rintro e w4 ⟨rfl,ho4,hf4⟩
   go_wp2
   go_ret
   have hpm:=HP.out
   have nd2:out.Nodup:=hpm.nodup_iff.2 nd
   refine ⟨sortBy (cfD G) out,⟨Ao,co,by rw [sortBy_length];rfl,ho4,hf.step hf4 (fun b hb=>.inl ?_)⟩,sortBy_rise (swoD G) (totD G) nd2,fun y=>by rw [sortBy_mem];exact hpm.mem_iff,by rw [sortBy_length];omega⟩
   cases Ao with
   | none=>cases hb
   | some a=>simp at hb;rw [← hb];exact ((Off.own ho) _ rfl).1
  ·obtain ⟨a,b,rfl,rfl,rfl,hp2⟩:=setV_split h0
   have hne1:=hr.ne_own ho
   have ho3:OwnD w w3 Ao co out:=own_fr ho hf3 (fun g hg e=>by rw [ownBlock_sl] at hg;exact (hne1 g hg).1 e)
   have hx3:=hx.fr hf3 (fun e=>by have e':w.heap.size = w.heap.size + 1:=e;omega)
   have he:=hent noB w3 (Fr.refl _ _) (by simp [noB]) (by simp [noB])
   have F3:Fr noB w w3:=hf.step1 hf3 (by omega)
   have F4:Fr noB w3 ((w3.alloc (ido p.1)).alloc (rowo [p.1])):=((Fr.refl noB w3).alloc _).alloc _
   have ho4:OwnD w ((w3.alloc (ido p.1)).alloc (rowo [p.1])) Ao co out:=own_fr ho3 F4 (fun _ _=>by simp [noB])
   have rp:rdI (w3.alloc (ido p.1)) w3.heap.size 0 = some p.1:=rdI_new _ _
   have HP:=Lib.hid hpm
   clear hpm h0 hent
   simp only [List.length_append,List.length_cons] at hpl
   have hsl:Sl ((w3.alloc (ido p.1)).alloc (rowo [p.1])) (some ⟨w3.heap.size + 1,0,none⟩) (idc [p.1]):=by
    have:=sl_new (w3.alloc (ido p.1)) [p.1]
    rwa [World.size_alloc] at this
   have hsz:=(F3.step0 F4).size
   go_wp2_with (at_builtin;refine wpList_appD w _ rfl _ _ rfl Ao _ co out rfl rfl ho4 (some ⟨w3.heap.size + 1,0,none⟩) 1 1 [p.1] rfl hsl rfl (by simp;omega) hsz ?_;intro A5 c5 w5 hc5 hm5 ho5 hg5 hA5)
   go_roundg (a ++ b).length
   case measure=>simp
   case rel =>
    have r4:=hr3.fr F4 (by simp [noB]) (by simp [noB])
    have fg:Fr (fun b=>Ao.map (·.block) = some b) ((w3.alloc (ido p.1)).alloc (rowo [p.1])) w5:=Fr.ofGrown hg5 (fun g hg=>hg)
    have hne4:=r4.ne_own ho4
    refine ⟨a ++ b,out ++ [p.1],A5,c5,by simp,rfl,?_,ho5,?_,(F3.step0 F4).step fg (fun g hg=>.inl ?_),?_⟩
    ·have:=r4.fr fg (fun e=>(hne4 _ e).1 rfl) (fun e=>(hne4 _ e).2 rfl)
     unfold setV at this ⊢
     rwa [List.map_append]
    ·refine List.Perm.trans ?_ HP.out
     simp only [List.append_assoc,List.cons_append,List.nil_append]
     exact List.Perm.append_left out List.perm_middle.symm
    ·cases Ao with
     | none=>cases hg
     | some ad=>simp at hg;rw [← hg];exact ((Off.own ho) _ rfl).1
    ·refine (hx3.fr F4 (by simp [noB])).fr fg (fun e=>?_)
     have:=Blk.ne_own (hx3.fr F4 (by simp [noB])) ho4 (by decide) w.heap.size (by rw [ownBlock_sl];exact e)
     exact this rfl

theorem reached_len {G:Dg} (hk:okG G) {ids l:List ID} (nd:l.Nodup) (h:∀ y,y ∈ l ↔ Reached G ids y):l.length ≤ G.length :=
 nd_len nd (fun y hy=>by obtain ⟨i,_,ha⟩:=(h y).1 hy;exact (anc_has hk ha).2)
theorem DagAt.ok {w:World} {D:Nat} {F:Nat → Prop} {G:Dg} (h:DagAt w D F G):okG G:=by obtain ⟨_,_,_,_,h⟩:=h;exact h.ok
theorem DagAt.le {w:World} {D:Nat} {F:Nat → Prop} {G:Dg} (h:DagAt w D F G):G.length ≤ 1000000:=by obtain ⟨_,_,_,_,h⟩:=h;exact h.le
theorem ancestors_any (w:World) (D:Nat) (F:Nat → Prop) (G:Dg) (h:DagAt w D F G) (P:Option Addr) (c n:Nat) (ids:List ID) (hn:ids.length = n) (hs:Sl w P (idc ids)) (hb:ids.length ≤ 1000000000) :
  Calls Tryz.prog 43 #[.pointer (some ⟨D,0,none⟩),.slice P n c] w (NewRise w (cfD G) (Reached G ids)):=by
 subst hn
 go_enter Tryz.func43,Tryz.ntmps43
 go_wp2_with fail
 go_at_call 57
 refine (reach_any w D F G h P c _ ids rfl hs hb).mono ?_
 rintro e w1 ⟨R,l,rfl,hm,hl,hR,hf⟩
 have nd:l.Nodup:=by have:=mpI_nd hm;rwa [keys_setV] at this
 have hll:=reached_len h.ok nd hl
 have hle:=h.le
 go_wp2_with fail
 go_at_call 71
 refine (sorted_any w1 D F G (h.fr0 hf) R l hm (by omega)).mono ?_
 rintro e w2 ⟨l2,⟨A2,c2,rfl,ho2,hf2⟩,hr2,hm2,hb2⟩
 go_wp2
 go_ret
 exact ⟨l2,⟨A2,c2,rfl,own_base ho2 hf.size,hf.step0 hf2⟩,hr2,fun y=>(hm2 y).trans (hl y),hb2⟩
set_option maxRecDepth 100000 in
theorem reaches_any (w:World) (D:Nat) (F:Nat → Prop) (G:Dg) (h:DagAt w D F G) (x y:ID) :
  Calls Tryz.prog 27 #[.pointer (some ⟨D,0,none⟩),encI x,encI y] w (GivesD w (.bool (ancG G x y))):=by
 have F1:Fr noB w ((w.alloc (ido x)).alloc (ido y)).drew:=(((Fr.refl noB w).alloc _).alloc _).drew
 have r1:rdI ((w.alloc (ido x)).alloc (ido y)).drew w.heap.size 0 = some x:=by rw [rdI_drew,rdI_old _ _ _ _ (by simp),rdI_new]
 have r2:rdI ((w.alloc (ido x)).alloc (ido y)).drew (w.heap.size + 1) 0 = some y:=by
  have:=rdI_new (w.alloc (ido x)) y
  rw [World.size_alloc] at this
  rw [rdI_drew];exact this
 go_enter Tryz.func27,Tryz.ntmps27
 go_wp2_with fail
 refine wp_region_N 6 (fun w'=>rdI w' w.heap.size 0 = some x ∧ rdI w' (w.heap.size + 1) 0 = some y) (by kernel_rfl) (by kernel_rfl) ⟨r1,r2⟩ (fun hA hF=>?_)
 refine wpAnyN_take (i:=0) (v:=?_) hA rfl (by decide) (by kernel_rfl) (by kernel_rfl) (fun _ _ _ h=>h) (Or.inl ⟨by rfl,?_⟩) hF (fun hA=>?_)
 rotate_left
 ·intro wS hSw;(try dsimp only at hSw);obtain ⟨s1,s2⟩:=hSw;first | (apply Eq.trans;apply ex_ld_id;exact rfl;exact rfl;assumption;with_reducible rfl) | (go_simp;try with_reducible rfl)
 try simp only [List.getElem_toArray,List.getElem_cons_zero,List.getElem_cons_succ,Act.put,List.setIfInBounds_toArray,List.set_cons_zero,List.set_cons_succ]
 refine wpAnyN_take (i:=1) (v:=?_) hA rfl (by decide) (by kernel_rfl) (by kernel_rfl) (fun _ _ _ h=>h) (Or.inl ⟨by rfl,?_⟩) hF (fun hA=>?_)
 rotate_left
 ·intro wS hSw;(try dsimp only at hSw);obtain ⟨s1,s2⟩:=hSw;first | (apply Eq.trans;apply ex_ld_id;exact rfl;exact rfl;assumption;with_reducible rfl) | (go_simp;try with_reducible rfl)
 try simp only [List.getElem_toArray,List.getElem_cons_zero,List.getElem_cons_succ,Act.put,List.setIfInBounds_toArray,List.set_cons_zero,List.set_cons_succ]
 refine wpAnyN_take (i:=4) (v:=?_) hA rfl (by decide) (by kernel_rfl) (by kernel_rfl) (fun _ _ _ h=>h) (Or.inl ⟨by rfl,?_⟩) hF (fun hA=>?_)
 rotate_left
 ·intro wS hSw;(try dsimp only at hSw);obtain ⟨s1,s2⟩:=hSw;first | (apply Eq.trans;apply ex_ld_id;exact rfl;exact rfl;assumption;with_reducible rfl) | (go_simp;try with_reducible rfl)
 try simp only [List.getElem_toArray,List.getElem_cons_zero,List.getElem_cons_succ,Act.put,List.setIfInBounds_toArray,List.set_cons_zero,List.set_cons_succ]
 generalize ew:((w.alloc (ido x)).alloc (ido y)).drew = w1 at F1 r1 r2 hF ⊢
 refine wpAnyN_one (i:=2) hA (by kernel_rfl) (by decide) rfl (fun K hK=>?_)
 refine step_run rfl _ _ (ex_bs1_at (x:=x) rfl rfl) ?_
 have F2:Fr noB w (w1.alloc (rowo [x])):=F1.alloc _
 have p1:rdI (w1.alloc (rowo [x])) w.heap.size 0 = some x:=by rw [rdI_old _ _ _ _ (rdI_lt r1)];exact r1
 have p2:rdI (w1.alloc (rowo [x])) (w.heap.size + 1) 0 = some y:=by rw [rdI_old _ _ _ _ (rdI_lt r2)];exact r2
 refine hK.out _ _ ⟨p1,p2⟩ (fun hA=>?_)
 clear hK K
 refine wpAnyN_one (i:=3) hA (by kernel_rfl) (by decide) rfl (fun K hK=>?_)
 go_simp
 go_at_call 57
 refine (reach_any _ D F G (h.fr0 F2) _ _ _ [x] rfl (sl_new w1 [x]) (by simp)).mono ?_
 rintro e w3 ⟨R,l,rfl,hm,hl,hR,hf⟩
 have p1:rdI (w1.alloc (rowo [x])) w.heap.size 0 = some x:=by rw [rdI_old _ _ _ _ (rdI_lt r1)];exact r1
 have p2:rdI (w1.alloc (rowo [x])) (w.heap.size + 1) 0 = some y:=by rw [rdI_old _ _ _ _ (rdI_lt r2)];exact r2
 have q1:rdI w3 w.heap.size 0 = some x:=rdI_fr p1 (rdI_lt p1) hf (by simp [noB])
 have q2:rdI w3 (w.heap.size + 1) 0 = some y:=rdI_fr p2 (rdI_lt p2) hf (by simp [noB])
 refine hK.out _ _ ⟨q1,q2⟩ (fun hA=>?_)
 clear hK K
 refine wpAnyN_one (i:=5) hA (by kernel_rfl) (by decide) rfl (fun K hK=>?_)
 have hlk:=look_set l y
 have hd:decide (y ∈ l) = ancG G x y:=by
  rw [Bool.eq_iff_iff,decide_eq_true_eq,hl]
  simp [Reached]
 rw [hd] at hlk
 go_simp
 refine hK.out _ _ ⟨q1,q2⟩ (fun hA=>?_)
 clear hK K
 refine wpAnyN_end rfl (by kernel_rfl) ?_
 simp only [List.drop_succ_cons,List.drop_zero]
 go_wp2
 go_ret
 exact ⟨rfl,F2.step0 hf⟩
end Go.Proofs.YtjpieiccpbcabaaGreat
namespace Go.Proofs.YtjpieiccpbcabaaGreat
open Go.RowKit Go.Maps Go.Sort Go.Shelf
set_option linter.unusedVariables false
set_option linter.unusedSimpArgs false

def RanR (w0:World) (it R:Nat) (kv:List (ID × Value)) (X:List ID → World → Prop) (gk:Nat) (wr:World):Prop :=
 ∃ dn left,gk = left.length ∧ RngL encI wr it R kv left ∧ (dn ++ left.map (·.1)).Perm (kv.map (·.1)) ∧ Fr noB w0 wr ∧ X dn wr
theorem ran_perm {dn:List ID} {l1 l2:List (ID × Value)} {p:ID × Value} {k:List ID} (h:(dn ++ (l1 ++ p :: l2).map (·.1)).Perm k):((dn ++ [p.1]) ++ (l1 ++ l2).map (·.1)).Perm k:=by
 refine List.Perm.trans ?_ h
 simp only [List.map_append,List.map_cons,List.append_assoc,List.cons_append,List.nil_append]
 exact List.Perm.append_left dn List.perm_middle.symm
theorem RngL.ne {w:World} {it r:Nat} {kv left:List (ID × Value)} (h:RngL encI w it r kv left):it ≠ r:=by
 obtain ⟨es,clock,seen,hi,hb,_⟩:=h
 rintro rfl
 rw [hi] at hb;cases hb
theorem RngL.mp {w:World} {it r:Nat} {kv left:List (ID × Value)} (h:RngL encI w it r kv left):mpI w r = some kv:=h.map.mpI
def Gat (w:World) (P:ID → Bool) (iv:Value) (dn:List ID) (wr:World):Prop:=∃ A c,iv = .slice A (dn.filter P).length c ∧ OwnD w wr A c (dn.filter P)

end Go.Proofs.YtjpieiccpbcabaaGreat
namespace Go.Proofs.YtjpieiccpbcabaaGreat
open Go.RowKit Go.Maps Go.Sort Go.Shelf
set_option linter.unusedVariables false
set_option linter.unusedSimpArgs false

section
variable {P:Program} {ops:Array Oper} {Q:Exit → Act → World → Prop} {md:Region.Mode} {F:World → Prop} {n:Nat}
theorem wpAnyN_two {i j:Nat} {o o':Oper} {fuel:Nat} {listed:Array Bool} {a:Act} {w:World} (hA:RegAt md ops n listed) (hr:Region.ready md ops listed = [i,j]) (hin:i < n) (hjn:j < n) (hi:ops[i]? = some o) (hj:ops[j]? = some o')
  (h:∀ K:Act → World → Prop,Hid (∀ a' w',F w' → (RegAt md ops n (listed.setIfInBounds i true) → wpAnyN P md ops Q F n fuel (listed.setIfInBounds i true) a' w') → K a' w') →
   if Region.wanted o (yielded ops a.tmps) = true then Oper.wp P o a w K Q else K (a.put o.dst undef) w)
  (h':∀ K:Act → World → Prop,Hid (∀ a' w',F w' → (RegAt md ops n (listed.setIfInBounds j true) → wpAnyN P md ops Q F n fuel (listed.setIfInBounds j true) a' w') → K a' w') →
   if Region.wanted o' (yielded ops a.tmps) = true then Oper.wp P o' a w K Q else K (a.put o'.dst undef) w):wpAnyN P md ops Q F n (fuel + 1) listed a w:=by
 refine ⟨fun h0=>(by rw [hr] at h0;cases h0),fun k hk=>?_⟩
 have step:∀ (k:Nat) (o:Oper),k < n → ops[k]? = some o → k ∈ Region.ready md ops listed →
   (∀ K:Act → World → Prop,Hid (∀ a' w',F w' → (RegAt md ops n (listed.setIfInBounds k true) → wpAnyN P md ops Q F n fuel (listed.setIfInBounds k true) a' w') → K a' w') →
   if Region.wanted o (yielded ops a.tmps) = true then Oper.wp P o a w K Q else K (a.put o.dst undef) w) →
   wpOp P ops Q k (fun a' w'=>(k < n → F w') ∧ wpAnyN P md ops Q F n fuel (listed.setIfInBounds k true) a' w') a w:=by
  intro k o hkn ho hk hh
  have hA':RegAt md ops n (listed.setIfInBounds k true):=⟨hA.inv.set hk hkn,hA.b⟩
  have:=hh (fun a' w'=>(k < n → F w') ∧ wpAnyN P md ops Q F n fuel (listed.setIfInBounds k true) a' w') (fun a' w' hF hW=>⟨fun _=>hF,hW hA'⟩)
  unfold wpOp
  simp only [ho]
  split
  ·rename_i hw;rw [if_pos hw] at this;exact .inl this
  ·rename_i hw;rw [if_neg hw] at this;exact this
 have hk':=hk
 rw [hr] at hk'
 simp only [List.mem_cons,List.not_mem_nil,or_false] at hk'
 rcases hk' with rfl | rfl
 ·exact step k o hin hi hk h
 ·exact step k o' hjn hj hk h'
end

def BelX (G:Dg) (B:Nat) (dn:List ID) (wr:World):Prop:=∃ bl,mpI wr B = some (setV bl) ∧ ∀ z,z ∈ bl ↔ ∃ d ∈ dn,z ∈ (parents G d).getD []
theorem KidR.next {ks ks' ps:List ID} {wA wp w':World} {K k:Nat} {pa:ID} (fp:Fr (oneB K) wA wp) (u3:Fr (oneB K) wp w') (u2:mpI w' K = some (putL (setV ks') pa (.bool true))) (HG:∀ y,y ∈ ks' ↔ y ∈ ks ∨ y ∈ ps.take k) (hpk:ps[k]? = some pa) :
  KidR ks ps wA K (ps.length - (k + 1)) (.int .i64 ((k:Int) + 1)) w':=by
 refine ⟨k + 1,if pa ∈ ks' then ks' else ks' ++ [pa],by simp,rfl,fp.trans u3 (fun _ _ h=>h),by rw [u2,put_setV],fun y=>?_,(List.getElem?_eq_some_iff.1 hpk).1⟩
 rw [List.take_add_one,hpk]
 have e2:y ∈ (if pa ∈ ks' then ks' else ks' ++ [pa]) ↔ y ∈ ks' ∨ y = pa:=by
  split
  ·rename_i hm
   exact ⟨.inl,fun h=>h.elim id (fun e=>by rw [e];exact hm)⟩
  ·simp
 rw [e2,HG y]
 simp only [Option.toList_some,List.mem_append,List.mem_singleton,or_assoc]

set_option maxRecDepth 100000 in
set_option maxHeartbeats 2000000 in
theorem bases_any (w:World) (D:Nat) (F:Nat → Prop) (G:Dg) (h:DagAt w D F G) (x y:ID) :
  Calls Tryz.prog 51 #[.pointer (some ⟨D,0,none⟩),encI x,encI y] w (NewRise w cmpI (fun z=>(ancG G x z = true ∧ ancG G y z = true) ∧ ¬ ∃ d ps,(ancG G x d = true ∧ ancG G y d = true) ∧ parents G d = some ps ∧ z ∈ ps)):=by
 have hd:=h
 obtain ⟨A,K,kv,ks,h⟩:=h
 go_enter Tryz.func51,Tryz.ntmps51
 go_wp2_with fail
 rename_i Q1 K1 hK1
 have cont:∀ (v19 v23:Value) (w1:World) (R1 R2:Nat) (l1 l2:List ID),Fr noB w w1 → mpI w1 R1 = some (setV l1) → (∀ z,z ∈ l1 ↔ ancG G x z = true) → mpI w1 R2 = some (setV l2) → (∀ z,z ∈ l2 ↔ ancG G y z = true) →
   K1 { tmps:=#[.pointer (some ⟨D,0,none⟩),encI x,encI y,undef,.pointer (some ⟨w.heap.size,0,none⟩),.pointer (some ⟨w.heap.size + 1,0,none⟩),.slice none 0 0,.map (some R1),.map (some R2),undef,undef,undef,undef,undef,undef,undef,undef,.pointer (some ⟨D,0,none⟩),encI x,v19,.map (some R1),.pointer (some ⟨D,0,none⟩),encI y,v23,.map (some R2),undef,undef,undef,undef,undef,undef,undef,undef,undef,undef,undef,undef,undef,undef,undef,undef,undef,undef,undef,undef,undef,undef,undef,undef,undef,undef,undef,undef,undef,undef,undef,undef,undef,undef,undef,undef,undef,undef,undef,undef,undef,undef,undef,undef,undef,undef,undef,undef,undef,undef,undef],defers:=[] } w1:=by
  intro v19 v23 w1 R1 R2 l1 l2 F1 m1 hl1 m2 hl2
  refine hK1 _ _ ?_
  clear hK1
  have nd1:l1.Nodup:=by have:=mpI_nd m1;rwa [keys_setV] at this
  have ma:mpI (w1.alloc (.map #[] 0)) R1 = some (setV l1):=by rw [mpI_old _ _ _ (mpI_lt m1)];exact m1
  have mc:mpI (w1.alloc (.map #[] 0)) w1.heap.size = some []:=mpI_new w1
  have fa:Fr noB w1 (w1.alloc (.map #[] 0)):=(Fr.refl noB w1).alloc _
  obtain ⟨_,hrg⟩:=rng_all Tryz.underlying102 ma
  have fb:Fr noB (w1.alloc (.map #[] 0)) ((w1.alloc (.map #[] 0)).alloc (rngO (w1.alloc (.map #[] 0)) R1)):=(Fr.refl noB _).alloc _
  have mc2:=mpI_fr mc fb (by simp [noB])
  rw [World.size_alloc] at hrg
  have fab:=fa.step0 fb
  clear mc fb fa
  go_wp2_with fail
  generalize ew:(w1.alloc (.map #[] 0)).alloc (rngO (w1.alloc (.map #[] 0)) R1) = w2 at hrg mc2 fab ⊢
  clear ew ma
  go_loopg [] l1.length (fun gk wr=>RanR w1 (w1.heap.size + 1) R1 (setV l1) (fun dn wr=>mpI wr w1.heap.size = some (setV (dn.filter (fun z=>decide (z ∈ l2))))) gk wr)
  case atStart=>exact ⟨[],setV l1,by simp [setV],hrg,by simp,fab,mc2⟩
  case round =>
   obtain ⟨dn,left,rfl,hr,hpm,hf,hx⟩:=hrel
   rcases hr.next keyI hr.ne 0 with ⟨h0,hrun⟩ | ⟨q1,p,q2,w3,h0,hp,hrun,hr3,hf3,hent⟩
   ·subst h0
    rw [List.map_nil,List.append_nil,keys_setV] at hpm
    have hcm:∀ z,z ∈ dn.filter (fun z=>decide (z ∈ l2)) ↔ ancG G x z = true ∧ ancG G y z = true:=by
     intro z
     rw [List.mem_filter,hpm.mem_iff,hl1,decide_eq_true_eq,hl2]
    have ndc:(dn.filter (fun z=>decide (z ∈ l2))).Nodup:=(hpm.nodup_iff.2 nd1).filter _
    have hlc:(dn.filter (fun z=>decide (z ∈ l2))).length ≤ G.length:=nd_len ndc (fun z hz=>(anc_has h.ok ((hcm z).1 hz).1).2)
    have hle:=h.le
    generalize dn.filter (fun z=>decide (z ∈ l2)) = cm at hx hcm ndc hlc
    have HC:=Lib.hid hcm
    have Fl:Fr noB w wr:=F1.step0 hf
    clear hcm hpm hl1 hl2 m1 m2 hr mc2 hrg fab
    obtain ⟨wl,ewl⟩:∃ wl,wl = wr:=⟨_,rfl⟩
    subst ewl
    have lC:=mpI_lt hx
    have ma:mpI (wl.alloc (.map #[] 0)) w1.heap.size = some (setV cm):=by rw [mpI_old _ _ _ lC];exact hx
    have mc:mpI (wl.alloc (.map #[] 0)) wl.heap.size = some []:=mpI_new wl
    have fa:Fr noB wl (wl.alloc (.map #[] 0)):=(Fr.refl noB wl).alloc _
    obtain ⟨_,hrg⟩:=rng_all Tryz.underlying102 ma
    have fb:Fr noB (wl.alloc (.map #[] 0)) ((wl.alloc (.map #[] 0)).alloc (rngO (wl.alloc (.map #[] 0)) w1.heap.size)):=(Fr.refl noB _).alloc _
    have mc2:=mpI_fr mc fb (by simp [noB])
    rw [World.size_alloc] at hrg
    have fab:=fa.step0 fb
    clear mc fb fa
    go_wp2_with fail
    generalize ew:(wl.alloc (.map #[] 0)).alloc (rngO (wl.alloc (.map #[] 0)) w1.heap.size) = w2 at hrg mc2 fab ⊢
    clear ew ma
    go_loopg [] cm.length (fun gk wr=>RanR wl (wl.heap.size + 1) w1.heap.size (setV cm) (BelX G wl.heap.size) gk wr)
    case atStart=>exact ⟨[],setV cm,by simp [setV],hrg,by simp,fab,[],mc2,by simp⟩
    case round =>
     obtain ⟨dn,left,rfl,hr,hpm,hf2,bl,hbl,hbm⟩:=hrel
     rcases hr.next keyI hr.ne 0 with ⟨h0,hrun⟩ | ⟨q1,p,q2,w3,h0,hp,hrun,hr3,hf3,hent⟩
     ·subst h0
      rw [List.map_nil,List.append_nil,keys_setV] at hpm
      have hbm2:∀ z,z ∈ bl ↔ ∃ d ∈ cm,z ∈ (parents G d).getD []:=fun z=>by
       rw [hbm z]
       exact ⟨fun ⟨d,h1,h2⟩=>⟨d,hpm.mem_iff.1 h1,h2⟩,fun ⟨d,h1,h2⟩=>⟨d,hpm.mem_iff.2 h1,h2⟩⟩
      have HB:=Lib.hid hbm2
      have hxc:=hr.mp
      clear hbm2 hbm hpm hrg mc2 fab hr
      obtain ⟨wm,ewm⟩:∃ wm,wm = wr:=⟨_,rfl⟩
      subst ewm
      have Fm:Fr noB w wm:=Fl.step0 hf2
      obtain ⟨_,hrg⟩:=rng_all Tryz.underlying102 hxc
      have fab:Fr noB wm (wm.alloc (rngO wm w1.heap.size)):=(Fr.refl noB wm).alloc _
      go_wp2_with fail
      generalize ew:wm.alloc (rngO wm w1.heap.size) = w2 at hrg fab ⊢
      clear ew
      go_loopg [15] cm.length (fun gk iv wr=>RanR wm wm.heap.size w1.heap.size (setV cm) (Gat wm (fun z=>!decide (z ∈ bl)) iv) gk wr)
      case atStart=>exact ⟨[],setV cm,by simp [setV],hrg,by simp,fab,none,0,rfl,World.ownsRow_nil _ _ _ _⟩
      case round =>
       obtain ⟨dn,left,rfl,hr,hpm,hf,Ao,co,rfl,ho⟩:=hrel
       have hpl:=hpm.length_eq
       rw [List.length_append,List.length_map,List.length_map] at hpl
       have hcl:(setV cm).length = cm.length:=by simp [setV]
       rw [hcl] at hpl
       have hfl:=List.length_filter_le (fun z=>!decide (z ∈ bl)) dn
       generalize eout:dn.filter (fun z=>!decide (z ∈ bl)) = out at ho hfl ⊢
       have EO:=Lib.hid eout
       clear eout
       have Fr1:Fr noB w wr:=Fm.step0 hf
       rcases hr.next keyI hr.ne 0 with ⟨h0,hrun⟩ | ⟨q1,p,q2,w3,h0,hp,hrun,hr3,hf3,hent⟩
       ·subst h0
        rw [List.map_nil,List.append_nil,keys_setV] at hpm
        have HP:=Lib.hid hpm
        clear hpm
        go_wp2_with fail
        go_at_call 87
        refine (sortC_any wm wr Ao co _ out rfl ho (by simp at hpl;omega)).mono ?_
        rintro e w4 ⟨rfl,ho4,hf4⟩
        go_wp2
        go_ret
        have hpm:=HP.out
        have nd:dn.Nodup:=hpm.nodup_iff.2 ndc
        have nd2:out.Nodup:=by rw [← EO.out];exact nd.filter _
        refine ⟨sortBy cmpI out,⟨Ao,co,by rw [sortBy_length];rfl,own_base ho4 Fm.size,Fr1.step hf4 (fun b hb=>.inl ?_)⟩,sortBy_rise swoI totI nd2,fun z=>?_,by rw [sortBy_length];simp at hpl;omega⟩
        ·cases Ao with
         | none=>cases hb
         | some a=>simp at hb;rw [← hb];exact Nat.le_trans Fm.size ((Off.own ho) _ rfl).1
        ·rw [sortBy_mem,← EO.out,List.mem_filter,hpm.mem_iff,HC.out]
         refine and_congr_right (fun _=>?_)
         rw [Bool.not_eq_true',decide_eq_false_iff_not,HB.out]
         refine not_congr ?_
         constructor
         ·rintro ⟨d,h1,h2⟩
          cases hpd:parents G d with
          | none=>rw [hpd] at h2;simp at h2
          | some ps=>rw [hpd] at h2;exact ⟨d,ps,(HC.out d).1 h1,hpd,h2⟩
         ·rintro ⟨d,ps,h1,h2,h3⟩
          exact ⟨d,(HC.out d).2 h1,by rw [h2];exact h3⟩
       ·subst h0
        have hne1:=hr.ne_own ho
        have ho3:OwnD wm w3 Ao co out:=own_fr ho hf3 (fun g hg e=>by rw [ownBlock_sl] at hg;exact (hne1 g hg).1 e)
        have he:=hent noB w3 (Fr.refl _ _) (by simp [noB]) (by simp [noB])
        have F3:Fr noB wm w3:=hf.step1 hf3 (Nat.le_refl _)
        have fa:Fr noB w3 (w3.alloc (ido p.1)):=(Fr.refl noB w3).alloc _
        have rp:rdI (w3.alloc (ido p.1)) w3.heap.size 0 = some p.1:=rdI_new _ _
        have mxb:mpI (w3.alloc (ido p.1)) wl.heap.size = some (setV bl):=mpI_fr hbl (F3.step0 fa) (by simp [noB])
        have lks:=look_set bl p.1
        have HP:=Lib.hid hpm
        clear hpm hent
        simp only [List.length_append,List.length_cons] at hpl
        have rx:=hr3.fr fa (by simp [noB]) (by simp [noB])
        have hox:OwnD wm (w3.alloc (ido p.1)) Ao co out:=own_fr ho3 fa (fun _ _=>by simp [noB])
        have Fx:=F3.step0 fa
        by_cases hk:p.1 ∈ bl
        ·have hd:decide (p.1 ∈ bl) = true:=by simp [hk]
         have HK:=Lib.hid hk
         clear hk
         rw [hd] at lks
         go_wp2
         go_roundg (q1 ++ q2).length
         case measure=>simp
         case rel =>
          have ef:(dn ++ [p.1]).filter (fun z=>!decide (z ∈ bl)) = out:=by rw [List.filter_append,EO.out];simp [HK.out]
          refine ⟨dn ++ [p.1],q1 ++ q2,rfl,rx,ran_perm HP.out,Fx,Ao,co,?_,?_⟩
          ·rw [ef]
          ·rw [ef];exact hox
        ·have hd:decide (p.1 ∈ bl) = false:=by simp [hk]
         have HK:=Lib.hid hk
         clear hk
         rw [hd] at lks
         have F4:Fr noB (w3.alloc (ido p.1)) ((w3.alloc (ido p.1)).alloc (rowo [p.1])):=(Fr.refl noB _).alloc _
         have ho4:OwnD wm ((w3.alloc (ido p.1)).alloc (rowo [p.1])) Ao co out:=own_fr hox F4 (fun _ _=>by simp [noB])
         have hsl:Sl ((w3.alloc (ido p.1)).alloc (rowo [p.1])) (some ⟨w3.heap.size + 1,0,none⟩) (idc [p.1]):=by
          have:=sl_new (w3.alloc (ido p.1)) [p.1]
          rwa [World.size_alloc] at this
         have hsz:=(Fx.step0 F4).size
         go_wp2_with (at_builtin;refine wpList_appD wm _ rfl _ _ rfl Ao _ co out rfl rfl ho4 (some ⟨w3.heap.size + 1,0,none⟩) 1 1 [p.1] rfl hsl rfl (by simp;omega) hsz ?_;intro A5 c5 w5 hc5 hm5 ho5 hg5 hA5)
         go_roundg (q1 ++ q2).length
         case measure=>simp
         case rel =>
          have r4:=rx.fr F4 (by simp [noB]) (by simp [noB])
          have fg:Fr (fun b=>Ao.map (·.block) = some b) ((w3.alloc (ido p.1)).alloc (rowo [p.1])) w5:=Fr.ofGrown hg5 (fun g hg=>hg)
          have hne4:=r4.ne_own ho4
          have ef:(dn ++ [p.1]).filter (fun z=>!decide (z ∈ bl)) = out ++ [p.1]:=by rw [List.filter_append,EO.out];simp [HK.out]
          refine ⟨dn ++ [p.1],q1 ++ q2,rfl,r4.fr fg (fun e=>(hne4 _ e).1 rfl) (fun e=>(hne4 _ e).2 rfl),ran_perm HP.out,(Fx.step0 F4).step fg (fun g hg=>?_),A5,c5,?_,?_⟩
          ·cases Ao with
           | none=>cases hg
           | some ad=>simp at hg;rw [← hg];exact .inl ((Off.own ho) _ rfl).1
          ·rw [ef];simp
          ·rw [ef];exact ho5
     ·subst h0
      have he:=hent noB w3 (Fr.refl _ _) (by simp [noB]) (by simp [noB])
      have F3:Fr noB wl w3:=hf2.step1 hf3 (by omega)
      have rp:rdI (w3.alloc (ido p.1)).drew w3.heap.size 0 = some p.1:=by rw [rdI_drew,rdI_new]
      have fa:Fr noB w3 (w3.alloc (ido p.1)).drew:=((Fr.refl noB w3).alloc _).drew
      have F4:Fr noB w (w3.alloc (ido p.1)).drew:=Fl.step0 (F3.step0 fa)
      have h4:=h.fr0 F4
      obtain ⟨B,cB,hn,hB,hBF⟩:=h.node p.1
      have hps:((parents G p.1).getD []).length ≤ 2:=by
       cases hpp:parents G p.1 with
       | none=>simp
       | some ps=>exact (okG_par h.ok hpp).2.1
      have mxb:mpI (w3.alloc (ido p.1)).drew wl.heap.size = some (setV bl):=mpI_fr (mpI_fr hbl hf3 (fun e=>by have e':wl.heap.size = wl.heap.size + 1:=e;omega)) fa (by simp [noB])
      have rx:=hr3.fr fa (by simp [noB]) (by simp [noB])
      have HP:=Lib.hid hpm
      have HB:=Lib.hid hbm
      clear hpm hent hbm hbl
      generalize eps:(parents G p.1).getD [] = ps at hn hB hps
      have EP:=Lib.hid eps
      clear eps
      go_wp2_with fail
      refine wp_region_H (fun w'=>w'.cell? ⟨D,0,none⟩ = some (.map (some A)) ∧ mpI w' A = some kv ∧ rdI w' w3.heap.size 0 = some p.1) (by kernel_rfl) ⟨h4.c0,h4.all,rp⟩ (fun hF=>?_)
      refine wpAnyH_take (i:=0) (v:=?_) rfl (by kernel_rfl) (by kernel_rfl) (by kernel_rfl) (fun _ _ _ h=>h) (Or.inl ⟨by rfl,?_⟩) hF ?_
      rotate_left
      ·intro wS hSw;(try dsimp only at hSw);obtain ⟨s1,s2,s3⟩:=hSw;first | (apply Eq.trans;apply ex_ld_id;exact rfl;exact rfl;assumption;with_reducible rfl) | (go_simp;try with_reducible rfl)
      try simp only [List.getElem_toArray,List.getElem_cons_zero,List.getElem_cons_succ,Act.put,List.setIfInBounds_toArray,List.set_cons_zero,List.set_cons_succ]
      refine wpAnyH_take (i:=1) (v:=?_) rfl (by kernel_rfl) (by kernel_rfl) (by kernel_rfl) (fun _ _ _ h=>h) (Or.inl ⟨by rfl,?_⟩) hF ?_
      rotate_left
      ·intro wS hSw;(try dsimp only at hSw);obtain ⟨s1,s2,s3⟩:=hSw;first | (apply Eq.trans;apply ex_ld_id;exact rfl;exact rfl;assumption;with_reducible rfl) | (go_simp;try with_reducible rfl)
      try simp only [List.getElem_toArray,List.getElem_cons_zero,List.getElem_cons_succ,Act.put,List.setIfInBounds_toArray,List.set_cons_zero,List.set_cons_succ]
      refine wpAnyH_take (i:=2) (v:=?_) rfl (by kernel_rfl) (by kernel_rfl) (by kernel_rfl) (fun _ _ _ h=>h) (Or.inl ⟨by rfl,?_⟩) hF ?_
      rotate_left
      ·intro wS hSw;(try dsimp only at hSw);obtain ⟨s1,s2,s3⟩:=hSw;first | (apply Eq.trans;apply ex_ld_id;exact rfl;exact rfl;assumption;with_reducible rfl) | (go_simp;try with_reducible rfl)
      try simp only [List.getElem_toArray,List.getElem_cons_zero,List.getElem_cons_succ,Act.put,List.setIfInBounds_toArray,List.set_cons_zero,List.set_cons_succ]
      refine wpAnyH_take (i:=3) (v:=?_) rfl (by kernel_rfl) (by kernel_rfl) (by kernel_rfl) (fun _ _ _ h=>h) (Or.inl ⟨by rfl,?_⟩) hF ?_
      rotate_left
      ·intro wS hSw;(try dsimp only at hSw);obtain ⟨s1,s2,s3⟩:=hSw;first | (apply Eq.trans;apply ex_ld_id;exact rfl;exact rfl;assumption;with_reducible rfl) | (go_simp;try with_reducible rfl)
      try simp only [List.getElem_toArray,List.getElem_cons_zero,List.getElem_cons_succ,Act.put,List.setIfInBounds_toArray,List.set_cons_zero,List.set_cons_succ]
      refine wpAnyH_take (i:=4) (v:=?_) rfl (by kernel_rfl) (by kernel_rfl) (by kernel_rfl) (fun _ _ _ h=>h) (Or.inl ⟨by rfl,?_⟩) hF ?_
      rotate_left
      ·intro wS hSw;(try dsimp only at hSw);obtain ⟨s1,s2,s3⟩:=hSw;first | (apply Eq.trans;apply ex_ld_id;exact rfl;exact rfl;assumption;with_reducible rfl) | (go_simp;try with_reducible rfl)
      try simp only [List.getElem_toArray,List.getElem_cons_zero,List.getElem_cons_succ,Act.put,List.setIfInBounds_toArray,List.set_cons_zero,List.set_cons_succ]
      refine wpAnyH_take (i:=5) (v:=?_) rfl (by kernel_rfl) (by kernel_rfl) (by kernel_rfl) (fun _ _ _ h=>h) (Or.inl ⟨by rfl,?_⟩) hF ?_
      rotate_left
      ·intro wS hSw;(try dsimp only at hSw);obtain ⟨s1,s2,s3⟩:=hSw;first | (apply Eq.trans;apply ex_ld_id;exact rfl;exact rfl;assumption;with_reducible rfl) | (go_simp;try with_reducible rfl)
      try simp only [List.getElem_toArray,List.getElem_cons_zero,List.getElem_cons_succ,Act.put,List.setIfInBounds_toArray,List.set_cons_zero,List.set_cons_succ]
      refine wpAnyH_take (i:=6) (v:=?_) rfl (by kernel_rfl) (by kernel_rfl) (by kernel_rfl) (fun _ _ _ h=>h) (Or.inl ⟨by rfl,?_⟩) hF ?_
      rotate_left
      ·intro wS hSw;(try dsimp only at hSw);obtain ⟨s1,s2,s3⟩:=hSw;first | (apply Eq.trans;apply ex_ld_id;exact rfl;exact rfl;assumption;with_reducible rfl) | (go_simp;try with_reducible rfl)
      try simp only [List.getElem_toArray,List.getElem_cons_zero,List.getElem_cons_succ,Act.put,List.setIfInBounds_toArray,List.set_cons_zero,List.set_cons_succ]
      refine wpAnyH_take (i:=7) (v:=?_) rfl (by kernel_rfl) (by kernel_rfl) (by kernel_rfl) (fun _ _ _ h=>h) (Or.inl ⟨by rfl,?_⟩) hF ?_
      rotate_left
      ·intro wS hSw;(try dsimp only at hSw);obtain ⟨s1,s2,s3⟩:=hSw;first | (apply Eq.trans;apply ex_ld_id;exact rfl;exact rfl;assumption;with_reducible rfl) | (go_simp;try with_reducible rfl)
      try simp only [List.getElem_toArray,List.getElem_cons_zero,List.getElem_cons_succ,Act.put,List.setIfInBounds_toArray,List.set_cons_zero,List.set_cons_succ]
      refine wpAnyH_take (i:=8) (v:=?_) rfl (by kernel_rfl) (by kernel_rfl) (by kernel_rfl) (fun _ _ _ h=>h) (Or.inl ⟨by rfl,?_⟩) hF ?_
      rotate_left
      ·intro wS hSw;(try dsimp only at hSw);obtain ⟨s1,s2,s3⟩:=hSw;first | (apply Eq.trans;apply ex_ld_id;exact rfl;exact rfl;assumption;with_reducible rfl) | (go_simp;try with_reducible rfl)
      try simp only [List.getElem_toArray,List.getElem_cons_zero,List.getElem_cons_succ,Act.put,List.setIfInBounds_toArray,List.set_cons_zero,List.set_cons_succ]
      refine wpAnyH_done (by kernel_rfl) ?_ _
      clear hF
      generalize ew:(w3.alloc (ido p.1)).drew = wx at rp fa F4 h4 mxb rx ⊢
      clear ew
      have F5:=F3.step0 fa
      go_wp2_with fail
      go_loopg [52] ps.length (fun gk iv w'=>KidR bl ps wx wl.heap.size gk iv w')
      case atStart=>exact ⟨0,bl,rfl,by simp,Fr.refl _ _,mxb,by simp,by omega⟩
      case round =>
       obtain ⟨k,bl',rfl,rfl,hg,hgm,hgk,hkl⟩:=hrel
       by_cases hlt:k < ps.length
       ·obtain ⟨g,off,rfl⟩:=hB.adG (by omega)
        have r0:=hB.id k hlt
        have r1:rdI wx g (off + k * 32) = some ps[k]:=rdI_fr r0 (rdI_lt r0) F4 (by simp [noB])
        have r2:rdI wr g (off + k * 32) = some ps[k]:=rdI_fr r1 (rdI_lt r1) hg (fun e=>rdI_ne r1 mxb e)
        have i2:(k:Int) < ps.length:=by omega
        have p0:(0:Int) ≤ (k:Int):=by omega
        generalize ea:ps[k] = pa at r2
        have EA:=Lib.hid ea
        have HG:=Lib.hid hgk
        have HB2:=Lib.hid hB
        clear ea hgk r1 r0 hB
        have rq:rdI (wr.alloc (ido pa)) wr.heap.size 0 = some pa:=rdI_new _ _
        have fp:Fr (oneB wl.heap.size) wx (wr.alloc (ido pa)):=hg.alloc _
        have mp:mpI (wr.alloc (ido pa)) wl.heap.size = some (setV bl'):=by rw [mpI_old _ _ _ (mpI_lt hgm)];exact hgm
        obtain ⟨u1,u2,u3,u4⟩:=mput_all Tryz.underlying102 mp pa (.bool true)
        go_wp2
        go_roundg (ps.length - (k + 1))
        case measure=>omega
        case rel =>
         have hpk:ps[k]? = some pa:=by rw [List.getElem?_eq_getElem hlt,EA.out]
         exact KidR.next fp u3 u2 HG.out hpk
       ·have i2:¬ (k:Int) < ps.length:=by omega
        have ek:k = ps.length:=by omega
        subst ek
        rw [List.take_length] at hgk
        have HG:=Lib.hid hgk
        clear hgk
        go_wp2
        go_roundg (q1 ++ q2).length
        case measure=>simp
        case rel =>
         refine ⟨dn ++ [p.1],q1 ++ q2,rfl,rx.fr hg (fun e=>by have e':wl.heap.size + 1 = wl.heap.size:=e;omega) (fun e=>by have e':w1.heap.size = wl.heap.size:=e;omega),ran_perm HP.out,F5.step1 hg (Nat.le_refl _),bl',hgm,fun z=>?_⟩
         rw [HG.out z,HB.out z,← EP.out]
         simp only [List.mem_append,List.mem_singleton]
         constructor
         ·rintro (⟨d,h1,h2⟩ | h1)
          ·exact ⟨d,.inl h1,h2⟩
          ·exact ⟨p.1,.inr rfl,h1⟩
         ·rintro ⟨d,h1 | h1,h2⟩
          ·exact .inl ⟨d,h1,h2⟩
          ·subst h1;exact .inr h2
   ·subst h0
    have he:=hent noB w3 (Fr.refl _ _) (by simp [noB]) (by simp [noB])
    have F3:Fr noB w1 w3:=hf.step1 hf3 (by omega)
    have rp:rdI (w3.alloc (ido p.1)) w3.heap.size 0 = some p.1:=rdI_new _ _
    have fa:Fr noB w3 (w3.alloc (ido p.1)):=(Fr.refl noB w3).alloc _
    have mx2:mpI (w3.alloc (ido p.1)) R2 = some (setV l2):=mpI_fr m2 (F3.step0 fa) (by simp [noB])
    have mxc:mpI (w3.alloc (ido p.1)) w1.heap.size = some (setV (dn.filter (fun z=>decide (z ∈ l2)))):=mpI_fr (mpI_fr hx hf3 (fun e=>by have e':w1.heap.size = w1.heap.size + 1:=e;omega)) fa (by simp [noB])
    have lks:=look_set l2 p.1
    have HP:=Lib.hid hpm
    have rx:=hr3.fr fa (by simp [noB]) (by simp [noB])
    have Fx:=F3.step0 fa
    have lR1:R1 ≠ w1.heap.size:=by have:=mpI_lt m1;omega
    clear hpm hent hx
    by_cases hk:p.1 ∈ l2
    ·have hd:decide (p.1 ∈ l2) = true:=by simp [hk]
     have HK:=Lib.hid hk
     clear hk
     rw [hd] at lks
     obtain ⟨u1,u2,u3,u4⟩:=mput_all Tryz.underlying102 mxc p.1 (.bool true)
     go_wp2
     go_roundg (q1 ++ q2).length
     case measure=>simp
     case rel =>
      refine ⟨dn ++ [p.1],q1 ++ q2,rfl,rx.fr u3 (fun e=>by have e':w1.heap.size + 1 = w1.heap.size:=e;omega) (fun e=>lR1 e),ran_perm HP.out,Fx.step1 u3 (Nat.le_refl _),?_⟩
      show mpI _ w1.heap.size = some (setV (List.filter _ (dn ++ [p.1])))
      rw [u2,put_setV,List.filter_append]
      have hnm:p.1 ∉ dn.filter (fun z=>decide (z ∈ l2)):=by
       intro hm
       have hm':=(List.mem_filter.1 hm).1
       have nd:=HP.out.nodup_iff.2 (mpI_nd m1)
       rw [List.nodup_append] at nd
       exact nd.2.2 _ hm' p.1 (by simp) rfl
      rw [if_neg hnm]
      simp [HK.out]
    ·have hd:decide (p.1 ∈ l2) = false:=by simp [hk]
     have HK:=Lib.hid hk
     clear hk
     rw [hd] at lks
     go_wp2
     go_roundg (q1 ++ q2).length
     case measure=>simp
     case rel =>
      refine ⟨dn ++ [p.1],q1 ++ q2,rfl,rx,ran_perm HP.out,Fx,?_⟩
      show mpI _ w1.heap.size = some (setV (List.filter _ (dn ++ [p.1])))
      rw [mxc,List.filter_append]
      simp [HK.out]
 clear hK1
 have F1:Fr noB w ((w.alloc (ido x)).alloc (ido y)).drew:=(((Fr.refl noB w).alloc _).alloc _).drew
 have r1:rdI ((w.alloc (ido x)).alloc (ido y)).drew w.heap.size 0 = some x:=by rw [rdI_drew,rdI_old _ _ _ _ (by simp),rdI_new]
 have r2:rdI ((w.alloc (ido x)).alloc (ido y)).drew (w.heap.size + 1) 0 = some y:=by
  have:=rdI_new (w.alloc (ido x)) y
  rw [World.size_alloc] at this
  rw [rdI_drew];exact this
 refine wp_region_N 8 (fun w'=>rdI w' w.heap.size 0 = some x ∧ rdI w' (w.heap.size + 1) 0 = some y) (by kernel_rfl) (by kernel_rfl) ⟨r1,r2⟩ (fun hA hF=>?_)
 refine wpAnyN_take (i:=0) (v:=?_) hA rfl (by decide) (by kernel_rfl) (by kernel_rfl) (fun _ _ _ h=>h) (Or.inl ⟨by rfl,?_⟩) hF (fun hA=>?_)
 rotate_left
 ·intro wS hSw;(try dsimp only at hSw);obtain ⟨s1,s2⟩:=hSw;first | (apply Eq.trans;apply ex_ld_id;exact rfl;exact rfl;assumption;with_reducible rfl) | (go_simp;try with_reducible rfl)
 try simp only [List.getElem_toArray,List.getElem_cons_zero,List.getElem_cons_succ,Act.put,List.setIfInBounds_toArray,List.set_cons_zero,List.set_cons_succ]
 refine wpAnyN_take (i:=1) (v:=?_) hA rfl (by decide) (by kernel_rfl) (by kernel_rfl) (fun _ _ _ h=>h) (Or.inl ⟨by rfl,?_⟩) hF (fun hA=>?_)
 rotate_left
 ·intro wS hSw;(try dsimp only at hSw);obtain ⟨s1,s2⟩:=hSw;first | (apply Eq.trans;apply ex_ld_id;exact rfl;exact rfl;assumption;with_reducible rfl) | (go_simp;try with_reducible rfl)
 try simp only [List.getElem_toArray,List.getElem_cons_zero,List.getElem_cons_succ,Act.put,List.setIfInBounds_toArray,List.set_cons_zero,List.set_cons_succ]
 refine wpAnyN_take (i:=4) (v:=?_) hA rfl (by decide) (by kernel_rfl) (by kernel_rfl) (fun _ _ _ h=>h) (Or.inl ⟨by rfl,?_⟩) hF (fun hA=>?_)
 rotate_left
 ·intro wS hSw;(try dsimp only at hSw);obtain ⟨s1,s2⟩:=hSw;first | (apply Eq.trans;apply ex_ld_id;exact rfl;exact rfl;assumption;with_reducible rfl) | (go_simp;try with_reducible rfl)
 try simp only [List.getElem_toArray,List.getElem_cons_zero,List.getElem_cons_succ,Act.put,List.setIfInBounds_toArray,List.set_cons_zero,List.set_cons_succ]
 refine wpAnyN_take (i:=5) (v:=?_) hA rfl (by decide) (by kernel_rfl) (by kernel_rfl) (fun _ _ _ h=>h) (Or.inl ⟨by rfl,?_⟩) hF (fun hA=>?_)
 rotate_left
 ·intro wS hSw;(try dsimp only at hSw);obtain ⟨s1,s2⟩:=hSw;first | (apply Eq.trans;apply ex_ld_id;exact rfl;exact rfl;assumption;with_reducible rfl) | (go_simp;try with_reducible rfl)
 try simp only [List.getElem_toArray,List.getElem_cons_zero,List.getElem_cons_succ,Act.put,List.setIfInBounds_toArray,List.set_cons_zero,List.set_cons_succ]
 generalize ew:((w.alloc (ido x)).alloc (ido y)).drew = w1 at F1 r1 r2 hF ⊢
 have keep:∀ w',Fr noB w1 w' → rdI w' w.heap.size 0 = some x ∧ rdI w' (w.heap.size + 1) 0 = some y:=fun w' f=>⟨rdI_fr r1 (rdI_lt r1) f (by simp [noB]),rdI_fr r2 (rdI_lt r2) f (by simp [noB])⟩
 have mem1:∀ (u:ID) (l:List ID),(∀ z,z ∈ l ↔ Reached G [u] z) → ∀ z,z ∈ l ↔ ancG G u z = true:=fun u l hl z=>(hl z).trans (by simp [Reached])
 refine wpAnyN_two (i:=2) (j:=6) hA (by kernel_rfl) (by decide) (by decide) rfl rfl (fun K' hK=>?_) (fun K' hK=>?_)
 ·refine step_run rfl _ _ (ex_bs1_at (x:=x) rfl rfl) ?_
  have fa:Fr noB w1 (w1.alloc (rowo [x])):=(Fr.refl noB w1).alloc _
  refine hK.out _ _ (keep _ fa) (fun hA=>?_)
  clear hK K'
  refine wpAnyN_two (i:=3) (j:=6) hA (by kernel_rfl) (by decide) (by decide) rfl rfl (fun K' hK=>?_) (fun K' hK=>?_)
  ·go_simp
   go_at_call 57
   refine (reach_any _ D F G (hd.fr0 (F1.step0 fa)) _ _ _ [x] rfl (sl_new w1 [x]) (by simp)).mono ?_
   rintro e w3 ⟨R1,l1,rfl,hm1,hl1,hR1,hf3⟩
   have f3:=fa.step0 hf3
   refine hK.out _ _ (keep _ f3) (fun hA=>?_)
   clear hK K'
   refine wpAnyN_one (i:=6) hA (by kernel_rfl) (by decide) rfl (fun K' hK=>?_)
   refine step_run rfl _ _ (ex_bs1_at (x:=y) rfl rfl) ?_
   have fb:Fr noB w3 (w3.alloc (rowo [y])):=(Fr.refl noB w3).alloc _
   have f4:=f3.step0 fb
   refine hK.out _ _ (keep _ f4) (fun hA=>?_)
   clear hK K'
   refine wpAnyN_one (i:=7) hA (by kernel_rfl) (by decide) rfl (fun K' hK=>?_)
   go_simp
   go_at_call 57
   refine (reach_any _ D F G (hd.fr0 (F1.step0 f4)) _ _ _ [y] rfl (sl_new w3 [y]) (by simp)).mono ?_
   rintro e w5 ⟨R2,l2,rfl,hm2,hl2,hR2,hf5⟩
   have f5:=f4.step0 hf5
   refine hK.out _ _ (keep _ f5) (fun hA=>?_)
   clear hK K'
   refine wpAnyN_end rfl (by kernel_rfl) ?_
   simp only [List.drop_succ_cons,List.drop_zero]
   have:=cont (.slice (some ⟨w1.heap.size,0,none⟩) 1 1) (.slice (some ⟨w3.heap.size,0,none⟩) 1 1) w5 R1 R2 l1 l2 (F1.step0 f5) (mpI_fr hm1 (fb.step0 hf5) (by simp [noB])) (mem1 x l1 hl1) hm2 (mem1 y l2 hl2)
   clear cont
   go_wp2
   exact this
  · -- 6, 3, 7
   refine step_run rfl _ _ (ex_bs1_at (x:=y) rfl rfl) ?_
   have fb:Fr noB (w1.alloc (rowo [x])) ((w1.alloc (rowo [x])).alloc (rowo [y])):=(Fr.refl noB _).alloc _
   have f4:=fa.step0 fb
   have s1:Sl ((w1.alloc (rowo [x])).alloc (rowo [y])) (some ⟨w1.heap.size,0,none⟩) (idc [x]):=(sl_new w1 [x]).fr0 fb
   have s2:Sl ((w1.alloc (rowo [x])).alloc (rowo [y])) (some ⟨(w1.alloc (rowo [x])).heap.size,0,none⟩) (idc [y]):=sl_new _ [y]
   refine hK.out _ _ (keep _ f4) (fun hA=>?_)
   clear hK K'
   refine wpAnyN_one (i:=3) hA (by kernel_rfl) (by decide) rfl (fun K' hK=>?_)
   go_simp
   go_at_call 57
   refine (reach_any _ D F G (hd.fr0 (F1.step0 f4)) _ _ _ [x] rfl s1 (by simp)).mono ?_
   rintro e w3 ⟨R1,l1,rfl,hm1,hl1,hR1,hf3⟩
   have f3:=f4.step0 hf3
   refine hK.out _ _ (keep _ f3) (fun hA=>?_)
   clear hK K'
   refine wpAnyN_one (i:=7) hA (by kernel_rfl) (by decide) rfl (fun K' hK=>?_)
   rw [World.size_alloc] at s2
   go_simp
   go_at_call 57
   refine (reach_any _ D F G (hd.fr0 (F1.step0 f3)) _ _ _ [y] rfl (s2.fr0 hf3) (by simp)).mono ?_
   rintro e w5 ⟨R2,l2,rfl,hm2,hl2,hR2,hf5⟩
   have f5:=f3.step0 hf5
   refine hK.out _ _ (keep _ f5) (fun hA=>?_)
   clear hK K'
   refine wpAnyN_end rfl (by kernel_rfl) ?_
   simp only [List.drop_succ_cons,List.drop_zero]
   have:=cont (.slice (some ⟨w1.heap.size,0,none⟩) 1 1) (.slice (some ⟨w1.heap.size + 1,0,none⟩) 1 1) w5 R1 R2 l1 l2 (F1.step0 f5) (mpI_fr hm1 hf5 (by simp [noB])) (mem1 x l1 hl1) hm2 (mem1 y l2 hl2)
   clear cont
   go_wp2
   exact this
 · -- 6, 2, 3, 7
  refine step_run rfl _ _ (ex_bs1_at (x:=y) rfl rfl) ?_
  have fa:Fr noB w1 (w1.alloc (rowo [y])):=(Fr.refl noB w1).alloc _
  refine hK.out _ _ (keep _ fa) (fun hA=>?_)
  clear hK K'
  refine wpAnyN_one (i:=2) hA (by kernel_rfl) (by decide) rfl (fun K' hK=>?_)
  refine step_run rfl _ _ (ex_bs1_at (x:=x) rfl rfl) ?_
  have fb:Fr noB (w1.alloc (rowo [y])) ((w1.alloc (rowo [y])).alloc (rowo [x])):=(Fr.refl noB _).alloc _
  have f4:=fa.step0 fb
  have s1:Sl ((w1.alloc (rowo [y])).alloc (rowo [x])) (some ⟨(w1.alloc (rowo [y])).heap.size,0,none⟩) (idc [x]):=sl_new _ [x]
  have s2:Sl ((w1.alloc (rowo [y])).alloc (rowo [x])) (some ⟨w1.heap.size,0,none⟩) (idc [y]):=(sl_new w1 [y]).fr0 fb
  refine hK.out _ _ (keep _ f4) (fun hA=>?_)
  clear hK K'
  refine wpAnyN_one (i:=3) hA (by kernel_rfl) (by decide) rfl (fun K' hK=>?_)
  rw [World.size_alloc] at s1
  go_simp
  go_at_call 57
  refine (reach_any _ D F G (hd.fr0 (F1.step0 f4)) _ _ _ [x] rfl s1 (by simp)).mono ?_
  rintro e w3 ⟨R1,l1,rfl,hm1,hl1,hR1,hf3⟩
  have f3:=f4.step0 hf3
  refine hK.out _ _ (keep _ f3) (fun hA=>?_)
  clear hK K'
  refine wpAnyN_one (i:=7) hA (by kernel_rfl) (by decide) rfl (fun K' hK=>?_)
  go_simp
  go_at_call 57
  refine (reach_any _ D F G (hd.fr0 (F1.step0 f3)) _ _ _ [y] rfl (s2.fr0 hf3) (by simp)).mono ?_
  rintro e w5 ⟨R2,l2,rfl,hm2,hl2,hR2,hf5⟩
  have f5:=f3.step0 hf5
  refine hK.out _ _ (keep _ f5) (fun hA=>?_)
  clear hK K'
  refine wpAnyN_end rfl (by kernel_rfl) ?_
  simp only [List.drop_succ_cons,List.drop_zero]
  have:=cont (.slice (some ⟨w1.heap.size + 1,0,none⟩) 1 1) (.slice (some ⟨w1.heap.size,0,none⟩) 1 1) w5 R1 R2 l1 l2 (F1.step0 f5) (mpI_fr hm1 hf5 (by simp [noB])) (mem1 x l1 hl1) hm2 (mem1 y l2 hl2)
  clear cont
  go_wp2
  exact this
end Go.Proofs.YtjpieiccpbcabaaGreat
