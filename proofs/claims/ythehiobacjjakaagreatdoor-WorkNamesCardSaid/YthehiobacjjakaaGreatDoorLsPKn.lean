/- Plain: the nodes under a place, each with the names that lead to it; paths. Plain: a node is listed once at most; what WorkPaths and WorkNames say of lists. Plain: what snap.Right finds on the ways up. Plain: nodes of one name under the root (WorkNames). Plain: the entries of a list, place by place. -/
import Derived.Test.YthehiobacjjakaaGreatDoorWkRKn
set_option linter.unusedVariables false
set_option linter.unusedSimpArgs false
namespace Go.Proofs.YthehiobacjjakaaGreatDoor
def waysD (rs:List RwP):Nat → St → List (List (List UInt8) × RwP)
 | 0,_=>[]
 | k + 1,p=>(List.range (kidsD rs p).length).flatMap fun i=>match (kidsD rs p)[i]? with
  | none=>[]
  | some r=>([shownD (kidsD rs p) i r],r) :: (waysD rs k r.Node).map fun q=>(shownD (kidsD rs p) i r :: q.1,q.2)
theorem ways_mem {rs:List RwP} {k:Nat} {p:St} {l:List (List UInt8)} {x:RwP}:(l,x) ∈ waysD rs (k + 1) p ↔ ∃ i,∃ h:i < (kidsD rs p).length,(l = [shownD (kidsD rs p) i (kidsD rs p)[i]] ∧ x = (kidsD rs p)[i]) ∨ ∃ l',l = shownD (kidsD rs p) i (kidsD rs p)[i] :: l' ∧ (l',x) ∈ waysD rs k (kidsD rs p)[i].Node:=by
 show (l,x) ∈ (List.range (kidsD rs p).length).flatMap _ ↔ _
 rw [List.mem_flatMap]
 constructor
 ·rintro ⟨i,hi,h⟩
  rw [List.mem_range] at hi
  rw [List.getElem?_eq_getElem hi] at h
  simp only [List.mem_cons,Prod.mk.injEq,List.mem_map] at h
  rcases h with h | ⟨⟨l',x'⟩,h1,h2⟩
  ·exact ⟨i,hi,.inl h⟩
  ·simp only at h2
   obtain ⟨h3,h4⟩:=h2
   subst h4
   exact ⟨i,hi,.inr ⟨l',h3.symm,h1⟩⟩
 ·rintro ⟨i,hi,h⟩
  refine ⟨i,List.mem_range.2 hi,?_⟩
  rw [List.getElem?_eq_getElem hi]
  simp only [List.mem_cons,Prod.mk.injEq,List.mem_map]
  rcases h with h | ⟨l',h1,h2⟩
  ·exact .inl h
  ·exact .inr ⟨(l',x),h2,h1.symm,rfl⟩
theorem ways_ne {rs:List RwP} {k:Nat}:∀ {p:St} {l:List (List UInt8)} {x:RwP},(l,x) ∈ waysD rs k p → l ≠ [] ∧ x ∈ rs:=by
 induction k with
 | zero=>intro p l x h;cases h
 | succ k ih =>
  intro p l x h
  obtain ⟨i,hi,h⟩:=ways_mem.1 h
  have hk:∀ y ∈ kidsD rs p,y ∈ rs:=fun y hy=>(List.mem_filter.1 hy).1
  rcases h with ⟨rfl,rfl⟩ | ⟨l',rfl,hq⟩
  ·exact ⟨by simp,hk _ (List.getElem_mem hi)⟩
  ·exact ⟨by simp,(ih hq).2⟩
theorem ways_walk {rs:List RwP} (hn:(rs.map (·.Node)).Nodup) (hr:∀ r ∈ rs,rightS r.Node = true) {k:Nat}:∀ {p:St} {l:List (List UInt8)} {x:RwP},(l,x) ∈ waysD rs k p → ∀ a:RwP,a.Node = p → walkD rs a l = (x,l.length):=by
 induction k with
 | zero=>intro p l x h;cases h
 | succ k ih =>
  intro p l x h a ha
  obtain ⟨i,hi,h⟩:=ways_mem.1 h
  have hk:=kidD_at hn hr (p:=p) hi
  rcases h with ⟨rfl,rfl⟩ | ⟨l',rfl,hq⟩
  ·unfold walkD
   rw [ha,hk]
   rfl
  ·have ih:=ih hq (kidsD rs p)[i] rfl
   unfold walkD
   rw [ha,hk]
   simp only
   rw [ih]
   rfl
theorem ways_nd {rs:List RwP} (hn:(rs.map (·.Node)).Nodup) (hr:∀ r ∈ rs,rightS r.Node = true):∀ (k:Nat) (p:St),((waysD rs k p).map (·.1)).Nodup
 | 0,p=>by simp [waysD]
 | k + 1,p=>by
  have hk:((kidsD rs p).map (·.Node)).Nodup:=hn.sublist ((List.filter_sublist).map _)
  have hr':∀ r ∈ kidsD rs p,rightS r.Node = true:=fun r h=>hr r (List.mem_filter.1 h).1
  show (((List.range (kidsD rs p).length).flatMap _).map _).Nodup
  rw [List.map_flatMap,List.Nodup,List.pairwise_flatMap]
  refine ⟨fun i hi=>?_,?_⟩
  ·rw [List.mem_range] at hi
   rw [List.getElem?_eq_getElem hi]
   simp only [List.map_cons,List.map_map,List.pairwise_cons]
   refine ⟨fun b hb=>?_,?_⟩
   ·obtain ⟨⟨l',x⟩,h1,h2⟩:=List.mem_map.1 hb
    simp only [Function.comp_apply] at h2
    intro e
    rw [← h2] at e
    simp only [List.cons.injEq,true_and] at e
    exact (ways_ne h1).1 e.symm
   ·have ih:=ways_nd hn hr k (kidsD rs p)[i].Node
    rw [List.Nodup,List.pairwise_map] at ih
    rw [List.pairwise_map]
    refine ih.imp fun {a b} hab e=>hab ?_
    simp only [Function.comp_apply,List.cons.injEq,true_and] at e
    exact e
  ·refine (List.pairwise_lt_range).imp_of_mem fun {i j} hi hj hij a ha b hb e=>?_
   rw [List.mem_range] at hi hj
   rw [List.getElem?_eq_getElem hi] at ha
   rw [List.getElem?_eq_getElem hj] at hb
   have hd:∀ (i:Nat) (hi:i < (kidsD rs p).length) (a:List (List UInt8)),a ∈ ((([shownD (kidsD rs p) i (kidsD rs p)[i]],(kidsD rs p)[i]) :: (waysD rs k (kidsD rs p)[i].Node).map fun (q:List (List UInt8) × RwP)=>(shownD (kidsD rs p) i (kidsD rs p)[i] :: q.1,q.2)):List (List (List UInt8) × RwP)).map (fun q=>q.1) → a.head? = some (shownD (kidsD rs p) i (kidsD rs p)[i]):=fun i hi a ha=>by
    simp only [List.map_cons,List.map_map,List.mem_cons,List.mem_map,Function.comp_apply] at ha
    rcases ha with rfl | ⟨q,_,rfl⟩ <;> rfl
   have e1:=hd i hi a ha
   have e2:=hd j hj b hb
   rw [e,e2] at e1
   injection e1 with e1
   have:=shown_inj hk hr' hi hj e1.symm
   omega
/-! names between slashes -/
def joinD:List (List UInt8) → List UInt8
 | []=>[]
 | [x]=>x
 | x :: y :: l=>x ++ 47 :: joinD (y :: l)
theorem split_one {x:List UInt8} (h:(47:UInt8) ∉ x):splitD x = [x]:=by
 induction x with
 | nil=>rfl
 | cons b x ih =>
  unfold splitD
  rw [if_neg (fun e=>h (by rw [e];simp)),ih (fun hm=>h (List.mem_cons_of_mem _ hm))]
theorem split_more {x m:List UInt8} (h:(47:UInt8) ∉ x):splitD (x ++ 47 :: m) = x :: splitD m:=by
 induction x with
 | nil =>
  show splitD (47 :: m) = _
  rw [splitD,if_pos rfl]
 | cons b x ih =>
  show splitD (b :: (x ++ 47 :: m)) = _
  rw [splitD,if_neg (fun e=>h (by rw [e];simp)),ih (fun hm=>h (List.mem_cons_of_mem _ hm))]
theorem split_join:∀ {l:List (List UInt8)},l ≠ [] → (∀ x ∈ l,(47:UInt8) ∉ x) → splitD (joinD l) = l
 | [],h,_=>absurd rfl h
 | [x],_,h=>split_one (h x (by simp))
 | x :: y :: l,_,h=>by
  show splitD (x ++ 47 :: joinD (y :: l)) = _
  rw [split_more (h x (by simp)),split_join (by simp) (fun z hz=>h z (List.mem_cons_of_mem _ hz))]
theorem name_slash {l:List UInt8} (h:nameOk l = true):(47:UInt8) ∉ l:=fun hm=>by
 unfold nameOk at h
 simp only [Bool.and_eq_true,List.all_eq_true,decide_eq_true_eq] at h
 exact (h.2 47 hm).1.2 rfl
theorem shown_slash {us:List RwP} {i:Nat} {r:RwP} (hn:nameOk r.Name = true) (hr:rightS r.Node = true):(47:UInt8) ∉ shownD us i r:=by
 unfold shownD
 split
 ·unfold sfxD
  unfold rightS at hr
  simp only [Bool.and_eq_true,decide_eq_true_eq] at hr
  rw [itoa_pos (by omega),itoa_pos (by omega)]
  intro hm
  rcases List.mem_append.1 hm with hm | hm
  ·exact name_slash hn hm
  ·rcases List.mem_cons.1 hm with hm | hm
   ·exact absurd hm (by decide)
   ·rcases List.mem_append.1 hm with hm | hm
    ·exact no_dig (.inl (by decide)) hm
    ·rcases List.mem_cons.1 hm with hm | hm
     ·exact absurd hm (by decide)
     ·exact no_dig (.inl (by decide)) hm
 ·exact name_slash hn
theorem ways_slash {rs:List RwP} (hn:∀ r ∈ rs,nameOk r.Name = true ∧ rightS r.Node = true) {k:Nat}:∀ {p:St} {l:List (List UInt8)} {x:RwP},(l,x) ∈ waysD rs k p → ∀ s ∈ l,(47:UInt8) ∉ s:=by
 induction k with
 | zero=>intro p l x h;cases h
 | succ k ih =>
  intro p l x h
  obtain ⟨i,hi,h⟩:=ways_mem.1 h
  have hm:(kidsD rs p)[i] ∈ rs:=(List.mem_filter.1 (List.getElem_mem hi)).1
  have h0:=shown_slash (us:=kidsD rs p) (i:=i) (hn _ hm).1 (hn _ hm).2
  rcases h with ⟨rfl,rfl⟩ | ⟨l',rfl,hq⟩
  ·intro s hs
   rw [List.mem_singleton] at hs
   rw [hs]
   exact h0
  ·intro s hs
   rcases List.mem_cons.1 hs with hs | hs
   ·rw [hs]
    exact h0
   ·exact ih hq s hs
theorem ways_path {rs:List RwP} (h:TreeOk rs) {k:Nat} {l:List (List UInt8)} {x:RwP} (hx:(l,x) ∈ waysD rs k zSt):splitD (joinD l) = l ∧ walkD rs zRwP (splitD (joinD l)) = (x,(splitD (joinD l)).length):=by
 have hr:∀ r ∈ rs,nameOk r.Name = true ∧ rightS r.Node = true:=fun r hr=>⟨((rightR_iff r).1 (h.ok r hr)).1.2.2.2.1,rightR_node (h.ok r hr)⟩
 have e:=split_join (ways_ne hx).1 (ways_slash hr hx)
 rw [e]
 exact ⟨rfl,ways_walk h.nd (fun r hr'=>(hr r hr').2) hx zRwP rfl⟩
theorem ways_paths {rs:List RwP} (h:TreeOk rs) (k:Nat):((waysD rs k zSt).map fun q=>joinD q.1).Nodup:=by
 have hr:∀ r ∈ rs,nameOk r.Name = true ∧ rightS r.Node = true:=fun r hr=>⟨((rightR_iff r).1 (h.ok r hr)).1.2.2.2.1,rightR_node (h.ok r hr)⟩
 have nd:=ways_nd h.nd (fun r hr'=>(hr r hr').2) k zSt
 rw [List.Nodup,List.pairwise_map] at nd ⊢
 refine nd.imp_of_mem fun {a b} ha hb hab e=>hab ?_
 obtain ⟨la,xa⟩:=a
 obtain ⟨lb,xb⟩:=b
 have e1:=split_join (ways_ne ha).1 (ways_slash hr ha)
 have e2:=split_join (ways_ne hb).1 (ways_slash hr hb)
 show la = lb
 rw [← e1,← e2]
 exact congrArg splitD e
def lev (rs:List RwP) (k:Nat) (s:St):Prop:=reach rs k s = true ∧ ∀ j,j < k → reach rs j s = false
theorem lev_one {rs:List RwP} {j k:Nat} {s:St} (h1:lev rs j s) (h2:lev rs k s):j = k:=by
 rcases Nat.lt_trichotomy j k with h | h | h
 ·have:=h2.2 j h;rw [h1.1] at this;cases this
 ·exact h
 ·have:=h1.2 k h;rw [h2.1] at this;cases this
theorem lev_fixed {rs:List RwP} {s:St} (h:fixedS s = true):lev rs 0 s:=⟨h,fun j hj=>by omega⟩
theorem lev_kid {rs:List RwP} (h:TreeOk rs) {r:RwP} (hr:r ∈ rs) {k:Nat} (hk:lev rs k r.Parent):lev rs (k + 1) r.Node:=by
 have hf:=h.find hr
 have h0:fixedS r.Node = false:=by
  cases e:fixedS r.Node with
  | false=>rfl
  | true=>exact absurd (fixedS_T e) (rightS_T (rightR_node (h.ok r hr)))
 refine ⟨reach_step hf hk.1,fun j hj=>?_⟩
 cases j with
 | zero=>exact h0
 | succ j =>
  unfold reach
  rw [h0,hf]
  exact hk.2 j (by omega)
def stepU (rs:List RwP) (s:St):St:=match findR rs s with | none=>s | some r=>r.Parent
def upN (rs:List RwP):Nat → St → St
 | 0,s=>s
 | n + 1,s=>stepU rs (upN rs n s)
theorem step_kid {rs:List RwP} (h:TreeOk rs) {r:RwP} (hr:r ∈ rs):stepU rs r.Node = r.Parent:=by
 unfold stepU
 rw [h.find hr]
theorem kids_in {rs:List RwP} {p:St} {i:Nat} (hi:i < (kidsD rs p).length):(kidsD rs p)[i] ∈ rs ∧ (kidsD rs p)[i].Parent = p:=by
 have:=List.mem_filter.1 (List.getElem_mem hi)
 exact ⟨this.1,by simpa using this.2⟩
theorem ways_lev {rs:List RwP} (h:TreeOk rs) {k:Nat}:∀ {p:St} {d:Nat} {l:List (List UInt8)} {x:RwP},lev rs d p → (l,x) ∈ waysD rs k p → lev rs (d + l.length) x.Node:=by
 induction k with
 | zero=>intro p d l x _ hx;cases hx
 | succ k ih =>
  intro p d l x hd hx
  obtain ⟨i,hi,hx⟩:=ways_mem.1 hx
  have hk:=kids_in hi
  have h1:=lev_kid h hk.1 (by rw [hk.2];exact hd)
  rcases hx with ⟨rfl,rfl⟩ | ⟨l',rfl,hq⟩
  ·exact h1
  ·have:=ih h1 hq
   rw [List.length_cons,show d + (l'.length + 1) = d + 1 + l'.length by omega]
   exact this
theorem ways_up {rs:List RwP} (h:TreeOk rs) {k:Nat}:∀ {p:St} {l:List (List UInt8)} {x:RwP},(l,x) ∈ waysD rs k p → upN rs l.length x.Node = p:=by
 induction k with
 | zero=>intro p l x hx;cases hx
 | succ k ih =>
  intro p l x hx
  obtain ⟨i,hi,hx⟩:=ways_mem.1 hx
  have hk:=kids_in hi
  rcases hx with ⟨rfl,rfl⟩ | ⟨l',rfl,hq⟩
  ·show stepU rs (kidsD rs p)[i].Node = p
   rw [step_kid h hk.1,hk.2]
  ·have:=ih hq
   show stepU rs (upN rs l'.length x.Node) = p
   rw [this,step_kid h hk.1,hk.2]
theorem ways_nodes {rs:List RwP} (h:TreeOk rs):∀ (k:Nat) (p:St) (d:Nat),lev rs d p → ((waysD rs k p).map (·.2.Node)).Nodup
 | 0,p,d,_=>by simp [waysD]
 | k + 1,p,d,hd=>by
  have hk:((kidsD rs p).map (·.Node)).Nodup:=h.nd.sublist ((List.filter_sublist).map _)
  have lv:∀ (i:Nat) (hi:i < (kidsD rs p).length),lev rs (d + 1) (kidsD rs p)[i].Node:=fun i hi=>lev_kid h (kids_in hi).1 (by rw [(kids_in hi).2];exact hd)
  show (((List.range (kidsD rs p).length).flatMap _).map _).Nodup
  rw [List.map_flatMap,List.Nodup,List.pairwise_flatMap]
  refine ⟨fun i hi=>?_,?_⟩
  ·rw [List.mem_range] at hi
   rw [List.getElem?_eq_getElem hi]
   simp only [List.map_cons,List.map_map,List.pairwise_cons]
   refine ⟨fun b hb=>?_,?_⟩
   ·obtain ⟨⟨l',x⟩,h1,h2⟩:=List.mem_map.1 hb
    simp only [Function.comp_apply] at h2
    intro e
    have h3:=ways_lev h (lv i hi) h1
    rw [h2,← e] at h3
    have:=lev_one h3 (lv i hi)
    have:=List.length_pos_iff.2 (ways_ne h1).1
    omega
   ·have ih:=ways_nodes h k (kidsD rs p)[i].Node (d + 1) (lv i hi)
    rw [List.Nodup,List.pairwise_map] at ih
    rw [List.pairwise_map]
    exact ih
  ·refine (List.pairwise_lt_range).imp_of_mem fun {i j} hi hj hij a ha b hb e=>?_
   rw [List.mem_range] at hi hj
   rw [List.getElem?_eq_getElem hi] at ha
   rw [List.getElem?_eq_getElem hj] at hb
   have hd2:∀ (i:Nat) (hi:i < (kidsD rs p).length) (a:St),a ∈ ((([shownD (kidsD rs p) i (kidsD rs p)[i]],(kidsD rs p)[i]) :: (waysD rs k (kidsD rs p)[i].Node).map fun (q:List (List UInt8) × RwP)=>(shownD (kidsD rs p) i (kidsD rs p)[i] :: q.1,q.2)):List (List (List UInt8) × RwP)).map (fun q=>q.2.Node) → ∃ n,lev rs (d + 1 + n) a ∧ upN rs n a = (kidsD rs p)[i].Node:=fun i hi a ha=>by
    simp only [List.map_cons,List.map_map,List.mem_cons,List.mem_map,Function.comp_apply] at ha
    rcases ha with rfl | ⟨⟨l,x⟩,hq,rfl⟩
    ·exact ⟨0,lv i hi,rfl⟩
    ·exact ⟨l.length,ways_lev h (lv i hi) hq,ways_up h hq⟩
   obtain ⟨n1,a1,a2⟩:=hd2 i hi a ha
   obtain ⟨n2,b1,b2⟩:=hd2 j hj b hb
   rw [← e] at b1 b2
   have:=lev_one a1 b1
   rw [show n2 = n1 by omega,a2] at b2
   exact (List.pairwise_iff_getElem.1 hk) i j (by simpa using hi) (by simpa using hj) hij (by simpa using b2)
noncomputable def rightB (rs:List RwP):Bool:=@decide (TreeOk rs) (Classical.propDecidable _)
theorem rightB_iff {rs:List RwP}:rightB rs = true ↔ TreeOk rs:=by
 unfold rightB
 exact @decide_eq_true_iff _ (Classical.propDecidable _)
theorem rightB_no {rs:List RwP} (h:¬ TreeOk rs):rightB rs = false:=by
 cases e:rightB rs with
 | false=>rfl
 | true=>exact absurd (rightB_iff.1 e) h
def rowN (r:Int) (nm:List UInt8) (i:Nat):RwP:=⟨⟨(i:Int) + 1,r⟩,zSt,⟨(i:Int) + 1,r⟩,nm,[]⟩
def rowsN (r:Int) (nm:List UInt8) (n:Nat):List RwP:=(List.range n).map (rowN r nm)
theorem rowsN_len (r:Int) (nm:List UInt8) (n:Nat):(rowsN r nm n).length = n:=by simp [rowsN]
theorem rowsN_get (r:Int) (nm:List UInt8) (n i:Nat) (h:i < n):(rowsN r nm n)[i]'(by rw [rowsN_len];exact h) = rowN r nm i:=by simp [rowsN]
theorem rowsN_mem {r:Int} {nm:List UInt8} {n:Nat} {x:RwP}:x ∈ rowsN r nm n ↔ ∃ i,i < n ∧ x = rowN r nm i:=by
 unfold rowsN
 rw [List.mem_map]
 constructor
 ·rintro ⟨i,hi,rfl⟩;exact ⟨i,List.mem_range.1 hi,rfl⟩
 ·rintro ⟨i,hi,rfl⟩;exact ⟨i,List.mem_range.2 hi,rfl⟩
theorem rowsN_kids (r:Int) (nm:List UInt8) (n:Nat):kidsD (rowsN r nm n) zSt = rowsN r nm n:=by
 unfold kidsD
 rw [List.filter_eq_self]
 intro x hx
 obtain ⟨i,_,rfl⟩:=rowsN_mem.1 hx
 simp [rowN]
theorem rowsN_none (r:Int) (nm:List UInt8) (n i:Nat):kidsD (rowsN r nm n) (rowN r nm i).Node = []:=by
 unfold kidsD
 rw [List.filter_eq_nil_iff]
 intro x hx
 obtain ⟨j,_,rfl⟩:=rowsN_mem.1 hx
 simp only [rowN]
 intro e
 have:=congrArg St.T (of_decide_eq_true e)
 simp only [zSt] at this
 omega
theorem rowsN_ways (r:Int) (nm:List UInt8) (n k:Nat):waysD (rowsN r nm n) (k + 1) zSt = (List.range n).map fun i=>([shownD (rowsN r nm n) i (rowN r nm i)],rowN r nm i):=by
 show (List.range (kidsD (rowsN r nm n) zSt).length).flatMap _ = _
 rw [rowsN_kids,rowsN_len]
 have e:∀ i ∈ List.range n,(match (rowsN r nm n)[i]? with | none=>[] | some x=>([shownD (rowsN r nm n) i x],x) :: (waysD (rowsN r nm n) k x.Node).map fun (q:List (List UInt8) × RwP)=>(shownD (rowsN r nm n) i x :: q.1,q.2)) = [([shownD (rowsN r nm n) i (rowN r nm i)],rowN r nm i)]:=fun i hi=>by
  rw [List.mem_range] at hi
  rw [List.getElem?_eq_getElem (by rw [rowsN_len];exact hi),rowsN_get _ _ _ _ hi]
  simp only
  have h0:waysD (rowsN r nm n) k (rowN r nm i).Node = []:=by
   cases k with
   | zero=>rfl
   | succ k =>
    show (List.range (kidsD (rowsN r nm n) (rowN r nm i).Node).length).flatMap _ = _
    rw [rowsN_none]
    rfl
  rw [h0]
  rfl
 rw [List.map_eq_flatMap]
 have cg:∀ {f g:Nat → List (List (List UInt8) × RwP)} (l:List Nat),(∀ i ∈ l,f i = g i) → l.flatMap f = l.flatMap g:=fun {f g} l hl=>by
  induction l with
  | nil=>rfl
  | cons a l ih=>rw [List.flatMap_cons,List.flatMap_cons,hl a (by simp),ih (fun i hi=>hl i (by simp [hi]))]
 exact cg _ e
theorem rowsN_twice (r:Int) (nm:List UInt8) (n i:Nat) (hi:i < n):twiceD (rowsN r nm n) i (rowN r nm i) = (decide (0 < i) || nm.contains 126):=by
 unfold twiceD
 have e:((rowsN r nm n).take i).any (fun x=>decide (x.Name = (rowN r nm i).Name)) = decide (0 < i):=by
  rw [Bool.eq_iff_iff,List.any_eq_true,decide_eq_true_eq]
  constructor
  ·rintro ⟨x,hx,_⟩
   rcases Nat.eq_zero_or_pos i with e | e
   ·rw [e,List.take_zero] at hx
    cases hx
   ·exact e
  ·intro h0
   refine ⟨rowN r nm 0,?_,by simp [rowN]⟩
   rw [List.mem_take_iff_getElem]
   refine ⟨0,by rw [rowsN_len];omega,?_⟩
   exact rowsN_get r nm n 0 (by omega)
 rw [e]
 rfl
theorem rowsN_shown (r:Int) (nm:List UInt8) (n i:Nat) (hi:i < n):shownD (rowsN r nm n) i (rowN r nm i) = if 0 < i ∨ nm.contains 126 = true then nm ++ sfxD ⟨(i:Int) + 1,r⟩ else nm:=by
 unfold shownD
 rw [rowsN_twice r nm n i hi]
 by_cases h:0 < i ∨ nm.contains 126 = true
 ·rw [if_pos (by simpa using h),if_pos h]
  rfl
 ·rw [if_neg (by simpa using h),if_neg h]
  rfl
theorem sfxD_ne (s:St):sfxD s ≠ []:=by simp [sfxD]
theorem rowsN_plain (r:Int) (nm:List UInt8):∀ n,0 < n → ((List.range n).filter fun i=>decide (shownD (rowsN r nm n) i (rowN r nm i) = nm)).length = if nm.contains 126 = true then 0 else 1:=fun n hn=>by
 have e:∀ i ∈ List.range n,decide (shownD (rowsN r nm n) i (rowN r nm i) = nm) = (decide (i = 0) && !(nm.contains 126)):=fun i hi=>by
  rw [List.mem_range] at hi
  rw [rowsN_shown r nm n i hi]
  by_cases h:0 < i ∨ nm.contains 126 = true
  ·rw [if_pos h,decide_eq_false (fun e=>sfxD_ne ⟨(i:Int) + 1,r⟩ (List.append_right_eq_self.1 e))]
   rcases h with h | h
   ·rw [decide_eq_false (by omega)];rfl
   ·rw [h];simp
  ·rw [if_neg h]
   have h1:i = 0:=by omega
   have h2:nm.contains 126 = false:=by
    cases e:nm.contains 126 with
    | false=>rfl
    | true=>exact absurd (.inr e) h
   rw [h1,h2]
   simp
 rw [List.filter_congr e]
 cases hc:nm.contains 126 with
 | true=>simp
 | false =>
  rw [if_neg (by simp)]
  obtain ⟨m,rfl⟩:∃ m,n = m + 1:=⟨n - 1,by omega⟩
  rw [List.range_succ_eq_map,List.filter_cons,if_pos (by simp)]
  have:((List.range m).map Nat.succ).filter (fun i=>decide (i = 0) && !false) = []:=by
   rw [List.filter_eq_nil_iff]
   intro x hx
   obtain ⟨y,_,rfl⟩:=List.mem_map.1 hx
   simp
  rw [this]
  rfl
theorem sfx_bytes {s:St} (h:rightS s = true):∀ b ∈ sfxD s,b ≠ 0 ∧ b ≠ 47 ∧ b ≠ 10:=by
 unfold rightS at h
 simp only [Bool.and_eq_true,decide_eq_true_eq] at h
 unfold sfxD
 rw [itoa_pos (by omega),itoa_pos (by omega)]
 have hd:∀ {n:Nat} (b:UInt8),b ∈ Lib.decDigits n → b ≠ 0 ∧ b ≠ 47 ∧ b ≠ 10:=fun {n} b hb=>by
  have:=dec_dig n b hb
  refine ⟨?_,?_,?_⟩ <;> (rintro rfl;revert this;decide)
 intro b hb
 rcases List.mem_cons.1 hb with rfl | hb
 ·decide
 ·rcases List.mem_append.1 hb with hb | hb
  ·exact hd b hb
  ·rcases List.mem_cons.1 hb with rfl | hb
   ·decide
   ·exact hd b hb
theorem shown_name {us:List RwP} {i:Nat} {x:RwP} (hn:nameOk x.Name = true) (hr:rightS x.Node = true) (hl:(shownD us i x).length ≤ 60):nameOk (shownD us i x) = true:=by
 unfold shownD at hl ⊢
 split
 ·rename_i ht
  rw [if_pos ht] at hl
  unfold nameOk at hn ⊢
  simp only [Bool.and_eq_true,List.all_eq_true,decide_eq_true_eq] at hn ⊢
  have hm:(126:UInt8) ∈ x.Name ++ sfxD x.Node:=by unfold sfxD;simp
  refine ⟨⟨⟨⟨by rw [List.length_append];omega,hl⟩,fun e=>?_⟩,fun e=>?_⟩,fun b hb=>?_⟩
  ·rw [e] at hm;revert hm;decide
  ·rw [e] at hm;revert hm;decide
  ·rcases List.mem_append.1 hb with hb | hb
   ·exact hn.2 b hb
   ·obtain ⟨a,b,c⟩:=sfx_bytes hr _ hb
    exact ⟨⟨a,b⟩,c⟩
 ·exact hn
structure EnP where
 Path:List UInt8
 Node:St
 Heads:List Hd
def entD (ah:List UInt8) (q:List (List UInt8) × RwP):EnP:=⟨ah ++ joinD q.1,q.2.Node,q.2.Heads⟩
def listF (rs:List RwP) (k:Nat) (p:St) (ah:List UInt8):List EnP:=(waysD rs k p).map (entD ah)
def listKi (rs:List RwP) (k:Nat) (us:List RwP) (ah:List UInt8) (j:Nat):List EnP:=match us[j]? with
 | none=>[]
 | some r=>⟨ah ++ shownD us j r,r.Node,r.Heads⟩ :: listF rs k r.Node (ah ++ shownD us j r ++ [47])
def listK (rs:List RwP) (k:Nat) (us:List RwP) (ah:List UInt8) (i:Nat):List EnP:=(List.range i).flatMap (listKi rs k us ah)
theorem joinD_cons (x:List UInt8) {l:List (List UInt8)} (h:l ≠ []):joinD (x :: l) = x ++ 47 :: joinD l:=by
 cases l with
 | nil=>exact absurd rfl h
 | cons y l=>rfl
theorem listF_succ (rs:List RwP) (k:Nat) (p:St) (ah:List UInt8):listF rs (k + 1) p ah = listK rs k (kidsD rs p) ah (kidsD rs p).length:=by
 unfold listF listK
 show ((List.range (kidsD rs p).length).flatMap _).map _ = _
 rw [List.map_flatMap]
 congr 1
 funext i
 unfold listKi
 cases (kidsD rs p)[i]? with
 | none=>rfl
 | some r =>
  simp only [List.map_cons,List.map_map]
  congr 1
  refine List.map_congr_left fun q hq=>?_
  obtain ⟨l,x⟩:=q
  simp only [Function.comp_apply,entD]
  rw [joinD_cons _ (ways_ne hq).1]
  simp
theorem listK_snoc (rs:List RwP) (k:Nat) (us:List RwP) (ah:List UInt8) (i:Nat) (h:i < us.length):listK rs k us ah (i + 1) = listK rs k us ah i ++ [⟨ah ++ shownD us i us[i],us[i].Node,us[i].Heads⟩] ++ listF rs k us[i].Node (ah ++ shownD us i us[i] ++ [47]):=by
 unfold listK
 rw [List.range_succ,List.flatMap_append]
 show _ ++ (listKi rs k us ah i ++ []) = _
 unfold listKi
 rw [List.getElem?_eq_getElem h]
 simp
theorem listK_le (rs:List RwP) (k:Nat) (us:List RwP) (ah:List UInt8) {i j:Nat} (h:i ≤ j):(listK rs k us ah i).length ≤ (listK rs k us ah j).length:=by
 obtain ⟨d,rfl⟩:=Nat.exists_eq_add_of_le h
 unfold listK
 rw [List.range_add,List.flatMap_append,List.length_append]
 omega
theorem lev_le {rs:List RwP} {d:Nat} {s:St} (h:lev rs d s):d ≤ rs.length:=by
 have h1:=reach_len h.1
 rcases Nat.lt_or_ge rs.length d with h2 | h2
 ·rw [h.2 _ h2] at h1
  cases h1
 ·exact h2
theorem ways_lenP {rs:List RwP} (h:TreeOk rs) (k:Nat) {p:St} {d:Nat} (hl:lev rs d p):(waysD rs k p).length ≤ rs.length:=by
 have h1:=ways_nodes h k p d hl
 have:=nd_leS ((waysD rs k p).map (·.2.Node)) (rs.map (·.Node)) h1 (fun s hs=>by
  obtain ⟨⟨l,x⟩,hq,rfl⟩:=List.mem_map.1 hs
  exact List.mem_map.2 ⟨x,(ways_ne hq).2,rfl⟩)
 simpa using this
theorem listF_len {rs:List RwP} (h:TreeOk rs) (k:Nat) {p:St} {d:Nat} (hl:lev rs d p) (ah:List UInt8):(listF rs k p ah).length ≤ rs.length:=by
 unfold listF
 rw [List.length_map]
 exact ways_lenP h k hl
theorem lev_kids {rs:List RwP} (h:TreeOk rs) {p:St} {d:Nat} (hl:lev rs d p) {i:Nat} (hi:i < (kidsD rs p).length):lev rs (d + 1) (kidsD rs p)[i].Node:=lev_kid h (kids_in hi).1 (by rw [(kids_in hi).2];exact hl)
theorem kids_none {rs:List RwP} (h:TreeOk rs) {p:St} {d:Nat} (hl:lev rs d p) (hd:rs.length ≤ d):(kidsD rs p).length = 0:=by
 rcases Nat.eq_zero_or_pos (kidsD rs p).length with h1 | h1
 ·exact h1
 ·have:=lev_le (lev_kids h hl h1)
  omega
end Go.Proofs.YthehiobacjjakaaGreatDoor
