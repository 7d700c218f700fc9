/- Plain: of a draft's calls: the rows stay a tree; what is refused changes nothing; how many rows and stamps are taken. Plain: the nodes under a place, each with the names that lead to it; paths. Plain: a node is listed once at most; what WorkPaths and WorkNames say of lists. Plain: what snap.Right finds on the ways up. Plain: nodes of one name under the root (WorkNames). Plain: the entries of a list, place by place. -/
import Derived.Test.YthehiobacjjakaaGreatDoorWkQKp
set_option linter.unusedVariables false
set_option linter.unusedSimpArgs false
namespace Go.Proofs.YthehiobacjjakaaGreatDoor
theorem cmp_tick (s:St) (n:Nat) (h:0 < n):cmpS s (tickD s n) < 0:=by
 unfold cmpS tickD
 simp only
 rw [if_pos (by omega)]
 decide
theorem tick_tick (s:St) (m n:Nat):tickD (tickD s m) n = tickD s (m + n):=by
 unfold tickD
 simp only [St.mk.injEq,and_true]
 omega
theorem tick_zero (s:St):tickD s 0 = s:=by
 unfold tickD
 simp
theorem room_right {d:Dft} {n:Nat} (h:roomD d n = true) (k:Nat) (hk:k < n):rightS (tickD d.next k) = true:=by
 unfold roomD at h
 simp only [Bool.and_eq_true] at h
 obtain ⟨⟨h1,h2⟩,_⟩:=h
 unfold rightS at h1 h2 ⊢
 unfold tickD
 simp only [Bool.and_eq_true,decide_eq_true_eq] at h1 h2 ⊢
 omega
theorem grow_ok:∀ (l:List (List UInt8)) (d:Dft) (a:RwP),TreeOk d.rows → (∀ r ∈ d.rows,cmpS r.Node d.next < 0) → (∀ k,k < l.length → rightS (tickD d.next k) = true ∧ tickD d.next k ≠ lastS) →
  (∀ s ∈ l,nameOk s = true) → d.rows.length + l.length ≤ 5000 → (a = zRwP ∨ a ∈ d.rows) →
  TreeOk (growD d a l).1.rows ∧ (∀ r ∈ (growD d a l).1.rows,cmpS r.Node (growD d a l).1.next < 0) ∧ (growD d a l).1.rows.length = d.rows.length + l.length ∧ (growD d a l).1.next = tickD d.next l.length ∧
   ((l = [] ∧ (growD d a l).2 = a) ∨ (growD d a l).2 ∈ (growD d a l).1.rows)
 | [],d,a,h1,h2,_,_,_,_=>⟨h1,h2,rfl,(tick_zero _).symm,.inl ⟨rfl,rfl⟩⟩
 | nm :: l,d,a,h1,h2,h3,h4,h5,h6=>by
  have hr:=h3 0 (by simp)
  rw [tick_zero] at hr
  have hnm:=h4 nm (by simp)
  have hn:findR d.rows d.next = none:=by
   rw [findR_none]
   intro r hr' e
   have:=h2 r hr'
   rw [e,cmpS_self] at this
   omega
  have hlen:(putR d.rows (⟨d.next,a.Node,d.next,nm,[]⟩:RwP)).length = d.rows.length + 1:=by
   rw [putR_len]
   show (if (findR d.rows d.next).isSome then _ else _) = _
   rw [hn]
   rfl
  have hrr:rightR (⟨d.next,a.Node,d.next,nm,[]⟩:RwP) = true:=(rightR_iff _).2 ⟨⟨hr.1,hr.1,by simp [cmpS_self],hnm,by simp,by simp,by simp [riseB]⟩,hr.2⟩
  have hup:∃ K,reach d.rows K a.Node = true:=by
   rcases h6 with rfl | h6
   ·exact ⟨0,show fixedS zSt = true from by decide⟩
   ·exact h1.up a h6
  obtain ⟨K,hK⟩:=hup
  simp only [List.length_cons] at h5
  have ht:=h1.put hrr (.inr ⟨by omega,fun x hx=>h2 x hx⟩) (reach_new (r:=(⟨d.next,a.Node,d.next,nm,[]⟩:RwP)) hn K _ hK)
  have hin:(⟨d.next,a.Node,d.next,nm,[]⟩:RwP) ∈ putR d.rows (⟨d.next,a.Node,d.next,nm,[]⟩:RwP):=by
   unfold putR
   rw [if_neg (by simp [hn])]
   simp
  obtain ⟨g1,g2,g3,g4,g5⟩:=grow_ok l ⟨putR d.rows ⟨d.next,a.Node,d.next,nm,[]⟩,tickD d.next 1⟩ ⟨d.next,a.Node,d.next,nm,[]⟩ ht (fun x hx=>by
   rcases mem_put hx with rfl | ⟨hx,_⟩
   ·exact cmp_tick _ 1 (by decide)
   ·exact cmpS_trans (h2 x hx) (cmp_tick _ 1 (by decide))) (fun k hk=>by
    show rightS (tickD (tickD d.next 1) k) = true ∧ tickD (tickD d.next 1) k ≠ lastS
    rw [tick_tick,Nat.add_comm]
    exact h3 (k + 1) (by simpa using hk)) (fun s hs=>h4 s (by simp [hs])) (by show _ + _ ≤ _;rw [hlen];omega) (.inr hin)
  refine ⟨g1,g2,?_,?_,?_⟩
  ·show (growD _ _ l).1.rows.length = _
   rw [g3]
   show (putR d.rows _).length + _ = _
   rw [hlen,List.length_cons]
   omega
  ·show (growD _ _ l).1.next = _
   rw [g4]
   show tickD (tickD d.next 1) _ = _
   rw [tick_tick,List.length_cons,Nat.add_comm]
  ·right
   rcases g5 with ⟨el,g5⟩ | g5
   ·show (growD _ _ l).2 ∈ (growD _ _ l).1.rows
    rw [g5]
    subst el
    exact hin
   ·exact g5
structure CallOk (d:Dft) (r:Dft × Int) (one:Bool):Prop where
 same:r.2 ≠ 0 → r.1 = d
 tree:TreeOk d.rows → TreeOk r.1.rows
 took:TreeOk d.rows → r.2 = 0 → ∃ k,r.1.rows.length = d.rows.length + k ∧ r.1.next = tickD d.next (k + 1) ∧ (one = true → k = 0)
theorem CallOk.no {d:Dft} {e:Int} (he:e ≠ 0) (one:Bool):CallOk d (d,e) one:=⟨fun _=>rfl,fun h=>h,fun _ h=>absurd h he⟩
theorem names_name {p:List UInt8} (h:namesOk p = true):∀ s ∈ splitD p,nameOk s = true:=by
 unfold namesOk at h
 simp only [Bool.and_eq_true,List.all_eq_true] at h
 exact h.1.1
theorem TreeOk.set {rs:List RwP} (h:TreeOk rs) {r x:RwP} (hx:x ∈ rs) (hn:r.Node = x.Node) (hr:rightR r = true) {K:Nat} (hK:reach (putR rs r) K r.Parent = true):TreeOk (putR rs r) ∧ (putR rs r).length = rs.length:=by
 have hf:findR rs r.Node = some x:=by rw [hn];exact h.find hx
 exact ⟨h.put hr (.inl (by rw [hf];rfl)) hK,by rw [putR_len,hf];rfl⟩
theorem TreeOk.parent {rs:List RwP} (h:TreeOk rs) {x:RwP} (hx:x ∈ rs):∃ k,reach rs k x.Parent = true:=by
 obtain ⟨k,hk⟩:=h.up x hx
 rcases reach_inv hk with hf | ⟨j,y,_,hf,hy⟩
 ·have h1:=rightR_node (h.ok x hx)
  exact absurd (fixedS_T hf) (rightS_T h1)
 ·rw [h.find hx] at hf
  injection hf with hf
  subst hf
  exact ⟨j,hy⟩
theorem remove_ok (d:Dft) (p:List UInt8):CallOk d (removeF d p) true:=by
 unfold removeF
 split
 ·exact CallOk.no (by decide) _
 split
 ·exact CallOk.no (by decide) _
 split
 ·exact CallOk.no (by decide) _
 rename_i h1 h2 h3
 have h3:roomD d 1 = true:=by simpa using h3
 have hm:(walkD d.rows zRwP (splitD p)).1 ∈ d.rows:=by
  rcases walkD_mem d.rows zRwP (splitD p) with h | h
  ·have:=List.length_pos_iff.2 (split_ne p)
   omega
  ·exact h
 generalize (walkD d.rows zRwP (splitD p)).1 = x at hm
 have hs:TreeOk d.rows → TreeOk (putR d.rows { x with Parent:=trS,At:=d.next }) ∧ (putR d.rows { x with Parent:=trS,At:=d.next }).length = d.rows.length:=fun h=>by
  have hr:=(rightR_iff x).1 (h.ok x hm)
  have h4:=room_right h3 0 (by decide)
  rw [tick_zero] at h4
  have h5:=room_lt h3 x hm
  exact h.set (x:=x) hm rfl ((rightR_iff _).2 ⟨⟨hr.1.1,h4,by have:=cmpS_flip x.Node d.next;show 0 ≤ cmpS d.next x.Node;omega,hr.1.2.2.2⟩,hr.2⟩) (reach_fixed (show fixedS trS = true from by decide) 0)
 exact ⟨fun h=>absurd rfl h,fun h=>(hs h).1,fun h _=>⟨0,(hs h).2,rfl,fun _=>rfl⟩⟩
theorem move_ok (d:Dft) (p q:List UInt8):CallOk d (moveF d p q) true:=by
 unfold moveF
 split
 ·exact CallOk.no (by decide) _
 split
 ·exact CallOk.no (by decide) _
 split
 ·exact CallOk.no (by decide) _
 split
 ·exact CallOk.no (by decide) _
 split
 ·exact CallOk.no (by decide) _
 split
 ·exact CallOk.no (by decide) _
 rename_i h1 h2 h3 h4 h5 h6
 have h6:roomD d 1 = true:=by simpa using h6
 have h1:namesOk p = true ∧ namesOk q = true ∧ ¬ 126 ∈ lastN q:=by simpa using h1
 have hm:(walkD d.rows zRwP (splitD p)).1 ∈ d.rows:=by
  rcases walkD_mem d.rows zRwP (splitD p) with h | h
  ·have:=List.length_pos_iff.2 (split_ne p)
   omega
  ·exact h
 have hpl:(walkD d.rows zRwP (aheadN q)).1 = zRwP ∨ (walkD d.rows zRwP (aheadN q)).1 ∈ d.rows:=by
  rcases walkD_mem d.rows zRwP (aheadN q) with h | h
  ·exact .inl h.1
  ·exact .inr h
 have hnm:nameOk (lastN q) = true:=names_name h1.2.1 _ (List.getLast_mem _)
 have hab:aboveR d.rows (walkD d.rows zRwP (splitD p)).1.Node (walkD d.rows zRwP (aheadN q)).1.Node = false:=by
  cases e:aboveR d.rows (walkD d.rows zRwP (splitD p)).1.Node (walkD d.rows zRwP (aheadN q)).1.Node with
  | false=>rfl
  | true=>exact absurd (.inr e) h4
 generalize (walkD d.rows zRwP (splitD p)).1 = x at hm hab
 generalize (walkD d.rows zRwP (aheadN q)).1 = y at hpl hab
 have hs:TreeOk d.rows → TreeOk (putR d.rows { x with Parent:=y.Node,Name:=lastN q,At:=d.next }) ∧ (putR d.rows { x with Parent:=y.Node,Name:=lastN q,At:=d.next }).length = d.rows.length:=fun h=>by
  have hr:=(rightR_iff x).1 (h.ok x hm)
  have h7:=room_right h6 0 (by decide)
  rw [tick_zero] at h7
  have h8:=room_lt h6 x hm
  have hy:reach d.rows d.rows.length y.Node = true ∧ (fixedS y.Node = true ∨ y.Node.T ≠ 0):=by
   rcases hpl with rfl | hy
   ·exact ⟨reach_fixed (show fixedS zSt = true from by decide) _,.inl (show fixedS zSt = true from by decide)⟩
   ·obtain ⟨k,hk⟩:=h.up y hy
    exact ⟨reach_len hk,.inr (rightS_T (rightR_node (h.ok y hy)))⟩
  have hps:∀ z ∈ d.rows,fixedS z.Parent = true ∨ z.Parent.T ≠ 0:=fun z hz=>by
   obtain ⟨k,hk⟩:=h.parent hz
   rcases reach_inv hk with hf | ⟨j,v,_,hf,_⟩
   ·exact .inl hf
   ·obtain ⟨h9,h10⟩:=findR_some hf
    rw [← h10]
    exact .inr (rightS_T (rightR_node (h.ok v h9)))
  have hro:=reach_off (r:={ x with Parent:=y.Node,Name:=lastN q,At:=d.next }) d.rows.length y.Node hy.1 hab hy.2 hps
  exact h.set (x:=x) hm rfl ((rightR_iff _).2 ⟨⟨hr.1.1,h7,by have:=cmpS_flip x.Node d.next;show 0 ≤ cmpS d.next x.Node;omega,hnm,hr.1.2.2.2.2⟩,hr.2⟩) hro
 exact ⟨fun h=>absurd rfl h,fun h=>(hs h).1,fun h _=>⟨0,(hs h).2,rfl,fun _=>rfl⟩⟩
theorem put_ok (d:Dft) (p:List UInt8) (data:ID):CallOk d (putF d p data) false:=by
 unfold putF
 split
 ·exact CallOk.no (by decide) _
 split
 ·exact CallOk.no (by decide) _
 split
 ·exact CallOk.no (by decide) _
 split
 ·exact CallOk.no (by decide) _
 split
 ·exact CallOk.no (by decide) _
 split
 ·exact CallOk.no (by decide) _
 split
 ·exact CallOk.no (by decide) _
 rename_i h1 h2 h3 h4 h5 h6 h7
 have h1:namesOk p = true:=by simpa using h1
 have h7:roomD d ((freshD d p).length + 1) = true:=by simpa using h7
 have hfr:∀ s ∈ freshD d p,nameOk s = true:=fun s hs=>names_name h1 s (List.drop_subset _ _ hs)
 have hem:freshD d p = [] → (walkD d.rows zRwP (splitD p)).1 ∈ d.rows:=fun he=>by
  rcases walkD_mem d.rows zRwP (splitD p) with h | h
  ·have h8:=List.length_pos_iff.2 (split_ne p)
   unfold freshD at he
   rw [h.2,List.drop_zero] at he
   exact absurd he (split_ne p)
  ·exact h
 have ha:(walkD d.rows zRwP (splitD p)).1 = zRwP ∨ (walkD d.rows zRwP (splitD p)).1 ∈ d.rows:=by
  rcases walkD_mem d.rows zRwP (splitD p) with h | h
  ·exact .inl h.1
  ·exact .inr h
 generalize (walkD d.rows zRwP (splitD p)).1 = a at hem ha
 generalize freshD d p = l at h6 h7 hfr hem
 have hs:TreeOk d.rows → TreeOk (putR (growD d a l).1.rows { (growD d a l).2 with Heads:=[⟨(growD d a l).1.next,data⟩] }) ∧ (putR (growD d a l).1.rows { (growD d a l).2 with Heads:=[⟨(growD d a l).1.next,data⟩] }).length = d.rows.length + l.length ∧ (growD d a l).1.next = tickD d.next l.length:=fun h=>by
  obtain ⟨g1,g2,g3,g4,g5⟩:=grow_ok l d a h (room_lt h7) (fun k hk=>⟨room_right h7 k (by omega),fun e=>by
   have h8:=room_right h7 (k + 1) (by omega)
   rw [← tick_tick,e] at h8
   exact absurd h8 (by decide)⟩) hfr (by omega) ha
  have hin:(growD d a l).2 ∈ (growD d a l).1.rows:=by
   rcases g5 with ⟨e,g5⟩ | g5
   ·rw [g5]
    subst e
    exact hem rfl
   ·exact g5
  have h9:=room_right h7 l.length (by omega)
  rw [← g4] at h9
  have h10:=g2 _ hin
  have hr:=(rightR_iff _).1 (g1.ok _ hin)
  obtain ⟨K,hK⟩:=g1.parent hin
  have hf:=g1.find hin
  generalize (growD d a l).2 = x at hin h10 hr hK hf
  generalize (growD d a l).1.next = s at g4 h9 h10
  have h11:=g1.set (r:={ x with Heads:=[⟨s,data⟩] }) (x:=x) hin rfl ((rightR_iff _).2 ⟨⟨hr.1.1,hr.1.2.1,hr.1.2.2.1,hr.1.2.2.2.1,by simp,fun hd hm=>by
   rw [List.mem_singleton] at hm
   subst hm
   exact ⟨h9,by have:=cmpS_flip x.Node s;show 0 < cmpS s x.Node;omega,h3⟩,by simp [riseB]⟩,hr.2⟩) (reach_same (r:={ x with Heads:=[⟨s,data⟩] }) hf rfl K _ hK)
  exact ⟨h11.1,by rw [h11.2,g3],g4⟩
 refine ⟨fun h=>absurd rfl h,fun h=>(hs h).1,fun h _=>⟨l.length,(hs h).2.1,?_,fun h=>by cases h⟩⟩
 show tickD (growD d a l).1.next 1 = _
 rw [(hs h).2.2,tick_tick]
def waysD (rs:List RwP):Nat → St → List (List (List UInt8) × RwP)
 | 0,_=>[]
 | k + 1,p=>(List.range (kidsD rs p).length).flatMap fun i=>match (kidsD rs p)[i]? with
  | none=>[]
  | some r=>([shownD (kidsD rs p) i r],r) :: (waysD rs k r.Node).map fun q=>(shownD (kidsD rs p) i r :: q.1,q.2)
theorem ways_mem {rs:List RwP} {k:Nat} {p:St} {l:List (List UInt8)} {x:RwP}:(l,x) ∈ waysD rs (k + 1) p ↔ ∃ i,∃ h:i < (kidsD rs p).length,(l = [shownD (kidsD rs p) i (kidsD rs p)[i]] ∧ x = (kidsD rs p)[i]) ∨ ∃ l',l = shownD (kidsD rs p) i (kidsD rs p)[i] :: l' ∧ (l',x) ∈ waysD rs k (kidsD rs p)[i].Node:=by
 show (l,x) ∈ (List.range (kidsD rs p).length).flatMap _ ↔ _
 rw [List.mem_flatMap]
 constructor
 ·rintro ⟨i,hi,h⟩
  rw [List.mem_range] at hi
  rw [List.getElem?_eq_getElem hi] at h
  simp only [List.mem_cons,Prod.mk.injEq,List.mem_map] at h
  rcases h with h | ⟨⟨l',x'⟩,h1,h2⟩
  ·exact ⟨i,hi,.inl h⟩
  ·simp only at h2
   obtain ⟨h3,h4⟩:=h2
   subst h4
   exact ⟨i,hi,.inr ⟨l',h3.symm,h1⟩⟩
 ·rintro ⟨i,hi,h⟩
  refine ⟨i,List.mem_range.2 hi,?_⟩
  rw [List.getElem?_eq_getElem hi]
  simp only [List.mem_cons,Prod.mk.injEq,List.mem_map]
  rcases h with h | ⟨l',h1,h2⟩
  ·exact .inl h
  ·exact .inr ⟨(l',x),h2,h1.symm,rfl⟩
theorem ways_ne {rs:List RwP} {k:Nat}:∀ {p:St} {l:List (List UInt8)} {x:RwP},(l,x) ∈ waysD rs k p → l ≠ [] ∧ x ∈ rs:=by
 induction k with
 | zero=>intro p l x h;cases h
 | succ k ih =>
  intro p l x h
  obtain ⟨i,hi,h⟩:=ways_mem.1 h
  have hk:∀ y ∈ kidsD rs p,y ∈ rs:=fun y hy=>(List.mem_filter.1 hy).1
  rcases h with ⟨rfl,rfl⟩ | ⟨l',rfl,hq⟩
  ·exact ⟨by simp,hk _ (List.getElem_mem hi)⟩
  ·exact ⟨by simp,(ih hq).2⟩
theorem ways_walk {rs:List RwP} (hn:(rs.map (·.Node)).Nodup) (hr:∀ r ∈ rs,rightS r.Node = true) {k:Nat}:∀ {p:St} {l:List (List UInt8)} {x:RwP},(l,x) ∈ waysD rs k p → ∀ a:RwP,a.Node = p → walkD rs a l = (x,l.length):=by
 induction k with
 | zero=>intro p l x h;cases h
 | succ k ih =>
  intro p l x h a ha
  obtain ⟨i,hi,h⟩:=ways_mem.1 h
  have hk:=kidD_at hn hr (p:=p) hi
  rcases h with ⟨rfl,rfl⟩ | ⟨l',rfl,hq⟩
  ·unfold walkD
   rw [ha,hk]
   rfl
  ·have ih:=ih hq (kidsD rs p)[i] rfl
   unfold walkD
   rw [ha,hk]
   simp only
   rw [ih]
   rfl
theorem ways_nd {rs:List RwP} (hn:(rs.map (·.Node)).Nodup) (hr:∀ r ∈ rs,rightS r.Node = true):∀ (k:Nat) (p:St),((waysD rs k p).map (·.1)).Nodup
 | 0,p=>by simp [waysD]
 | k + 1,p=>by
  have hk:((kidsD rs p).map (·.Node)).Nodup:=hn.sublist ((List.filter_sublist).map _)
  have hr':∀ r ∈ kidsD rs p,rightS r.Node = true:=fun r h=>hr r (List.mem_filter.1 h).1
  show (((List.range (kidsD rs p).length).flatMap _).map _).Nodup
  rw [List.map_flatMap,List.Nodup,List.pairwise_flatMap]
  refine ⟨fun i hi=>?_,?_⟩
  ·rw [List.mem_range] at hi
   rw [List.getElem?_eq_getElem hi]
   simp only [List.map_cons,List.map_map,List.pairwise_cons]
   refine ⟨fun b hb=>?_,?_⟩
   ·obtain ⟨⟨l',x⟩,h1,h2⟩:=List.mem_map.1 hb
    simp only [Function.comp_apply] at h2
    intro e
    rw [← h2] at e
    simp only [List.cons.injEq,true_and] at e
    exact (ways_ne h1).1 e.symm
   ·have ih:=ways_nd hn hr k (kidsD rs p)[i].Node
    rw [List.Nodup,List.pairwise_map] at ih
    rw [List.pairwise_map]
    refine ih.imp fun {a b} hab e=>hab ?_
    simp only [Function.comp_apply,List.cons.injEq,true_and] at e
    exact e
  ·refine (List.pairwise_lt_range).imp_of_mem fun {i j} hi hj hij a ha b hb e=>?_
   rw [List.mem_range] at hi hj
   rw [List.getElem?_eq_getElem hi] at ha
   rw [List.getElem?_eq_getElem hj] at hb
   have hd:∀ (i:Nat) (hi:i < (kidsD rs p).length) (a:List (List UInt8)),a ∈ ((([shownD (kidsD rs p) i (kidsD rs p)[i]],(kidsD rs p)[i]) :: (waysD rs k (kidsD rs p)[i].Node).map fun (q:List (List UInt8) × RwP)=>(shownD (kidsD rs p) i (kidsD rs p)[i] :: q.1,q.2)):List (List (List UInt8) × RwP)).map (fun q=>q.1) → a.head? = some (shownD (kidsD rs p) i (kidsD rs p)[i]):=fun i hi a ha=>by
    simp only [List.map_cons,List.map_map,List.mem_cons,List.mem_map,Function.comp_apply] at ha
    rcases ha with rfl | ⟨q,_,rfl⟩ <;> rfl
   have e1:=hd i hi a ha
   have e2:=hd j hj b hb
   rw [e,e2] at e1
   injection e1 with e1
   have:=shown_inj hk hr' hi hj e1.symm
   omega
/-! names between slashes -/
def joinD:List (List UInt8) → List UInt8
 | []=>[]
 | [x]=>x
 | x :: y :: l=>x ++ 47 :: joinD (y :: l)
theorem split_one {x:List UInt8} (h:(47:UInt8) ∉ x):splitD x = [x]:=by
 induction x with
 | nil=>rfl
 | cons b x ih =>
  unfold splitD
  rw [if_neg (fun e=>h (by rw [e];simp)),ih (fun hm=>h (List.mem_cons_of_mem _ hm))]
theorem split_more {x m:List UInt8} (h:(47:UInt8) ∉ x):splitD (x ++ 47 :: m) = x :: splitD m:=by
 induction x with
 | nil =>
  show splitD (47 :: m) = _
  rw [splitD,if_pos rfl]
 | cons b x ih =>
  show splitD (b :: (x ++ 47 :: m)) = _
  rw [splitD,if_neg (fun e=>h (by rw [e];simp)),ih (fun hm=>h (List.mem_cons_of_mem _ hm))]
theorem split_join:∀ {l:List (List UInt8)},l ≠ [] → (∀ x ∈ l,(47:UInt8) ∉ x) → splitD (joinD l) = l
 | [],h,_=>absurd rfl h
 | [x],_,h=>split_one (h x (by simp))
 | x :: y :: l,_,h=>by
  show splitD (x ++ 47 :: joinD (y :: l)) = _
  rw [split_more (h x (by simp)),split_join (by simp) (fun z hz=>h z (List.mem_cons_of_mem _ hz))]
theorem name_slash {l:List UInt8} (h:nameOk l = true):(47:UInt8) ∉ l:=fun hm=>by
 unfold nameOk at h
 simp only [Bool.and_eq_true,List.all_eq_true,decide_eq_true_eq] at h
 exact (h.2 47 hm).1.2 rfl
theorem shown_slash {us:List RwP} {i:Nat} {r:RwP} (hn:nameOk r.Name = true) (hr:rightS r.Node = true):(47:UInt8) ∉ shownD us i r:=by
 unfold shownD
 split
 ·unfold sfxD
  unfold rightS at hr
  simp only [Bool.and_eq_true,decide_eq_true_eq] at hr
  rw [itoa_pos (by omega),itoa_pos (by omega)]
  intro hm
  rcases List.mem_append.1 hm with hm | hm
  ·exact name_slash hn hm
  ·rcases List.mem_cons.1 hm with hm | hm
   ·exact absurd hm (by decide)
   ·rcases List.mem_append.1 hm with hm | hm
    ·exact no_dig (.inl (by decide)) hm
    ·rcases List.mem_cons.1 hm with hm | hm
     ·exact absurd hm (by decide)
     ·exact no_dig (.inl (by decide)) hm
 ·exact name_slash hn
theorem ways_slash {rs:List RwP} (hn:∀ r ∈ rs,nameOk r.Name = true ∧ rightS r.Node = true) {k:Nat}:∀ {p:St} {l:List (List UInt8)} {x:RwP},(l,x) ∈ waysD rs k p → ∀ s ∈ l,(47:UInt8) ∉ s:=by
 induction k with
 | zero=>intro p l x h;cases h
 | succ k ih =>
  intro p l x h
  obtain ⟨i,hi,h⟩:=ways_mem.1 h
  have hm:(kidsD rs p)[i] ∈ rs:=(List.mem_filter.1 (List.getElem_mem hi)).1
  have h0:=shown_slash (us:=kidsD rs p) (i:=i) (hn _ hm).1 (hn _ hm).2
  rcases h with ⟨rfl,rfl⟩ | ⟨l',rfl,hq⟩
  ·intro s hs
   rw [List.mem_singleton] at hs
   rw [hs]
   exact h0
  ·intro s hs
   rcases List.mem_cons.1 hs with hs | hs
   ·rw [hs]
    exact h0
   ·exact ih hq s hs
theorem ways_path {rs:List RwP} (h:TreeOk rs) {k:Nat} {l:List (List UInt8)} {x:RwP} (hx:(l,x) ∈ waysD rs k zSt):splitD (joinD l) = l ∧ walkD rs zRwP (splitD (joinD l)) = (x,(splitD (joinD l)).length):=by
 have hr:∀ r ∈ rs,nameOk r.Name = true ∧ rightS r.Node = true:=fun r hr=>⟨((rightR_iff r).1 (h.ok r hr)).1.2.2.2.1,rightR_node (h.ok r hr)⟩
 have e:=split_join (ways_ne hx).1 (ways_slash hr hx)
 rw [e]
 exact ⟨rfl,ways_walk h.nd (fun r hr'=>(hr r hr').2) hx zRwP rfl⟩
theorem ways_paths {rs:List RwP} (h:TreeOk rs) (k:Nat):((waysD rs k zSt).map fun q=>joinD q.1).Nodup:=by
 have hr:∀ r ∈ rs,nameOk r.Name = true ∧ rightS r.Node = true:=fun r hr=>⟨((rightR_iff r).1 (h.ok r hr)).1.2.2.2.1,rightR_node (h.ok r hr)⟩
 have nd:=ways_nd h.nd (fun r hr'=>(hr r hr').2) k zSt
 rw [List.Nodup,List.pairwise_map] at nd ⊢
 refine nd.imp_of_mem fun {a b} ha hb hab e=>hab ?_
 obtain ⟨la,xa⟩:=a
 obtain ⟨lb,xb⟩:=b
 have e1:=split_join (ways_ne ha).1 (ways_slash hr ha)
 have e2:=split_join (ways_ne hb).1 (ways_slash hr hb)
 show la = lb
 rw [← e1,← e2]
 exact congrArg splitD e
def lev (rs:List RwP) (k:Nat) (s:St):Prop:=reach rs k s = true ∧ ∀ j,j < k → reach rs j s = false
theorem lev_one {rs:List RwP} {j k:Nat} {s:St} (h1:lev rs j s) (h2:lev rs k s):j = k:=by
 rcases Nat.lt_trichotomy j k with h | h | h
 ·have:=h2.2 j h;rw [h1.1] at this;cases this
 ·exact h
 ·have:=h1.2 k h;rw [h2.1] at this;cases this
theorem lev_fixed {rs:List RwP} {s:St} (h:fixedS s = true):lev rs 0 s:=⟨h,fun j hj=>by omega⟩
theorem lev_kid {rs:List RwP} (h:TreeOk rs) {r:RwP} (hr:r ∈ rs) {k:Nat} (hk:lev rs k r.Parent):lev rs (k + 1) r.Node:=by
 have hf:=h.find hr
 have h0:fixedS r.Node = false:=by
  cases e:fixedS r.Node with
  | false=>rfl
  | true=>exact absurd (fixedS_T e) (rightS_T (rightR_node (h.ok r hr)))
 refine ⟨reach_step hf hk.1,fun j hj=>?_⟩
 cases j with
 | zero=>exact h0
 | succ j =>
  unfold reach
  rw [h0,hf]
  exact hk.2 j (by omega)
def stepU (rs:List RwP) (s:St):St:=match findR rs s with | none=>s | some r=>r.Parent
def upN (rs:List RwP):Nat → St → St
 | 0,s=>s
 | n + 1,s=>stepU rs (upN rs n s)
theorem step_kid {rs:List RwP} (h:TreeOk rs) {r:RwP} (hr:r ∈ rs):stepU rs r.Node = r.Parent:=by
 unfold stepU
 rw [h.find hr]
theorem kids_in {rs:List RwP} {p:St} {i:Nat} (hi:i < (kidsD rs p).length):(kidsD rs p)[i] ∈ rs ∧ (kidsD rs p)[i].Parent = p:=by
 have:=List.mem_filter.1 (List.getElem_mem hi)
 exact ⟨this.1,by simpa using this.2⟩
theorem ways_lev {rs:List RwP} (h:TreeOk rs) {k:Nat}:∀ {p:St} {d:Nat} {l:List (List UInt8)} {x:RwP},lev rs d p → (l,x) ∈ waysD rs k p → lev rs (d + l.length) x.Node:=by
 induction k with
 | zero=>intro p d l x _ hx;cases hx
 | succ k ih =>
  intro p d l x hd hx
  obtain ⟨i,hi,hx⟩:=ways_mem.1 hx
  have hk:=kids_in hi
  have h1:=lev_kid h hk.1 (by rw [hk.2];exact hd)
  rcases hx with ⟨rfl,rfl⟩ | ⟨l',rfl,hq⟩
  ·exact h1
  ·have:=ih h1 hq
   rw [List.length_cons,show d + (l'.length + 1) = d + 1 + l'.length by omega]
   exact this
theorem ways_up {rs:List RwP} (h:TreeOk rs) {k:Nat}:∀ {p:St} {l:List (List UInt8)} {x:RwP},(l,x) ∈ waysD rs k p → upN rs l.length x.Node = p:=by
 induction k with
 | zero=>intro p l x hx;cases hx
 | succ k ih =>
  intro p l x hx
  obtain ⟨i,hi,hx⟩:=ways_mem.1 hx
  have hk:=kids_in hi
  rcases hx with ⟨rfl,rfl⟩ | ⟨l',rfl,hq⟩
  ·show stepU rs (kidsD rs p)[i].Node = p
   rw [step_kid h hk.1,hk.2]
  ·have:=ih hq
   show stepU rs (upN rs l'.length x.Node) = p
   rw [this,step_kid h hk.1,hk.2]
theorem ways_nodes {rs:List RwP} (h:TreeOk rs):∀ (k:Nat) (p:St) (d:Nat),lev rs d p → ((waysD rs k p).map (·.2.Node)).Nodup
 | 0,p,d,_=>by simp [waysD]
 | k + 1,p,d,hd=>by
  have hk:((kidsD rs p).map (·.Node)).Nodup:=h.nd.sublist ((List.filter_sublist).map _)
  have lv:∀ (i:Nat) (hi:i < (kidsD rs p).length),lev rs (d + 1) (kidsD rs p)[i].Node:=fun i hi=>lev_kid h (kids_in hi).1 (by rw [(kids_in hi).2];exact hd)
  show (((List.range (kidsD rs p).length).flatMap _).map _).Nodup
  rw [List.map_flatMap,List.Nodup,List.pairwise_flatMap]
  refine ⟨fun i hi=>?_,?_⟩
  ·rw [List.mem_range] at hi
   rw [List.getElem?_eq_getElem hi]
   simp only [List.map_cons,List.map_map,List.pairwise_cons]
   refine ⟨fun b hb=>?_,?_⟩
   ·obtain ⟨⟨l',x⟩,h1,h2⟩:=List.mem_map.1 hb
    simp only [Function.comp_apply] at h2
    intro e
    have h3:=ways_lev h (lv i hi) h1
    rw [h2,← e] at h3
    have:=lev_one h3 (lv i hi)
    have:=List.length_pos_iff.2 (ways_ne h1).1
    omega
   ·have ih:=ways_nodes h k (kidsD rs p)[i].Node (d + 1) (lv i hi)
    rw [List.Nodup,List.pairwise_map] at ih
    rw [List.pairwise_map]
    exact ih
  ·refine (List.pairwise_lt_range).imp_of_mem fun {i j} hi hj hij a ha b hb e=>?_
   rw [List.mem_range] at hi hj
   rw [List.getElem?_eq_getElem hi] at ha
   rw [List.getElem?_eq_getElem hj] at hb
   have hd2:∀ (i:Nat) (hi:i < (kidsD rs p).length) (a:St),a ∈ ((([shownD (kidsD rs p) i (kidsD rs p)[i]],(kidsD rs p)[i]) :: (waysD rs k (kidsD rs p)[i].Node).map fun (q:List (List UInt8) × RwP)=>(shownD (kidsD rs p) i (kidsD rs p)[i] :: q.1,q.2)):List (List (List UInt8) × RwP)).map (fun q=>q.2.Node) → ∃ n,lev rs (d + 1 + n) a ∧ upN rs n a = (kidsD rs p)[i].Node:=fun i hi a ha=>by
    simp only [List.map_cons,List.map_map,List.mem_cons,List.mem_map,Function.comp_apply] at ha
    rcases ha with rfl | ⟨⟨l,x⟩,hq,rfl⟩
    ·exact ⟨0,lv i hi,rfl⟩
    ·exact ⟨l.length,ways_lev h (lv i hi) hq,ways_up h hq⟩
   obtain ⟨n1,a1,a2⟩:=hd2 i hi a ha
   obtain ⟨n2,b1,b2⟩:=hd2 j hj b hb
   rw [← e] at b1 b2
   have:=lev_one a1 b1
   rw [show n2 = n1 by omega,a2] at b2
   exact (List.pairwise_iff_getElem.1 hk) i j (by simpa using hi) (by simpa using hj) hij (by simpa using b2)
noncomputable def rightB (rs:List RwP):Bool:=@decide (TreeOk rs) (Classical.propDecidable _)
theorem rightB_iff {rs:List RwP}:rightB rs = true ↔ TreeOk rs:=by
 unfold rightB
 exact @decide_eq_true_iff _ (Classical.propDecidable _)
theorem rightB_no {rs:List RwP} (h:¬ TreeOk rs):rightB rs = false:=by
 cases e:rightB rs with
 | false=>rfl
 | true=>exact absurd (rightB_iff.1 e) h
structure EnP where
 Path:List UInt8
 Node:St
 Heads:List Hd
def entD (ah:List UInt8) (q:List (List UInt8) × RwP):EnP:=⟨ah ++ joinD q.1,q.2.Node,q.2.Heads⟩
def listF (rs:List RwP) (k:Nat) (p:St) (ah:List UInt8):List EnP:=(waysD rs k p).map (entD ah)
def listKi (rs:List RwP) (k:Nat) (us:List RwP) (ah:List UInt8) (j:Nat):List EnP:=match us[j]? with
 | none=>[]
 | some r=>⟨ah ++ shownD us j r,r.Node,r.Heads⟩ :: listF rs k r.Node (ah ++ shownD us j r ++ [47])
def listK (rs:List RwP) (k:Nat) (us:List RwP) (ah:List UInt8) (i:Nat):List EnP:=(List.range i).flatMap (listKi rs k us ah)
theorem joinD_cons (x:List UInt8) {l:List (List UInt8)} (h:l ≠ []):joinD (x :: l) = x ++ 47 :: joinD l:=by
 cases l with
 | nil=>exact absurd rfl h
 | cons y l=>rfl
theorem listF_succ (rs:List RwP) (k:Nat) (p:St) (ah:List UInt8):listF rs (k + 1) p ah = listK rs k (kidsD rs p) ah (kidsD rs p).length:=by
 unfold listF listK
 show ((List.range (kidsD rs p).length).flatMap _).map _ = _
 rw [List.map_flatMap]
 congr 1
 funext i
 unfold listKi
 cases (kidsD rs p)[i]? with
 | none=>rfl
 | some r =>
  simp only [List.map_cons,List.map_map]
  congr 1
  refine List.map_congr_left fun q hq=>?_
  obtain ⟨l,x⟩:=q
  simp only [Function.comp_apply,entD]
  rw [joinD_cons _ (ways_ne hq).1]
  simp
theorem listK_snoc (rs:List RwP) (k:Nat) (us:List RwP) (ah:List UInt8) (i:Nat) (h:i < us.length):listK rs k us ah (i + 1) = listK rs k us ah i ++ [⟨ah ++ shownD us i us[i],us[i].Node,us[i].Heads⟩] ++ listF rs k us[i].Node (ah ++ shownD us i us[i] ++ [47]):=by
 unfold listK
 rw [List.range_succ,List.flatMap_append]
 show _ ++ (listKi rs k us ah i ++ []) = _
 unfold listKi
 rw [List.getElem?_eq_getElem h]
 simp
theorem listK_le (rs:List RwP) (k:Nat) (us:List RwP) (ah:List UInt8) {i j:Nat} (h:i ≤ j):(listK rs k us ah i).length ≤ (listK rs k us ah j).length:=by
 obtain ⟨d,rfl⟩:=Nat.exists_eq_add_of_le h
 unfold listK
 rw [List.range_add,List.flatMap_append,List.length_append]
 omega
theorem lev_le {rs:List RwP} {d:Nat} {s:St} (h:lev rs d s):d ≤ rs.length:=by
 have h1:=reach_len h.1
 rcases Nat.lt_or_ge rs.length d with h2 | h2
 ·rw [h.2 _ h2] at h1
  cases h1
 ·exact h2
theorem ways_lenP {rs:List RwP} (h:TreeOk rs) (k:Nat) {p:St} {d:Nat} (hl:lev rs d p):(waysD rs k p).length ≤ rs.length:=by
 have h1:=ways_nodes h k p d hl
 have:=nd_leS ((waysD rs k p).map (·.2.Node)) (rs.map (·.Node)) h1 (fun s hs=>by
  obtain ⟨⟨l,x⟩,hq,rfl⟩:=List.mem_map.1 hs
  exact List.mem_map.2 ⟨x,(ways_ne hq).2,rfl⟩)
 simpa using this
theorem listF_len {rs:List RwP} (h:TreeOk rs) (k:Nat) {p:St} {d:Nat} (hl:lev rs d p) (ah:List UInt8):(listF rs k p ah).length ≤ rs.length:=by
 unfold listF
 rw [List.length_map]
 exact ways_lenP h k hl
theorem lev_kids {rs:List RwP} (h:TreeOk rs) {p:St} {d:Nat} (hl:lev rs d p) {i:Nat} (hi:i < (kidsD rs p).length):lev rs (d + 1) (kidsD rs p)[i].Node:=lev_kid h (kids_in hi).1 (by rw [(kids_in hi).2];exact hl)
theorem kids_none {rs:List RwP} (h:TreeOk rs) {p:St} {d:Nat} (hl:lev rs d p) (hd:rs.length ≤ d):(kidsD rs p).length = 0:=by
 rcases Nat.eq_zero_or_pos (kidsD rs p).length with h1 | h1
 ·exact h1
 ·have:=lev_le (lev_kids h hl h1)
  omega
end Go.Proofs.YthehiobacjjakaaGreatDoor
