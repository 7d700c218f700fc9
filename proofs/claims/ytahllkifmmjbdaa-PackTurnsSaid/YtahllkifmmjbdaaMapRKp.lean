/- Maps as lists of entries in the order in which their keys came: look-ups, stores, len, ranges. Ranging over a map that is known as a list of entries: the order is whatever the tape says. -/
import Derived.Test.YtahllkifmmjbdaaMemKp
import Derived.Maps.Own
import Derived.Maps.RangeRun
set_option linter.unusedVariables false
set_option linter.unusedSimpArgs false
namespace Go.Proofs.Ytahllkifmmjbdaa
open Go.RowKit Go.Maps
structure KeyE (P:Program) (kt:TypeId) {κ:Type} (enc:κ → Value):Prop where
 K:Keyed P kt
 good:∀ k,∃ l,keyOf P kt (enc k) = some l
 inj:∀ a b,enc a = enc b → a = b
structure EntL {κ:Type} (enc:κ → Value) (es:Array MapEntry) (clock:Nat) (kv:List (κ × Value)):Prop where
 is:es.toList.map (fun e=>(e.key,e.val)) = kv.map (fun p=>(enc p.1,p.2))
 nd:(kv.map (·.1)).Nodup
 bn:(es.toList.map (·.born)).Nodup
 bl:∀ e ∈ es.toList,e.born < clock
def MapL {κ:Type} (enc:κ → Value) (w:World) (r:Nat) (kv:List (κ × Value)):Prop:=∃ es clock,w.heap[r]? = some (.map es clock) ∧ EntL enc es clock kv
section
variable {κ:Type} {enc:κ → Value} {P:Program} {kt t E:TypeId} {w w':World} {r:Nat} {kv:List (κ × Value)}
theorem MapL.lt (h:MapL enc w r kv):r < w.heap.size:=by
 obtain ⟨es,clock,hb,_⟩:=h
 exact (Array.getElem?_eq_some_iff.1 hb).1
theorem MapL.fr {M:Nat → Prop} (h:MapL enc w r kv) (hf:Fr M w w') (hr:¬ M r):MapL enc w' r kv:=by
 have hl:=h.lt
 obtain ⟨es,clock,hb,rest⟩:=h
 exact ⟨es,clock,by rw [hf.block r hl hr];exact hb,rest⟩
theorem MapL.new (enc:κ → Value) (w:World):MapL enc (w.alloc (.map #[] 0)) w.heap.size [] :=
 ⟨#[],0,heap_alloc_new w _,by simp,by simp,by simp,by simp⟩
theorem EntL.mem (H:KeyE P kt enc) {es:Array MapEntry} {clock:Nat} (h:EntL enc es clock kv) {e:MapEntry} (he:e ∈ es.toList):∃ k,e.key = enc k ∧ (k,e.val) ∈ kv:=by
 have:(e.key,e.val) ∈ es.toList.map (fun e=>(e.key,e.val)):=List.mem_map.2 ⟨e,he,rfl⟩
 rw [h.is] at this
 obtain ⟨p,hp,hpe⟩:=List.mem_map.1 this
 simp only [Prod.mk.injEq] at hpe
 refine ⟨p.1,hpe.1.symm,?_⟩
 rw [← hpe.2]
 exact hp
variable [DecidableEq κ]
def look (kv:List (κ × Value)) (k:κ):Option Value:=(kv.find? fun p=>p.1 = k).map (·.2)
def putL (kv:List (κ × Value)) (k:κ) (v:Value):List (κ × Value):=if (look kv k).isSome then kv.map (fun p=>if p.1 = k then (k,v) else p) else kv ++ [(k,v)]
theorem look_none {kv:List (κ × Value)} {k:κ}:look kv k = none ↔ k ∉ kv.map (·.1):=by
 unfold look
 rw [Option.map_eq_none_iff,List.find?_eq_none]
 simp only [List.mem_map,not_exists,not_and,decide_eq_true_eq]
theorem look_mem {kv:List (κ × Value)} (hn:(kv.map (·.1)).Nodup) {k:κ} {v:Value}:look kv k = some v ↔ (k,v) ∈ kv:=by
 induction kv with
 | nil=>simp [look]
 | cons p kv ih =>
  simp only [List.map_cons,List.nodup_cons] at hn
  unfold look at ih ⊢
  rw [List.find?_cons]
  by_cases h:p.1 = k
  ·simp only [h,decide_true,Option.map_some,Option.some.injEq,List.mem_cons]
   constructor
   ·intro e;left;rw [← e,← h]
   ·rintro (e | e)
    ·rw [← e]
    ·exfalso;apply hn.1;rw [h];exact List.mem_map.2 ⟨_,e,rfl⟩
  ·simp only [h,decide_false,List.mem_cons]
   rw [ih hn.2]
   constructor
   ·exact .inr
   ·rintro (e | e)
    ·exfalso;apply h;rw [← e]
    ·exact e
theorem EntL.find (H:KeyE P kt enc) {es:Array MapEntry} {clock:Nat} (h:EntL enc es clock kv) (w:World) (k:κ) :
  ((Instr.findKey kt (enc k) es.toList).run P w = .ok none w ∧ look kv k = none) ∨ ∃ j e,(Instr.findKey kt (enc k) es.toList).run P w = .ok (some (j,e.val)) w ∧ es.toList[j]? = some e ∧ e.key = enc k ∧ look kv k = some e.val:=by
 obtain ⟨l,hl⟩:=H.good k
 rcases H.K.find w hl es.toList (fun e he=>by obtain ⟨k',hk',_⟩:=h.mem H he;rw [hk'];exact H.good k') with ⟨hn,hne⟩ | ⟨j,e,hj,hje,hk⟩
 ·refine .inl ⟨hn,?_⟩
  rw [look_none]
  intro hm
  obtain ⟨p,hp,rfl⟩:=List.mem_map.1 hm
  have:(enc p.1,p.2) ∈ kv.map (fun p=>(enc p.1,p.2)):=List.mem_map.2 ⟨p,hp,rfl⟩
  rw [← h.is] at this
  obtain ⟨e,he,hee⟩:=List.mem_map.1 this
  simp only [Prod.mk.injEq] at hee
  exact hne e he hee.1
 ·refine .inr ⟨j,e,hj,hje,hk,?_⟩
  obtain ⟨k',hk',hf⟩:=h.mem H (List.mem_of_getElem? hje)
  have:k' = k:=H.inj _ _ (hk'.symm.trans hk)
  subst this
  exact (look_mem h.nd).2 hf
theorem MapL.look (H:KeyE P kt enc) (h:MapL enc w r kv) (ht:P.underlying t = some (.map kt E)) {z:Value} (hz:(zeroValue E).run P w = .ok z w) (k:κ) :
  (Instr.lookup t (.map (some r)) (enc k) false).run P w = .ok ((Go.Proofs.Ytahllkifmmjbdaa.look kv k).getD z) w:=by
 obtain ⟨l,hl⟩:=H.good k
 obtain ⟨es,clock,hb,he⟩:=h
 rcases he.find H w k with ⟨h1,h2⟩ | ⟨j,e,h1,h2,h3,h4⟩
 ·rw [h2];simp [Instr.lookup,run_underlying ht,MapKept.run_getObj_map hb,H.K.check w _ hl,h1,hz,Result.andThen]
 ·rw [h4];simp [Instr.lookup,run_underlying ht,MapKept.run_getObj_map hb,H.K.check w _ hl,h1,Result.andThen]
theorem MapL.lookOk (H:KeyE P kt enc) (h:MapL enc w r kv) (ht:P.underlying t = some (.map kt E)) {z:Value} (hz:(zeroValue E).run P w = .ok z w) (k:κ) :
  (Instr.lookup t (.map (some r)) (enc k) true).run P w = .ok (.tuple #[(Go.Proofs.Ytahllkifmmjbdaa.look kv k).getD z,.bool (Go.Proofs.Ytahllkifmmjbdaa.look kv k).isSome]) w:=by
 obtain ⟨l,hl⟩:=H.good k
 obtain ⟨es,clock,hb,he⟩:=h
 rcases he.find H w k with ⟨h1,h2⟩ | ⟨j,e,h1,h2,h3,h4⟩
 ·rw [h2];simp [Instr.lookup,run_underlying ht,MapKept.run_getObj_map hb,H.K.check w _ hl,h1,hz,Result.andThen]
 ·rw [h4];simp [Instr.lookup,run_underlying ht,MapKept.run_getObj_map hb,H.K.check w _ hl,h1,Result.andThen]
theorem frameMap {w:World} {r:Nat} (hlt:r < w.heap.size) (o:Obj):Fr (oneB r) w (ChangeMaps.setBlock w r o) ∧ (ChangeMaps.setBlock w r o).heap.size = w.heap.size ∧ (ChangeMaps.setBlock w r o).heap[r]? = some o:=by
 refine ⟨⟨rfl,rfl,rfl,by simp [ChangeMaps.setBlock],fun b hb hn=>?_⟩,by simp [ChangeMaps.setBlock],?_⟩
 ·simp only [ChangeMaps.setBlock,Array.getElem?_setIfInBounds]
  rw [if_neg (fun e=>hn e.symm)]
 ·simp [ChangeMaps.setBlock,hlt]
theorem keys_map (kv:List (κ × Value)) (k:κ) (v:Value):(kv.map (fun p=>if p.1 = k then (k,v) else p)).map (·.1) = kv.map (·.1):=by
 rw [List.map_map]
 refine List.map_congr_left (fun p _=>?_)
 simp only [Function.comp_apply]
 split
 ·rename_i h;exact h.symm
 ·rfl
theorem MapL.put (H:KeyE P kt enc) (h:MapL enc w r kv) (ht:P.underlying t = some (.map kt E)) (k:κ) (v:Value) :
  ∃ w2,(Instr.mapUpdate t (.map (some r)) (enc k) v).run P w = .ok () w2 ∧ MapL enc w2 r (putL kv k v) ∧ Fr (oneB r) w w2 ∧ w2.heap.size = w.heap.size:=by
 obtain ⟨l,hl⟩:=H.good k
 have hlt:=h.lt
 obtain ⟨es,clock,hb,he⟩:=h
 rcases he.find H w k with ⟨f1,f2⟩ | ⟨j,e,f1,f2,f3,f4⟩
 ·obtain ⟨g1,g2,g3⟩:=frameMap hlt (.map (es.push ⟨enc k,v,clock⟩) (clock + 1))
  refine ⟨_,?_,⟨_,_,g3,?_⟩,g1,g2⟩
  ·simp [Instr.mapUpdate,run_underlying ht,MapKept.run_getObj_map hb,H.K.check w false hl,f1,MapKept.run_setObj_map _ hb,Result.andThen,ChangeMaps.setBlock]
  ·unfold putL
   rw [f2]
   simp only [Option.isSome_none,Bool.false_eq_true,if_false]
   refine ⟨?_,?_,?_,?_⟩
   ·rw [Array.toList_push,List.map_append,List.map_append,he.is];rfl
   ·rw [List.map_append,List.nodup_append]
    refine ⟨he.nd,by simp,?_⟩
    intro a ha b hb' e
    simp only [List.map_cons,List.map_nil,List.mem_singleton] at hb'
    subst hb';subst e
    exact look_none.1 f2 ha
   ·rw [Array.toList_push,List.map_append,List.nodup_append]
    refine ⟨he.bn,by simp,?_⟩
    intro a ha b hb' e
    simp only [List.map_cons,List.map_nil,List.mem_singleton] at hb'
    subst hb';subst e
    obtain ⟨x,hx,hxe⟩:=List.mem_map.1 ha
    have:=he.bl x hx
    omega
   ·intro x hx
    rw [Array.toList_push,List.mem_append,List.mem_singleton] at hx
    rcases hx with hx | rfl
    ·have:=he.bl x hx;omega
    ·exact Nat.lt_succ_self _
 ·obtain ⟨g1,g2,g3⟩:=frameMap hlt (.map (es.modify j fun x=>{ x with key:=enc k,val:=v }) clock)
  have hej:es[j]? = some e:=by rw [← Array.getElem?_toList];exact f2
  have hget:∀ i,(es.modify j fun x=>{ x with key:=enc k,val:=v }).toList[i]? = if j = i then (es.toList[i]?).map (fun x=>{ x with key:=enc k,val:=v }) else es.toList[i]?:=by
   intro i
   simp only [Array.getElem?_toList,Array.getElem?_modify]
  refine ⟨_,?_,⟨_,_,g3,?_⟩,g1,g2⟩
  ·have hst:=H.K.stays w hl
   simp [Instr.mapUpdate,run_underlying ht,MapKept.run_getObj_map hb,H.K.check w false hl,f1,hej,f3,hst,MapKept.run_setObj_map _ hb,Result.andThen,ChangeMaps.setBlock]
  ·unfold putL
   rw [f4]
   simp only [Option.isSome_some,if_true]
   have hborn:(es.modify j fun x=>{ x with key:=enc k,val:=v }).toList.map (·.born) = es.toList.map (·.born):=by
    apply List.ext_getElem?
    intro i
    simp only [List.getElem?_map,hget]
    split
    ·cases es.toList[i]? <;> rfl
    ·rfl
   refine ⟨?_,by rw [keys_map];exact he.nd,by rw [hborn];exact he.bn,?_⟩
   ·apply List.ext_getElem?
    intro i
    have hi:=congrArg (fun l=>l[i]?) he.is
    simp only [List.getElem?_map] at hi ⊢
    rw [hget]
    cases hk:kv[i]? with
    | none =>
     rw [hk] at hi
     simp only [Option.map_none,Option.map_eq_none_iff] at hi
     rw [hi]
     split <;> rfl
    | some p =>
     rw [hk] at hi
     cases hx:es.toList[i]? with
     | none=>rw [hx] at hi;cases hi
     | some x =>
      rw [hx] at hi
      simp only [Option.map_some,Option.some.injEq,Prod.mk.injEq] at hi ⊢
      split
      ·rename_i hji
       subst hji
       have:x = e:=by rw [f2] at hx;injection hx with hx;exact hx.symm
       subst this
       have hp:p.1 = k:=H.inj _ _ (hi.1.symm.trans f3)
       simp [hp]
      ·rename_i hji
       have hp:p.1 ≠ k:=by
        intro hp
        have hk':(kv.map (·.1))[i]? = some k:=by rw [List.getElem?_map,hk,Option.map_some,hp]
        have hj:=congrArg (fun l=>l[j]?) he.is
        simp only [List.getElem?_map] at hj
        rw [f2] at hj
        cases hkj:kv[j]? with
        | none=>rw [hkj] at hj;cases hj
        | some q =>
         rw [hkj] at hj
         simp only [Option.map_some,Option.some.injEq,Prod.mk.injEq] at hj
         have hq:q.1 = k:=H.inj _ _ (hj.1.symm.trans f3)
         have hkj':(kv.map (·.1))[j]? = some k:=by rw [List.getElem?_map,hkj,Option.map_some,hq]
         obtain ⟨li,ei⟩:=List.getElem?_eq_some_iff.1 hk'
         obtain ⟨lj,ej⟩:=List.getElem?_eq_some_iff.1 hkj'
         have hne:=List.pairwise_iff_getElem.1 he.nd
         rcases Nat.lt_or_ge i j with h | h
         ·exact hne i j li lj h (ei.trans ej.symm)
         ·exact hne j i lj li (by omega) (ej.trans ei.symm)
       simp [hp,hi.1,hi.2]
   ·intro x hx
    have:x.born ∈ (es.modify j fun x=>{ x with key:=enc k,val:=v }).toList.map (·.born):=List.mem_map.2 ⟨x,hx,rfl⟩
    rw [hborn] at this
    obtain ⟨y,hy,hye⟩:=List.mem_map.1 this
    rw [← hye]
    exact he.bl y hy
end
end Go.Proofs.Ytahllkifmmjbdaa
namespace Go.Proofs.Ytahllkifmmjbdaa
open Go.RowKit Go.Maps
def RngL {κ:Type} (enc:κ → Value) (w:World) (it r:Nat) (kv left:List (κ × Value)):Prop :=
 ∃ es clock seen,w.heap[it]? = some (.mapIter (some r) clock seen clock) ∧ w.heap[r]? = some (.map es clock) ∧ EntL enc es clock kv ∧ (leftOf es seen).toList.map (fun e=>(e.key,e.val)) = left.map (fun p=>(enc p.1,p.2))
section
variable {κ:Type} {enc:κ → Value} {P:Program} {kt t E:TypeId} {w w':World} {it r:Nat} {kv left:List (κ × Value)}
theorem RngL.map (h:RngL enc w it r kv left):MapL enc w r kv:=by
 obtain ⟨es,clock,seen,_,hb,he,_⟩:=h
 exact ⟨es,clock,hb,he⟩
theorem RngL.fr {M:Nat → Prop} (h:RngL enc w it r kv left) (hf:Fr M w w') (h1:¬ M it) (h2:¬ M r):RngL enc w' it r kv left:=by
 obtain ⟨es,clock,seen,hi,hb,rest⟩:=h
 exact ⟨es,clock,seen,by rw [hf.block it (Array.getElem?_eq_some_iff.1 hi).1 h1];exact hi,by rw [hf.block r (Array.getElem?_eq_some_iff.1 hb).1 h2];exact hb,rest⟩
theorem left_push {es:Array MapEntry} {seen:Array Nat} (hn:(es.toList.map (·.born)).Nodup) {e:MapEntry} {a b:List MapEntry} (h:(leftOf es seen).toList = a ++ e :: b):(leftOf es (seen.push e.born)).toList = a ++ b:=by
 have hsub:(leftOf es seen).toList = es.toList.filter (fun e=>!seen.contains e.born):=by unfold leftOf;simp
 have hsub2:(leftOf es (seen.push e.born)).toList = (es.toList.filter (fun e=>!seen.contains e.born)).filter (fun x=>!(x.born == e.born)):=by
  unfold leftOf
  rw [List.filter_filter,Array.toList_filter]
  refine List.filter_congr (fun x _=>?_)
  rw [contains_push]
  cases seen.contains x.born <;> cases (x.born == e.born) <;> rfl
 rw [hsub2,← hsub,h]
 have hnd:((a ++ e :: b).map (·.born)).Nodup:=by
  rw [← h,hsub]
  exact List.Nodup.sublist (List.Sublist.map _ List.filter_sublist) hn
 rw [List.map_append,List.map_cons,List.nodup_append] at hnd
 obtain ⟨_,h2,h3⟩:=hnd
 rw [List.nodup_cons] at h2
 rw [List.filter_append,List.filter_cons]
 simp only [beq_self_eq_true,Bool.not_true,Bool.false_eq_true,if_false]
 rw [List.filter_eq_self.2,List.filter_eq_self.2]
 ·intro x hx
  have:x.born ≠ e.born:=fun e'=>h2.1 (by rw [← e'];exact List.mem_map.2 ⟨x,hx,rfl⟩)
  simpa using this
 ·intro x hx
  have:x.born ≠ e.born:=h3 x.born (List.mem_map.2 ⟨x,hx,rfl⟩) e.born (by simp)
  simpa using this
theorem RngL.next (H:KeyE P kt enc) (h:RngL enc w it r kv left) (hne:it ≠ r) (ty:TypeId) :
  (left = [] ∧ (Instr.next (.pointer (some ⟨it,0,none⟩)) false ty).run P w = .ok (.tuple #[.bool false]) w) ∨
  ∃ l1 p l2 w',left = l1 ++ p :: l2 ∧ p ∈ kv ∧ (Instr.next (.pointer (some ⟨it,0,none⟩)) false ty).run P w = .ok (.tuple #[.bool true,enc p.1,p.2]) w' ∧ RngL enc w' it r kv (l1 ++ l2) ∧ Fr (oneB it) w w' ∧
   ∀ (M:Nat → Prop) w'',Fr M w' w'' → ¬ M it → ¬ M r → (Instr.entry (.pointer (some ⟨it,0,none⟩))).run P w'' = .ok (.tuple #[enc p.1,p.2]) w'':=by
 obtain ⟨es,clock,seen,hi,hb,he,hl⟩:=h
 have hlt:=(Array.getElem?_eq_some_iff.1 hi).1
 rcases run_next_at (P:=P) w ty it r clock clock seen es clock hi hb he.bl (Nat.le_refl _) with ⟨h0,hrun⟩ | ⟨e,hel,w1,hw1,hrun⟩
 ·refine .inl ⟨?_,hrun⟩
  have:(leftOf es seen).toList = []:=List.eq_nil_of_length_eq_zero (by simpa using h0)
  rw [this] at hl
  simpa using hl.symm
 ·obtain ⟨a,b,hab⟩:=List.append_of_mem hel
  rw [hab,List.map_append,List.map_cons] at hl
  obtain ⟨l1,q,hq1,hq2,hq3⟩:=List.map_eq_append_iff.1 hl.symm
  obtain ⟨p,l2,rfl,hp,hq4⟩:=List.map_eq_cons_iff.1 hq3
  simp only [Prod.mk.injEq] at hp
  have he1:e ∈ es.toList:=(mem_left hel).1
  obtain ⟨k,hk,hkm⟩:=he.mem H he1
  have hpk:p.1 = k:=H.inj _ _ (hp.1.trans hk)
  have hpe:p = (k,e.val):=by rw [← hpk,← hp.2]
  have hl1:it < w1.heap.size:=by rcases hw1 with rfl | rfl <;> exact hlt
  have f1:Fr (oneB it) w w1:=by rcases hw1 with rfl | rfl;exact Fr.refl _ _;exact (Fr.refl _ _).drew
  obtain ⟨g1,g2,g3⟩:=frameMap hl1 (.mapIter (some r) clock (seen.push e.born) clock)
  have hb':(ChangeMaps.setBlock w1 it (.mapIter (some r) clock (seen.push e.born) clock)).heap[r]? = some (.map es clock):=by
   rw [(f1.trans g1 (fun _ _ h=>h)).block r (Array.getElem?_eq_some_iff.1 hb).1 (fun h=>hne h.symm)];exact hb
  refine .inr ⟨l1,p,l2,_,hq1,by rw [hpe];exact hkm,?_,⟨es,clock,seen.push e.born,g3,hb',he,?_⟩,f1.trans g1 (fun _ _ h=>h),?_⟩
  ·rw [hrun,hp.1,hp.2]
  ·rw [left_push he.bn hab,List.map_append,List.map_append,← hq2,← hq4]
  ·intro M w'' hf h1 h2
   rw [hp.1,hp.2]
   exact run_entry_at w'' it r clock seen es clock e (by rw [hf.block it (Array.getElem?_eq_some_iff.1 g3).1 h1];exact g3) (by rw [hf.block r (Array.getElem?_eq_some_iff.1 hb').1 h2];exact hb') he1 he.bn
end
end Go.Proofs.Ytahllkifmmjbdaa
