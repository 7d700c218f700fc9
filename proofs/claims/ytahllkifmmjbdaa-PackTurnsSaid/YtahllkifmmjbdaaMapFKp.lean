/- Maps as functions: what a map's block holds, key by key; look-ups and stores. -/
import Derived.Test.YtahllkifmmjbdaaMemKp
import Derived.Maps.Own
set_option linter.unusedVariables false
set_option linter.unusedSimpArgs false
namespace Go.Proofs.Ytahllkifmmjbdaa
open Go.RowKit Go.Maps
structure KeyEt (P:Program) (kt:TypeId) {κ:Type} (enc:κ → Value):Prop where
 K:Keyed P kt
 good:∀ k,∃ l,keyOf P kt (enc k) = some l
 inj:∀ a b,enc a = enc b → a = b
def MapF {κ:Type} (enc:κ → Value) (w:World) (r:Nat) (f:κ → Option Value):Prop :=
 ∃ es clock,w.heap[r]? = some (.map es clock) ∧ (∀ e ∈ es.toList,∃ k,e.key = enc k ∧ f k = some e.val) ∧ (∀ k v,f k = some v → ∃ e ∈ es.toList,e.key = enc k) ∧
  es.toList.Pairwise (fun a b=>a.key ≠ b.key)
section
variable {κ:Type} {enc:κ → Value} {P:Program} {kt t E:TypeId} {w w':World} {r:Nat} {f:κ → Option Value}
theorem MapF.lt (h:MapF enc w r f):r < w.heap.size:=by
 obtain ⟨es,clock,hb,_⟩:=h
 exact (Array.getElem?_eq_some_iff.1 hb).1
theorem MapF.fr {M:Nat → Prop} (h:MapF enc w r f) (hf:Fr M w w') (hr:¬ M r):MapF enc w' r f:=by
 have hl:=h.lt
 obtain ⟨es,clock,hb,rest⟩:=h
 exact ⟨es,clock,by rw [hf.block r hl hr];exact hb,rest⟩
theorem MapF.new (enc:κ → Value) (w:World):MapF enc (w.alloc (.map #[] 0)) w.heap.size (fun _=>none) :=
 ⟨#[],0,heap_alloc_new w _,by simp,by simp,by simp⟩
theorem MapF.find (H:KeyEt P kt enc) (h:MapF enc w r f) (k:κ):∃ es clock,w.heap[r]? = some (.map es clock) ∧
  (((Instr.findKey kt (enc k) es.toList).run P w = .ok none w ∧ f k = none) ∨ ∃ j e,(Instr.findKey kt (enc k) es.toList).run P w = .ok (some (j,e.val)) w ∧ es.toList[j]? = some e ∧ e.key = enc k ∧ f k = some e.val):=by
 obtain ⟨es,clock,hb,h1,h2,h3⟩:=h
 obtain ⟨l,hl⟩:=H.good k
 refine ⟨es,clock,hb,?_⟩
 rcases H.K.find w hl es.toList (fun e he=>by obtain ⟨k',hk',_⟩:=h1 e he;rw [hk'];exact H.good k') with ⟨hn,hne⟩ | ⟨j,e,hj,hje,hk⟩
 ·refine .inl ⟨hn,?_⟩
  cases hf:f k with
  | none=>rfl
  | some v =>
   obtain ⟨e,he,hek⟩:=h2 k v hf
   exact absurd hek (hne e he)
 ·refine .inr ⟨j,e,hj,hje,hk,?_⟩
  obtain ⟨k',hk',hf⟩:=h1 e (List.mem_of_getElem? hje)
  have:k' = k:=H.inj _ _ (hk'.symm.trans hk)
  subst this
  exact hf
theorem MapF.look (H:KeyEt P kt enc) (h:MapF enc w r f) (ht:P.underlying t = some (.map kt E)) {z:Value} (hz:(zeroValue E).run P w = .ok z w) (k:κ) :
  (Instr.lookup t (.map (some r)) (enc k) false).run P w = .ok ((f k).getD z) w:=by
 obtain ⟨l,hl⟩:=H.good k
 obtain ⟨es,clock,hb,⟨h1,h2⟩ | ⟨j,e,h1,h2,h3,h4⟩⟩:=h.find H k
 ·rw [h2];simp [Instr.lookup,run_underlying ht,MapKept.run_getObj_map hb,H.K.check w _ hl,h1,hz,Result.andThen]
 ·rw [h4];simp [Instr.lookup,run_underlying ht,MapKept.run_getObj_map hb,H.K.check w _ hl,h1,Result.andThen]
def putF [DecidableEq κ] (f:κ → Option Value) (k:κ) (v:Value):κ → Option Value:=fun k'=>if k' = k then some v else f k'
theorem MapF.put [DecidableEq κ] (H:KeyEt P kt enc) (h:MapF enc w r f) (ht:P.underlying t = some (.map kt E)) (k:κ) (v:Value) :
  ∃ w2,(Instr.mapUpdate t (.map (some r)) (enc k) v).run P w = .ok () w2 ∧ MapF enc w2 r (putF f k v) ∧ Fr (oneB r) w w2 ∧ w2.heap.size = w.heap.size:=by
 obtain ⟨l,hl⟩:=H.good k
 obtain ⟨es,clock,hb,hfind⟩:=h.find H k
 have hlt:=h.lt
 obtain ⟨es',clock',hb',h1,h2,h3⟩:=h
 rw [hb] at hb'
 injection hb' with hb'
 injection hb' with e1 e2
 subst e1;subst e2
 have frame:∀ o,Fr (oneB r) w (ChangeMaps.setBlock w r o) ∧ (ChangeMaps.setBlock w r o).heap.size = w.heap.size ∧ (ChangeMaps.setBlock w r o).heap[r]? = some o:=by
  intro o
  refine ⟨⟨rfl,rfl,rfl,by simp [ChangeMaps.setBlock],fun b hb hn=>?_⟩,by simp [ChangeMaps.setBlock],?_⟩
  ·simp only [ChangeMaps.setBlock,Array.getElem?_setIfInBounds]
   rw [if_neg (fun e=>hn e.symm)]
  ·simp [ChangeMaps.setBlock,hlt]
 rcases hfind with ⟨f1,f2⟩ | ⟨j,e,f1,f2,f3,f4⟩
 ·refine ⟨ChangeMaps.setBlock w r (.map (es.push ⟨enc k,v,clock⟩) (clock + 1)),?_,?_,(frame _).1,(frame _).2.1⟩
  ·simp [Instr.mapUpdate,run_underlying ht,MapKept.run_getObj_map hb,H.K.check w false hl,f1,MapKept.run_setObj_map _ hb,Result.andThen,ChangeMaps.setBlock]
  ·refine ⟨_,_,(frame _).2.2,?_,?_,?_⟩
   ·intro e he
    simp only [Array.toList_push,List.mem_append,List.mem_singleton] at he
    rcases he with he | rfl
    ·obtain ⟨k',hk',hf'⟩:=h1 e he
     refine ⟨k',hk',?_⟩
     unfold putF
     rw [if_neg (by rintro rfl;rw [f2] at hf';cases hf')]
     exact hf'
    ·exact ⟨k,rfl,by simp [putF]⟩
   ·intro k' v' hk'
    by_cases hkk:k' = k
    ·subst hkk
     exact ⟨⟨enc k',v,clock⟩,by simp,rfl⟩
    ·unfold putF at hk'
     rw [if_neg hkk] at hk'
     obtain ⟨e,he,hek⟩:=h2 k' v' hk'
     exact ⟨e,by simp [he],hek⟩
   ·rw [Array.toList_push,List.pairwise_append]
    refine ⟨h3,by simp,?_⟩
    intro a ha b hb'
    simp only [List.mem_singleton] at hb'
    subst hb'
    obtain ⟨k',hk',hf'⟩:=h1 a ha
    intro e
    have:k' = k:=H.inj _ _ (hk'.symm.trans e)
    subst this
    rw [f2] at hf';cases hf'
 ·have hjl:j < es.size:=by
   have:=(List.getElem?_eq_some_iff.1 f2).1
   simpa using this
  have hej:es[j]? = some e:=by rw [← Array.getElem?_toList];exact f2
  refine ⟨ChangeMaps.setBlock w r (.map (es.modify j fun x=>{ x with key:=enc k,val:=v }) clock),?_,?_,(frame _).1,(frame _).2.1⟩
  ·have hst:=H.K.stays w hl
   simp [Instr.mapUpdate,run_underlying ht,MapKept.run_getObj_map hb,H.K.check w false hl,f1,hej,f3,hst,MapKept.run_setObj_map _ hb,Result.andThen,ChangeMaps.setBlock]
  ·have hget:∀ i,(es.modify j fun x=>{ x with key:=enc k,val:=v }).toList[i]? = if j = i then (es.toList[i]?).map (fun x=>{ x with key:=enc k,val:=v }) else es.toList[i]?:=by
    intro i
    simp only [Array.getElem?_toList,Array.getElem?_modify]
   have hkeys:(es.modify j fun x=>{ x with key:=enc k,val:=v }).toList.map (·.key) = es.toList.map (·.key):=by
    apply List.ext_getElem?
    intro i
    simp only [List.getElem?_map,hget]
    split
    ·rename_i hij
     subst hij
     rw [f2]
     simp [f3]
    ·rfl
   refine ⟨_,_,(frame _).2.2,?_,?_,?_⟩
   ·intro x hx
    obtain ⟨i,hi⟩:=List.getElem?_of_mem hx
    rw [hget] at hi
    split at hi
    ·rename_i hij
     subst hij
     rw [f2] at hi
     simp only [Option.map_some,Option.some.injEq] at hi
     subst hi
     exact ⟨k,rfl,by simp [putF]⟩
    ·rename_i hij
     obtain ⟨k',hk',hf'⟩:=h1 x (List.mem_of_getElem? hi)
     refine ⟨k',hk',?_⟩
     unfold putF
     rw [if_neg ?_]
     ·exact hf'
     ·rintro rfl
      have hil:=(List.getElem?_eq_some_iff.1 hi).1
      have hjl':=(List.getElem?_eq_some_iff.1 f2).1
      have hne:=List.pairwise_iff_getElem.1 h3
      have exi:=(List.getElem?_eq_some_iff.1 hi).2
      have exj:=(List.getElem?_eq_some_iff.1 f2).2
      rcases Nat.lt_or_ge i j with h | h
      ·exact hne i j hil hjl' h (by rw [exi,exj,hk',f3])
      ·exact hne j i hjl' hil (by omega) (by rw [exi,exj,hk',f3])
   ·intro k' v' hk'
    have hold:∃ e ∈ es.toList,e.key = enc k':=by
     by_cases hkk:k' = k
     ·subst hkk
      exact ⟨e,List.mem_of_getElem? f2,f3⟩
     ·unfold putF at hk'
      rw [if_neg hkk] at hk'
      exact h2 k' v' hk'
    obtain ⟨e',he',hek⟩:=hold
    have:enc k' ∈ (es.modify j fun x=>{ x with key:=enc k,val:=v }).toList.map (·.key):=by
     rw [hkeys];exact List.mem_map.2 ⟨e',he',hek⟩
    obtain ⟨e2,he2,hk2⟩:=List.mem_map.1 this
    exact ⟨e2,he2,hk2⟩
   ·have h3':(es.toList.map (·.key)).Pairwise (· ≠ ·):=List.pairwise_map.2 h3
    rw [← hkeys] at h3'
    exact List.pairwise_map.1 h3'
end
end Go.Proofs.Ytahllkifmmjbdaa
