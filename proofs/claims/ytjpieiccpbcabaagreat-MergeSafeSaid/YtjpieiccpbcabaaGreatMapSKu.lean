/- Sets of stamps (map[api.Stamp]bool) as lists of keys; a set of a row of operations. -/
import Derived.Test.YtjpieiccpbcabaaGreatGvMKu
import Derived.Test.YtjpieiccpbcabaaGreatMgSpKu
set_option linter.unusedVariables false
set_option linter.unusedSimpArgs false
namespace Go.Proofs.YtjpieiccpbcabaaGreat
open Go.RowKit Go.Maps Go.Sort
def setS (l:List St):List (St × Value):=l.map fun x=>(x,.bool true)
theorem look_setS (l:List St) (x:St):look (setS l) x = if x ∈ l then some (.bool true) else none:=by
 induction l with
 | nil=>simp [look,setS]
 | cons y l ih =>
  unfold look setS at ih ⊢
  rw [List.map_cons,List.find?_cons]
  by_cases h:y = x
  ·simp [h]
  ·have h':x ≠ y:=fun e=>h e.symm
   simp only [h,decide_false,List.mem_cons,h',false_or]
   exact ih
theorem put_setS (l:List St) (x:St):putL (setS l) x (.bool true) = setS (if x ∈ l then l else l ++ [x]):=by
 unfold putL
 rw [look_setS]
 by_cases h:x ∈ l
 ·simp only [h,if_true,Option.isSome_some]
  unfold setS
  rw [List.map_map]
  refine List.map_congr_left (fun y hy=>?_)
  simp only [Function.comp_apply]
  split
  ·rename_i e;simp [e]
  ·rfl
 ·simp [h,setS]
def InS (w:World) (r:Nat) (os:List Opn):Prop:=∃ l,mpT w r = some (setS l) ∧ ∀ x,x ∈ l ↔ ∃ o ∈ os,o.At = x
theorem InS.nil {w:World} {r:Nat} (h:mpT w r = some []):InS w r []:=⟨[],h,by simp⟩
theorem InS.fr {M:Nat → Prop} {w w':World} {r:Nat} {os:List Opn} (h:InS w r os) (f:Fr M w w') (hM:¬ M r):InS w' r os:=by
 obtain ⟨l,h1,h2⟩:=h
 exact ⟨l,mpT_fr h1 f hM,h2⟩
theorem InS.fr0 {w w':World} {r:Nat} {os:List Opn} (h:InS w r os) (f:Fr noB w w'):InS w' r os:=h.fr f (by simp [noB])
theorem InS.put {w:World} {r:Nat} {os:List Opn} (h:InS w r os) {o:Opn} (hw:wfS o.At = true):InS (mputT 78 w r o.At (.bool true)) r (os ++ [o]) ∧ Fr (oneB r) w (mputT 78 w r o.At (.bool true)) ∧ ∃ kv,mpT w r = some kv:=by
 obtain ⟨l,h1,h2⟩:=h
 obtain ⟨_,e,f,_⟩:=mputT_all Tryz.underlying78 h1 hw (.bool true)
 rw [put_setS] at e
 refine ⟨⟨_,e,fun x=>?_⟩,f,_,h1⟩
 have e2:x ∈ (if o.At ∈ l then l else l ++ [o.At]) ↔ x ∈ l ∨ x = o.At:=by
  split
  ·rename_i hm
   exact ⟨.inl,fun h=>h.elim id (fun e=>by rw [e];exact hm)⟩
  ·simp
 rw [e2,h2 x]
 constructor
 ·rintro (⟨q,hq,e3⟩ | rfl)
  ·exact ⟨q,List.mem_append_left _ hq,e3⟩
  ·exact ⟨o,by simp,rfl⟩
 ·rintro ⟨q,hq,rfl⟩
  rcases List.mem_append.1 hq with h | h
  ·exact .inl ⟨q,h,rfl⟩
  ·rw [List.mem_singleton] at h
   exact .inr (by rw [h])
theorem InS.look {w:World} {r:Nat} {os:List Opn} (h:InS w r os) (x:St):∃ kv,mpT w r = some kv ∧ (look kv x).getD (.bool false) = .bool (os.any fun o=>decide (o.At = x)):=by
 obtain ⟨l,h1,h2⟩:=h
 refine ⟨_,h1,?_⟩
 rw [look_setS]
 by_cases hx:x ∈ l
 ·rw [if_pos hx]
  obtain ⟨o,ho,e⟩:=(h2 x).1 hx
  have:(os.any fun o=>decide (o.At = x)) = true:=List.any_eq_true.2 ⟨o,ho,by simpa using e⟩
  rw [this]
  rfl
 ·rw [if_neg hx]
  have:(os.any fun o=>decide (o.At = x)) = false:=by
   rw [Bool.eq_false_iff]
   intro h
   obtain ⟨o,ho,e⟩:=List.any_eq_true.1 h
   exact hx ((h2 x).2 ⟨o,ho,by simpa using e⟩)
  rw [this]
  rfl
end Go.Proofs.YtjpieiccpbcabaaGreat
