/- Plain: rows of a tree; ways up from row to row; places; names from the root. -/
import Derived.Test.YtjpieiccpbcabaaGreatObjPKu
set_option linter.unusedVariables false
set_option linter.unusedSimpArgs false
namespace Go.Proofs.YtjpieiccpbcabaaGreat
structure RwP where
 Node:St
 Parent:St
 At:St
 Name:List UInt8
 Heads:List Hd
def findR (rs:List RwP) (s:St):Option RwP:=rs.find? fun r=>decide (r.Node = s)
def reach (rs:List RwP):Nat → St → Bool
 | 0,s=>fixedS s
 | k + 1,s=>fixedS s || match findR rs s with
  | none=>false
  | some r=>reach rs k r.Parent
def riseR (rs:List RwP):Bool:=riseB (fun a b:RwP=>cmpS a.Node b.Node) rs
theorem findR_some {rs:List RwP} {s:St} {r:RwP} (h:findR rs s = some r):r ∈ rs ∧ r.Node = s:=by
 unfold findR at h
 exact ⟨List.mem_of_find?_eq_some h,by simpa using List.find?_some h⟩
theorem findR_none {rs:List RwP} {s:St}:findR rs s = none ↔ ∀ r ∈ rs,r.Node ≠ s:=by
 unfold findR
 rw [List.find?_eq_none]
 simp
theorem findR_mem {rs:List RwP} (hn:(rs.map (·.Node)).Nodup) {r:RwP} (h:r ∈ rs):findR rs r.Node = some r:=by
 induction rs with
 | nil=>cases h
 | cons x rs ih =>
  unfold findR at ih ⊢
  rw [List.find?_cons]
  simp only [List.map_cons,List.nodup_cons] at hn
  rcases List.mem_cons.1 h with rfl | h
  ·simp
  ·have:x.Node ≠ r.Node:=fun e=>hn.1 (by rw [e];exact List.mem_map.2 ⟨r,h,rfl⟩)
   simp only [this,decide_false]
   exact ih hn.2 h
theorem cmpS_trans {a b c:St} (h1:cmpS a b < 0) (h2:cmpS b c < 0):cmpS a c < 0:=by
 unfold cmpS at *
 repeat' split at h1
 all_goals repeat' split at h2
 all_goals (repeat' split) <;> omega
theorem cmpS_self (a:St):cmpS a a = 0:=by unfold cmpS;simp
theorem cmpS_zero {a b:St}:cmpS a b = 0 ↔ a = b:=by
 constructor
 ·intro h
  unfold cmpS at h
  cases a with | mk t r =>
  cases b with | mk t' r' =>
  simp only at h
  simp only [St.mk.injEq]
  repeat' split at h
  all_goals omega
 ·rintro rfl;exact cmpS_self a
theorem cmpS_flip (a b:St):cmpS b a = - cmpS a b:=by
 unfold cmpS
 repeat' split
 all_goals omega
theorem riseB_pw {α:Type} (cf:α → α → Int) (ht:∀ a b c,cf a b < 0 → cf b c < 0 → cf a c < 0):∀ l:List α,riseB cf l = true ↔ l.Pairwise (fun a b=>cf a b < 0)
 | []=>by simp [riseB]
 | [x]=>by simp [riseB]
 | x :: y :: l=>by
  have ih:=riseB_pw cf ht (y :: l)
  unfold riseB
  rw [Bool.and_eq_true,ih,decide_eq_true_eq,List.pairwise_cons (a:=x)]
  constructor
  ·rintro ⟨h1,h2⟩
   refine ⟨fun z hz=>?_,h2⟩
   rcases List.mem_cons.1 hz with rfl | hz
   ·exact h1
   ·exact ht _ _ _ h1 ((List.pairwise_cons.1 h2).1 z hz)
  ·rintro ⟨h1,h2⟩
   exact ⟨h1 y (by simp),h2⟩
theorem reach_succ {rs:List RwP}:∀ (k:Nat) (s:St),reach rs k s = true → reach rs (k + 1) s = true
 | 0,s,h=>by unfold reach at h ⊢;simp [h]
 | k + 1,s,h=>by
  unfold reach at h ⊢
  rw [Bool.or_eq_true] at h ⊢
  rcases h with h | h
  ·exact .inl h
  ·refine .inr ?_
   cases hf:findR rs s with
   | none=>rw [hf] at h;cases h
   | some r=>rw [hf] at h;exact reach_succ k _ h
theorem reach_le {rs:List RwP} {k j:Nat} {s:St} (h:reach rs k s = true) (hj:k ≤ j):reach rs j s = true:=by
 induction hj with
 | refl=>exact h
 | step _ ih=>exact reach_succ _ _ ih
def wayR (rs:List RwP):Nat → St → List St
 | 0,_=>[]
 | k + 1,s=>if fixedS s then [] else match findR rs s with
  | none=>[]
  | some r=>s :: wayR rs k r.Parent
theorem wayR_min {rs:List RwP}:∀ (k:Nat) (s:St),reach rs k s = true → (∀ j,j < k → reach rs j s = false) →
  (wayR rs k s).length = k ∧ (wayR rs k s).Nodup ∧ (∀ t ∈ wayR rs k s,t ∈ rs.map (·.Node)) ∧ ∀ t ∈ wayR rs k s,∃ i,i ≤ k ∧ reach rs i t = true
 | 0,s,_,_=>⟨rfl,by simp [wayR],by simp [wayR],by simp [wayR]⟩
 | k + 1,s,h,hm=>by
  have h0:fixedS s = false:=hm 0 (by omega)
  have h':=h
  unfold reach at h
  rw [h0,Bool.false_or] at h
  cases hf:findR rs s with
  | none=>rw [hf] at h;cases h
  | some r =>
   rw [hf] at h
   simp only at h
   have hm':∀ j,j < k → reach rs j r.Parent = false:=fun j hj=>by
    cases hr:reach rs j r.Parent with
    | false=>rfl
    | true =>
     have:=hm (j + 1) (by omega)
     unfold reach at this
     rw [h0,hf,Bool.false_or] at this
     simp only at this
     rw [hr] at this;cases this
   obtain ⟨i1,i2,i3,i4⟩:=wayR_min k r.Parent h hm'
   have e:wayR rs (k + 1) s = s :: wayR rs k r.Parent:=by
    show (if fixedS s then [] else match findR rs s with | none=>[] | some r=>s :: wayR rs k r.Parent) = _
    rw [h0,hf];rfl
   rw [e]
   refine ⟨by simp [i1],?_,?_,?_⟩
   ·rw [List.nodup_cons]
    refine ⟨fun hx=>?_,i2⟩
    obtain ⟨i,hi,hr⟩:=i4 s hx
    have:=hm i (by omega)
    rw [hr] at this;cases this
   ·intro t ht
    rcases List.mem_cons.1 ht with rfl | ht
    ·obtain ⟨h1,h2⟩:=findR_some hf
     exact List.mem_map.2 ⟨r,h1,h2⟩
    ·exact i3 t ht
   ·intro t ht
    rcases List.mem_cons.1 ht with rfl | ht
    ·exact ⟨k + 1,Nat.le_refl _,h'⟩
    ·obtain ⟨i,hi,hr⟩:=i4 t ht
     exact ⟨i,by omega,hr⟩
theorem nd_leS {α:Type} [DecidableEq α]:∀ (l m:List α),l.Nodup → (∀ x ∈ l,x ∈ m) → l.length ≤ m.length
 | [],m,_,_=>by simp
 | x :: l,m,hn,hm=>by
  rw [List.nodup_cons] at hn
  have hx:=hm x (by simp)
  have:=nd_leS l (m.erase x) hn.2 (fun y hy=>(List.mem_erase_of_ne (fun e=>hn.1 (by rw [← e];exact hy))).2 (hm y (by simp [hy])))
  rw [List.length_erase_of_mem hx] at this
  have:=List.length_pos_of_mem hx
  simp only [List.length_cons]
  omega
theorem reach_len {rs:List RwP} {k:Nat} {s:St} (h:reach rs k s = true):reach rs rs.length s = true:=by
 induction k using Nat.strongRecOn with
 | ind k ih =>
  by_cases hm:∀ j,j < k → reach rs j s = false
  ·obtain ⟨h1,h2,h3,_⟩:=wayR_min k s h hm
   have:=nd_leS _ _ h2 h3
   rw [h1,List.length_map] at this
   exact reach_le h this
  ·simp only [Classical.not_forall] at hm
   obtain ⟨j,hj,hr⟩:=hm
   exact ih j hj (by cases e:reach rs j s with | true=>rfl | false=>exact absurd e hr)
end Go.Proofs.YtjpieiccpbcabaaGreat
