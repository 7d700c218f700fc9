/- Plain: a tree that comes of operations (grove): what an operation does, how it is undone, operations in the order of their times. Plain: what Put, Move and Remove do to a draft; a draft's rows stay a tree; how many rows and stamps are taken. -/
import Derived.Test.YthehiobacjjakaaGreatDoorWkPKc
set_option linter.unusedVariables false
set_option linter.unusedSimpArgs false
namespace Go.Proofs.YthehiobacjjakaaGreatDoor
def zRwP:RwP:=⟨zSt,zSt,zSt,[],[]⟩
def aboveN (xs:List RwP):Nat → St → St → Bool
 | 0,_,_=>false
 | k + 1,n,p=>if p.T = 0 then false else decide (p = n) || match findR xs p with
  | none=>false
  | some r=>aboveN xs k n r.Parent
def aboveR (xs:List RwP) (n p:St):Bool:=aboveN xs xs.length n p
def putR (xs:List RwP) (r:RwP):List RwP:=if (findR xs r.Node).isSome then xs.map (fun x=>if x.Node = r.Node then r else x) else xs ++ [r]
theorem findR_put (xs:List RwP) (r:RwP) (s:St):findR (putR xs r) s = if r.Node = s then some r else findR xs s:=by
 unfold putR
 split
 ·rename_i hs
  induction xs with
  | nil=>simp [findR] at hs
  | cons x xs ih =>
   unfold findR at ih hs ⊢
   rw [List.map_cons,List.find?_cons,List.find?_cons]
   rw [List.find?_cons] at hs
   by_cases hx:x.Node = r.Node
   ·simp only [hx,if_true]
    by_cases e:r.Node = s
    ·simp [e]
    ·simp only [e,decide_false,if_false]
     by_cases h2:((xs.find? fun q=>decide (q.Node = r.Node))).isSome
     ·rw [ih h2,if_neg e]
     ·have:∀ y ∈ xs,y.Node ≠ r.Node:=by
       have:=List.find?_eq_none.1 (by simpa using h2:(xs.find? fun q=>decide (q.Node = r.Node)) = none)
       simpa using this
      rw [List.map_congr_left (g:=id) (fun y hy=>by rw [if_neg (this y hy)];rfl),List.map_id]
   ·simp only [hx,if_false]
    simp only [hx,decide_false] at hs
    by_cases e:x.Node = s
    ·have:r.Node ≠ s:=fun e2=>hx (by rw [e,e2])
     simp [e,this]
    ·simp only [e,decide_false]
     exact ih hs
 ·rename_i hs
  have hn:findR xs r.Node = none:=by simpa using hs
  unfold findR at hn ⊢
  rw [List.find?_append]
  by_cases e:r.Node = s
  ·rw [if_pos e,← e,hn];simp
  ·rw [if_neg e];simp [e]
/-! a tree's rows: nodes that are right, each with a way to the root or the trash -/
theorem rightS_T {s:St} (h:rightS s = true):s.T ≠ 0:=by
 unfold rightS at h
 simp only [Bool.and_eq_true,decide_eq_true_eq] at h
 omega
theorem fixedS_T {s:St} (h:fixedS s = true):s.T = 0:=by
 unfold fixedS at h
 simp only [Bool.and_eq_true,decide_eq_true_eq] at h
 exact h.1
theorem reach_step {xs:List RwP} {k:Nat} {s:St} {r:RwP} (hf:findR xs s = some r) (h:reach xs k r.Parent = true):reach xs (k + 1) s = true:=by
 unfold reach
 rw [hf]
 show (fixedS s || reach xs k r.Parent) = true
 rw [h,Bool.or_true]
theorem reach_inv {xs:List RwP} {k:Nat} {s:St} (h:reach xs k s = true):fixedS s = true ∨ ∃ j r,k = j + 1 ∧ findR xs s = some r ∧ reach xs j r.Parent = true:=by
 cases k with
 | zero=>exact .inl h
 | succ k =>
  unfold reach at h
  rw [Bool.or_eq_true] at h
  rcases h with h | h
  ·exact .inl h
  ·cases hf:findR xs s with
   | none=>rw [hf] at h;cases h
   | some r=>rw [hf] at h;exact .inr ⟨k,r,rfl,rfl,h⟩
theorem reach_fixed {xs:List RwP} {s:St} (h:fixedS s = true) (k:Nat):reach xs k s = true:=by
 cases k with
 | zero=>exact h
 | succ k=>unfold reach;rw [h];rfl
theorem reach_put {xs:List RwP} {r:RwP} {K:Nat} (hK:reach (putR xs r) K r.Parent = true):∀ (k:Nat) (s:St),reach xs k s = true → ∃ j,reach (putR xs r) j s = true:=by
 intro k
 induction k with
 | zero=>exact fun s h=>⟨0,h⟩
 | succ k ih =>
  intro s h
  rcases reach_inv h with h | ⟨j,x,hj,hf,hx⟩
  ·exact ⟨0,h⟩
  ·obtain rfl:j = k:=by omega
   by_cases e:r.Node = s
   ·exact ⟨K + 1,reach_step (by rw [findR_put,if_pos e]) hK⟩
   ·obtain ⟨j',hj'⟩:=ih x.Parent hx
    exact ⟨j' + 1,reach_step (by rw [findR_put,if_neg e];exact hf) hj'⟩
theorem reach_off {xs:List RwP} {r:RwP}:∀ (k:Nat) (p:St),reach xs k p = true → aboveN xs k r.Node p = false → (fixedS p = true ∨ p.T ≠ 0) → (∀ x ∈ xs,fixedS x.Parent = true ∨ x.Parent.T ≠ 0) → reach (putR xs r) k p = true:=by
 intro k
 induction k with
 | zero=>exact fun p h _ _ _=>h
 | succ k ih =>
  intro p h ha hp hxs
  rcases reach_inv h with h | ⟨j,x,hj,hf,hx⟩
  ·exact reach_fixed h _
  ·obtain rfl:j = k:=by omega
   rcases hp with hp | hp
   ·exact reach_fixed hp _
   ·have e:aboveN xs (j + 1) r.Node p = (if p.T = 0 then false else decide (p = r.Node) || match findR xs p with | none=>false | some r'=>aboveN xs j r.Node r'.Parent):=rfl
    rw [e,if_neg hp,hf] at ha
    simp only [Bool.or_eq_false_iff,decide_eq_false_iff_not] at ha
    refine reach_step (r:=x) ?_ (ih x.Parent hx ha.2 (hxs x (findR_some hf).1) hxs)
    rw [findR_put,if_neg (fun e=>ha.1 e.symm)]
    exact hf
theorem mem_put {xs:List RwP} {r x:RwP} (h:x ∈ putR xs r):x = r ∨ (x ∈ xs ∧ x.Node ≠ r.Node):=by
 unfold putR at h
 split at h
 ·obtain ⟨y,hy,hyx⟩:=List.mem_map.1 h
  split at hyx
  ·exact .inl hyx.symm
  ·rename_i hne
   subst hyx
   exact .inr ⟨hy,hne⟩
 ·rename_i hs
  have hn:findR xs r.Node = none:=by simpa using hs
  rcases List.mem_append.1 h with h | h
  ·exact .inr ⟨h,findR_none.1 hn x h⟩
  ·exact .inl (by simpa using h)
structure Dft where
 rows:List RwP
 next:St
def tickD (s:St) (n:Nat):St:=⟨s.T + n,s.R⟩
def splitD:List UInt8 → List (List UInt8)
 | []=>[[]]
 | b :: l=>if b = 47 then [] :: splitD l else match splitD l with
  | []=>[[b]]
  | x :: t=>(b :: x) :: t
def namesOk (p:List UInt8):Bool:=(splitD p).all nameOk && decide ((splitD p).length ≤ 20) && decide (p.length ≤ 1000)
theorem split_ne:∀ p:List UInt8,splitD p ≠ []
 | []=>by simp [splitD]
 | b :: l=>by
  unfold splitD
  split
  ·simp
  ·split <;> simp
def walkD (rs:List RwP):RwP → List (List UInt8) → RwP × Nat
 | a,[]=>(a,0)
 | a,nm :: l=>match kidD rs a.Node nm with
  | none=>(a,0)
  | some r=>((walkD rs r l).1,(walkD rs r l).2 + 1)
theorem walkD_le (rs:List RwP):∀ (a:RwP) (l:List (List UInt8)),(walkD rs a l).2 ≤ l.length
 | a,[]=>by simp [walkD]
 | a,nm :: l=>by
  unfold walkD
  cases kidD rs a.Node nm with
  | none=>simp
  | some r=>have:=walkD_le rs r l;simp only [List.length_cons];omega
theorem walkD_mem (rs:List RwP):∀ (a:RwP) (l:List (List UInt8)),((walkD rs a l).1 = a ∧ (walkD rs a l).2 = 0) ∨ (walkD rs a l).1 ∈ rs
 | a,[]=>by simp [walkD]
 | a,nm :: l=>by
  unfold walkD
  cases hk:kidD rs a.Node nm with
  | none=>simp
  | some r =>
   right
   rcases walkD_mem rs r l with h | h
   ·show (walkD rs r l).1 ∈ rs
    rw [h.1]
    exact (kidD_some hk).1
   ·exact h
def roomD (d:Dft) (n:Nat):Bool:=rightS d.next && rightS ⟨d.next.T + n - 1,d.next.R⟩ && !(d.rows.any fun r=>decide (0 ≤ cmpS r.Node d.next))
theorem room_lt {d:Dft} {n:Nat} (h:roomD d n = true):∀ r ∈ d.rows,cmpS r.Node d.next < 0:=fun r hr=>by
 unfold roomD at h
 simp only [Bool.and_eq_true,Bool.not_eq_true',List.any_eq_false,decide_eq_true_eq] at h
 have:=h.2 r hr
 omega
def growD (d:Dft) (a:RwP):List (List UInt8) → Dft × RwP
 | []=>(d,a)
 | nm :: l=>growD ⟨putR d.rows ⟨d.next,a.Node,d.next,nm,[]⟩,tickD d.next 1⟩ ⟨d.next,a.Node,d.next,nm,[]⟩ l
def fileD (rs:List RwP) (l:List (List UInt8)) (n:Nat):Bool:=(List.range (min n (l.length - 1))).any fun i=>decide (0 < (walkD rs zRwP (l.take (i + 1))).1.Heads.length)
def freshD (d:Dft) (p:List UInt8):List (List UInt8):=(splitD p).drop (walkD d.rows zRwP (splitD p)).2
def putF (d:Dft) (p:List UInt8) (data:ID):Dft × Int :=
 if namesOk p = false then (d,170)
 else if ((freshD d p).any fun s=>s.contains 126) = true then (d,170)
 else if data = zID then (d,1)
 else if fileD d.rows (splitD p) (walkD d.rows zRwP (splitD p)).2 = true then (d,170)
 else if freshD d p = [] ∧ (walkD d.rows zRwP (splitD p)).1.Heads = [] then (d,5)
 else if 5000 < d.rows.length + (freshD d p).length then (d,3)
 else if roomD d ((freshD d p).length + 1) = false then (d,1)
 else (⟨putR (growD d (walkD d.rows zRwP (splitD p)).1 (freshD d p)).1.rows { (growD d (walkD d.rows zRwP (splitD p)).1 (freshD d p)).2 with Heads:=[⟨(growD d (walkD d.rows zRwP (splitD p)).1 (freshD d p)).1.next,data⟩] },
  tickD (growD d (walkD d.rows zRwP (splitD p)).1 (freshD d p)).1.next 1⟩,0)
def removeF (d:Dft) (p:List UInt8):Dft × Int :=
 if namesOk p = false then (d,170)
 else if (walkD d.rows zRwP (splitD p)).2 < (splitD p).length then (d,4)
 else if roomD d 1 = false then (d,1)
 else (⟨putR d.rows { (walkD d.rows zRwP (splitD p)).1 with Parent:=trS,At:=d.next },tickD d.next 1⟩,0)
def lastN (q:List UInt8):List UInt8:=(splitD q).getLast (split_ne q)
def aheadN (q:List UInt8):List (List UInt8):=(splitD q).take ((splitD q).length - 1)
def moveF (d:Dft) (p q:List UInt8):Dft × Int :=
 if (namesOk p && namesOk q && !(lastN q).contains 126) = false then (d,170)
 else if (walkD d.rows zRwP (splitD p)).2 < (splitD p).length then (d,4)
 else if (walkD d.rows zRwP (aheadN q)).2 < (aheadN q).length then (d,4)
 else if 0 < (walkD d.rows zRwP (aheadN q)).1.Heads.length ∨ aboveR d.rows (walkD d.rows zRwP (splitD p)).1.Node (walkD d.rows zRwP (aheadN q)).1.Node = true then (d,170)
 else if (kidD d.rows (walkD d.rows zRwP (aheadN q)).1.Node (lastN q)).isSome = true then (d,5)
 else if roomD d 1 = false then (d,1)
 else (⟨putR d.rows { (walkD d.rows zRwP (splitD p)).1 with Parent:=(walkD d.rows zRwP (aheadN q)).1.Node,Name:=lastN q,At:=d.next },tickD d.next 1⟩,0)
/-! rows stay a tree -/
theorem reach_new {rs:List RwP} {r:RwP} (hn:findR rs r.Node = none):∀ (k:Nat) (s:St),reach rs k s = true → reach (putR rs r) k s = true
 | 0,s,h=>h
 | k + 1,s,h=>by
  rcases reach_inv h with h | ⟨j,x,hj,hf,hx⟩
  ·exact reach_fixed h _
  ·obtain rfl:j = k:=by omega
   refine reach_step (r:=x) ?_ (reach_new hn j _ hx)
   rw [findR_put,if_neg]
   ·exact hf
   ·rintro rfl
    rw [hn] at hf
    cases hf
theorem reach_same {rs:List RwP} {r x:RwP} (hf:findR rs r.Node = some x) (hp:x.Parent = r.Parent):∀ (k:Nat) (s:St),reach rs k s = true → reach (putR rs r) k s = true
 | 0,s,h=>h
 | k + 1,s,h=>by
  rcases reach_inv h with h | ⟨j,y,hj,hfy,hy⟩
  ·exact reach_fixed h _
  ·obtain rfl:j = k:=by omega
   by_cases e:r.Node = s
   ·refine reach_step (r:=r) (by rw [findR_put,if_pos e]) ?_
    subst e
    rw [hf] at hfy
    injection hfy with hfy
    rw [← hp,hfy]
    exact reach_same hf hp j _ hy
   ·exact reach_step (r:=y) (by rw [findR_put,if_neg e];exact hfy) (reach_same hf hp j _ hy)
theorem putR_len (rs:List RwP) (r:RwP):(putR rs r).length = if (findR rs r.Node).isSome then rs.length else rs.length + 1:=by
 unfold putR
 split <;> simp
theorem TreeOk.put {rs:List RwP} (h:TreeOk rs) {r:RwP} (hr:rightR r = true) (hl:(findR rs r.Node).isSome = true ∨ (rs.length < 5000 ∧ ∀ x ∈ rs,cmpS x.Node r.Node < 0)) {K:Nat} (hK:reach (putR rs r) K r.Parent = true):TreeOk (putR rs r) where
 len:=by
  rw [putR_len]
  have:=h.len
  split
  ·exact this
  ·rename_i hs
   rcases hl with hl | hl
   ·exact absurd hl hs
   ·omega
 ok:=fun x hx=>by
  rcases mem_put hx with rfl | ⟨hx,_⟩
  ·exact hr
  ·exact h.ok x hx
 rise:=by
  have hp:=riseR_pw h.rise
  refine (riseB_pw (fun a b:RwP=>cmpS a.Node b.Node) (fun _ _ _=>cmpS_trans) _).2 ?_
  unfold putR
  split
  ·rw [List.pairwise_map]
   have e:∀ x:RwP,(if x.Node = r.Node then r else x).Node = x.Node:=fun x=>by
    split
    ·rename_i e;exact e.symm
    ·rfl
   refine hp.imp fun {a b} hab=>?_
   rw [e,e]
   exact hab
  ·rename_i hs
   rw [List.pairwise_append]
   refine ⟨hp,List.pairwise_singleton _ _,fun a ha b hb=>?_⟩
   rw [List.mem_singleton] at hb
   subst hb
   rcases hl with hl | hl
   ·exact absurd hl hs
   ·exact hl.2 a ha
 up:=fun x hx=>by
  rcases mem_put hx with rfl | ⟨hx,_⟩
  ·exact ⟨K + 1,reach_step (by rw [findR_put,if_pos rfl]) hK⟩
  ·obtain ⟨k,hk⟩:=h.up x hx
   exact reach_put hK k _ hk
theorem TreeOk.find {rs:List RwP} (h:TreeOk rs) {r:RwP} (hr:r ∈ rs):findR rs r.Node = some r:=findR_mem h.nd hr
theorem rightR_node {r:RwP} (h:rightR r = true):rightS r.Node = true:=by
 unfold rightR rightDr at h
 simp only [Bool.and_eq_true,List.all_cons,List.all_nil,Bool.and_true] at h
 have:=h.1.1.2
 unfold rightIt at this
 simp only [Bool.and_eq_true] at this
 exact this.1.1.1.1.1.1
theorem rightR_iff (r:RwP):rightR r = true ↔ (rightS r.Node = true ∧ rightS r.At = true ∧ 0 ≤ cmpS r.At r.Node ∧ nameOk r.Name = true ∧ r.Heads.length ≤ 1000 ∧ (∀ h ∈ r.Heads,rightS h.At = true ∧ 0 < cmpS h.At r.Node ∧ h.Data ≠ zID) ∧ riseB (fun a b:Hd=>cmpS a.At b.At) r.Heads = true) ∧ r.Node ≠ lastS:=by
 unfold rightR rightDr rightIt
 simp only [Bool.and_eq_true,List.all_cons,List.all_nil,Bool.and_true,decide_eq_true_eq,List.length_cons,List.length_nil,riseB,and_true,itR,List.all_eq_true]
 constructor
 ·rintro ⟨⟨_,⟨⟨⟨⟨⟨a,b⟩,c⟩,d⟩,e⟩,f⟩,g⟩,i⟩
  exact ⟨⟨a,b,c,d,e,fun h hh=>⟨(f h hh).1.1,(f h hh).1.2,(f h hh).2⟩,g⟩,i⟩
 ·rintro ⟨⟨a,b,c,d,e,f,g⟩,i⟩
  exact ⟨⟨by decide,⟨⟨⟨⟨⟨a,b⟩,c⟩,d⟩,e⟩,fun h hh=>⟨⟨(f h hh).1,(f h hh).2.1⟩,(f h hh).2.2⟩⟩,g⟩,i⟩
end Go.Proofs.YthehiobacjjakaaGreatDoor
