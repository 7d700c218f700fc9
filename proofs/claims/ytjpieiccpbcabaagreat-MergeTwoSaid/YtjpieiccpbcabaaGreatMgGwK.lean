/- Plain: a commit that is taken; the document's example. Plain: what MergeTwo, MergeSafe say of plans. Plain: histories that numbers say (grown). Plain: the commits of grown may be. Contract: pollardlaw15.alive. (rdI) What the rounds of grown have made so far: boxes of a round (a triple, an ID, a commit), rows of int64. Contract: pollardlaw15.grown. (rdI) -/
import Derived.Test.YtjpieiccpbcabaaGreatFrameT3K
import Derived.Deep.LoopGhost
import Derived.Deep.CutRange
namespace Go.Proofs.YtjpieiccpbcabaaGreat
open Go.RowKit
set_option linter.unusedVariables false
set_option linter.unusedSimpArgs false

theorem addH_new {L:Hst} {x:ID} {c:Chg} (h1:hasG (dgH L) x = false) (h2:x ≠ zID) (h3:rightCh c = true) (h4:timeOk L c = true) (h5:∀ p ∈ c.Parents,hasG (dgH L) p = true) (h6:∀ o ∈ c.Ops,∀ p ∈ opsH L,p.At ≠ o.At):addH L x c = (0,(x,c) :: L):=by
 unfold addH
 have e2:decide (x = zID) = false:=by simpa using h2
 have e5:(c.Parents.any fun p=>!hasG (dgH L) p) = false:=by
  rw [List.any_eq_false]
  intro p hp
  simp [h5 p hp]
 have e6:clashO (opsH L) c.Ops = false:=by
  unfold clashO
  rw [List.any_eq_false]
  intro o ho
  rw [findO_none.2 (h6 o ho)]
  simp
 rw [h1,e2,h3,h4,e5,e6]
 rfl
theorem NdH.add {L:Hst} (h:NdH L) {x:ID} {c:Chg} (h3:rightCh c = true) (h6:∀ o ∈ c.Ops,∀ p ∈ opsH L,p.At ≠ o.At):NdH ((x,c) :: L):=by
 show ((c.Ops ++ opsH L).map (·.At)).Nodup
 rw [List.map_append]
 refine List.nodup_append.2 ⟨srt_nd (rightCh_parts h3).2.2.2.2.1,h,?_⟩
 intro a ha b hb e
 obtain ⟨o,ho,rfl⟩:=List.mem_map.1 ha
 obtain ⟨p,hp,rfl⟩:=List.mem_map.1 hb
 exact h6 o ho p hp e.symm
theorem NdH.nil:NdH []:=List.nodup_nil
theorem Hs.lt {w:World} {H:Nat} {S:Nat → Prop} {L:Hst} (h:Hs w H S L) {b:Nat} (hb:S b):b < w.heap.size:=by
 obtain ⟨_,_,_,_,_,_,_,_,_,h3⟩:=h
 exact h3 b hb
/-! the document's example -/
def eA:ID:=id2 1 0
def eB:ID:=id2 2 0
def eC:ID:=id2 3 0
def L15a:Hst:=[(eA,ptC [] 1 1)]
def L15b:Hst:=(eB,ptC [eA] 2 1) :: L15a
def L15c:Hst:=(eC,ptC [eA] 2 2) :: L15b
theorem ad15a:addH [] eA (ptC [] 1 1) = (0,L15a):=addH_new rfl (by decide) (by decide +kernel) rfl (by simp [ptC]) (by simp [ptC,opsH])
theorem ad15b:addH L15a eB (ptC [eA] 2 1) = (0,L15b):=addH_new (by decide +kernel) (by decide) (by decide +kernel) (by decide +kernel) (by decide +kernel) (by decide +kernel)
theorem ad15c:addH L15b eC (ptC [eA] 2 2) = (0,L15c):=addH_new (by decide +kernel) (by decide) (by decide +kernel) (by decide +kernel) (by decide +kernel) (by decide +kernel)
theorem nd15:NdH L15c:=by
 unfold NdH
 decide +kernel
theorem okg15:okG (dgH L15c):=by
 have h:=okG_add (okG_add (okG_add (show okG [] from trivial) eA []) eB [eA]) eC [eA]
 have e:(addG (addG (addG [] eA []).2 eB [eA]).2 eC [eA]).2 = dgH L15c:=by decide +kernel
 rw [e] at h
 exact h
theorem anc15_in {x z:ID} (h:ancG (dgH L15c) x z = true):z ∈ [eA,eB,eC]:=by
 have h2:=(anc_has okg15 h).2
 rw [hasG_mem] at h2
 have e:(dgH L15c).map (·.1) = [eC,eB,eA]:=rfl
 rw [e] at h2
 simp only [List.mem_cons,List.not_mem_nil,or_false] at h2 ⊢
 rcases h2 with h | h | h <;> simp [h]
theorem base15:∀ z,BaseOf (dgH L15c) eB eC z ↔ z = eA:=by
 intro z
 constructor
 ·rintro ⟨⟨h1,h2⟩,_⟩
  have hz:=anc15_in h1
  simp only [List.mem_cons,List.not_mem_nil,or_false] at hz
  rcases hz with rfl | rfl | rfl
  ·rfl
  ·exact absurd h2 (by decide +kernel)
  ·exact absurd h1 (by decide +kernel)
 ·rintro rfl
  refine ⟨⟨by decide +kernel,by decide +kernel⟩,?_⟩
  rintro ⟨d,ps,⟨h1,h2⟩,h3,h4⟩
  have hz:=anc15_in h1
  simp only [List.mem_cons,List.not_mem_nil,or_false] at hz
  rcases hz with rfl | rfl | rfl
  ·have e:parents (dgH L15c) eA = some []:=by decide +kernel
   rw [e] at h3
   injection h3 with h3
   subst h3
   cases h4
  ·exact absurd h2 (by decide +kernel)
  ·exact absurd h1 (by decide +kernel)
theorem ops15 {ids:List ID} {l m:List Opn} (h:OpsP L15c ids l) (hm:SrtL m) (h1:∀ o ∈ m,∃ x c,findC L15c x = some c ∧ (ids.any fun i=>ancG (dgH L15c) i x) = true ∧ o ∈ c.Ops)
  (h2:∀ x ∈ [eA,eB,eC],(ids.any fun i=>ancG (dgH L15c) i x) = true → ∀ o ∈ ((findC L15c x).getD zChg).Ops,o ∈ m):l = m:=by
 refine srt_ext h.srt hm fun o=>?_
 rw [h.mem]
 constructor
 ·rintro ⟨x,c,hf,⟨i,hi,ha⟩,ho⟩
  refine h2 x (anc15_in ha) (List.any_eq_true.2 ⟨i,hi,ha⟩) o ?_
  rw [hf]
  exact ho
 ·intro ho
  obtain ⟨x,c,hf,ha,hc⟩:=h1 o ho
  obtain ⟨i,hi,ha⟩:=List.any_eq_true.1 ha
  exact ⟨x,c,hf,⟨i,hi,ha⟩,hc⟩
theorem sub15 {ids:List ID} {m:List Opn} (hA:(ids.any fun i=>ancG (dgH L15c) i eA) = true → ptO 1 1 ∈ m) (hB:(ids.any fun i=>ancG (dgH L15c) i eB) = true → ptO 2 1 ∈ m) (hC:(ids.any fun i=>ancG (dgH L15c) i eC) = true → ptO 2 2 ∈ m) :
  ∀ x ∈ [eA,eB,eC],(ids.any fun i=>ancG (dgH L15c) i x) = true → ∀ o ∈ ((findC L15c x).getD zChg).Ops,o ∈ m:=by
 intro x hx ha o ho
 simp only [List.mem_cons,List.not_mem_nil,or_false] at hx
 rcases hx with rfl | rfl | rfl
 ·have e:((findC L15c eA).getD zChg).Ops = [ptO 1 1]:=rfl
  rw [e,List.mem_singleton] at ho
  rw [ho];exact hA ha
 ·have e:((findC L15c eB).getD zChg).Ops = [ptO 2 1]:=rfl
  rw [e,List.mem_singleton] at ho
  rw [ho];exact hB ha
 ·have e:((findC L15c eC).getD zChg).Ops = [ptO 2 2]:=rfl
  rw [e,List.mem_singleton] at ho
  rw [ho];exact hC ha
theorem rise_one {l:List ID} {a:ID} (h:Rise cmpI l) (hm:∀ z,z ∈ l ↔ z = a):l = [a]:=by
 cases l with
 | nil=>exact absurd ((hm a).2 rfl) (by simp)
 | cons x t =>
  have hx:x = a:=(hm x).1 (by simp)
  cases t with
  | nil=>rw [hx]
  | cons y t =>
   have hy:y = a:=(hm y).1 (by simp)
   have h1:=(List.pairwise_cons.1 h).1 y (by simp)
   rw [hx,hy,cmpD_self] at h1
   omega
theorem opsA {l:List Opn} (h:OpsP L15c [eA] l):l = [ptO 1 1]:=ops15 h (by unfold SrtL;decide +kernel) (fun o ho=>⟨eA,_,rfl,by decide +kernel,ho⟩) (sub15 (fun _=>by simp) (fun h=>absurd h (by decide +kernel)) (fun h=>absurd h (by decide +kernel)))
theorem opsB {l:List Opn} (h:OpsP L15c [eB] l):l = [ptO 1 1,ptO 2 1]:=ops15 h (by unfold SrtL;decide +kernel) (fun o ho=>by
 simp only [List.mem_cons,List.not_mem_nil,or_false] at ho
 rcases ho with rfl | rfl
 ·exact ⟨eA,_,rfl,by decide +kernel,by simp [ptC]⟩
 ·exact ⟨eB,_,rfl,by decide +kernel,by simp [ptC]⟩) (sub15 (fun _=>by simp) (fun _=>by simp) (fun h=>absurd h (by decide +kernel)))
theorem opsC {l:List Opn} (h:OpsP L15c [eC] l):l = [ptO 1 1,ptO 2 2]:=ops15 h (by unfold SrtL;decide +kernel) (fun o ho=>by
 simp only [List.mem_cons,List.not_mem_nil,or_false] at ho
 rcases ho with rfl | rfl
 ·exact ⟨eA,_,rfl,by decide +kernel,by simp [ptC]⟩
 ·exact ⟨eC,_,rfl,by decide +kernel,by simp [ptC]⟩) (sub15 (fun _=>by simp) (fun h=>absurd h (by decide +kernel)) (fun _=>by simp))
theorem opsBC {l:List Opn} (h:OpsP L15c [eB,eC] l):l = [ptO 1 1,ptO 2 1,ptO 2 2]:=ops15 h (by unfold SrtL;decide +kernel) (fun o ho=>by
 simp only [List.mem_cons,List.not_mem_nil,or_false] at ho
 rcases ho with rfl | rfl | rfl
 ·exact ⟨eA,_,rfl,by decide +kernel,by simp [ptC]⟩
 ·exact ⟨eB,_,rfl,by decide +kernel,by simp [ptC]⟩
 ·exact ⟨eC,_,rfl,by decide +kernel,by simp [ptC]⟩) (sub15 (fun _=>by simp) (fun _=>by simp) (fun _=>by simp))
theorem mg15:mgE L15c eB eC = 0:=by decide +kernel
theorem mg15':mgE L15c eB eA = 0:=by decide +kernel
theorem plan15 {fw:ID} {base:List ID} {ops:List Opn} {safe:Bool} {time:Int} (h:PlanP L15c eB eC fw base ops safe time):fw = zID ∧ base = [eA] ∧ ops = [ptO 1 1,ptO 2 1,ptO 2 2] ∧ safe = true ∧ time = 3:=by
 obtain ⟨h1,h2,h3,h4,⟨bo,h5,h6⟩,h7⟩:=h.mg (by decide +kernel) (by decide +kernel)
 have hb:base = [eA]:=rise_one h3 (fun z=>(h2 z).trans (base15 z))
 subst hb
 have e1:=opsA h5
 have e2:=opsBC h4
 subst e1 e2
 exact ⟨h1,rfl,rfl,by rw [h6];decide +kernel,h7 _ _ rfl rfl⟩
theorem plan15' {fw:ID} {base:List ID} {ops:List Opn} {safe:Bool} {time:Int} (h:PlanP L15c eB eA fw base ops safe time):fw = eB ∧ ops = [ptO 1 1,ptO 2 1]:=by
 obtain ⟨h1,h2,h3,_⟩:=h.fa (by decide +kernel)
 exact ⟨h1,opsB h3⟩
theorem runx3:(runX [] [ptO 1 1,ptO 2 1,ptO 2 2]).length = 3:=by decide +kernel
theorem runx2:(runX [] [ptO 1 1,ptO 2 1]).length = 2:=by decide +kernel
theorem runx2':(runX [] [ptO 1 1,ptO 2 2]).length = 2:=by decide +kernel
theorem RowsS.len {w:World} {A:Option Addr} {n c:Nat} {ops:List Opn} (h:RowsS w A n c ops):n = (runX [] ops).length:=by
 obtain ⟨rs,ys,rfl,_,hx,hp,_⟩:=h
 rw [hx.1,hp.length_eq]
end Go.Proofs.YtjpieiccpbcabaaGreat
namespace Go.Proofs.YtjpieiccpbcabaaGreat
open Go.RowKit
set_option linter.unusedVariables false
set_option linter.unusedSimpArgs false

theorem RowsS.same {w w':World} {A B:Option Addr} {n m c d:Nat} {ops:List Opn} (h:RowsS w A n c ops) (h':RowsS w' B m d ops) :
  ∃ rs ss ys,rs.length = n ∧ ss.length = m ∧ Sl w A (codR.row rs) ∧ Sl w' B (codR.row ss) ∧ RwsIn w rs ys ∧ RwsIn w' ss ys:=by
 obtain ⟨rs,ys,h1,h2,h3,h4,h5⟩:=h
 obtain ⟨ss,zs,k1,k2,k3,k4,k5⟩:=h'
 have e:ys = zs:=(h4.trans k4.symm).eq_of_pairwise (le:=fun a b:RwP=>cmpS a.Node b.Node < 0) (fun a b _ _ hab hba=>by
  have:=cmpS_flip a.Node b.Node
  omega) h5 k5
 subst e
 exact ⟨rs,ss,ys,h1,k1,h2,k2,h3,k3⟩
theorem PlanP.ops_two {L:Hst} (hk:okG (dgH L)) {a b fw:ID} {base:List ID} {ops:List Opn} {s:Bool} {t:Int} (h:PlanP L a b fw base ops s t) {l:List Opn} (hl:OpsP L [a,b] l):ops = l:=by
 by_cases h1:ancG (dgH L) a b = true
 ·obtain ⟨_,_,h3,_⟩:=h.fa h1
  refine h3.eq hl fun x=>?_
  rw [reached_one,reached_two]
  exact ⟨.inl,fun e=>e.elim id (fun e=>anc_trans hk h1 e)⟩
 ·by_cases h2:ancG (dgH L) b a = true
  ·obtain ⟨_,_,h3,_⟩:=h.fb (by simpa using h1) h2
   refine h3.eq hl fun x=>?_
   rw [reached_one,reached_two]
   exact ⟨.inr,fun e=>e.elim (fun e=>anc_trans hk h2 e) id⟩
  ·obtain ⟨_,_,_,h3,_⟩:=h.mg (by simpa using h1) (by simpa using h2)
   exact h3.eq hl fun x=>Iff.rfl
theorem OpsP.swap {L:Hst} {a b:ID} {l:List Opn} (h:OpsP L [a,b] l):OpsP L [b,a] l :=
 ⟨h.srt,fun o=>by
  rw [h.mem]
  constructor
  ·rintro ⟨x,c,e,hr,ho⟩
   exact ⟨x,c,e,reached_two.2 (Or.symm (reached_two.1 hr)),ho⟩
  ·rintro ⟨x,c,e,hr,ho⟩
   exact ⟨x,c,e,reached_two.2 (Or.symm (reached_two.1 hr)),ho⟩⟩
theorem PlanP.swap {L:Hst} (hk:okG (dgH L)) {a b fw fw':ID} {base base':List ID} {ops ops':List Opn} {s s':Bool} {t t':Int} {ca cb:Chg} (ha:findC L a = some ca) (hb:findC L b = some cb)
  (h:PlanP L a b fw base ops s t) (h':PlanP L b a fw' base' ops' s' t'):fw = fw' ∧ s = s' ∧ t = t' ∧ ops = ops':=by
 by_cases h1:ancG (dgH L) a b = true
 ·obtain ⟨e1,_,e3,e4,e5⟩:=h.fa h1
  by_cases h2:ancG (dgH L) b a = true
  ·have hab:=anc_anti hk h1 h2
   subst hab
   obtain ⟨k1,_,k3,k4,k5⟩:=h'.fa h2
   exact ⟨e1.trans k1.symm,e4.trans k4.symm,e5.trans k5.symm,e3.eq k3 fun x=>Iff.rfl⟩
  ·obtain ⟨k1,_,k3,k4,k5⟩:=h'.fb (by simpa using h2) h1
   exact ⟨e1.trans k1.symm,e4.trans k4.symm,e5.trans k5.symm,e3.eq k3 fun x=>Iff.rfl⟩
 ·by_cases h2:ancG (dgH L) b a = true
  ·obtain ⟨e1,_,e3,e4,e5⟩:=h.fb (by simpa using h1) h2
   obtain ⟨k1,_,k3,k4,k5⟩:=h'.fa h2
   exact ⟨e1.trans k1.symm,e4.trans k4.symm,e5.trans k5.symm,e3.eq k3 fun x=>Iff.rfl⟩
  ·obtain ⟨e1,e2,e3,e4,⟨bo,e5,e6⟩,e7⟩:=h.mg (by simpa using h1) (by simpa using h2)
   obtain ⟨k1,k2,k3,k4,⟨bo',k5,k6⟩,k7⟩:=h'.mg (by simpa using h2) (by simpa using h1)
   have eo:ops = ops':=e4.eq k4.swap fun x=>Iff.rfl
   subst eo
   have eb:bo = bo':=e5.eq k5 fun x=>by
    rw [base_reached hk e2,base_reached hk k2]
    exact And.comm
   subst eb
   refine ⟨e1.trans k1.symm,e6.trans k6.symm,?_,rfl⟩
   rw [e7 _ _ ha hb,k7 _ _ hb ha,Int.max_comm]
end Go.Proofs.YtjpieiccpbcabaaGreat
namespace Go.Proofs.YtjpieiccpbcabaaGreat
open Go.RowKit
set_option linter.unusedVariables false
set_option linter.unusedSimpArgs false

def idG (i:Nat):ID:=id2 (i + 1) 0
theorem idG_inj:∀ {i j:Nat},i < 20 → j < 20 → idG i = idG j → i = j:=by
 have h:∀ i,i < 20 → ∀ j,j < 20 → idG i = idG j → i = j:=by decide +kernel
 intro i j hi hj e
 exact h i hi j hj e
theorem idG_ne:∀ i,i < 20 → idG i ≠ zID:=by decide +kernel
theorem idG_rise:∀ i,i < 20 → ∀ j,j < 20 → i < j → cmpI (idG i) (idG j) < 0:=by decide +kernel
structure Gw (L:Hst) (ts:List Int):Prop where
 len:L.length = ts.length
 le:ts.length ≤ 16
 has:∀ i (h:i < ts.length),∃ c,findC L (idG i) = some c ∧ c.Time = ts[i]
 new:∀ i,ts.length ≤ i → i < 20 → findC L (idG i) = none
 tm:∀ t ∈ ts,1 ≤ t ∧ t ≤ 4 * (ts.length:Int)
 rr:∀ p ∈ opsH L,p.At.R ≤ ts.length
 nd:NdH L
theorem Gw.nil:Gw [] []:=⟨rfl,by simp,fun i h=>absurd h (by simp),fun i _ _=>rfl,by simp,by simp [opsH],NdH.nil⟩
theorem Gw.add {L:Hst} {ts:List Int} (h:Gw L ts) (hl:ts.length < 16) {c:Chg} (hr:rightCh c = true) (hR:c.R = (ts.length:Int) + 1) (ht:1 ≤ c.Time ∧ c.Time ≤ 4 * ((ts.length:Int) + 1))
  (hp:∀ p ∈ c.Parents,∃ (j:Nat) (hj:j < ts.length),p = idG j ∧ ts[j] < c.Time):addH L (idG ts.length) c = (0,(idG ts.length,c) :: L) ∧ Gw ((idG ts.length,c) :: L) (ts ++ [c.Time]):=by
 have hno:=h.new ts.length (Nat.le_refl _) (by omega)
 have h6:∀ o ∈ c.Ops,∀ p ∈ opsH L,p.At ≠ o.At:=fun o ho p hp' e=>by
  have h1:=((rightCh_parts hr).2.2.2.1 o ho).2.2
  have h2:=h.rr p hp'
  rw [e,h1,hR] at h2
  omega
 refine ⟨addH_new (by rw [has_dg,hno];rfl) (idG_ne _ (by omega)) hr ?_ ?_ h6,?_⟩
 ·unfold timeOk
  rw [List.all_eq_true]
  intro p hp'
  obtain ⟨j,hj,rfl,hlt⟩:=hp p hp'
  obtain ⟨d,hd,hdt⟩:=h.has j hj
  rw [hd]
  simp only [decide_eq_true_eq]
  rw [hdt]
  exact hlt
 ·intro p hp'
  obtain ⟨j,hj,rfl,_⟩:=hp p hp'
  obtain ⟨d,hd,_⟩:=h.has j hj
  rw [has_dg,hd]
  rfl
 ·have hf:∀ i,findC ((idG ts.length,c) :: L) (idG i) = if idG i = idG ts.length then some c else findC L (idG i):=fun i=>rfl
  refine ⟨by simp [h.len],by simp;omega,fun i hi=>?_,fun i hi hi2=>?_,fun t ht'=>?_,fun p hp'=>?_,h.nd.add hr h6⟩
  ·rw [hf]
   by_cases e:i = ts.length
   ·subst e
    rw [if_pos rfl]
    exact ⟨c,rfl,by simp⟩
   ·have hi':i < ts.length:=by rw [List.length_append,List.length_singleton] at hi;omega
    rw [if_neg (fun h'=>e (idG_inj (by omega) (by omega) h'))]
    obtain ⟨d,hd,hdt⟩:=h.has i hi'
    exact ⟨d,hd,by rw [hdt,List.getElem_append_left hi']⟩
  ·rw [List.length_append,List.length_singleton] at hi
   rw [hf,if_neg (fun h'=>by have:=idG_inj (by omega) (by omega) h';omega)]
   exact h.new i (by omega) hi2
  ·rw [List.length_append,List.length_singleton]
   rcases List.mem_append.1 ht' with h' | h'
   ·have:=h.tm t h'
    omega
   ·rw [List.mem_singleton] at h'
    subst h'
    omega
  ·rw [List.length_append,List.length_singleton]
   have hp2:p ∈ c.Ops ∨ p ∈ opsH L:=by simpa [opsH] using hp'
   rcases hp2 with h' | h'
   ·have h1:=((rightCh_parts hr).2.2.2.1 p h').2.2
    rw [h1,hR]
    omega
   ·have:=h.rr p h'
    omega
end Go.Proofs.YtjpieiccpbcabaaGreat
namespace Go.Proofs.YtjpieiccpbcabaaGreat
open Go.RowKit
set_option linter.unusedVariables false
set_option linter.unusedSimpArgs false

def opG (t:Int) (k:Nat) (nd pr:St):Opn:=⟨1,⟨t,(k:Int) + 1⟩,nd,pr,[110],zID,[]⟩
def chG (ps:List ID) (t:Int) (k:Nat) (ops:List Opn):Chg:=⟨ps,t,(k:Int) + 1,ops,id2 1 0,[]⟩
def ParG (k:Nat) (ps:List ID):Prop:=ps = [] ∨ (∃ a,a < k ∧ ps = [idG a]) ∨ ∃ a b,a < b ∧ b < k ∧ ps = [idG a,idG b]
theorem chG_right {ps:List ID} {t:Int} {k:Nat} {ops:List Opn} (hk:k < 16) (ht:1 ≤ t ∧ t ≤ 100) (hp:ParG k ps)
  (ho:ops = [] ∨ (ps.length < 2 ∧ ∃ nd pr,ops = [opG t k nd pr] ∧ goodOp (opG t k nd pr) = true)):rightCh (chG ps t k ops) = true:=by
 have h1:ps.length ≤ 2 ∧ (ps.all fun p=>decide (p ≠ zID)) = true ∧ riseB cmpI ps = true:=by
  rcases hp with rfl | ⟨a,ha,rfl⟩ | ⟨a,b,hab,hb,rfl⟩
  ·exact ⟨by simp,rfl,rfl⟩
  ·exact ⟨by simp,by simp [idG_ne a (by omega)],rfl⟩
  ·refine ⟨by simp,by simp [idG_ne a (by omega),idG_ne b (by omega)],?_⟩
   have:=idG_rise a (by omega) b (by omega) hab
   unfold riseB
   simp [this,riseB]
 have h2:rightS ⟨t,(k:Int) + 1⟩ = true:=by
  unfold rightS
  simp
  omega
 unfold rightCh chG
 simp only [h1.1,h1.2.1,h1.2.2,h2,Bool.and_eq_true,decide_true,true_and,Bool.true_and]
 rcases ho with rfl | ⟨hl,nd,pr,rfl,hg⟩
 ·simp [riseB]
  decide
 ·have h3:¬ ps.length = 2:=by omega
  unfold opG at hg
  simp [h3,riseB,hg,opG]
  exact idG_ne 0 (by decide)
theorem opG_good {t:Int} {k:Nat} {nd pr:St} (hk:k < 16) (ht:1 ≤ t ∧ t ≤ 100) (hn:rightS nd = true) (hc:cmpS nd ⟨t,(k:Int) + 1⟩ ≤ 0) (hp:rightS pr = true ∨ pr = zSt):goodOp (opG t k nd pr) = true:=by
 have h2:rightS ⟨t,(k:Int) + 1⟩ = true:=by
  unfold rightS
  simp
  omega
 have h4:(rightS pr || fixedS pr) = true:=by
  rcases hp with h | h
  ·simp [h]
  ·subst h;decide
 have h5:nameOk [110] = true:=by decide
 unfold goodOp opG moveOk
 simp [h2,hn,hc,h4,h5]
end Go.Proofs.YtjpieiccpbcabaaGreat
namespace Go.Proofs.YtjpieiccpbcabaaGreat
open Go.RowKit Go.Maps Go.Sort
set_option linter.unusedVariables false
set_option linter.unusedSimpArgs false

theorem ex_bld0_at {ρ:Operand → Value} {o:Oper} {w:World} (ho:o.op = .build 24 #[]):(execOp ρ o).run Tryz.prog w = .ok (.value (encI zID)) w:=by
 obtain ⟨d,op,t,p,f,g⟩:=o
 simp only at ho
 subst ho
 rw [ex_bld0]
structure Al (w0 w:World) (P H:Nat) (S:Nat → Prop) (L:Hst):Prop where
 hs:Hs w H S L
 ia:rdI w P 0 = some eA
 ib:rdI w (P + 1) 0 = some eB
 ic:rdI w (P + 1 + 1) 0 = some eC
 na:¬ S P
 nb:¬ S (P + 1)
 nc:¬ S (P + 1 + 1)
 lo:∀ b,S b → w0.heap.size ≤ b
 fr:Fr noB w0 w
theorem Al.fr0 {w0 w w':World} {P H:Nat} {S:Nat → Prop} {L:Hst} (h:Al w0 w P H S L) (f:Fr noB w w'):Al w0 w' P H S L :=
 ⟨h.hs.fr0 f,rdI_fr h.ia (rdI_lt h.ia) f (by simp [noB]),rdI_fr h.ib (rdI_lt h.ib) f (by simp [noB]),rdI_fr h.ic (rdI_lt h.ic) f (by simp [noB]),h.na,h.nb,h.nc,h.lo,h.fr.step0 f⟩
theorem Al.add {w0 w w':World} {P H:Nat} {S:Nat → Prop} {L L':Hst} (h:Al w0 w P H S L) (h':Hs w' H (grF S w w') L') (f:Fr S w w'):Al w0 w' P H (grF S w w') L' :=
 ⟨h',rdI_fr h.ia (rdI_lt h.ia) f h.na,rdI_fr h.ib (rdI_lt h.ib) f h.nb,rdI_fr h.ic (rdI_lt h.ic) f h.nc,
  fun e=>e.elim h.na (fun e=>by have:=rdI_lt h.ia;omega),fun e=>e.elim h.nb (fun e=>by have:=rdI_lt h.ib;omega),fun e=>e.elim h.nc (fun e=>by have:=rdI_lt h.ic;omega),
  fun b e=>e.elim (h.lo b) (fun e=>Nat.le_trans h.fr.size e.1),h.fr.step f (fun q hq=>.inl (h.lo q hq))⟩
theorem Al.new {w0 w:World} {P H:Nat} {S:Nat → Prop} {L:Hst} (h:Al w0 w P H S L) {b:Nat} (hb:w.heap.size ≤ b):¬ S b:=fun e=>by
 have:=h.hs.lt e
 omega
set_option maxRecDepth 100000 in
set_option maxHeartbeats 8000000 in
theorem l15alive_any (w:World):Calls Tryz.prog 9 #[] w (Gives w (.bool true)):=by
 go_enter Tryz.func9,Tryz.ntmps9
 go_upto_region 2 with (go_at_call 8;refine (mgNew_any _).mono ?_;rintro e w1 ⟨H,rfl,h1,f1⟩)
 have f3:Fr noB w1 (((w1.alloc (ido zID)).alloc (ido zID)).alloc (ido zID)):=(((Fr.refl noB w1).alloc _).alloc _).alloc _
 have s1:bxI (((w1.alloc (ido zID)).alloc (ido zID)).alloc (ido zID)) w1.heap.size = some zID:=by
  rw [bxI_old _ _ _ (by simp;omega),bxI_old _ _ _ (by simp),bxI_new]
 have s2':bxI (((w1.alloc (ido zID)).alloc (ido zID)).alloc (ido zID)) (w1.heap.size + 1) = some zID:=by
  rw [bxI_old _ _ _ (by simp),bxI_new' _ _ _ (by simp)]
 have s3':bxI (((w1.alloc (ido zID)).alloc (ido zID)).alloc (ido zID)) (w1.heap.size + 2) = some zID:=by
  rw [bxI_new' _ _ _ (by simp)]
 obtain ⟨a1,a2,a3⟩:=putB_fr s1 (id2 1 0)
 have s2:=bxI_fr s2' a1 (by simp [oneB])
 have s3'':=bxI_fr s3' a1 (by simp [oneB])
 obtain ⟨b1,b2,b3⟩:=putB_fr s2 (id2 2 0)
 have s3:=bxI_fr s3'' b1 (by simp [oneB])
 obtain ⟨c1,c2,c3⟩:=putB_fr s3 (id2 3 0)
 have q1:=bxI_fr (bxI_fr a3 b1 (by simp [oneB])) c1 (by simp [oneB])
 have q2:=bxI_fr b3 c1 (by simp [oneB])
 have lw:=f1.size
 have hA:Al w (putB (putB (putB (((w1.alloc (ido zID)).alloc (ido zID)).alloc (ido zID)) w1.heap.size (id2 1 0)) (w1.heap.size + 1) (id2 2 0)) (w1.heap.size + 1 + 1) (id2 3 0)) w1.heap.size H (grF (fun _=>False) w w1) []:=by
  have hno:∀ b,w1.heap.size ≤ b → ¬ grF (fun _=>False) w w1 b:=fun b hb e=>by
   rcases e with e | e
   ·exact e
   ·omega
  refine ⟨(((h1.fr0 f3).fr a1 ?_).fr b1 ?_).fr c1 ?_,bxI_rd q1,bxI_rd q2,bxI_rd c3,hno _ (by omega),hno _ (by omega),hno _ (by omega),fun b e=>e.elim False.elim (fun e=>e.1),(((f1.step0 f3).step1 a1 lw).step1 b1 (by omega)).step1 c1 (by omega)⟩
  ·intro b hb e;have:b = _:=e;exact hno b (by omega) hb
  ·intro b hb e;have:b = _:=e;exact hno b (by omega) hb
  ·intro b hb e;have:b = _:=e;exact hno b (by omega) hb
 have HAL:=Lib.hid hA
 clear hA a1 a2 a3 b1 b2 b3 c1 c2 c3 q1 q2 s2' s3' s3'' lw h1 f1 f3
 go_upto_region 3 with fail
 clear s1 s2 s3
 generalize putB (putB (putB (((w1.alloc (ido zID)).alloc (ido zID)).alloc (ido zID)) w1.heap.size (id2 1 0)) (w1.heap.size + 1) (id2 2 0)) (w1.heap.size + 1 + 1) (id2 3 0) = W at HAL ⊢
 generalize grF (fun _=>False) w w1 = S0 at HAL
 generalize w1.heap.size = P at HAL ⊢
 have hk:∀ w' w'':World,Fr noB w' w'' → (rdI w' P 0 = some eA ∧ rdI w' (P + 1) 0 = some eB ∧ rdI w' (P + 1 + 1) 0 = some eC) → (rdI w'' P 0 = some eA ∧ rdI w'' (P + 1) 0 = some eB ∧ rdI w'' (P + 1 + 1) 0 = some eC):=fun w' w'' f h=>⟨rdI_fr h.1 (rdI_lt h.1) f (by simp [noB]),rdI_fr h.2.1 (rdI_lt h.2.1) f (by simp [noB]),rdI_fr h.2.2 (rdI_lt h.2.2) f (by simp [noB])⟩
 have fd:Fr noB W W.drew:=(Fr.refl noB W).drew
 have A0:=HAL.out.fr0 fd
 refine wp_region_M 26 27 [⟨32768,2,0⟩,⟨65536,32768,1⟩,⟨131072,65536,2⟩,⟨262144,131074,4⟩,⟨524288,131076,4⟩,⟨1048576,131072,4⟩,⟨2097152,1966080,60⟩,⟨4194304,2228224,68⟩,⟨8388608,4325376,132⟩,⟨16777216,8388608,320⟩,⟨33554432,16777218,512⟩,⟨67108864,16777224,512⟩,⟨134217728,16777220,512⟩,⟨268435456,150994944,4608⟩,⟨536870912,285212672,8704⟩,⟨1073741824,654311424,19968⟩,⟨2147483648,1090519040,33280⟩,⟨4294967296,2164260864,66048⟩,⟨8589934592,4294967296,163840⟩,⟨17179869184,8589934594,262144⟩,⟨34359738368,8589934608,262144⟩,⟨68719476736,8589934596,262144⟩,⟨137438953472,77309411328,2359296⟩,⟨274877906944,146028888064,4456448⟩,⟨549755813888,335007449088,10223616⟩,⟨1099511627776,558345748480,17039360⟩,⟨2199023255552,1108101562368,33816576⟩] [(true,0),(true,1),(true,2),(true,3),(true,4),(false,5),(false,6),(true,7),(true,8),(true,9),(true,10),(true,11),(true,12),(false,13),(false,14),(false,15),(true,16),(true,17),(true,18),(true,19),(true,20),(true,21),(false,22),(false,23),(false,24),(true,25)] (fun w'=>rdI w' P 0 = some eA ∧ rdI w' (P + 1) 0 = some eB ∧ rdI w' (P + 1 + 1) 0 = some eC) (by kernel_rfl) rfl (by kernel_rfl) (by kernel_rfl) (by kernel_rfl) ⟨A0.ia,A0.ib,A0.ic⟩ (fun hA hF=>?_)
 clear HAL fd
 iterate 5
  refine wpAnyS_take (v:=?_) hA rfl (fun _ _ _ h=>h) (Or.inl ⟨by rfl,?_⟩) hF (fun hA=>?_)
  rotate_left
  ·intro wS hSw;(try dsimp only at hSw);obtain ⟨s1,s2,s3⟩:=hSw;first | (apply Eq.trans;apply ex_ld_id;exact rfl;exact rfl;assumption;with_reducible rfl) | (apply Eq.trans;apply ex_bld0_at;exact rfl;with_reducible rfl) | (go_simp;try with_reducible rfl)
  try simp only [List.getElem_toArray,List.getElem_cons_zero,List.getElem_cons_succ,Act.put,List.setIfInBounds_toArray,List.set_cons_zero,List.set_cons_succ]
 refine wpAnyS_one hA rfl (fun K' hK=>?_)
 rw [if_pos (by rfl)]
 go_simp
 go_at_call 31
 refine (l15put_any _ none 0 0 1 1).mono ?_
 rintro e u1 ⟨g1,rfl,l1,l1',t1,v1⟩
 replace hF:=hk _ _ v1 hF
 refine hK.out _ _ hF (fun hA=>?_)
 clear hK K'
 as_aux_lemma =>
 have A1:=A0.fr0 v1
 refine wpAnyS_one hA rfl (fun K' hK=>?_)
 rw [if_pos (by rfl)]
 go_simp
 go_at_call 10
 refine (mgAdd_any A1.hs (by decide) eA _ _ (ptC [] 1 1) (PutTo15.q t1 (A0.new l1) rfl (Sl.nil _ _) (by simp) (fun h=>absurd rfl h)) (by simp [ptC])).mono ?_
 rintro e u2 ⟨rfl,h2,v2⟩
 rw [ad15a] at h2 ⊢
 have A2:=A1.add h2 v2
 clear A0 A1 l1 l1' t1 v1 h2 v2
 generalize grF S0 u1 u2 = S2 at A2
 replace hF:=(And.intro A2.ia (And.intro A2.ib A2.ic))
 refine hK.out _ _ hF (fun hA=>?_)
 clear hK K'
 as_aux_lemma =>
 iterate 6
  refine wpAnyS_take (v:=?_) hA rfl (fun _ _ _ h=>h) (Or.inl ⟨by rfl,?_⟩) hF (fun hA=>?_)
  rotate_left
  ·intro wS hSw;(try dsimp only at hSw);obtain ⟨s1,s2,s3⟩:=hSw;first | (apply Eq.trans;apply ex_ld_id;exact rfl;exact rfl;assumption;with_reducible rfl) | (apply Eq.trans;apply ex_bld0_at;exact rfl;with_reducible rfl) | (go_simp;try with_reducible rfl)
  try simp only [List.getElem_toArray,List.getElem_cons_zero,List.getElem_cons_succ,Act.put,List.setIfInBounds_toArray,List.set_cons_zero,List.set_cons_succ]
 refine wpAnyS_one hA rfl (fun K' hK=>?_)
 rw [if_pos (by rfl)]
 refine step_runP _ _ (ex_bs1_at (x:=eA) rfl rfl) ?_
 have fn:Fr noB u2 (u2.alloc (rowo [eA])):=(Fr.refl noB u2).alloc _
 have sn:=sl_new u2 [eA]
 have A3:=A2.fr0 fn
 have hgn:¬ S2 u2.heap.size:=A2.new (Nat.le_refl _)
 replace hF:=hk _ _ fn hF
 refine hK.out _ _ hF (fun hA=>?_)
 clear hK K'
 as_aux_lemma =>
 refine wpAnyS_one hA rfl (fun K' hK=>?_)
 rw [if_pos (by rfl)]
 go_simp
 go_at_call 31
 refine (l15put_any _ _ 1 1 2 1).mono ?_
 rintro e u4 ⟨g1,rfl,l1,l1',t1,v1⟩
 replace hF:=hk _ _ v1 hF
 refine hK.out _ _ hF (fun hA=>?_)
 clear hK K'
 as_aux_lemma =>
 have A4:=A3.fr0 v1
 refine wpAnyS_one hA rfl (fun K' hK=>?_)
 rw [if_pos (by rfl)]
 go_simp
 go_at_call 10
 refine (mgAdd_any A4.hs (by decide) eB _ _ (ptC [eA] 2 1) (PutTo15.q t1 (A3.new l1) rfl (sn.fr0 v1) (by simp) (fun _ g hg=>by injection hg with hg;subst hg;exact hgn)) (by simp [ptC])).mono ?_
 rintro e u5 ⟨rfl,h2,v2⟩
 rw [ad15b] at h2 ⊢
 have A5:=A4.add h2 v2
 clear A2 A3 A4 l1 l1' t1 v1 h2 v2 fn sn hgn
 generalize grF S2 u4 u5 = S5 at A5
 replace hF:=(And.intro A5.ia (And.intro A5.ib A5.ic))
 refine hK.out _ _ hF (fun hA=>?_)
 clear hK K'
 as_aux_lemma =>
 iterate 6
  refine wpAnyS_take (v:=?_) hA rfl (fun _ _ _ h=>h) (Or.inl ⟨by rfl,?_⟩) hF (fun hA=>?_)
  rotate_left
  ·intro wS hSw;(try dsimp only at hSw);obtain ⟨s1,s2,s3⟩:=hSw;first | (apply Eq.trans;apply ex_ld_id;exact rfl;exact rfl;assumption;with_reducible rfl) | (apply Eq.trans;apply ex_bld0_at;exact rfl;with_reducible rfl) | (go_simp;try with_reducible rfl)
  try simp only [List.getElem_toArray,List.getElem_cons_zero,List.getElem_cons_succ,Act.put,List.setIfInBounds_toArray,List.set_cons_zero,List.set_cons_succ]
 refine wpAnyS_one hA rfl (fun K' hK=>?_)
 rw [if_pos (by rfl)]
 refine step_runP _ _ (ex_bs1_at (x:=eA) rfl rfl) ?_
 have fn:Fr noB u5 (u5.alloc (rowo [eA])):=(Fr.refl noB u5).alloc _
 have sn:=sl_new u5 [eA]
 have A3:=A5.fr0 fn
 have hgn:¬ S5 u5.heap.size:=A5.new (Nat.le_refl _)
 replace hF:=hk _ _ fn hF
 refine hK.out _ _ hF (fun hA=>?_)
 clear hK K'
 as_aux_lemma =>
 refine wpAnyS_one hA rfl (fun K' hK=>?_)
 rw [if_pos (by rfl)]
 go_simp
 go_at_call 31
 refine (l15put_any _ _ 1 1 2 2).mono ?_
 rintro e u4 ⟨g1,rfl,l1,l1',t1,v1⟩
 replace hF:=hk _ _ v1 hF
 refine hK.out _ _ hF (fun hA=>?_)
 clear hK K'
 as_aux_lemma =>
 have A4:=A3.fr0 v1
 refine wpAnyS_one hA rfl (fun K' hK=>?_)
 rw [if_pos (by rfl)]
 go_simp
 go_at_call 10
 refine (mgAdd_any A4.hs (by decide) eC _ _ (ptC [eA] 2 2) (PutTo15.q t1 (A3.new l1) rfl (sn.fr0 v1) (by simp) (fun _ g hg=>by injection hg with hg;subst hg;exact hgn)) (by simp [ptC])).mono ?_
 rintro e u6 ⟨rfl,h2,v2⟩
 rw [ad15c] at h2 ⊢
 have A6:=A4.add h2 v2
 clear A5 A3 A4 l1 l1' t1 v1 h2 v2 fn sn hgn
 generalize grF S5 u4 u6 = S6 at A6
 replace hF:=(And.intro A6.ia (And.intro A6.ib A6.ic))
 refine hK.out _ _ hF (fun hA=>?_)
 clear hK K'
 as_aux_lemma =>
 refine wpAnyS_take (v:=?_) hA rfl (fun _ _ _ h=>h) (Or.inl ⟨by rfl,?_⟩) hF (fun hA=>?_)
 rotate_left
 ·intro wS hSw;(try dsimp only at hSw);obtain ⟨s1,s2,s3⟩:=hSw;first | (apply Eq.trans;apply ex_ld_id;exact rfl;exact rfl;assumption;with_reducible rfl) | (apply Eq.trans;apply ex_bld0_at;exact rfl;with_reducible rfl) | (go_simp;try with_reducible rfl)
 try simp only [List.getElem_toArray,List.getElem_cons_zero,List.getElem_cons_succ,Act.put,List.setIfInBounds_toArray,List.set_cons_zero,List.set_cons_succ]
 refine wpAnyS_end hA rfl ?_
 simp only [List.drop_succ_cons,List.drop_zero]
 clear hF hk
 have qa6:=A6.ia
 have qb6:=A6.ib
 have qc6:=A6.ic
 have HA6:=Lib.hid A6
 clear A6
 go_upto_region 6 with (go_at_call 22;refine (mgMerge_any HA6.out.hs nd15 (by decide) eB eC).mono ?_;rintro e u7 ⟨r1,rfl,v7,_,hp⟩;have hp1:=Lib.hid (hp mg15);rw [mg15];clear hp)
 have fn:Fr noB u7 (u7.alloc (codPl.o r1)):=(Fr.refl noB u7).alloc _
 have bN1:=Cod.bxd_new (C:=codPl) u7 r1
 have A8:=(HA6.out.fr0 v7).fr0 fn
 obtain ⟨base,ops,pl1,hbn,hbs,_,_,hrs⟩:=hp1.out.plan
 obtain ⟨e1,e2,e3,e4,e5⟩:=plan15 pl1
 subst e2 e3
 have hrl:=hrs.len
 rw [runx3] at hrl
 obtain ⟨rF,rBA,rbn,rbc,rRA,rrn,rrc,rS,rT⟩:=r1
 simp only at e1 e4 e5 hbn hrl hbs
 subst e1 e4 e5 hrl
 have hbn':rbn = 1:=hbn.symm
 subst hbn'
 obtain ⟨gb,ob,rfl⟩:=Sl.adG hbs (by simp)
 have ib:=(hbs.fr0 fn).id 0 (by simp)
 simp only [Nat.zero_mul,Nat.add_zero,List.getElem_cons_zero] at ib
 have HA8:=Lib.hid A8
 have qa8:=A8.ia
 have qb8:=A8.ib
 clear A8 HA6 hp1 pl1 hrs hbs hbn v7 fn qa6 qb6 qc6
 generalize u7.alloc (codPl.o ⟨zID,some ⟨gb,ob,none⟩,1,rbc,rRA,3,rrc,true,3⟩) = u8 at bN1 ib HA8 qa8 qb8 ⊢
 generalize u7.heap.size = N1 at bN1 ⊢
 have HB1:=Lib.hid bN1
 clear bN1
 go_upto_region 7 with (go_at_call 22;refine (mgMerge_any HA8.out.hs nd15 (by decide) eB eA).mono ?_;rintro e u9 ⟨r2,rfl,v9,_,hp⟩;have hp2:=Lib.hid (hp mg15');rw [mg15'];clear hp)
 have fn:Fr noB u9 (u9.alloc (codPl.o r2)):=(Fr.refl noB u9).alloc _
 have bN2:=Cod.bxd_new (C:=codPl) u9 r2
 have f89:=v9.step0 fn
 have A10:=HA8.out.fr0 f89
 have bN1:=Cod.bxd_fr0 HB1.out f89
 have ib2:=rdI_fr ib (rdI_lt ib) f89 (by simp [noB])
 obtain ⟨base2,ops2,pl2,_,_,_,_,hrs⟩:=hp2.out.plan
 obtain ⟨e1,e3⟩:=plan15' pl2
 subst e3
 have hrl:=hrs.len
 rw [runx2] at hrl
 have HP2:=Lib.hid (And.intro e1 hrl)
 have HA10:=Lib.hid A10
 have HB1':=Lib.hid bN1
 have qb10:=A10.ib
 clear A10 HA8 HB1 hp2 pl2 hrs hrl e1 v9 fn f89 qa8 qb8 ib bN1
 generalize u9.alloc (codPl.o r2) = u10 at bN2 ib2 HA10 HB1' qb10 ⊢
 generalize u9.heap.size = N2 at bN2 ⊢
 have HB2:=Lib.hid bN2
 clear bN2
 go_upto_region 8 with (go_at_call 14;refine (mgCommit_any HA10.out.hs eB).mono ?_;rintro e u11 ⟨r3,rs3,rfl,hc3,v11⟩;rw [show (findC L15c eB).isSome = true from rfl])
 have fn:Fr noB u11 (u11.alloc (codC.o r3)):=(Fr.refl noB u11).alloc _
 have bN3:=Cod.bxd_new (C:=codC) u11 r3
 have f11:=v11.step0 fn
 have A12:=HA10.out.fr0 f11
 have bN1:=Cod.bxd_fr0 HB1'.out f11
 have bN2:=Cod.bxd_fr0 HB2.out f11
 have ib3:=rdI_fr ib2 (rdI_lt ib2) f11 (by simp [noB])
 have t3:r3.Time = 2:=hc3.inn.time.symm
 have c3:=(cgAt (Cod.bxd_rd bN3)).time
 rw [t3] at c3
 have d1:=plAt (Cod.bxd_rd bN1)
 have d2:=plAt (Cod.bxd_rd bN2)
 have d2f:=d2.fw
 have d2r:=d2.rows
 rw [HP2.out.1] at d2f
 rw [HP2.out.2] at d2r
 clear HA10 HB1' HB2 fn v11 hc3 f11 ib2 qb10 t3 bN1 bN2 bN3 d2
 have d1b:=d1.base
 have d1r:=d1.rows
 have d1s:=d1.safe
 have d1t:=d1.time
 have d1f:=d1.fw
 simp only at d1b d1r d1s d1t d1f
 clear d1
 generalize u11.alloc (codC.o r3) = u12 at A12 ib3 c3 d1b d1r d1s d1t d1f d2f d2r ⊢
 generalize u11.heap.size = N3 at c3 ⊢
 have hk:∀ w' w'':World,Fr noB w' w'' → (rdI w' P 0 = some eA ∧ rdI w' (P + 1) 0 = some eB ∧ rdI w' (P + 1 + 1) 0 = some eC ∧ w'.cell? ⟨N1,32,none⟩ = some (.slice (some ⟨gb,ob,none⟩) 1 rbc) ∧ rdI w' gb ob = some eA ∧ w'.cell? ⟨N1,33,none⟩ = some (.slice rRA 3 rrc) ∧ w'.cell? ⟨N1,34,none⟩ = some (.bool true) ∧ w'.cell? ⟨N1,35,none⟩ = some (.int .i64 3) ∧ rdI w' N1 0 = some zID ∧ rdI w' N2 0 = some eB ∧ w'.cell? ⟨N2,33,none⟩ = some (.slice r2.RA 2 r2.rc) ∧ w'.cell? ⟨N3,1,none⟩ = some (.int .i64 2)) → (rdI w'' P 0 = some eA ∧ rdI w'' (P + 1) 0 = some eB ∧ rdI w'' (P + 1 + 1) 0 = some eC ∧ w''.cell? ⟨N1,32,none⟩ = some (.slice (some ⟨gb,ob,none⟩) 1 rbc) ∧ rdI w'' gb ob = some eA ∧ w''.cell? ⟨N1,33,none⟩ = some (.slice rRA 3 rrc) ∧ w''.cell? ⟨N1,34,none⟩ = some (.bool true) ∧ w''.cell? ⟨N1,35,none⟩ = some (.int .i64 3) ∧ rdI w'' N1 0 = some zID ∧ rdI w'' N2 0 = some eB ∧ w''.cell? ⟨N2,33,none⟩ = some (.slice r2.RA 2 r2.rc) ∧ w''.cell? ⟨N3,1,none⟩ = some (.int .i64 2)):=fun w' w'' f h=>⟨rdI_fr h.1 (rdI_lt h.1) f (by simp [noB]),rdI_fr h.2.1 (rdI_lt h.2.1) f (by simp [noB]),rdI_fr h.2.2.1 (rdI_lt h.2.2.1) f (by simp [noB]),cell_fr0 h.2.2.2.1 f,rdI_fr h.2.2.2.2.1 (rdI_lt h.2.2.2.2.1) f (by simp [noB]),cell_fr0 h.2.2.2.2.2.1 f,cell_fr0 h.2.2.2.2.2.2.1 f,cell_fr0 h.2.2.2.2.2.2.2.1 f,rdI_fr h.2.2.2.2.2.2.2.2.1 (rdI_lt h.2.2.2.2.2.2.2.2.1) f (by simp [noB]),rdI_fr h.2.2.2.2.2.2.2.2.2.1 (rdI_lt h.2.2.2.2.2.2.2.2.2.1) f (by simp [noB]),cell_fr0 h.2.2.2.2.2.2.2.2.2.2.1 f,cell_fr0 h.2.2.2.2.2.2.2.2.2.2.2 f⟩
 have fd:Fr noB u12 u12.drew:=(Fr.refl noB u12).drew
 have hF0:=hk _ _ fd ⟨A12.ia,A12.ib,A12.ic,d1b,ib3,d1r,d1s,d1t,d1f,d2f,d2r,c3⟩
 have B0:=A12.fr0 fd
 have p1:(0:Int) < 1:=by decide
 clear A12 d1b ib3 d1r d1s d1t d1f d2f d2r c3 fd
 try simp only [List.append_eq,List.cons_append,List.nil_append]
 refine wp_region_M 83 84 [⟨4611686018427387904,64,0⟩,⟨9223372036854775808,4611686018427387904,1⟩,⟨18446744073709551616,9223372036854775808,2⟩,⟨36893488147419103232,18446744073709551648,4⟩,⟨73786976294838206464,55340232221128654848,12⟩,⟨147573952589676412928,92233720368547758080,20⟩,⟨295147905179352825856,166020696663385964544,36⟩,⟨590295810358705651712,313594649253062377472,68⟩,⟨1180591620717411303424,590295810358705651712,132⟩,⟨2361183241434822606848,1180591620717411303456,256⟩,⟨4722366482869645213696,3541774862152233910272,768⟩,⟨9444732965739290427392,5902958103587056517120,1280⟩,⟨18889465931478580854784,10625324586456701730816,2304⟩,⟨37778931862957161709568,1180591620717411303428,256⟩,⟨75557863725914323419136,57848989415153153867776,12544⟩,⟨151115727451828646838272,76738455346631734722560,16640⟩,⟨302231454903657293676544,151115727451828646838272,33024⟩,⟨604462909807314587353088,302231454903657293676576,65536⟩,⟨1208925819614629174706176,906694364710971881029632,196608⟩,⟨2417851639229258349412352,1511157274518286468382720,327680⟩,⟨4835703278458516698824704,2720083094132915643088896,589824⟩,⟨9671406556917033397649408,5137934733362173992501248,1114112⟩,⟨19342813113834066795298816,9671406556917033397649408,2162688⟩,⟨38685626227668133590597632,19342813113834066795298848,4194304⟩,⟨77371252455336267181195264,58028439341502200385896448,12582912⟩,⟨154742504910672534362390528,96714065569170333976494080,20971520⟩,⟨309485009821345068724781056,154742504910672534362390528,37748736⟩,⟨618970019642690137449562112,309485009821345068724781088,67108864⟩,⟨1237940039285380274899124224,928455029464035206174343168,201326592⟩,⟨2475880078570760549798248448,1547425049106725343623905280,335544320⟩,⟨4951760157141521099596496896,2785365088392105618523029504,603979776⟩,⟨9903520314283042199192993792,4951760157141521099596496896,1140850688⟩,⟨19807040628566084398385987584,9903520314283042199192993824,2147483648⟩,⟨39614081257132168796771975168,29710560942849126597578981376,6442450944⟩,⟨79228162514264337593543950336,9903520314283042199192993792,2147483648⟩,⟨158456325028528675187087900672,128745764085679548589508919296,27917287424⟩,⟨316912650057057350374175801344,168359845342811717386280894464,36507222016⟩,⟨633825300114114700748351602688,316912650057057350374175801344,70866960384⟩,⟨1267650600228229401496703205376,633825300114114700748351602944,137438953472⟩,⟨2535301200456458802993406410752,1901475900342344102245054808064,412316860416⟩,⟨5070602400912917605986812821504,3169126500570573503741758013440,687194767360⟩,⟨10141204801825835211973625643008,5070602400912917605986812821504,1236950581248⟩,⟨20282409603651670423947251286016,10141204801825835211973625643136,2199023255552⟩,⟨40564819207303340847894502572032,30423614405477505635920876929024,6597069766656⟩,⟨81129638414606681695789005144064,10141204801825835211973625643016,2199023255552⟩,⟨162259276829213363391578010288128,131835662423735857755657133359104,28587302322176⟩,⟨324518553658426726783156020576256,172400481631039198603551635931136,37383395344384⟩,⟨649037107316853453566312041152512,324518553658426726783156020576256,72567767433216⟩,⟨1298074214633706907132624082305024,649037107316853453566312041152640,140737488355328⟩,⟨2596148429267413814265248164610048,1947111321950560360698936123457536,422212465065984⟩,⟨5192296858534827628530496329220096,3245185536584267267831560205762560,703687441776640⟩,⟨10384593717069655257060992658440192,5841333965851681082096808370372608,1266637395197952⟩,⟨20769187434139310514121985316880384,11033630824386508710627304699592704,2392537302040576⟩,⟨41538374868278621028243970633760768,20769187434139310514121985316880384,4644337115725824⟩,⟨83076749736557242056487941267521536,41538374868278621028243970633761792,9007199254740992⟩,⟨166153499473114484112975882535043072,124615124604835863084731911901282304,27021597764222976⟩,⟨332306998946228968225951765070086144,166153499473114484112975882535043072,45035996273704960⟩,⟨664613997892457936451903530140172288,332306998946228968225951765070086656,72057594037927936⟩,⟨1329227995784915872903807060280344576,996920996838686904677855295210258432,216172782113783808⟩,⟨2658455991569831745807614120560689152,1661534994731144841129758825350430720,360287970189639680⟩,⟨5316911983139663491615228241121378304,2990762990516060714033565885630775296,648518346341351424⟩,⟨10633823966279326983230456482242756608,5316911983139663491615228241121378304,1224979098644774912⟩,⟨21267647932558653966460912964485513216,10633823966279326983230456482242756610,2305843009213693952⟩,⟨42535295865117307932921825928971026432,10633823966279326983230456482242756616,2305843009213693952⟩,⟨85070591730234615865843651857942052864,53169119831396634916152282411213783040,11529215046068469760⟩,⟨170141183460469231731687303715884105728,116972063629072596815535021304670322688,25364273101350633472⟩,⟨340282366920938463463374607431768211456,180775007426748558714917760198126862336,39199331156632797184⟩,⟨680564733841876926926749214863536422912,350916190887217790446605063914010968064,76092819304051900416⟩,⟨1361129467683753853853498429727072845824,691198557808156253909979671345779179520,149879795598890106880⟩,⟨2722258935367507707706996859454145691648,1361129467683753853853498429727072845824,332041393326771929088⟩,⟨5444517870735015415413993718908291383296,2722258935367507707706996859454145691650,590295810358705651712⟩,⟨10889035741470030830827987437816582766592,2722258935367507707706996859454145691664,590295810358705651712⟩,⟨21778071482940061661655974875633165533184,13611294676837538538534984297270728458240,2951479051793528258560⟩,⟨43556142965880123323311949751266331066368,29944848289042584784776965453995602608128,6493253913945762168832⟩,⟨87112285931760246646623899502532662132736,46278401901247631031018946610720476758016,10035028776097996079104⟩,⟨174224571863520493293247799005065324265472,89834544867127754354330896361986807824384,19479761741837286506496⟩,⟨348449143727040986586495598010130648530944,176946830798888001000954795864519469957120,38369227673315867361280⟩,⟨696898287454081973172991196020261297061888,348449143727040986586495598010130648530944,85002596691653613846528⟩,⟨1393796574908163946345982392040522594123776,696898287454081973172991196020261297061890,151115727451828646838272⟩,⟨2787593149816327892691964784081045188247552,2090694862362245919518973588060783891185664,453347182355485940514816⟩,⟨5575186299632655785383929568162090376495104,3484491437270409865864955980101306485309440,755578637259143234191360⟩,⟨11150372599265311570767859136324180752990208,6272084587086737758556920764182351673556992,1360041547066457821544448⟩,⟨22300745198530623141535718272648361505980416,11847270886719393543940850332344442050052096,2568967366681086996250624⟩,⟨1,22300745198530623141535718272648361505980416,9671406556917033397649407⟩] [(true,0),(true,1),(true,2),(true,3),(true,4),(true,5),(true,6),(true,7),(true,8),(true,9),(true,10),(true,11),(true,12),(true,13),(true,14),(true,15),(true,16),(true,17),(true,18),(true,19),(true,20),(true,21),(true,22),(true,23),(true,24),(true,25),(true,26),(true,27),(true,28),(true,29),(true,30),(true,31),(true,32),(true,33),(true,34),(true,35),(true,36),(true,37),(true,38),(true,39),(true,40),(true,41),(true,42),(true,43),(true,44),(true,45),(true,46),(true,47),(true,48),(true,49),(true,50),(true,51),(true,52),(true,53),(true,54),(true,55),(true,56),(true,57),(true,58),(true,59),(true,60),(true,61),(true,62),(true,63),(false,64),(false,65),(true,66),(true,67),(true,68),(true,69),(true,70),(true,71),(false,72),(false,73),(true,74),(true,75),(true,76),(true,77),(true,78),(false,79),(false,80),(true,81),(true,82)] (fun w'=>rdI w' P 0 = some eA ∧ rdI w' (P + 1) 0 = some eB ∧ rdI w' (P + 1 + 1) 0 = some eC ∧ w'.cell? ⟨N1,32,none⟩ = some (.slice (some ⟨gb,ob,none⟩) 1 rbc) ∧ rdI w' gb ob = some eA ∧ w'.cell? ⟨N1,33,none⟩ = some (.slice rRA 3 rrc) ∧ w'.cell? ⟨N1,34,none⟩ = some (.bool true) ∧ w'.cell? ⟨N1,35,none⟩ = some (.int .i64 3) ∧ rdI w' N1 0 = some zID ∧ rdI w' N2 0 = some eB ∧ w'.cell? ⟨N2,33,none⟩ = some (.slice r2.RA 2 r2.rc) ∧ w'.cell? ⟨N3,1,none⟩ = some (.int .i64 2)) (by kernel_rfl) rfl (by kernel_rfl) (by kernel_rfl) (by kernel_rfl) hF0 (fun hA hF=>?_)
 iterate 64
  refine wpAnyS_take (v:=?_) hA rfl (fun _ _ _ h=>h) (Or.inl ⟨by rfl,?_⟩) hF (fun hA=>?_)
  rotate_left
  ·intro wS hSw;(try dsimp only at hSw);obtain ⟨s1,s2,s3,s4,s5,s6,s7,s8,s9,s10,s11,s12⟩:=hSw;first | (apply Eq.trans;apply ex_ld_id;exact rfl;exact rfl;assumption;with_reducible rfl) | (apply Eq.trans;apply ex_bld0_at;exact rfl;with_reducible rfl) | (go_simp;try with_reducible rfl)
  try simp only [List.getElem_toArray,List.getElem_cons_zero,List.getElem_cons_succ,Act.put,List.setIfInBounds_toArray,List.set_cons_zero,List.set_cons_succ]
 refine wpAnyS_one hA rfl (fun K' hK=>?_)
 rw [if_pos (by rfl)]
 refine step_runP _ _ (ex_bs1_at (x:=eB) rfl rfl) ?_
 have fn:Fr noB u12.drew (u12.drew.alloc (rowo [eB])):=(Fr.refl noB _).alloc _
 have sn:=sl_new u12.drew [eB]
 have B1:=B0.fr0 fn
 replace hF:=hk _ _ fn hF
 refine hK.out _ _ hF (fun hA=>?_)
 clear hK K'
 as_aux_lemma =>
 refine wpAnyS_one hA rfl (fun K' hK=>?_)
 rw [if_pos (by rfl)]
 go_simp
 go_at_call 17
 refine (mgOps_any B1.hs nd15 (by decide) _ _ 1 [eB] rfl sn (by simp)).mono ?_
 rintro e u13 ⟨Ao,co,rso,lo,rfl,po,bo,so,ao,f13⟩
 have hl2:rso.length = 2:=by rw [ao.1,opsB po];rfl
 rw [hl2]
 replace hF:=hk _ _ f13 hF
 refine hK.out _ _ hF (fun hA=>?_)
 clear hK K'
 as_aux_lemma =>
 have B2:=B1.fr0 f13
 clear B0 B1 fn sn hl2 po bo so ao f13
 iterate 6
  refine wpAnyS_take (v:=?_) hA rfl (fun _ _ _ h=>h) (Or.inl ⟨by rfl,?_⟩) hF (fun hA=>?_)
  rotate_left
  ·intro wS hSw;(try dsimp only at hSw);obtain ⟨s1,s2,s3,s4,s5,s6,s7,s8,s9,s10,s11,s12⟩:=hSw;first | (apply Eq.trans;apply ex_ld_id;exact rfl;exact rfl;assumption;with_reducible rfl) | (apply Eq.trans;apply ex_bld0_at;exact rfl;with_reducible rfl) | (go_simp;try with_reducible rfl)
  try simp only [List.getElem_toArray,List.getElem_cons_zero,List.getElem_cons_succ,Act.put,List.setIfInBounds_toArray,List.set_cons_zero,List.set_cons_succ]
 refine wpAnyS_one hA rfl (fun K' hK=>?_)
 rw [if_pos (by rfl)]
 refine step_runP _ _ (ex_bs1_at (x:=eC) rfl rfl) ?_
 have fn:Fr noB u13 (u13.alloc (rowo [eC])):=(Fr.refl noB _).alloc _
 have sn:=sl_new u13 [eC]
 have B3:=B2.fr0 fn
 replace hF:=hk _ _ fn hF
 refine hK.out _ _ hF (fun hA=>?_)
 clear hK K'
 as_aux_lemma =>
 refine wpAnyS_one hA rfl (fun K' hK=>?_)
 rw [if_pos (by rfl)]
 go_simp
 go_at_call 20
 refine (mgRows_any B3.hs nd15 (by decide) _ _ 1 [eC] rfl sn (by simp)).mono ?_
 rintro e u14 hr14
 obtain ⟨Ar,nr,cr,lr,rfl,pr,br,rr,f14⟩:=hr14.u
 have hl2:nr = 2:=by rw [rr.s.len,opsC pr];exact runx2'
 subst hl2
 replace hF:=hk _ _ f14 hF
 refine hK.out _ _ hF (fun hA=>?_)
 clear hK K'
 as_aux_lemma =>
 have B4:=B3.fr0 f14
 clear B2 B3 fn sn pr br rr f14 hr14
 iterate 5
  refine wpAnyS_take (v:=?_) hA rfl (fun _ _ _ h=>h) (Or.inl ⟨by rfl,?_⟩) hF (fun hA=>?_)
  rotate_left
  ·intro wS hSw;(try dsimp only at hSw);obtain ⟨s1,s2,s3,s4,s5,s6,s7,s8,s9,s10,s11,s12⟩:=hSw;first | (apply Eq.trans;apply ex_ld_id;exact rfl;exact rfl;assumption;with_reducible rfl) | (apply Eq.trans;apply ex_bld0_at;exact rfl;with_reducible rfl) | (go_simp;try with_reducible rfl)
  try simp only [List.getElem_toArray,List.getElem_cons_zero,List.getElem_cons_succ,Act.put,List.setIfInBounds_toArray,List.set_cons_zero,List.set_cons_succ]
 refine wpAnyS_one hA rfl (fun K' hK=>?_)
 rw [if_pos (by rfl)]
 go_simp
 go_at_call 12
 refine (mgDag_any B4.hs).mono ?_
 rintro e u15 ⟨D,Fd,rfl,hd,f15⟩
 replace hF:=hk _ _ f15 hF
 refine hK.out _ _ hF (fun hA=>?_)
 clear hK K'
 as_aux_lemma =>
 have B5:=B4.fr0 f15
 clear B4 f15
 refine wpAnyS_one hA rfl (fun K' hK=>?_)
 rw [if_pos (by rfl)]
 go_simp
 go_at_call 13
 refine (len_any _ D Fd (dgH L15c) hd).mono ?_
 rintro e u16 ⟨rfl,f16⟩
 rw [show (dgH L15c).length = 3 from rfl]
 replace hF:=hk _ _ f16 hF
 refine hK.out _ _ hF (fun hA=>?_)
 clear hK K'
 as_aux_lemma =>
 have B6:=B5.fr0 f16
 clear B5 f16 hd
 iterate 2
  refine wpAnyS_take (v:=?_) hA rfl (fun _ _ _ h=>h) (Or.inl ⟨by rfl,?_⟩) hF (fun hA=>?_)
  rotate_left
  ·intro wS hSw;(try dsimp only at hSw);obtain ⟨s1,s2,s3,s4,s5,s6,s7,s8,s9,s10,s11,s12⟩:=hSw;first | (apply Eq.trans;apply ex_ld_id;exact rfl;exact rfl;assumption;with_reducible rfl) | (apply Eq.trans;apply ex_bld0_at;exact rfl;with_reducible rfl) | (go_simp;try with_reducible rfl)
  try simp only [List.getElem_toArray,List.getElem_cons_zero,List.getElem_cons_succ,Act.put,List.setIfInBounds_toArray,List.set_cons_zero,List.set_cons_succ]
 refine wpAnyS_end hA rfl ?_
 simp only [List.drop_succ_cons,List.drop_zero]
 have hfr:=B6.fr
 clear hF hk hF0 B6
 go_wp2_with fail
 go_ret
 exact ⟨rfl,hfr⟩
end Go.Proofs.YtjpieiccpbcabaaGreat
namespace Go.Proofs.YtjpieiccpbcabaaGreat
open Go.RowKit Go.Maps Go.Sort
set_option linter.unusedVariables false
set_option linter.unusedSimpArgs false

def cod64:Cod Int:=⟨2,1,fun b=>[.int .i64 b],0,fun _=>rfl,by decide,fun x u hu=>by
 rw [List.mem_singleton] at hu
 subst hu;rfl,fun x y h=>by
 have h2:Value.int .i64 x = Value.int .i64 y:=by injection h
 injection h2⟩
theorem et64:ET Tryz.prog 122 cod64.t cod64.n 8:=ET.mk' (z:=.int .i64 0) Tryz.underlying122 (by kernel_rfl) rfl (by decide) (by decide)
theorem Sl.cell1 {α:Type} {C:Cod α} (hn:C.n = 1) {w:World} {g off:Nat} {l:List α} (h:Sl w (some ⟨g,off,none⟩) (C.row l)) (i:Nat) (hi:i < l.length) {v:Value} (hv:C.cs l[i] = [v]):w.cell? ⟨g,off + i,none⟩ = some v:=by
 have h2:=Cod.row_get l i 0 hi v (by rw [hv];rfl)
 rw [hn,Nat.mul_one,Nat.add_zero] at h2
 have hne:C.row l ≠ []:=by
  intro e
  rw [e] at h2
  simp at h2
 obtain ⟨g',off',e,_,hc⟩:=h hne
 injection e with e
 injection e with e1 e2
 subst e1 e2
 exact hc i v h2
theorem bldC_p3 (w:World) (t r:Int) (x:ID):(Instr.build 35 #[(1,.int .i64 t),(2,.int .i64 r),(4,encI x)]).run Tryz.prog w = .ok (.agg (codC.A { zCgW with Time:=t,R:=r,Tree:=x })) w:=by
 have h1:∀ place:Nat → Option (Nat × Nat),place 1 = some (1,1) → place 2 = some (2,1) → place 4 = some (4,32) → Instr.fill place ([Value.slice none 0 0] ++ [Value.int .i64 0] ++ ([Value.int .i64 0,Value.slice none 0 0] ++ bv zID.1 ++ [Value.string (str [])])).toArray [(1,.int .i64 t),(2,.int .i64 r),(4,encI x)] = some (codC.cs { zCgW with Time:=t,R:=r,Tree:=x }).toArray:=by
  intro place p1 p2 p4
  refine (fill_one place [.slice none 0 0] [.int .i64 0] ([.int .i64 0,.slice none 0 0] ++ bv zID.1 ++ [.string (str [])]) [.int .i64 t] 1 (.int .i64 t) _ rfl (by simpa using p1) rfl).trans ?_
  have e2:=fill_one place [.slice none 0 0,.int .i64 t] [.int .i64 0] ([.slice none 0 0] ++ bv zID.1 ++ [.string (str [])]) [.int .i64 r] 2 (.int .i64 r) [(4,encI x)] rfl (by simpa using p2) rfl
  refine Eq.trans ?_ (e2.trans ?_)
  ·simp
  have e4:=fill_one place [.slice none 0 0,.int .i64 t,.int .i64 r,.slice none 0 0] (bv zID.1) [.string (str [])] (bv x.1) 4 (encI x) [] (cellsI x) (by simpa [x.2] using p4) (by simp [x.2,zID])
  refine Eq.trans ?_ (e4.trans ?_)
  ·simp
  ·simp [Instr.fill,codC,csC,zCgW]
 have hz:(zeroValue 35).run Tryz.prog w = .ok (.agg (codC.cs codC.z).toArray) w:=okC.zero w
 have hc:(Value.agg (codC.cs codC.z).toArray).cells = ([Value.slice none 0 0] ++ [Value.int .i64 0] ++ ([Value.int .i64 0,Value.slice none 0 0] ++ bv zID.1 ++ [Value.string (str [])])).toArray:=rfl
 have hsI:∀ w,(sizeOf 24).run Tryz.prog w = .ok 32 w:=fun w=>Tryz.sizeOf24 w
 simp only [Instr.build,Sem.run_bind,hz,Result.andThen_ok,run_underlying Tryz.underlying35,hc]
 simp only [List.mapM_toArray,List.mapM_cons,List.mapM_nil,Sem.run_bind,hsI,Tryz.sizeOf9,Tryz.sizeOf32,Tryz.sizeOf33,Tryz.sizeOf2,Tryz.sizeOf3,Result.andThen_ok,Sem.run_pure,Sem.run_map,map_pure,bind_pure_comp]
 rw [h1 _ rfl rfl rfl]
 simp [Cod.A_eq]
@[simp ↓] theorem ex_bldCp3 (ρ:Operand → Value) (x1 x2 x4:Operand) (d:Option Nat) (t:TypeId) (p:String) (f:Array Edge) (g:Option (Nat × Bool)) (w:World) :
  (execOp ρ { dst:=d,op:=.build 35 #[(1,x1),(2,x2),(4,x4)],type:=t,pos:=p,after:=f,guard:=g }).run Tryz.prog w = mkB 35 w [(1,ρ x1),(2,ρ x2),(4,ρ x4)]:=(exB ρ _ _ _ rfl w).trans (by simp only [List.map_toArray,List.map_cons,List.map_nil])
@[simp] theorem mkB_Cp3 (w:World) (t r:Int) (x:ID):mkB 35 w [(1,.int .i64 t),(2,.int .i64 r),(4,encI x)] = .ok (.value (.agg (codC.A { zCgW with Time:=t,R:=r,Tree:=x }))) w:=mkB_ok (bldC_p3 w t r x)
@[simp] theorem mkB_Op4n (w:World) (k:Int) (a s:St):mkB 83 w [(0,.int .i64 k),(1,.agg (codS.A a)),(2,.agg (codS.A s)),(4,.string { data:=#[110] })] = .ok (.value (.agg (codO.A { zOpW with Kind:=k,At:=a,Node:=s,Name:=[110] }))) w:=mkB_Op4 w k a s [110]

structure GB (wr W w:World) (P:Nat) (x:Tri) (k:Nat) (cw:CgW):Prop where
 n:codTr.rd w P 0 = some x
 i:rdI w (P + 1) 0 = some (idG k)
 c:codC.bxd w (P + 2) = some cw
 fr:Fr noB wr w
 ge:W.heap.size ≤ w.heap.size
 hP:P = wr.heap.size
 hW:W.heap.size = P + 3
theorem GB.new {wr W w w':World} {P k:Nat} {x:Tri} {cw:CgW} (h:GB wr W w P x k cw) (f:Fr noB w w'):GB wr W w' P x k cw :=
 ⟨Cod.rd_fr0 h.n f,rdI_fr h.i (rdI_lt h.i) f (by simp [noB]),Cod.bxd_fr0 h.c f,h.fr.step0 f,Nat.le_trans h.ge f.size,h.hP,h.hW⟩
theorem GB.lt {wr W w:World} {P k:Nat} {x:Tri} {cw:CgW} (h:GB wr W w P x k cw):P + 3 ≤ w.heap.size:=by rw [← h.hW];exact h.ge
theorem GB.far {wr W w w':World} {P k:Nat} {x:Tri} {cw:CgW} {M:Nat → Prop} (h:GB wr W w P x k cw) (f:Fr M w w') (hM:∀ b,M b → P + 2 < b):GB wr W w' P x k cw :=
 ⟨Cod.rd_fr h.n f (fun e=>by have:=hM _ e;omega),rdI_fr h.i (rdI_lt h.i) f (fun e=>by have:=hM _ e;omega),Cod.bxd_fr h.c f (fun e=>by have:=hM _ e;omega),
  h.fr.step f (fun q hq=>.inl (by have:=hM _ hq;have:=h.hP;omega)),Nat.le_trans h.ge f.size,h.hP,h.hW⟩
theorem GB.grow {wr W w w':World} {P k c:Nat} {x:Tri} {cw:CgW} {A:Option Addr} {ps:List ID} (h:GB wr W w P x k cw) (ho:OwnC codI W w A c ps) (hg:w.grownBy w' (A.map (·.block))):GB wr W w' P x k cw :=
 h.far (M:=fun b=>A.map (·.block) = some b) (Fr.ofGrown hg (fun g hg=>hg)) (fun b hb=>by have:=(own_lt ho b hb).1;have:=h.hW;omega)
theorem own0 (W w:World):OwnC codI W w none 0 []:=World.ownsRow_nil _ _ _ _
theorem GB.grow0 {wr W w w':World} {P k:Nat} {x:Tri} {cw:CgW} (h:GB wr W w P x k cw) (hg:w.grownBy w' ((none:Option Addr).map (·.block))):GB wr W w' P x k cw :=
 h.grow (own0 W w) hg
theorem GB.set {wr W w:World} {P k:Nat} {x:Tri} {cw:CgW} (h:GB wr W w P x k cw) (o:Nat) (v:Value) (cw':CgW) (hs:(codC.cs cw).set o v = codC.cs cw'):GB wr W (w.setCell ⟨P + 2,o,none⟩ v) P x k cw':=by
 have f:=Cod.set_fr w (P + 2) o v
 refine ⟨Cod.rd_fr h.n f (fun e=>by have:P = P + 2:=e;omega),rdI_fr h.i (rdI_lt h.i) f (fun e=>by have:P + 1 = P + 2:=e;omega),Cod.bxd_set h.c o v _ hs,h.fr.step f (fun q hq=>.inl (by have:q = P + 2:=hq;have:=h.hP;omega)),Nat.le_trans h.ge f.size,h.hP,h.hW⟩
theorem GB.own {wr W w:World} {P k c:Nat} {x:Tri} {cw:CgW} {A:Option Addr} {ps:List ID} (h:GB wr W w P x k cw) (ho:OwnC codI W w A c ps) (o:Nat) (v:Value):OwnC codI W (w.setCell ⟨P + 2,o,none⟩ v) A c ps :=
 own_fr ho (Cod.set_fr w (P + 2) o v) (fun g hg e=>by
  rw [ownBlock_sl'] at hg
  have h1:=(own_lt ho g hg).1
  have h2:g = P + 2:=e
  have:=h.hW
  omega)
theorem GB.tri {wr W w:World} {P k:Nat} {x:Tri} {cw:CgW} (h:GB wr W w P x k cw):w.cell? ⟨P,0,none⟩ = some (.int .i64 x.a) ∧ w.cell? ⟨P,1,none⟩ = some (.int .i64 x.b) ∧ w.cell? ⟨P,2,none⟩ = some (.int .i64 x.c):=by
 have t:=trAt h.n
 refine ⟨t.a,?_,?_⟩
 ·simpa using t.b
 ·simpa using t.c
def rowG (n:Nat):List ID:=(List.range n).map idG
theorem rowG_len (n:Nat):(rowG n).length = n:=by simp [rowG]
theorem rowG_get (n i:Nat) (h:i < (rowG n).length):(rowG n)[i] = idG i:=by simp [rowG]
theorem rowG_succ (n:Nat):rowG (n + 1) = rowG n ++ [idG n]:=by simp [rowG,List.range_succ]
structure GR (w0 w:World) (H:Nat) (S:Nat → Prop) (L:Hst) (ts:List Int) (A:Option Addr) (cA:Nat) (B:Option Addr) (cB:Nat):Prop where
 hs:Hs w H S L
 g:Gw L ts
 ia:OwnC codI w0 w A cA (rowG ts.length)
 tm:OwnC cod64 w0 w B cB ts
 na:∀ g,A.map (·.block) = some g → ¬ S g
 nb:∀ g,B.map (·.block) = some g → ¬ S g
 lo:∀ b,S b → w0.heap.size ≤ b
 fr:Fr noB w0 w
theorem GR.next {w0 wr v1 w6 w7:World} {H:Nat} {S:Nat → Prop} {L L':Hst} {ts:List Int} {A A6 B B7:Option Addr} {cA cB c6 c7:Nat} {t:Int} (h:GR w0 wr H S L ts A cA B cB)
  (g':Gw L' (ts ++ [t])) {u:World} (fu:Fr noB wr u) (hs1:Hs v1 H (grF S u v1) L') (f1:Fr S u v1) {x1:World} (fx:Fr noB v1 x1)
  (o6:OwnC codI w0 w6 A6 c6 (rowG ts.length ++ [idG ts.length])) (g6:x1.grownBy w6 (A.map (·.block))) (a6:A6.map (·.block) = A.map (·.block) ∨ A6.map (·.block) = some x1.heap.size) {x6:World} (fx6:Fr noB w6 x6)
  (o7:OwnC cod64 w0 w7 B7 c7 (ts ++ [t])) (g7:x6.grownBy w7 (B.map (·.block))) (a7:B7.map (·.block) = B.map (·.block) ∨ B7.map (·.block) = some x6.heap.size) :
  GR w0 w7 H (grF S u v1) L' (ts ++ [t]) A6 c6 B7 c7:=by
 have lu:=fu.size
 have l1:=f1.size
 have lx:=fx.size
 have f6:Fr (fun b=>A.map (·.block) = some b) x1 w6:=Fr.ofGrown g6 (fun g hg=>hg)
 have f7:Fr (fun b=>B.map (·.block) = some b) x6 w7:=Fr.ofGrown g7 (fun g hg=>hg)
 have l6:=f6.size
 have lx6:=fx6.size
 have l7:=f7.size
 have bA:∀ g,A.map (·.block) = some g → w0.heap.size ≤ g ∧ g < wr.heap.size:=fun g hg=>own_lt h.ia g hg
 have bB:∀ g,B.map (·.block) = some g → w0.heap.size ≤ g ∧ g < wr.heap.size:=fun g hg=>own_lt h.tm g hg
 have nA:∀ b,grF S u v1 b → ¬ A.map (·.block) = some b:=fun b hb e=>hb.elim (h.na b e) (fun h'=>by have:=(bA b e).2;omega)
 have nB:∀ b,grF S u v1 b → ¬ B.map (·.block) = some b:=fun b hb e=>hb.elim (h.nb b e) (fun h'=>by have:=(bB b e).2;omega)
 have nAB:∀ g,A6.map (·.block) = some g → ¬ B.map (·.block) = some g:=fun g hg e=>by
  rcases a6 with h' | h'
  ·rw [h'] at hg
   obtain ⟨_,cA1,z1,hA1⟩:=own_blk h.ia hg
   obtain ⟨_,cB1,z2,hB1⟩:=own_blk h.tm e
   rw [hA1] at hB1
   injection hB1 with hB1
   injection hB1 with _ h2
   exact absurd h2 (by decide)
  ·rw [h'] at hg
   injection hg with hg
   have:=(bB g e).2
   omega
 refine ⟨((((hs1.fr0 fx).fr f6 nA).fr0 fx6).fr f7 nB),g',?_,o7,?_,?_,fun b hb=>hb.elim (h.lo b) (fun h'=>by have:=h.fr.size;omega),?_⟩
 ·have e:(ts ++ [t]).length = ts.length + 1:=by simp
  rw [e,rowG_succ]
  refine own_fr (own_new0 o6 fx6) f7 (fun g hg=>?_)
  rw [ownBlock_sl'] at hg
  exact nAB g hg
 ·intro g hg hS
  rcases a6 with h' | h'
  ·rw [h'] at hg
   exact nA g hS hg
  ·rw [h'] at hg
   injection hg with hg
   have:=hs1.lt hS
   omega
 ·intro g hg hS
  rcases a7 with h' | h'
  ·rw [h'] at hg
   exact nB g hS hg
  ·rw [h'] at hg
   injection hg with hg
   have:=hs1.lt hS
   omega
 ·have F1:=(h.fr.step0 fu).step f1 (fun q hq=>.inl (h.lo q hq))
  have F2:=(F1.step0 fx).step f6 (fun q hq=>.inl (bA q hq).1)
  exact (F2.step0 fx6).step f7 (fun q hq=>.inl (bB q hq).1)
theorem and_maskM (x:Int) (m:Nat) (hm:m ≤ 1023):∃ r:Nat,bits BinOp.and IntKind.i64 x (m:Int) = (r:Int) ∧ r ≤ m:=by
 refine ⟨(BitVec.ofInt 64 x &&& BitVec.ofInt 64 (m:Int)).toNat,?_,?_⟩
 ·have hle:(BitVec.ofInt 64 x &&& BitVec.ofInt 64 (m:Int)).toNat ≤ 1023:=by
   rw [BitVec.toNat_and]
   refine Nat.le_trans Nat.and_le_right ?_
   rw [BitVec.toNat_ofInt]
   omega
  show IntKind.i64.wrap (((BitVec.ofInt 64 x &&& BitVec.ofInt 64 (m:Int)).toNat:Nat):Int) = _
  rw [IntKind.wrap_i64]
  omega
 ·rw [BitVec.toNat_and]
  refine Nat.le_trans Nat.and_le_right ?_
  rw [BitVec.toNat_ofInt]
  omega
def cwG (A:Option Addr) (n c:Nat) (t:Int) (k:Nat) (B:Option Addr) (m d:Nat):CgW:=⟨A,n,c,t,1 + (k:Int),B,m,d,id2 1 0,[]⟩
structure PsG (ts:List Int) (t:Int) (ps:List ID) (m:Int):Prop where
 par:ParG ts.length ps
 at_:∀ p ∈ ps,∃ (j:Nat) (hj:j < ts.length),p = idG j ∧ ts[j] < t
 lo:1 ≤ t
 hi:t ≤ 4 * (ts.length:Int) + m
def opWG (t:Int) (k:Nat) (nd pr:St):OpW:=⟨1,⟨t,1 + (k:Int)⟩,nd,pr,[110],zID,none,0,0⟩
theorem opWG_in (w:World) (t:Int) (k:Nat) (nd pr:St):OpIn w (opWG t k nd pr) (opG t k nd pr):=⟨by unfold opG opWG opOf;rw [Int.add_comm],rfl,Sl.nil _ _,by simp [opG],by simp [opWG]⟩
theorem cwG_q {Q:Nat → Prop} {w:World} {PA OA:Option Addr} {pc oc k:Nat} {t:Int} {ps:List ID} {rs:List OpW} {ops:List Opn} (hp:Sl w PA (idc ps)) (hpq:ps ≠ [] → InQ Q PA) (ho:Sl w OA (codO.row rs)) (hoq:rs ≠ [] → InQ Q OA)
  (hb:ps.length ≤ 1000) (h:(rs = [] ∧ ops = []) ∨ ∃ nd pr,rs = [opWG t k nd pr] ∧ ops = [opG t k nd pr]):CgQ Q w (cwG PA ps.length pc t k OA rs.length oc) rs (chG ps t k ops):=by
 refine ⟨⟨rfl,Int.add_comm _ _,rfl,rfl,rfl,hp,rfl,ho,?_,by show ps.length ≤ _;omega,?_,by simp [cwG]⟩,hpq,hoq,?_⟩
 ·rcases h with ⟨rfl,rfl⟩ | ⟨nd,pr,rfl,rfl⟩
  ·exact ⟨rfl,fun i h=>absurd h (by simp)⟩
  ·refine ⟨rfl,fun i h h'=>?_⟩
   have:i = 0:=by simpa using h
   subst this
   exact opWG_in w t k nd pr
 ·rcases h with ⟨rfl,_⟩ | ⟨nd,pr,rfl,_⟩ <;> simp
 ·rcases h with ⟨rfl,rfl⟩ | ⟨nd,pr,rfl,rfl⟩
  ·exact fun i h=>absurd h (by simp)
  ·intro i h h'
   have:i = 0:=by simpa using h
   subst this
   exact ⟨opWG_in w t k nd pr,fun h=>absurd rfl h⟩
theorem rightS_G {t:Int} {j:Nat} (h:1 ≤ t ∧ t ≤ 100) (hj:j < 20):rightS ⟨t,1 + (j:Int)⟩ = true:=by
 unfold rightS
 simp
 omega
theorem PsG.len {ts:List Int} {t m:Int} {ps:List ID} (h:PsG ts t ps m):ps.length ≤ 2:=by
 rcases h.par with rfl | ⟨a,_,rfl⟩ | ⟨a,b,_,_,rfl⟩ <;> simp
end Go.Proofs.YtjpieiccpbcabaaGreat
namespace Go.Proofs.YtjpieiccpbcabaaGreat
open Go.RowKit Go.Maps Go.Sort
set_option linter.unusedVariables false
set_option linter.unusedSimpArgs false

def Grown15 (w:World) (e:Ending) (w':World):Prop:=∃ H S L ts A cA,e = .returned (.tuple #[.pointer (some ⟨H,0,none⟩),.slice A ts.length cA]) ∧ Hs w' H S L ∧ Gw L ts ∧ OwnC codI w w' A cA (rowG ts.length) ∧ (∀ g,A.map (·.block) = some g → ¬ S g) ∧ (∀ b,S b → w.heap.size ≤ b) ∧ Fr noB w w'
def GroR15 (w0:World) (H:Nat) (nums:List Tri) (gk:Nat) (iv tv kv:Value) (wr:World):Prop :=
 ∃ ts S A cA B cB L,kv = .int .i64 ((ts.length:Nat):Int) ∧ gk = nums.length - ts.length ∧ ts.length ≤ nums.length ∧ iv = .slice A ts.length cA ∧ tv = .slice B ts.length cB ∧ GR w0 wr H S L ts A cA B cB
set_option maxRecDepth 100000 in
set_option maxHeartbeats 8000000 in
theorem l15grown_any (w:World) (A0:Option Addr) (c0 n:Nat) (nums:List Tri) (hn:nums.length = n) (hs:Sl w A0 (codTr.row nums)) (hb:nums.length ≤ 200000000000000) :
  Calls Tryz.prog 26 #[.slice A0 n c0] w (Grown15 w):=by
 go_enter Tryz.func26,Tryz.ntmps26
 go_upto_region 2 with (go_at_call 8;refine (mgNew_any _).mono ?_;rintro e w1 ⟨H,rfl,h1,f1⟩)
 subst hn
 have HS0:=Lib.hid h1
 have F0:=Lib.hid f1
 clear h1 f1
 go_upto_region 4 with fail
 go_wp2_with fail
 go_loopg [5,6,23] nums.length (fun gk iv tv kv wr=>GroR15 w H nums gk iv tv kv wr)
 case atStart =>
  have e0:GR w w1 H (grF (fun _=>False) w w1) [] [] none 0 none 0:=⟨HS0.out,Gw.nil,World.ownsRow_nil _ _ _ _,World.ownsRow_nil _ _ _ _,(fun g hg=>by cases hg),(fun g hg=>by cases hg),fun b e=>e.elim False.elim (fun e=>e.1),F0.out⟩
  have fa:Fr noB w1 (w1.alloc (.cells #[] 24)):=(Fr.refl noB w1).alloc _
  have fb:Fr noB (w1.alloc (.cells #[] 24)) ((w1.alloc (.cells #[] 24)).alloc (.cells #[] 2)):=(Fr.refl noB _).alloc _
  have la:=F0.out.size
  have no:∀ b,w1.heap.size ≤ b → ¬ grF (fun _=>False) w w1 b:=fun b hb e=>e.elim False.elim (fun e=>by omega)
  refine ⟨[],_,_,0,_,0,[],rfl,rfl,Nat.zero_le _,rfl,rfl,e0.hs.fr0 (fa.step0 fb),Gw.nil,?_,?_,?_,?_,e0.lo,e0.fr.step0 (fa.step0 fb)⟩
  ·have:=World.ownsRow_lit (base:=w1.heap.size) (e:=24) (size:=32) w1 #[] 0 (Nat.le_refl _) (by simp [maxLen]) rfl
   exact own_base (own_new0 this fb) la
  ·have:=World.ownsRow_lit (base:=(w1.alloc (.cells #[] 24)).heap.size) (e:=2) (size:=1) (w1.alloc (.cells #[] 24)) #[] 0 (Nat.le_refl _) (by simp [maxLen]) rfl
   simp only [World.size_alloc] at this
   exact own_base this (by omega)
  ·intro g hg
   simp only [Option.map_some,Option.some.injEq] at hg
   exact no g (by omega)
  ·intro g hg
   simp only [Option.map_some,Option.some.injEq] at hg
   exact no g (by omega)
 case round =>
  clear HS0 F0
  obtain ⟨ts,S,A,cA,B,cB,L,rfl,rfl,hkn,rfl,rfl,hR⟩:=hrel
  obtain ⟨k,hk⟩:∃ k,k = ts.length:=⟨_,rfl⟩
  rw [← hk] at hkn ⊢
  have HK:=Lib.hid hk
  have HR:=Lib.hid hR
  clear hk hR
  by_cases hlt:k < nums.length
  ·by_cases h16:k < 16
   ·have i1:(k:Int) < (nums.length:Int):=by omega
    have i2:(k:Int) < 16:=by omega
    obtain ⟨gN,oN,rfl,hgN⟩:=Sl.addr hs (by omega)
    have rx:codTr.rd wr gN (oN + k * 3) = some nums[k]:=Sl.rd (hs.fr0 HR.out.fr) k hlt
    have HNX:=Lib.hid rx
    generalize nums[k] = x at rx
    have hi:(0:Int) ≤ (k:Int):=by omega
    have v1:wrap64 ((k:Int) + 1) = k + 1:=by unfold wrap64;omega
    have v2:wrap64 (1 + (k:Int)) = k + 1:=by unfold wrap64;omega
    have v3:IntKind.u8.wrap ((k:Int) + 1) = k + 1:=by rw [IntKind.wrap_u8];omega
    have t1:((k:Int) + 1).toNat = k + 1:=by omega
    have u1:(0:Int) ≤ k + 1:=by omega
    have u2:(k + 1:Int) < 256:=by omega
    go_upto_region 8 with fail
    clear HNX rx hgN
    have fa:Fr noB wr (wr.alloc (codTr.o x)):=(Fr.refl noB wr).alloc _
    have qa:=Cod.rd_new' (C:=codTr) wr x
    have za:(wr.alloc (codTr.o x)).heap.size = wr.heap.size + 1:=by simp
    obtain ⟨P,hP⟩:∃ P,P = wr.heap.size:=⟨_,rfl⟩
    rw [← hP] at qa za ⊢
    generalize wr.alloc (codTr.o x) = Wa at fa qa za ⊢
    have HZ:=Lib.hid (And.intro hP za)
    clear hP za
    go_upto_region 9 with fail
    obtain ⟨a1,a2,a3⟩:=putB_fr (bxI_new Wa zID) (id2 (k + 1) 0)
    have fb:Fr noB Wa (putB (Wa.alloc (ido zID)) Wa.heap.size (id2 (k + 1) 0)):=((Fr.refl noB Wa).alloc _).step1 a1 (Nat.le_refl _)
    have zb:(putB (Wa.alloc (ido zID)) Wa.heap.size (id2 (k + 1) 0)).heap.size = P + 2:=by rw [a2,World.size_alloc,HZ.out.2]
    have qb:=Cod.rd_fr0 qa fb
    have Fb:=fa.step0 fb
    clear qa a1 a2 fa fb
    rw [HZ.out.2] at a3 zb Fb qb ⊢
    generalize putB (Wa.alloc (ido zID)) (P + 1) (id2 (k + 1) 0) = Wb at a3 zb Fb qb ⊢
    have HZb:=Lib.hid zb
    clear zb
    go_upto_region 10 with fail
    have fc:Fr noB Wb (Wb.alloc (codC.o ⟨zCgW.PA,zCgW.pn,zCgW.pc,1,1 + (k:Int),zCgW.OA,zCgW.on,zCgW.oc,id2 1 0,zCgW.Msg⟩)):=(Fr.refl noB Wb).alloc _
    have b1:=Cod.bxd_new (C:=codC) Wb ⟨zCgW.PA,zCgW.pn,zCgW.pc,1,1 + (k:Int),zCgW.OA,zCgW.on,zCgW.oc,id2 1 0,zCgW.Msg⟩
    have zc:(Wb.alloc (codC.o ⟨zCgW.PA,zCgW.pn,zCgW.pc,1,1 + (k:Int),zCgW.OA,zCgW.on,zCgW.oc,id2 1 0,zCgW.Msg⟩)).heap.size = P + 3:=by rw [World.size_alloc,HZb.out]
    have qi:=rdI_fr (bxI_rd a3) (rdI_lt (bxI_rd a3)) fc (by simp [noB])
    rw [HZb.out] at b1 ⊢
    obtain ⟨W,hW⟩:∃ W,W = Wb.alloc (codC.o ⟨zCgW.PA,zCgW.pn,zCgW.pc,1,1 + (k:Int),zCgW.OA,zCgW.on,zCgW.oc,id2 1 0,zCgW.Msg⟩):=⟨_,rfl⟩
    rw [← hW] at fc b1 zc qi ⊢
    have hB:GB wr W W P x k (cwG none 0 0 1 k none 0 0):=⟨Cod.rd_fr0 qb fc,qi,b1,Fb.step0 fc,Nat.le_refl _,HZ.out.1,zc⟩
    clear hW fc b1 zc qi qb Fb a3 HZ HZb v1 v2 v3 t1 u1 u2
    obtain ⟨d1,d2,d3⟩:=hB.tri
    have HB:=Lib.hid hB
    clear hB
    go_cut [44] from 24 to 165 (fun v wx=>∃ b:Bool,v = .bool b ∧ (b = true → 0 < k) ∧ W = wx)
    case first =>
     by_cases hk0:0 < k
     ·have e0:decide (0 < (k:Int)) = true:=by simpa using hk0
      by_cases ha:0 ≤ x.a
      ·have e1:decide (0 ≤ x.a) = true:=by simpa using ha
       go_wp2_with fail
       go_meet
       case rel=>exact ⟨true,rfl,fun _=>hk0,rfl⟩
      ·have e1:decide (0 ≤ x.a) = false:=by simpa using ha
       go_wp2_with fail
       go_meet
       case rel=>exact ⟨false,rfl,fun h=>absurd h (by decide),rfl⟩
     ·have e0:decide (0 < (k:Int)) = false:=by simpa using hk0
      go_wp2_with fail
      go_meet
      case rel=>exact ⟨false,rfl,fun h=>absurd h (by decide),rfl⟩
    case rest =>
     obtain ⟨b0,rfl,hb0,rfl⟩:=hcut
     have HB0:=Lib.hid hb0
     clear hb0
     go_upto_if 44 with fail
     go_cut [11,12] from 24 to 165 (fun va vb wx=>∃ ps t PA pc,GB wr W wx P x k (cwG PA ps.length pc t k none 0 0) ∧ OwnC codI W wx PA pc ps ∧ PsG ts t ps 1)
     case first =>
      cases b0
      case true =>
       have hk0:=HB0.out rfl
       obtain ⟨ra,era,hra⟩:=and_maskM x.a 1023 (by omega)
       obtain ⟨rb,erb,hrb⟩:=and_maskM x.b 1023 (by omega)
       have la:ra % k < k:=Nat.mod_lt _ hk0
       have lb:rb % k < k:=Nat.mod_lt _ hk0
       have hkz:¬ (k = 0):=by omega
       have ha:(bits BinOp.and IntKind.i64 x.a 1023).tmod (k:Int) = ((ra % k:Nat):Int):=by rw [show bits BinOp.and IntKind.i64 x.a 1023 = (ra:Int) from era];rfl
       have hb':(bits BinOp.and IntKind.i64 x.b 1023).tmod (k:Int) = ((rb % k:Nat):Int):=by rw [show bits BinOp.and IntKind.i64 x.b 1023 = (rb:Int) from erb];rfl
       generalize ra % k = a at la ha
       generalize rb % k = b at lb hb'
       clear era erb hra hrb HB0
       go_upto_region 11 with fail
       refine wp_region_H (fun w'=>w'.cell? ⟨P,0,none⟩ = some (.int .i64 x.a) ∧ w'.cell? ⟨P,1,none⟩ = some (.int .i64 x.b)) (by kernel_rfl) ⟨d1,d2⟩ (fun hF=>?_)
       refine wpAnyH_take (i:=0) (v:=?_) rfl (by kernel_rfl) (by kernel_rfl) (by kernel_rfl) (fun _ _ _ h=>h) (Or.inl ⟨by rfl,?_⟩) hF ?_
       rotate_left
       ·intro wS hSw;(try dsimp only at hSw);obtain ⟨s1,s2⟩:=hSw;first | (apply Eq.trans;apply ex_ld_id;exact rfl;exact rfl;assumption;with_reducible rfl) | (go_simp;try with_reducible rfl)
       try simp only [List.getElem_toArray,List.getElem_cons_zero,List.getElem_cons_succ,Act.put,List.setIfInBounds_toArray,List.set_cons_zero,List.set_cons_succ]
       refine wpAnyH_take (i:=1) (v:=?_) rfl (by kernel_rfl) (by kernel_rfl) (by kernel_rfl) (fun _ _ _ h=>h) (Or.inl ⟨by rfl,?_⟩) hF ?_
       rotate_left
       ·intro wS hSw;(try dsimp only at hSw);obtain ⟨s1,s2⟩:=hSw;first | (apply Eq.trans;apply ex_ld_id;exact rfl;exact rfl;assumption;with_reducible rfl) | (go_simp;try with_reducible rfl)
       try simp only [List.getElem_toArray,List.getElem_cons_zero,List.getElem_cons_succ,Act.put,List.setIfInBounds_toArray,List.set_cons_zero,List.set_cons_succ]
       refine wpAnyH_take (i:=2) (v:=?_) rfl (by kernel_rfl) (by kernel_rfl) (by kernel_rfl) (fun _ _ _ h=>h) (Or.inl ⟨by rfl,?_⟩) hF ?_
       rotate_left
       ·intro wS hSw;(try dsimp only at hSw);obtain ⟨s1,s2⟩:=hSw;first | (apply Eq.trans;apply ex_ld_id;exact rfl;exact rfl;assumption;with_reducible rfl) | (go_simp;try with_reducible rfl)
       try simp only [List.getElem_toArray,List.getElem_cons_zero,List.getElem_cons_succ,Act.put,List.setIfInBounds_toArray,List.set_cons_zero,List.set_cons_succ]
       refine wpAnyH_take (i:=3) (v:=?_) rfl (by kernel_rfl) (by kernel_rfl) (by kernel_rfl) (fun _ _ _ h=>h) (Or.inl ⟨by rfl,?_⟩) hF ?_
       rotate_left
       ·intro wS hSw;(try dsimp only at hSw);obtain ⟨s1,s2⟩:=hSw;first | (apply Eq.trans;apply ex_ld_id;exact rfl;exact rfl;assumption;with_reducible rfl) | (go_simp;try with_reducible rfl)
       try simp only [List.getElem_toArray,List.getElem_cons_zero,List.getElem_cons_succ,Act.put,List.setIfInBounds_toArray,List.set_cons_zero,List.set_cons_succ]
       refine wpAnyH_take (i:=4) (v:=?_) rfl (by kernel_rfl) (by kernel_rfl) (by kernel_rfl) (fun _ _ _ h=>h) (Or.inl ⟨by rfl,?_⟩) hF ?_
       rotate_left
       ·intro wS hSw;(try dsimp only at hSw);obtain ⟨s1,s2⟩:=hSw;first | (apply Eq.trans;apply ex_ld_id;exact rfl;exact rfl;assumption;with_reducible rfl) | (go_simp;try with_reducible rfl)
       try simp only [List.getElem_toArray,List.getElem_cons_zero,List.getElem_cons_succ,Act.put,List.setIfInBounds_toArray,List.set_cons_zero,List.set_cons_succ]
       refine wpAnyH_take (i:=5) (v:=?_) rfl (by kernel_rfl) (by kernel_rfl) (by kernel_rfl) (fun _ _ _ h=>h) (Or.inl ⟨by rfl,?_⟩) hF ?_
       rotate_left
       ·intro wS hSw;(try dsimp only at hSw);obtain ⟨s1,s2⟩:=hSw;first | (apply Eq.trans;apply ex_ld_id;exact rfl;exact rfl;assumption;with_reducible rfl) | (go_simp;try with_reducible rfl)
       try simp only [List.getElem_toArray,List.getElem_cons_zero,List.getElem_cons_succ,Act.put,List.setIfInBounds_toArray,List.set_cons_zero,List.set_cons_succ]
       refine wpAnyH_take (i:=6) (v:=?_) rfl (by kernel_rfl) (by kernel_rfl) (by kernel_rfl) (fun _ _ _ h=>h) (Or.inl ⟨by rfl,?_⟩) hF ?_
       rotate_left
       ·intro wS hSw;(try dsimp only at hSw);obtain ⟨s1,s2⟩:=hSw;first | (apply Eq.trans;apply ex_ld_id;exact rfl;exact rfl;assumption;with_reducible rfl) | (go_simp;try with_reducible rfl)
       try simp only [List.getElem_toArray,List.getElem_cons_zero,List.getElem_cons_succ,Act.put,List.setIfInBounds_toArray,List.set_cons_zero,List.set_cons_succ]
       refine wpAnyH_take (i:=7) (v:=?_) rfl (by kernel_rfl) (by kernel_rfl) (by kernel_rfl) (fun _ _ _ h=>h) (Or.inl ⟨by rfl,?_⟩) hF ?_
       rotate_left
       ·intro wS hSw;(try dsimp only at hSw);obtain ⟨s1,s2⟩:=hSw;first | (apply Eq.trans;apply ex_ld_id;exact rfl;exact rfl;assumption;with_reducible rfl) | (go_simp;try with_reducible rfl)
       try simp only [List.getElem_toArray,List.getElem_cons_zero,List.getElem_cons_succ,Act.put,List.setIfInBounds_toArray,List.set_cons_zero,List.set_cons_succ]
       refine wpAnyH_take (i:=8) (v:=?_) rfl (by kernel_rfl) (by kernel_rfl) (by kernel_rfl) (fun _ _ _ h=>h) (Or.inl ⟨by rfl,?_⟩) hF ?_
       rotate_left
       ·intro wS hSw;(try dsimp only at hSw);obtain ⟨s1,s2⟩:=hSw;first | (apply Eq.trans;apply ex_ld_id;exact rfl;exact rfl;assumption;with_reducible rfl) | (go_simp;try with_reducible rfl)
       try simp only [List.getElem_toArray,List.getElem_cons_zero,List.getElem_cons_succ,Act.put,List.setIfInBounds_toArray,List.set_cons_zero,List.set_cons_succ]
       refine wpAnyH_take (i:=9) (v:=?_) rfl (by kernel_rfl) (by kernel_rfl) (by kernel_rfl) (fun _ _ _ h=>h) (Or.inl ⟨by rfl,?_⟩) hF ?_
       rotate_left
       ·intro wS hSw;(try dsimp only at hSw);obtain ⟨s1,s2⟩:=hSw;first | (apply Eq.trans;apply ex_ld_id;exact rfl;exact rfl;assumption;with_reducible rfl) | (go_simp;try with_reducible rfl)
       try simp only [List.getElem_toArray,List.getElem_cons_zero,List.getElem_cons_succ,Act.put,List.setIfInBounds_toArray,List.set_cons_zero,List.set_cons_succ]
       refine wpAnyH_take (i:=10) (v:=?_) rfl (by kernel_rfl) (by kernel_rfl) (by kernel_rfl) (fun _ _ _ h=>h) (Or.inl ⟨by rfl,?_⟩) hF ?_
       rotate_left
       ·intro wS hSw;(try dsimp only at hSw);obtain ⟨s1,s2⟩:=hSw;first | (apply Eq.trans;apply ex_ld_id;exact rfl;exact rfl;assumption;with_reducible rfl) | (go_simp;try with_reducible rfl)
       try simp only [List.getElem_toArray,List.getElem_cons_zero,List.getElem_cons_succ,Act.put,List.setIfInBounds_toArray,List.set_cons_zero,List.set_cons_succ]
       refine wpAnyH_take (i:=11) (v:=?_) rfl (by kernel_rfl) (by kernel_rfl) (by kernel_rfl) (fun _ _ _ h=>h) (Or.inl ⟨by rfl,?_⟩) hF ?_
       rotate_left
       ·intro wS hSw;(try dsimp only at hSw);obtain ⟨s1,s2⟩:=hSw;first | (apply Eq.trans;apply ex_ld_id;exact rfl;exact rfl;assumption;with_reducible rfl) | (go_simp;try with_reducible rfl)
       try simp only [List.getElem_toArray,List.getElem_cons_zero,List.getElem_cons_succ,Act.put,List.setIfInBounds_toArray,List.set_cons_zero,List.set_cons_succ]
       refine wpAnyH_done (by kernel_rfl) ?_ _
       clear hF ha hb' d1 d2 d3
       have hB1:=HB.out.new (Fr.refl noB W).drew
       generalize W.drew = V at hB1 ⊢
       have hkt:=HK.out
       have oA:=HR.out.ia
       rw [← hkt] at oA
       obtain ⟨gA,oA',rfl⟩:=(Sl.own oA).adG (by rw [rowG_len];omega)
       have gm:=(Sl.own oA).id (min a b) (by rw [rowG_len];omega)
       have gx:=(Sl.own oA).id (max a b) (by rw [rowG_len];omega)
       rw [rowG_get] at gm gx
       obtain ⟨gT,oT,rfl⟩:∃ g o,B = some ⟨g,o,none⟩:=by
        obtain ⟨g,o,e,_⟩:=Sl.addr (Sl.own HR.out.tm) (by omega)
        exact ⟨g,o,e⟩
       have ca:=Sl.cell1 rfl (Sl.own HR.out.tm) a (by omega) rfl
       have cb:=Sl.cell1 rfl (Sl.own HR.out.tm) b (by omega) rfl
       have hta:=HR.out.g.tm _ (List.getElem_mem (show a < ts.length by omega))
       have htb:=HR.out.g.tm _ (List.getElem_mem (show b < ts.length by omega))
       have la2:a < ts.length:=by omega
       have lb2:b < ts.length:=by omega
       obtain ⟨ta,eta⟩:∃ ta,ta = ts[a]'la2:=⟨_,rfl⟩
       obtain ⟨tb,etb⟩:∃ tb,tb = ts[b]'lb2:=⟨_,rfl⟩
       rw [← eta] at ca hta
       rw [← etb] at cb htb
       rw [← hkt] at hta htb
       have HT:=Lib.hid (And.intro eta etb)
       have m3:min (a:Int) (b:Int) = ((min a b:Nat):Int):=by omega
       have m4:max (a:Int) (b:Int) = ((max a b:Nat):Int):=by omega
       have z1:(0:Int) ≤ ((min a b:Nat):Int):=by omega
       have z2:((min a b:Nat):Int) < (k:Int):=by omega
       have z3:(0:Int) ≤ ((max a b:Nat):Int):=by omega
       have z4:((max a b:Nat):Int) < (k:Int):=by omega
       have HM:=Lib.hid (And.intro gm gx)
       have HC:=Lib.hid (And.intro ca cb)
       have HW0:=Lib.hid (And.intro hta htb)
       clear eta etb hkt oA gm gx ca cb hta htb
       go_upto_region 12 with fail
       have hB2:=hB1.new (Fr.refl noB V).drew
       have rd:∀ (w':World) (cw:CgW),GB wr W w' P x k cw → rdI w' gA (oA' + min a b * 32) = some (idG (min a b)) ∧ rdI w' gA (oA' + max a b * 32) = some (idG (max a b)):=fun w' cw h=>⟨rdI_fr HM.out.1 (rdI_lt HM.out.1) h.fr (by simp [noB]),rdI_fr HM.out.2 (rdI_lt HM.out.2) h.fr (by simp [noB])⟩
       have RD:=Lib.hid rd
       clear rd hB1
       have hF0:V.drew.cell? ⟨P + 2,0,none⟩ = some (.slice none 0 0) ∧ rdI V.drew gA (oA' + min a b * 32) = some (idG (min a b)):=⟨(cgAt (Cod.bxd_rd hB2.c)).parents,(RD.out _ _ hB2).1⟩
       refine wp_region_M 11 12 [⟨36028797018963968,1024,0⟩,⟨72057594037927936,36028797018963968,1⟩,⟨144115188075855872,32,0⟩,⟨288230376151711744,2048,0⟩,⟨576460752303423488,4096,0⟩,⟨1152921504606846976,864691128455135232,24⟩,⟨2305843009213693952,1297036692682702848,36⟩,⟨4611686018427387904,2305843009213693952,64⟩,⟨9223372036854775808,4611686018427387904,128⟩,⟨18446744073709551616,9295429630892703744,258⟩,⟨36893488147419103232,1024,1023⟩,⟨0,55340232221128654848,2047⟩] [(true,0),(true,1),(true,2),(true,3),(true,4),(true,5),(true,6),(true,7),(false,8),(false,9),(true,10)] (fun w'=>w'.cell? ⟨P + 2,0,none⟩ = some (.slice none 0 0) ∧ rdI w' gA (oA' + min a b * 32) = some (idG (min a b))) (by kernel_rfl) rfl (by kernel_rfl) (by kernel_rfl) (by kernel_rfl) hF0 (fun hA hF=>?_)
       clear hF0
       iterate 8
        refine wpAnyS_take (v:=?_) hA rfl (fun _ _ _ h=>h) (Or.inl ⟨by rfl,?_⟩) hF (fun hA=>?_)
        rotate_left
        ·intro wS hSw;(try dsimp only at hSw);obtain ⟨s1,s2⟩:=hSw;first | (apply Eq.trans;apply ex_ld_id;exact rfl;exact rfl;assumption;with_reducible rfl) | (go_simp;try with_reducible rfl)
        try simp only [List.getElem_toArray,List.getElem_cons_zero,List.getElem_cons_succ,Act.put,List.setIfInBounds_toArray,List.set_cons_zero,List.set_cons_succ]
       refine wpAnyS_one hA rfl (fun K' hK=>?_)
       refine step_runI rfl _ _ (ex_bsI_at (x:=idG (min a b)) rfl rfl) ?_
       have fn:Fr noB V.drew (V.drew.alloc (rowo [idG (min a b)])):=(Fr.refl noB _).alloc _
       have sl:Sl (V.drew.alloc (rowo [idG (min a b)])) (some ⟨V.drew.heap.size,0,none⟩) (codI.row [idG (min a b)]):=sl_new V.drew [idG (min a b)]
       have hB3:=hB2.new fn
       replace hF:=(And.intro (cgAt (Cod.bxd_rd hB3.c)).parents (RD.out _ _ hB3).1)
       refine hK.out _ _ hF (fun hA=>?_)
       clear hK K'
       refine wpAnyS_one hA rfl (fun K' hK=>?_)
       refine step_appC' etI W _ rfl _ _ rfl none 0 0 [] rfl rfl (own0 W _) (some ⟨V.drew.heap.size,0,none⟩) 1 1 [idG (min a b)] rfl sl rfl (by simp) hB3.ge ?_
       intro A5 c5 w5 hc5 hm5 ho5 hg5 hA5
       have hB4:=hB3.grow0 hg5
       simp only [List.nil_append] at ho5
       clear hB2 hB3 hg5 hA5 fn sl
       replace hF:=(And.intro (cgAt (Cod.bxd_rd hB4.c)).parents (RD.out _ _ hB4).1)
       refine hK.out _ _ hF (fun hA=>?_)
       clear hK K'
       refine wpAnyS_take (v:=?_) hA rfl (fun _ _ _ h=>h) (Or.inl ⟨by rfl,?_⟩) hF (fun hA=>?_)
       rotate_left
       ·intro wS hSw;(try dsimp only at hSw);obtain ⟨s1,s2⟩:=hSw;first | (apply Eq.trans;apply ex_ld_id;exact rfl;exact rfl;assumption;with_reducible rfl) | (go_simp;try with_reducible rfl)
       try simp only [List.getElem_toArray,List.getElem_cons_zero,List.getElem_cons_succ,Act.put,List.setIfInBounds_toArray,List.set_cons_zero,List.set_cons_succ]
       refine wpAnyS_end hA rfl ?_
       simp only [List.drop_succ_cons,List.drop_zero]
       have k4:=(Cod.bxd_blk hB4.c).frozen 0
       go_upto_region 13 with fail
       have hB5:=hB4.set 0 (.slice A5 1 c5) (cwG A5 1 c5 1 k none 0 0) (seC_Parents _ A5 _ c5)
       have ho6:=hB4.own ho5 0 (.slice A5 1 c5)
       clear hB4 ho5 k4 hF
       generalize World.setCell _ _ _ = w6 at hB5 ho6 ⊢
       have fd:=(Fr.refl noB w6).drew
       have hB6:=hB5.new fd
       have ho7:=own_new0 ho6 fd
       have hw1:wrap64 (max ta tb + 1) = max ta tb + 1:=by
        have:=HW0.out
        unfold wrap64
        omega
       have hF0:w6.drew.cell? ⟨gT,oT + a,none⟩ = some (.int .i64 ta) ∧ w6.drew.cell? ⟨gT,oT + b,none⟩ = some (.int .i64 tb):=⟨cell_fr0 HC.out.1 hB6.fr,cell_fr0 HC.out.2 hB6.fr⟩
       clear hB5 ho6 fd
       have y1:(0:Int) ≤ (a:Int):=by omega
       have y2:(a:Int) < (k:Int):=by omega
       have y3:(0:Int) ≤ (b:Int):=by omega
       have y4:(b:Int) < (k:Int):=by omega
       refine wp_region_M 11 12 [⟨73786976294838206464,64,0⟩,⟨147573952589676412928,2048,0⟩,⟨295147905179352825856,221360928884514619392,3⟩,⟨590295810358705651712,295147905179352825856,4⟩,⟨1180591620717411303424,64,0⟩,⟨2361183241434822606848,4096,0⟩,⟨4722366482869645213696,3541774862152233910272,48⟩,⟨9444732965739290427392,4722366482869645213696,64⟩,⟨18889465931478580854784,10035028776097996079104,136⟩,⟨37778931862957161709568,18889465931478580854784,256⟩,⟨75557863725914323419136,1024,1023⟩,⟨0,113336795588871485128704,2047⟩] [(true,0),(true,1),(true,2),(true,3),(true,4),(true,5),(true,6),(true,7),(true,8),(true,9),(true,10)] (fun w'=>w'.cell? ⟨gT,oT + a,none⟩ = some (.int .i64 ta) ∧ w'.cell? ⟨gT,oT + b,none⟩ = some (.int .i64 tb)) (by kernel_rfl) rfl (by kernel_rfl) (by kernel_rfl) (by kernel_rfl) hF0 (fun hA hF=>?_)
       clear hF0
       obtain ⟨w7,hw7⟩:∃ w7,w7 = w6.drew:=⟨_,rfl⟩
       rw [← hw7] at hB6 ho7 hF ⊢
       clear hw7
       iterate 11
        refine wpAnyS_take (v:=?_) hA rfl (fun _ _ _ h=>h) (Or.inl ⟨by rfl,?_⟩) hF (fun hA=>?_)
        rotate_left
        ·intro wS hSw;(try dsimp only at hSw);obtain ⟨s1,s2⟩:=hSw;first | (apply Eq.trans;apply ex_ld_id;exact rfl;exact rfl;assumption;with_reducible rfl) | (go_simp;try with_reducible rfl)
        try simp only [List.getElem_toArray,List.getElem_cons_zero,List.getElem_cons_succ,Act.put,List.setIfInBounds_toArray,List.set_cons_zero,List.set_cons_succ]
       refine wpAnyS_end hA rfl ?_
       simp only [List.drop_succ_cons,List.drop_zero]
       have k4:=(Cod.bxd_blk hB6.c).frozen 1
       have k5:=(cgAt (Cod.bxd_rd hB6.c)).time
       go_upto_region 14 with fail
       clear hF
       have hB7:=hB6.set 1 (.int .i64 (wrap64 (max ta tb + 1))) (cwG A5 1 c5 (wrap64 (max ta tb + 1)) k none 0 0) (seC_Time _ _)
       have ho8:=hB6.own ho7 1 (.int .i64 (wrap64 (max ta tb + 1)))
       clear hB6 ho7 k4 k5
       generalize World.setCell _ _ _ = w8 at hB7 ho8 ⊢
       rw [hw1] at hB7
       clear hw1
       have par1:∀ j:Nat,(j = a ∨ j = b) → ∃ (i:Nat) (hi:i < ts.length),idG j = idG i ∧ ts[i] < max ta tb + 1:=fun j hj=>by
        rcases hj with rfl | rfl
        ·exact ⟨j,la2,rfl,by rw [← HT.out.1];omega⟩
        ·exact ⟨j,lb2,rfl,by rw [← HT.out.2];omega⟩
       have PAR:=Lib.hid par1
       have TM:=Lib.hid (show 1 ≤ max ta tb + 1 ∧ max ta tb + 1 ≤ 4 * (ts.length:Int) + 1 by have:=HW0.out;have:=HK.out;omega)
       have HB7:=Lib.hid hB7
       have HO8:=Lib.hid ho8
       clear par1 hB7 ho8
       by_cases hab:a = b
       ·have e2:((a:Int) == (b:Int)) = true:=by simp [hab]
        have e3:((a:Int) != (b:Int)) = false:=by simp [hab]
        have HAB:=Lib.hid hab
        clear hab
        go_wp2_with fail
        go_meet
        case rel =>
         have hm:min a b = a:=by have:=HAB.out;omega
         exact ⟨[idG (min a b)],max ta tb + 1,A5,c5,HB7.out,HO8.out,.inr (.inl ⟨min a b,by omega,rfl⟩),fun p hp=>by rw [List.mem_singleton] at hp;subst hp;exact PAR.out _ (by omega),TM.out.1,TM.out.2⟩
       ·have e2:((a:Int) == (b:Int)) = false:=by rw [beq_eq_false_iff_ne];omega
        have e3:((a:Int) != (b:Int)) = true:=by simp [bne,e2]
        have HAB:=Lib.hid hab
        clear hab
        go_upto_region 15 with fail
        have fd:=(Fr.refl noB w8).drew
        have hB2:=HB7.out.new fd
        have ho2:=own_new0 HO8.out fd
        have hF0:w8.drew.cell? ⟨P + 2,0,none⟩ = some (.slice A5 1 c5) ∧ rdI w8.drew gA (oA' + max a b * 32) = some (idG (max a b)):=⟨(cgAt (Cod.bxd_rd hB2.c)).parents,(RD.out _ _ hB2).2⟩
        refine wp_region_M 11 12 [⟨1208925819614629174706176,1024,0⟩,⟨2417851639229258349412352,1208925819614629174706176,1⟩,⟨4835703278458516698824704,32,0⟩,⟨9671406556917033397649408,2048,0⟩,⟨19342813113834066795298816,4096,0⟩,⟨38685626227668133590597632,29014219670751100192948224,24⟩,⟨77371252455336267181195264,43521329506126650289422336,36⟩,⟨154742504910672534362390528,77371252455336267181195264,64⟩,⟨309485009821345068724781056,154742504910672534362390528,128⟩,⟨618970019642690137449562112,311902861460574327074193408,258⟩,⟨1237940039285380274899124224,1024,1023⟩,⟨0,1856910058928070412348686336,2047⟩] [(true,0),(true,1),(true,2),(true,3),(true,4),(true,5),(true,6),(true,7),(false,8),(false,9),(true,10)] (fun w'=>w'.cell? ⟨P + 2,0,none⟩ = some (.slice A5 1 c5) ∧ rdI w' gA (oA' + max a b * 32) = some (idG (max a b))) (by kernel_rfl) rfl (by kernel_rfl) (by kernel_rfl) (by kernel_rfl) hF0 (fun hA hF=>?_)
        clear hF0 fd
        iterate 8
         refine wpAnyS_take (v:=?_) hA rfl (fun _ _ _ h=>h) (Or.inl ⟨by rfl,?_⟩) hF (fun hA=>?_)
         rotate_left
         ·intro wS hSw;(try dsimp only at hSw);obtain ⟨s1,s2⟩:=hSw;first | (apply Eq.trans;apply ex_ld_id;exact rfl;exact rfl;assumption;with_reducible rfl) | (go_simp;try with_reducible rfl)
         try simp only [List.getElem_toArray,List.getElem_cons_zero,List.getElem_cons_succ,Act.put,List.setIfInBounds_toArray,List.set_cons_zero,List.set_cons_succ]
        refine wpAnyS_one hA rfl (fun K' hK=>?_)
        refine step_runI rfl _ _ (ex_bsI_at (x:=idG (max a b)) rfl rfl) ?_
        have fn:Fr noB w8.drew (w8.drew.alloc (rowo [idG (max a b)])):=(Fr.refl noB _).alloc _
        have sl:Sl (w8.drew.alloc (rowo [idG (max a b)])) (some ⟨w8.drew.heap.size,0,none⟩) (codI.row [idG (max a b)]):=sl_new w8.drew [idG (max a b)]
        have hB3:=hB2.new fn
        have ho3:=own_new0 ho2 fn
        replace hF:=(And.intro (cgAt (Cod.bxd_rd hB3.c)).parents (RD.out _ _ hB3).2)
        refine hK.out _ _ hF (fun hA=>?_)
        clear hK K'
        refine wpAnyS_one hA rfl (fun K' hK=>?_)
        refine step_appC' etI W _ rfl _ _ rfl A5 1 c5 [idG (min a b)] rfl rfl ho3 (some ⟨w8.drew.heap.size,0,none⟩) 1 1 [idG (max a b)] rfl sl rfl (by simp) hB3.ge ?_
        intro A9 c9 w9 hc9 hm9 ho9 hg9 hA9
        have hB4:=hB3.grow ho3 hg9
        simp only [List.cons_append,List.nil_append] at ho9
        clear hB2 hB3 hg9 hA9 fn sl ho2 ho3
        replace hF:=(And.intro (cgAt (Cod.bxd_rd hB4.c)).parents (RD.out _ _ hB4).2)
        refine hK.out _ _ hF (fun hA=>?_)
        clear hK K'
        refine wpAnyS_take (v:=?_) hA rfl (fun _ _ _ h=>h) (Or.inl ⟨by rfl,?_⟩) hF (fun hA=>?_)
        rotate_left
        ·intro wS hSw;(try dsimp only at hSw);obtain ⟨s1,s2⟩:=hSw;first | (apply Eq.trans;apply ex_ld_id;exact rfl;exact rfl;assumption;with_reducible rfl) | (go_simp;try with_reducible rfl)
        try simp only [List.getElem_toArray,List.getElem_cons_zero,List.getElem_cons_succ,Act.put,List.setIfInBounds_toArray,List.set_cons_zero,List.set_cons_succ]
        refine wpAnyS_end hA rfl ?_
        simp only [List.drop_succ_cons,List.drop_zero]
        have k4:=(Cod.bxd_blk hB4.c).frozen 0
        go_wp2_with fail
        go_meet
        case rel =>
         have hB9:=hB4.set 0 (.slice A9 2 c9) (cwG A9 2 c9 (max ta tb + 1) k none 0 0) (seC_Parents _ A9 _ c9)
         have ho10:=hB4.own ho9 0 (.slice A9 2 c9)
         have hm:=HAB.out
         refine ⟨[idG (min a b),idG (max a b)],max ta tb + 1,A9,c9,hB9,ho10,.inr (.inr ⟨min a b,max a b,by omega,by omega,rfl⟩),fun p hp=>?_,TM.out.1,TM.out.2⟩
         simp only [List.mem_cons,List.not_mem_nil,or_false] at hp
         rcases hp with rfl | rfl
         ·exact PAR.out _ (by omega)
         ·exact PAR.out _ (by omega)
      case false =>
       go_wp2_with fail
       go_meet
       case rel=>exact ⟨[],1,none,0,HB.out,World.ownsRow_nil _ _ _ _,.inl rfl,by simp,by omega,by omega⟩
     case rest =>
      obtain ⟨ps,t,PA,pc,hB,ho,hp⟩:=hcut
      clear HB HB0 d1 d2 d3
      have hPs:=Lib.hid hp
      have tb:=And.intro hp.lo hp.hi
      have hkt:=HK.out
      have htb:1 ≤ t ∧ t ≤ 4 * (k:Int) + 1:=by rw [hkt];exact tb
      clear tb hp
      obtain ⟨r3,er3,hr3⟩:=and_maskM x.c 3 (by omega)
      have e3:bits BinOp.and IntKind.i64 x.c 3 = (r3:Int):=er3
      have hw1:wrap64 (t + (r3:Int)) = t + r3:=by
       unfold wrap64
       omega
      have htb2:1 ≤ t + (r3:Int) ∧ t + (r3:Int) ≤ 4 * ((k:Int) + 1):=by omega
      have d3:=hB.tri.2.2
      have k3:wc.cell? ⟨P + 2,1,none⟩ = some (.int .i64 t):=(cgAt (Cod.bxd_rd hB.c)).time
      have k4:=(Cod.bxd_blk hB.c).frozen 1
      clear er3 hkt htb
      have HTB:=Lib.hid htb2
      clear htb2 hr3
      go_upto_region 17 with fail
      have hB1:=hB.set 1 (.int .i64 (t + (r3:Int))) (cwG PA ps.length pc (t + (r3:Int)) k none 0 0) (seC_Time _ _)
      have ho1:=hB.own ho 1 (.int .i64 (t + (r3:Int)))
      clear d3 k3 k4 hB ho e3 hw1
      generalize World.setCell _ _ _ = w16 at hB1 ho1 ⊢
      have hPs2:=Lib.hid (show PsG ts (t + (r3:Int)) ps 4 from ⟨hPs.out.par,fun p hp=>by
       obtain ⟨j,hj,e,h⟩:=hPs.out.at_ p hp
       exact ⟨j,hj,e,by omega⟩,HTB.out.1,by have:=HTB.out.2;have:=HK.out;omega⟩)
      clear hPs
      generalize t + (r3:Int) = t' at hB1 ho1 HTB hPs2 ⊢
      have k3:w16.cell? ⟨P + 2,0,none⟩ = some (.slice PA ps.length pc):=(cgAt (Cod.bxd_rd hB1.c)).parents
      go_upto_if 101 with fail
      go_cut [13,14,15,16,17] from 24 to 165 (fun va vb vc vd ve wx=>∃ cw rs ops,GB wr W wx P x k cw ∧ cw.Time = t' ∧ rightCh (chG ps t' k ops) = true ∧ CgQ (fun g=>¬ S g) wx cw rs (chG ps t' k ops))
      case first =>
       have hPA:ps ≠ [] → InQ (fun g=>¬ S g) PA:=fun _ g hg hS=>by
        have h1:=(own_lt ho1 g hg).1
        have h2:=HR.out.hs.lt hS
        have h3:=hB1.hW
        have h4:=hB1.hP
        omega
       have HPA:=Lib.hid hPA
       have hHB:=Lib.hid hB1
       have hHO:=Lib.hid ho1
       by_cases hp2:(ps.length:Int) < 2
       ·clear hPA
        have k1:w16.cell? ⟨P + 2,1,none⟩ = some (.int .i64 t'):=(cgAt (Cod.bxd_rd hB1.c)).time
        have k2:w16.cell? ⟨P + 2,2,none⟩ = some (.int .i64 (1 + (k:Int))):=(cgAt (Cod.bxd_rd hB1.c)).R
        go_upto_region 19 with fail
        have fs:Fr noB w16 (w16.alloc (codS.o ⟨t',1 + (k:Int)⟩)):=(Fr.refl noB w16).alloc _
        have qs:=Cod.rd_new' (C:=codS) w16 ⟨t',1 + (k:Int)⟩
        have hB2:=hB1.new fs
        have ho2:=own_new0 ho1 fs
        have q13:P + 3 ≤ w16.heap.size:=hB1.lt
        clear k1 k2 k3 hB1 ho1
        generalize w16.alloc (codS.o ⟨t',1 + (k:Int)⟩) = w18 at fs qs hB2 ho2 ⊢
        generalize w16.heap.size = q at q13 qs ⊢
        have hmv:(⟨1,⟨t',1 + (k:Int)⟩,⟨t',1 + (k:Int)⟩,zOpW.Parent,[110],zOpW.Data,zOpW.A,zOpW.n,zOpW.c⟩:OpW) = opWG t' k ⟨t',1 + (k:Int)⟩ zSt:=rfl
        go_upto_if 111 with fail
        have fo:Fr noB w18 (w18.alloc (codO.o (opWG t' k ⟨t',1 + (k:Int)⟩ zSt))):=(Fr.refl noB w18).alloc _
        have bO:=Cod.bxd_new (C:=codO) w18 (opWG t' k ⟨t',1 + (k:Int)⟩ zSt)
        have hB3:=hB2.new fo
        have ho3:=own_new0 ho2 fo
        have qs3:=Cod.rd_fr0 qs fo
        have q14:P + 3 ≤ w18.heap.size:=hB2.lt
        clear hmv fs qs hB2 ho2 fo
        generalize w18.alloc (codO.o (opWG t' k ⟨t',1 + (k:Int)⟩ zSt)) = w19 at bO hB3 ho3 qs3 ⊢
        generalize w18.heap.size = r at bO q14 ⊢
        have AT:rightS ⟨t',1 + (k:Int)⟩ = true:=rightS_G ⟨HTB.out.1,by have:=HTB.out.2;omega⟩ (by omega)
        have HAT:=Lib.hid AT
        clear AT
        go_cut [15,16,17] from 24 to 165 (fun va vb vc wx=>∃ nd pr,GB wr W wx P x k (cwG PA ps.length pc t' k none 0 0) ∧ OwnC codI W wx PA pc ps ∧ codO.bxd wx r = some (opWG t' k nd pr) ∧ goodOp (opG t' k nd pr) = true)
        case first =>
         have GOOD:=Lib.hid (show ∀ nd pr,rightS nd = true → cmpS nd ⟨t',1 + (k:Int)⟩ ≤ 0 → (rightS pr = true ∨ pr = zSt) → goodOp (opG t' k nd pr) = true from fun nd pr h1 h2 h3=>opG_good (by omega) ⟨HTB.out.1,by have:=HTB.out.2;omega⟩ h1 (by rw [Int.add_comm];exact h2) h3)
         have HB3:=Lib.hid hB3
         have HO3:=Lib.hid ho3
         have HBO:=Lib.hid bO
         by_cases hk0:(0:Int) < (k:Int)
         ·obtain ⟨ra,era,hra⟩:=and_maskM x.c 1023 (by omega)
          obtain ⟨rb,erb,hrb⟩:=and_maskM x.b 1023 (by omega)
          have hk0':0 < k:=by omega
          have la:ra % k < k:=Nat.mod_lt _ hk0'
          have lb:rb % k < k:=Nat.mod_lt _ hk0'
          have hkz:¬ (k = 0):=by omega
          have ha:(bits BinOp.and IntKind.i64 x.c 1023).tmod (k:Int) = ((ra % k:Nat):Int):=by rw [show bits BinOp.and IntKind.i64 x.c 1023 = (ra:Int) from era];rfl
          have hb':(bits BinOp.and IntKind.i64 x.b 1023).tmod (k:Int) = ((rb % k:Nat):Int):=by rw [show bits BinOp.and IntKind.i64 x.b 1023 = (rb:Int) from erb];rfl
          generalize ra % k = a at la ha
          generalize rb % k = b at lb hb'
          clear era erb hra hrb bO ho3
          obtain ⟨gT,oT,rfl⟩:∃ g o,B = some ⟨g,o,none⟩:=by
           obtain ⟨g,o,e,_⟩:=Sl.addr (Sl.own HR.out.tm) (by have:=HK.out;omega)
           exact ⟨g,o,e⟩
          have la2:a < ts.length:=by have:=HK.out;omega
          have lb2:b < ts.length:=by have:=HK.out;omega
          have ca:=cell_fr0 (Sl.cell1 rfl (Sl.own HR.out.tm) a la2 rfl) hB3.fr
          have cb:=cell_fr0 (Sl.cell1 rfl (Sl.own HR.out.tm) b lb2 rfl) hB3.fr
          have hta:=HR.out.g.tm _ (List.getElem_mem la2)
          have htb:=HR.out.g.tm _ (List.getElem_mem lb2)
          rw [← HK.out] at hta htb
          generalize ts[a] = ta at ca hta
          obtain ⟨tb,etb⟩:∃ tb,tb = ts[b]:=⟨_,rfl⟩
          rw [← etb] at cb htb
          have HTS:=Lib.hid etb.symm
          clear etb
          have HTA:=Lib.hid (show rightS ⟨ta,1 + (a:Int)⟩ = true from rightS_G ⟨hta.1,by omega⟩ (by omega))
          have HTB':=Lib.hid (show rightS ⟨tb,1 + (b:Int)⟩ = true from rightS_G ⟨htb.1,by omega⟩ (by omega))
          have y1:(0:Int) ≤ (a:Int):=by omega
          have y2:(a:Int) < (k:Int):=by omega
          have y3:(0:Int) ≤ (b:Int):=by omega
          have y4:(b:Int) < (k:Int):=by omega
          obtain ⟨_,d2,d3⟩:=hB3.tri
          clear hB3 hta htb
          have HCB:=Lib.hid cb
          clear cb
          go_upto_region 23 with fail
          have fs:Fr noB w19 (w19.alloc (codS.o ⟨ta,1 + (a:Int)⟩)):=(Fr.refl noB w19).alloc _
          have qx:=Cod.rd_new' (C:=codS) w19 ⟨ta,1 + (a:Int)⟩
          have q16:P + 3 ≤ w19.heap.size:=HB3.out.lt
          have d3':=cell_fr0 d3 fs
          have qs4:=Cod.rd_fr0 qs3 fs
          clear ca d2 d3 ha qs3
          generalize w19.alloc (codS.o ⟨ta,1 + (a:Int)⟩) = w22 at fs qx d3' qs4 ⊢
          generalize w19.heap.size = q2 at qx q16 ⊢
          go_cut [133] from 24 to 165 (fun v wx=>∃ bb:Bool,v = .bool bb ∧ (bb = true → cmpS ⟨ta,1 + (a:Int)⟩ ⟨t',1 + (k:Int)⟩ = -1) ∧ Fr noB w22 wx)
          case first =>
           by_cases hc:cmpS ⟨ta,1 + (a:Int)⟩ ⟨t',1 + (k:Int)⟩ = -1
           ·have C1:∀ w,Calls Tryz.prog 29 #[.agg (codS.A ⟨ta,1 + (a:Int)⟩),.agg (codS.A ⟨t',1 + (k:Int)⟩)] w (Gives w (.int .i64 (-1))):=fun w=>Gives.val (r3cmp_any w _ _) (by rw [hc])
            have HC1:=Lib.hid C1
            have HCC:=Lib.hid hc
            clear C1 hc
            by_cases h8:bits BinOp.and IntKind.i64 x.c 8 = 8
            ·have e8:(bits BinOp.and IntKind.i64 x.c 8 == 8) = true:=by simp [h8]
             go_wp2_with (go_at_call 29;refine (HC1.out _).mono ?_;rintro e wq ⟨rfl,fq⟩;have d3q:=cell_fr0 d3' fq;have FQ:=Lib.hid fq;clear fq)
             go_meet
             case rel=>exact ⟨true,rfl,fun _=>HCC.out,FQ.out⟩
            ·have e8:(bits BinOp.and IntKind.i64 x.c 8 == 8) = false:=by simp [h8]
             go_wp2_with (go_at_call 29;refine (HC1.out _).mono ?_;rintro e wq ⟨rfl,fq⟩;have d3q:=cell_fr0 d3' fq;have FQ:=Lib.hid fq;clear fq)
             go_meet
             case rel=>exact ⟨false,rfl,fun h=>absurd h (by decide),FQ.out⟩
           ·have e8:(cmpS ⟨ta,1 + (a:Int)⟩ ⟨t',1 + (k:Int)⟩ == -1) = false:=by simp [hc]
            go_wp2_with (go_at_call 29;refine (r3cmp_any _ _ _).mono ?_;rintro e wq ⟨rfl,fq⟩;have FQ:=Lib.hid fq;clear fq)
            go_meet
            case rel=>exact ⟨false,rfl,fun h=>absurd h (by decide),FQ.out⟩
          case rest =>
           obtain ⟨bb,rfl,hbb,fq⟩:=hcut
           have hB4:=(HB3.out.new fs).new fq
           have ho4:=own_new0 (own_new0 HO3.out fs) fq
           have bO4:=Cod.bxd_fr0 (Cod.bxd_fr0 HBO.out fs) fq
           have qx4:=Cod.rd_fr0 qx fq
           have HBB:=Lib.hid hbb
           clear hbb fs fq qx d3' qs4
           go_upto_if 133 with fail
           go_cut [] from 24 to 165 (fun wx=>∃ nd,GB wr W wx P x k (cwG PA ps.length pc t' k none 0 0) ∧ OwnC codI W wx PA pc ps ∧ codO.bxd wx r = some (opWG t' k nd zSt) ∧ rightS nd = true ∧ cmpS nd ⟨t',1 + (k:Int)⟩ ≤ 0)
           case first =>
            cases bb
            case true =>
             have HBC:=Lib.hid (show cmpS ⟨ta,1 + (a:Int)⟩ ⟨t',1 + (k:Int)⟩ ≤ 0 by rw [HBB.out rfl];decide)
             have hst:=stO_Node bO4 ⟨ta,1 + (a:Int)⟩
             obtain ⟨p1,p2,p3⟩:=Cod.put_fr bO4 (opWG t' k ⟨ta,1 + (a:Int)⟩ zSt)
             have HPP:=Lib.hid (And.intro p1 (And.intro p2 p3))
             have HB4:=Lib.hid hB4
             have HO4:=Lib.hid ho4
             have HBK:=Lib.hid (Cod.bxd_blk bO4)
             clear p1 p2 p3 hB4 ho4 bO4
             go_wp2_with fail
             go_meet
             case rel =>
              obtain ⟨p1,p2,p3⟩:=HPP.out
              exact ⟨⟨ta,1 + (a:Int)⟩,HB4.out.far p1 (fun b' hb'=>by have:b' = r:=hb';omega),own_box HBK.out HO4.out (by decide) p1,p3,HTA.out,HBC.out⟩
            case false =>
             clear qx4
             go_wp2_with fail
             go_meet
             case rel=>exact ⟨⟨t',1 + (k:Int)⟩,hB4,ho4,bO4,HAT.out,by rw [cmpS_self];decide⟩
           case rest =>
            obtain ⟨nd,hB5,ho5,bO5,hnd,hcn⟩:=hcut
            clear hB4 ho4 bO4 qx4 HBB
            have HND:=Lib.hid (And.intro hnd hcn)
            clear hnd hcn
            have d2:=hB5.tri.2.1
            have cb:=cell_fr0 (Sl.cell1 rfl (Sl.own HR.out.tm) b (by have:=HK.out;omega) rfl) hB5.fr
            have cb':wc.cell? ⟨gT,oT + b,none⟩ = some (.int .i64 tb):=by rw [cb];exact congrArg _ (congrArg _ HTS.out)
            have hst:=stO_Parent bO5 ⟨tb,1 + (b:Int)⟩
            obtain ⟨p1,p2,p3⟩:=Cod.put_fr bO5 (opWG t' k nd ⟨tb,1 + (b:Int)⟩)
            have HPP:=Lib.hid (And.intro p1 (And.intro p2 p3))
            have HB5:=Lib.hid hB5
            have HO5:=Lib.hid ho5
            have HBK:=Lib.hid (Cod.bxd_blk bO5)
            clear p1 p2 p3 hB5 ho5 bO5 cb
            go_wp2_with fail
            go_meet
            case rel =>
             obtain ⟨p1,p2,p3⟩:=HPP.out
             exact ⟨nd,⟨tb,1 + (b:Int)⟩,HB5.out.far p1 (fun b' hb'=>by have:b' = r:=hb';omega),own_box HBK.out HO5.out (by decide) p1,p3,GOOD.out _ _ HND.out.1 HND.out.2 (.inl HTB'.out)⟩
         ·have HK0:=Lib.hid hk0
          have ek0:decide ((0:Int) < (k:Int)) = false:=by simpa using hk0
          clear hB3 ho3 bO
          go_wp2_with fail
          go_meet
          case rel=>exact ⟨⟨t',1 + (k:Int)⟩,zSt,HB3.out,HO3.out,HBO.out,GOOD.out _ _ HAT.out (by rw [cmpS_self];decide) (.inr rfl)⟩
        case rest =>
         obtain ⟨nd,pr,hB6,ho6,bO6,hgood⟩:=hcut
         have rO:=Cod.bxd_rd bO6
         have fa:Fr noB wc (wc.alloc (codO.ro [opWG t' k nd pr])):=(Fr.refl noB wc).alloc _
         have sO:=Cod.sl_new (C:=codO) wc [opWG t' k nd pr]
         have hB7:=hB6.new fa
         have ho7:=own_new0 ho6 fa
         have k3:(wc.alloc (codO.ro [opWG t' k nd pr])).cell? ⟨P + 2,3,none⟩ = some (.slice none 0 0):=(cgAt (Cod.bxd_rd hB7.c)).ops
         have k4:=(Cod.bxd_blk hB7.c).frozen 3
         have lz:P + 3 ≤ wc.heap.size:=hB6.lt
         have HB7:=Lib.hid hB7
         have HO7:=Lib.hid ho7
         have HSO:=Lib.hid sO
         have HGO:=Lib.hid hgood
         clear hB6 ho6 bO6 fa sO hB7 ho7 hgood hB3 ho3 bO qs3
         go_wp2_with fail
         go_meet
         case rel =>
          have hB8:=HB7.out.set 3 (.slice (some ⟨wc.heap.size,0,none⟩) 1 1) (cwG PA ps.length pc t' k (some ⟨wc.heap.size,0,none⟩) 1 1) (seC_Ops _ _ _ _)
          have ho8:=HB7.out.own HO7.out 3 (.slice (some ⟨wc.heap.size,0,none⟩) 1 1)
          refine ⟨_,[opWG t' k nd pr],[opG t' k nd pr],hB8,rfl,?_,cwG_q (Sl.own ho8) HPA.out ?_ (fun _ g hg hS=>?_) (by have:=hPs2.out.len;omega) (.inr ⟨nd,pr,rfl,rfl⟩)⟩
          ·exact chG_right (by omega) ⟨HTB.out.1,by have:=HTB.out.2;omega⟩ (by rw [HK.out];exact hPs2.out.par) (.inr ⟨by omega,nd,pr,rfl,HGO.out⟩)
          ·refine HSO.out.fr (Cod.set_fr _ (P + 2) 3 _) (fun a' ha' e=>?_)
           injection ha' with ha'
           subst ha'
           have e':wc.heap.size = P + 2:=e
           omega
          ·injection hg with hg
           have h2:=HR.out.hs.lt hS
           have h4:=hHB.out.hP
           have h5:wc.heap.size = g:=hg
           omega
       ·have HP2:=Lib.hid hp2
        have e2:decide ((ps.length:Int) < 2) = false:=by simpa using hp2
        clear hp2 hB1 ho1 hPA
        go_wp2_with fail
        go_meet
        case rel =>
         refine ⟨_,[],[],hHB.out,rfl,?_,cwG_q (Sl.own hHO.out) HPA.out (Sl.nil _ _) (fun h=>absurd rfl h) (by have:=hPs2.out.len;omega) (.inl ⟨rfl,rfl⟩)⟩
         exact chG_right (by omega) ⟨HTB.out.1,by have:=HTB.out.2;omega⟩ (by rw [HK.out];exact hPs2.out.par) (.inl rfl)
      case rest =>
       obtain ⟨cw,rs,ops,hB,hct,hrc,hq⟩:=hcut
       clear hB1 ho1 k3
       have hgk:wc.heap.size = wc.heap.size:=rfl
       have hsW:=HR.out.hs.fr0 hB.fr
       have rI:=hB.i
       have rC:=Cod.bxd_rd hB.c
       have HQ:=Lib.hid hq
       have HHS:=Lib.hid hsW
       have HCT:=Lib.hid hct
       have HGA:=Lib.hid (HR.out.g.add (by have:=HK.out;omega) hrc (by show (k:Int) + 1 = _;rw [HK.out]) ⟨HTB.out.1,by have:=HTB.out.2;have:=HK.out;show t' ≤ _;omega⟩ (fun p hp=>by
        obtain ⟨j,hj,e,h⟩:=hPs2.out.at_ p hp
        exact ⟨j,hj,e,h⟩))
       have hLl:L.length < 100000:=by have:=HR.out.g.len;have:=HK.out;omega
       have HLL:=Lib.hid hLl
       have HPL:=Lib.hid (show (chG ps t' k ops).Parents.length ≤ 1000000000 by have:=hPs2.out.len;show ps.length ≤ _;omega)
       have HBF:=Lib.hid hB
       have lz:=hB.lt
       clear hq hsW hct hLl hgk hB hrc
       go_upto_region 30 with (go_at_call 10;refine (mgAdd_any HHS.out HLL.out (idG k) _ _ _ HQ.out HPL.out).mono ?_;rintro e v1 ⟨rfl,hs1,f1⟩;have hga:=HGA.out.1;rw [← HK.out] at hga;rw [hga] at hs1 ⊢;clear hga)
       have nS:∀ b,P ≤ b → ¬ S b:=fun b hb hS=>by have:=HR.out.hs.lt hS;have:=HBF.out.hP;omega
       have rI1:rdI v1 (P + 1) 0 = some (idG k):=rdI_fr HBF.out.i (rdI_lt HBF.out.i) f1 (nS _ (by omega))
       have rC1:=Cod.bxd_fr HBF.out.c f1 (nS _ (by omega))
       have oA1:OwnC codI w v1 A cA (rowG k):=by
        have h:=HR.out.ia
        rw [← HK.out] at h
        exact own_fr (own_new0 h HBF.out.fr) f1 (fun g hg=>by rw [ownBlock_sl'] at hg;exact HR.out.na g hg)
       have oB1:OwnC cod64 w v1 B cB ts:=own_fr (own_new0 HR.out.tm HBF.out.fr) f1 (fun g hg=>by rw [ownBlock_sl'] at hg;exact HR.out.nb g hg)
       have fx:Fr noB v1 (v1.alloc (rowo [idG k])):=(Fr.refl noB v1).alloc _
       have sx:Sl (v1.alloc (rowo [idG k])) (some ⟨v1.heap.size,0,none⟩) (codI.row [idG k]):=sl_new v1 [idG k]
       have oA2:=own_new0 oA1 fx
       have gl:=rowG_len k
       have HGL:=Lib.hid gl
       have hz1:w.heap.size ≤ (v1.alloc (rowo [idG k])).heap.size:=by
        have h1:=HR.out.fr.size
        have h2:=HBF.out.fr.size
        have h3:=f1.size
        have h4:=fx.size
        omega
       have HZ1:=Lib.hid hz1
       have hbA:((rowG k).length + [idG k].length) * 32 ≤ 140737488355328:=by rw [gl];simp;omega
       have HBA:=Lib.hid hbA
       have HF1:=Lib.hid f1
       have HSS1:=Lib.hid hs1
       clear f1 hs1 nS oA1 gl hz1 hbA rI rC
       go_upto_region 31 with (at_builtin;refine wpList_appC' etI w _ rfl _ _ rfl A k cA (rowG k) rfl HGL.out oA2 (some ⟨v1.heap.size,0,none⟩) 1 1 [idG k] rfl sx rfl HBA.out HZ1.out ?_;intro A6 c6 w6 hc6 hm6 ho6 hg6 hA6)
       have nA:∀ g,A.map (·.block) = some g → g < P:=fun g hg=>by have:=(own_lt HR.out.ia g hg).2;have:=HBF.out.hP;omega
       have f6:Fr (fun b=>A.map (·.block) = some b) (v1.alloc (rowo [idG k])) w6:=Fr.ofGrown hg6 (fun g hg=>hg)
       have bC6:=Cod.bxd_fr (Cod.bxd_fr0 rC1 fx) f6 (fun e=>by have:=nA _ e;omega)
       have k1:w6.cell? ⟨P + 2,1,none⟩ = some (.int .i64 t'):=by
        have h:=(cgAt (Cod.bxd_rd bC6)).time
        rw [HCT.out] at h
        exact h
       have oB6:OwnC cod64 w w6 B cB ts:=own_fr (own_new0 oB1 fx) f6 (fun g hg e=>by
        rw [ownBlock_sl'] at hg
        obtain ⟨_,cA1,z1,hA1⟩:=own_blk HR.out.ia e
        obtain ⟨_,cB1,z2,hB1⟩:=own_blk HR.out.tm hg
        rw [hA1] at hB1
        injection hB1 with hB1
        injection hB1 with _ h2
        exact absurd h2 (by decide))
       have fy:Fr noB w6 (w6.alloc (.cells #[.int .i64 t'] 2)):=(Fr.refl noB w6).alloc _
       have sy:Sl (w6.alloc (.cells #[.int .i64 t'] 2)) (some ⟨w6.heap.size,0,none⟩) (cod64.row [t']):=Sl.new w6 2 [.int .i64 t']
       have oB7:=own_new0 oB6 fy
       have HZ7:=Lib.hid (show w.heap.size ≤ (w6.alloc (.cells #[.int .i64 t'] 2)).heap.size from Nat.le_trans (Nat.le_trans HZ1.out f6.size) fy.size)
       have HBY:=Lib.hid (show (ts.length + [t'].length) * 8 ≤ 140737488355328 from by have:=HK.out;simp;omega)
       have HO6:=Lib.hid ho6
       have HG6:=Lib.hid hg6
       have HA6:=Lib.hid hA6
       have HFX:=Lib.hid fx
       clear nA f6 bC6 rC1 oB6 oB1 fx sx oA2 ho6 hg6 hA6 hc6 hm6 rI1
       go_wp2_with (at_builtin;refine wpList_appC' et64 w _ rfl _ _ rfl B k cB ts rfl HK.out.symm oB7 (some ⟨w6.heap.size,0,none⟩) 1 1 [t'] rfl sy rfl HBY.out HZ7.out ?_;intro A7 c7 w7 hc7 hm7 ho7 hg7 hA7)
       go_roundg (nums.length - (k + 1))
       case measure=>have:=HK.out;omega
       case rel =>
        have hg2:=HGA.out.2
        rw [← HK.out] at hg2
        have o6:=HO6.out
        have hs1:=HSS1.out
        have hgl:=HGL.out
        have hkk:=HK.out
        have el:(ts ++ [t']).length = k + 1:=by rw [List.length_append,← hkk];rfl
        rw [hkk] at o6
        refine ⟨ts ++ [t'],grF S wc v1,A6,c6,A7,c7,_,by rw [el];simp,by rw [el],by rw [el];omega,by rw [el,hgl],by rw [el,hkk],GR.next HR.out hg2 HBF.out.fr hs1 HF1.out HFX.out o6 HG6.out HA6.out fy ho7 hg7 hA7⟩
   ·have ek:k = 16:=by have:=HR.out.g.le;have:=HK.out;omega
    subst ek
    have i1:(16:Int) < (nums.length:Int):=by omega
    have HLT:=Lib.hid hlt
    clear hlt h16 hkn
    obtain ⟨gN,oN,rfl,hgN⟩:=Sl.addr hs (by have:=HLT.out;omega)
    have rx:codTr.rd wr gN (oN + 16 * 3) = some (nums[16]'HLT.out):=Sl.rd (hs.fr0 HR.out.fr) 16 HLT.out
    generalize nums[16]'HLT.out = x at rx
    go_wp2_with fail
    go_ret2
    have fz:Fr noB wr (wr.alloc (codTr.o x)):=(Fr.refl noB wr).alloc _
    exact ⟨H,S,L,ts,A,cA,by rw [← HK.out];rfl,HR.out.hs.fr0 fz,HR.out.g,own_new0 HR.out.ia fz,HR.out.na,HR.out.lo,HR.out.fr.step0 fz⟩
  ·have ek:k = nums.length:=by omega
   have i1:¬ ((k:Int) < (nums.length:Int)):=by omega
   have HEK:=Lib.hid ek
   clear ek hlt hkn
   go_wp2_with fail
   go_ret2
   exact ⟨H,S,L,ts,A,cA,by rw [← HK.out];rfl,HR.out.hs,HR.out.g,HR.out.ia,HR.out.na,HR.out.lo,HR.out.fr⟩
end Go.Proofs.YtjpieiccpbcabaaGreat
