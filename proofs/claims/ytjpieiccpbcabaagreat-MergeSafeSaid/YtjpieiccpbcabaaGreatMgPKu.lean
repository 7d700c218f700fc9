/- Plain: histories of commits with their operations; what comes of two. -/
import Derived.Test.YtjpieiccpbcabaaGreatBasePKu
import Derived.Test.YtjpieiccpbcabaaGreatDagW7Ku
import Derived.Test.YtjpieiccpbcabaaGreatGlPKu
set_option linter.unusedVariables false
set_option linter.unusedSimpArgs false
namespace Go.Proofs.YtjpieiccpbcabaaGreat
open Go.RowKit
abbrev Hst:=List (ID × Chg)
def dgH (L:Hst):Dg:=L.map fun p=>(p.1,p.2.Parents)
def findC:Hst → ID → Option Chg
 | [],_=>none
 | (y,c) :: L,x=>if x = y then some c else findC L x
theorem par_dg:∀ (L:Hst) (x:ID),parents (dgH L) x = (findC L x).map (·.Parents)
 | [],x=>rfl
 | (y,c) :: L,x=>by
  show (if x = y then some c.Parents else parents (dgH L) x) = (if x = y then some c else findC L x).map (·.Parents)
  by_cases h:x = y
  ·simp [h]
  ·simp only [h,if_false]
   exact par_dg L x
theorem has_dg (L:Hst) (x:ID):hasG (dgH L) x = (findC L x).isSome:=by
 unfold hasG
 rw [par_dg]
 cases findC L x <;> rfl
theorem findC_mem:∀ {L:Hst} {x:ID} {c:Chg},findC L x = some c → (x,c) ∈ L
 | (y,d) :: L,x,c,h=>by
  have h':(if x = y then some d else findC L x) = some c:=h
  by_cases e:x = y
  ·rw [if_pos e] at h'
   injection h' with h'
   simp [e,h']
  ·rw [if_neg e] at h'
   exact List.mem_cons_of_mem _ (findC_mem h')
theorem findC_of:∀ {L:Hst},okG (dgH L) → ∀ {p:ID × Chg},p ∈ L → findC L p.1 = some p.2
 | (y,d) :: L,ok,p,h=>by
  obtain ⟨_,h2,_,h4⟩:=ok
  show (if p.1 = y then some d else findC L p.1) = some p.2
  rcases List.mem_cons.1 h with rfl | h
  ·rw [if_pos rfl]
  ·rw [if_neg]
   ·exact findC_of h4 h
   ·intro e
    have h5:hasG (dgH L) y = true:=by
     rw [hasG_mem]
     exact List.mem_map.2 ⟨(p.1,p.2.Parents),List.mem_map.2 ⟨p,h,rfl⟩,e⟩
    have h6:hasG (dgH L) y = false:=h2
    rw [h5] at h6
    cases h6
def opsH (L:Hst):List Opn:=L.flatMap fun p=>p.2.Ops
def findO (P:List Opn) (s:St):Option Opn:=P.find? fun o=>decide (o.At = s)
theorem findO_some {P:List Opn} {s:St} {o:Opn} (h:findO P s = some o):o ∈ P ∧ o.At = s:=by
 unfold findO at h
 exact ⟨List.mem_of_find?_eq_some h,by simpa using List.find?_some h⟩
theorem findO_none {P:List Opn} {s:St}:findO P s = none ↔ ∀ o ∈ P,o.At ≠ s:=by
 unfold findO
 rw [List.find?_eq_none]
 simp
def SameO (P:List Opn):Prop:=∀ o ∈ P,∀ o' ∈ P,o.At = o'.At → o = o'
theorem SameO.find {P:List Opn} (h:SameO P) {o:Opn} (ho:o ∈ P):findO P o.At = some o:=by
 cases hf:findO P o.At with
 | none=>exact absurd rfl (findO_none.1 hf o ho)
 | some x =>
  obtain ⟨h1,h2⟩:=findO_some hf
  rw [h x h1 o ho h2]
structure HOk (L:Hst):Prop where
 ok:okG (dgH L)
 right:∀ p ∈ L,rightCh p.2 = true
 time:∀ p ∈ L,∀ y ∈ p.2.Parents,∀ d,findC L y = some d → d.Time < p.2.Time
 same:SameO (opsH L)
theorem HOk.nil:HOk []:=⟨trivial,by simp,by simp,by intro o h;cases h⟩
/-! what Add answers -/
def timeOk (L:Hst) (c:Chg):Bool:=c.Parents.all fun p=>match findC L p with | none=>true | some d=>decide (d.Time < c.Time)
noncomputable instance:DecidableEq Opn:=fun a b=>Classical.propDecidable _
noncomputable def clashO (P os:List Opn):Bool:=os.any fun o=>match findO P o.At with | none=>false | some x=>!decide (x = o)
noncomputable def addH (L:Hst) (x:ID) (c:Chg):Int × Hst :=
 if hasG (dgH L) x || decide (x = zID) then (((addG (dgH L) x c.Parents).1:Nat),L)
 else if !(rightCh c && timeOk L c) then (1,L)
 else if c.Parents.any fun p=>!hasG (dgH L) p then (110,L)
 else if clashO (opsH L) c.Ops then (5,L)
 else (0,(x,c) :: L)
theorem addG_known {g:Dg} {x:ID} {ps:List ID} (h:(hasG g x || decide (x = zID)) = true):(addG g x ps).2 = g:=by
 unfold addG
 split
 ·rename_i hr
  cases hp:parents g x with
  | none =>
   exfalso
   rw [Bool.or_eq_true,decide_eq_true_eq] at h
   rcases h with h | h
   ·unfold hasG at h;rw [hp] at h;cases h
   ·unfold rightL at hr;rw [h] at hr;simp at hr
  | some q=>simp only;split <;> rfl
 ·rfl
theorem riseB_asc:∀ l:List ID,riseB cmpI l = asc l
 | []=>rfl
 | [x]=>rfl
 | x :: y :: l=>by
  unfold riseB asc
  rw [riseB_asc (y :: l)]
theorem rightCh_parts {c:Chg} (h:rightCh c = true):c.Parents.length ≤ 2 ∧ asc c.Parents = true ∧ rightS ⟨c.Time,c.R⟩ = true ∧ (∀ o ∈ c.Ops,goodOp o = true ∧ o.At.T ≤ c.Time ∧ o.At.R = c.R) ∧ SrtL c.Ops ∧ c.Ops.length ≤ 64 ∧ c.Msg.length ≤ 200:=by
 unfold rightCh at h
 simp only [Bool.and_eq_true,decide_eq_true_eq,List.all_eq_true] at h
 obtain ⟨⟨⟨⟨⟨⟨⟨⟨⟨h1,_⟩,h3⟩,h4⟩,h5⟩,_⟩,h7⟩,_⟩,h9⟩,h10⟩:=h
 refine ⟨h1,by rw [← riseB_asc];exact h3,h4,fun o ho=>?_,(riseB_pw (fun a b:Opn=>cmpS a.At b.At) (fun _ _ _=>cmpS_trans) _).1 h10,h7,h5⟩
 have:=h9 o ho
 exact ⟨this.1.1,this.1.2,this.2⟩
theorem addG_new {g:Dg} {x:ID} {c:Chg} (h0:(hasG g x || decide (x = zID)) = false) (hr:rightCh c = true) (hm:(c.Parents.any fun p=>!hasG g p) = false):addG g x c.Parents = (0,(x,c.Parents) :: g):=by
 rw [Bool.or_eq_false_iff,decide_eq_false_iff_not] at h0
 obtain ⟨r1,r2,_⟩:=rightCh_parts hr
 have hp:parents g x = none:=by
  have:=h0.1
  unfold hasG at this
  simpa using this
 have hrl:rightL x c.Parents = true:=by unfold rightL;simp [r1,r2,h0.2]
 have hall:c.Parents.all (hasG g) = true:=by
  rw [List.all_eq_true]
  intro p hp
  rw [List.any_eq_false] at hm
  simpa using hm p hp
 unfold addG
 rw [if_pos hrl,hp]
 simp only
 rw [if_pos hall]
theorem HOk.add {L:Hst} (h:HOk L) (x:ID) (c:Chg):HOk (addH L x c).2:=by
 unfold addH
 split
 ·exact h
 ·rename_i h0
  split
  ·exact h
  ·rename_i h1
   split
   ·exact h
   ·rename_i h2
    split
    ·exact h
    ·rename_i h3
     simp only [Bool.not_eq_true] at h0 h2 h3
     have h1':rightCh c = true ∧ timeOk L c = true:=by
      simpa using h1
     have hg:=addG_new h0 h1'.1 h2
     have hadd:=okG_add h.ok x c.Parents
     rw [hg] at hadd
     have hnx:findC L x = none:=by
      have:=(Bool.or_eq_false_iff.1 h0).1
      rw [has_dg] at this
      cases hf:findC L x with
      | none=>rfl
      | some d=>rw [hf] at this;cases this
     obtain ⟨_,_,_,r4,r5,_⟩:=rightCh_parts h1'.1
     refine ⟨hadd,fun p hp=>?_,fun p hp y hy d hd=>?_,fun o ho o' ho' e=>?_⟩
     ·rcases List.mem_cons.1 hp with rfl | hp
      ·exact h1'.1
      ·exact h.right p hp
     ·have hd':(if y = x then some c else findC L y) = some d:=hd
      have hk:hasG (dgH L) y = true:=by
       rcases List.mem_cons.1 hp with rfl | hp
       ·rw [List.any_eq_false] at h2
        simpa using h2 y hy
       ·have e1:parents (dgH L) p.1 = some p.2.Parents:=by rw [par_dg,findC_of h.ok hp];rfl
        exact (okG_par h.ok e1).1 y hy
      have hyx:y ≠ x:=fun e=>by
       rw [e,has_dg,hnx] at hk
       cases hk
      rw [if_neg hyx] at hd'
      rcases List.mem_cons.1 hp with rfl | hp
      ·have:=List.all_eq_true.1 h1'.2 y hy
       rw [hd'] at this
       simpa using this
      ·exact h.time p hp y hy d hd'
     ·have key:∀ a ∈ c.Ops,∀ b ∈ opsH L,a.At = b.At → a = b:=fun a ha b hb e=>by
       unfold clashO at h3
       rw [List.any_eq_false] at h3
       have:=h3 a ha
       rw [e,h.same.find hb] at this
       simp at this
       exact this.symm
      have ho2:o ∈ c.Ops ∨ o ∈ opsH L:=by simpa [opsH] using ho
      have ho2':o' ∈ c.Ops ∨ o' ∈ opsH L:=by simpa [opsH] using ho'
      rcases ho2 with ho | ho
      ·rcases ho2' with ho' | ho'
       ·obtain ⟨i,hi,rfl⟩:=List.getElem_of_mem ho
        obtain ⟨j,hj,rfl⟩:=List.getElem_of_mem ho'
        rcases Nat.lt_trichotomy i j with hij | rfl | hij
        ·have:=List.pairwise_iff_getElem.1 r5 i j hi hj hij
         rw [e,cmpS_self] at this
         omega
        ·rfl
        ·have:=List.pairwise_iff_getElem.1 r5 j i hj hi hij
         rw [e,cmpS_self] at this
         omega
       ·exact key o ho o' ho' e
      ·rcases ho2' with ho' | ho'
       ·exact (key o' ho' o ho e.symm).symm
       ·exact h.same o ho o' ho' e
/-! the operations of some commits -/
structure OpsP (L:Hst) (ids:List ID) (l:List Opn):Prop where
 srt:SrtL l
 mem:∀ o,o ∈ l ↔ ∃ x c,findC L x = some c ∧ Reached (dgH L) ids x ∧ o ∈ c.Ops
theorem srt_ext {l m:List Opn} (hl:SrtL l) (hm:SrtL m) (h:∀ o,o ∈ l ↔ o ∈ m):l = m:=by
 have nd:∀ {l:List Opn},SrtL l → l.Nodup:=fun {l} hl=>hl.imp fun {a b} hab e=>by
  rw [e,cmpS_self] at hab
  omega
 have hp:l.Perm m:=(List.perm_ext_iff_of_nodup (nd hl) (nd hm)).2 h
 refine hp.eq_of_pairwise (le:=fun a b:Opn=>cmpS a.At b.At < 0) (fun a b _ _ hab hba=>?_) hl hm
 have:=cmpS_flip a.At b.At
 omega
theorem OpsP.eq {L:Hst} {a b:List ID} {l m:List Opn} (h1:OpsP L a l) (h2:OpsP L b m) (h:∀ x,Reached (dgH L) a x ↔ Reached (dgH L) b x):l = m :=
 srt_ext h1.srt h2.srt fun o=>by
  rw [h1.mem,h2.mem]
  constructor
  ·rintro ⟨x,c,e,hr,ho⟩;exact ⟨x,c,e,(h x).1 hr,ho⟩
  ·rintro ⟨x,c,e,hr,ho⟩;exact ⟨x,c,e,(h x).2 hr,ho⟩
theorem OpsP.good {L:Hst} (hk:HOk L) {a:List ID} {l:List Opn} (h:OpsP L a l):∀ o ∈ l,goodOp o = true:=fun o ho=>by
 obtain ⟨x,c,e,_,hoc⟩:=(h.mem o).1 ho
 exact ((rightCh_parts (hk.right _ (findC_mem e))).2.2.2.1 o hoc).1
theorem OpsP.sub {L:Hst} {a b:List ID} {l m:List Opn} (h1:OpsP L a l) (h2:OpsP L b m) (h:∀ x,Reached (dgH L) a x → Reached (dgH L) b x):∀ o ∈ l,o ∈ m:=fun o ho=>by
 obtain ⟨x,c,e,hr,hoc⟩:=(h1.mem o).1 ho
 exact (h2.mem o).2 ⟨x,c,e,h x hr,hoc⟩
/-! a base first, then the rest -/
def restO (base all:List Opn):List Opn:=all.filter fun o=>!(base.any fun b=>decide (b.At = o.At))
def safeO (base all:List Opn):Bool:=match base.getLast?,(restO base all).head? with
 | some b,some r=>decide (0 < cmpS r.At b.At)
 | _,_=>true
theorem rest_srt {base all:List Opn} (h:SrtL all):SrtL (restO base all):=h.sublist List.filter_sublist
theorem safe_all {base all:List Opn} (hb:SrtL base) (ha:SrtL all) (hs:∀ o ∈ base,o ∈ all) (h:safeO base all = true):(∀ o ∈ restO base all,∀ b ∈ base,cmpS b.At o.At < 0) ∧ base ++ restO base all = all:=by
 have hr:=rest_srt (base:=base) ha
 have key:∀ o ∈ restO base all,∀ b ∈ base,cmpS b.At o.At < 0:=by
  cases hl:base.getLast? with
  | none =>
   rw [List.getLast?_eq_none_iff] at hl
   subst hl
   intro o _ b hb
   cases hb
  | some bl =>
   cases hh:(restO base all).head? with
   | none =>
    rw [List.head?_eq_none_iff] at hh
    intro o ho
    rw [hh] at ho
    cases ho
   | some r =>
    unfold safeO at h
    rw [hl,hh] at h
    simp only [decide_eq_true_eq] at h
    have h1:cmpS bl.At r.At < 0:=by
     have:=cmpS_flip r.At bl.At
     omega
    intro o ho b hb'
    have e1:b = bl ∨ cmpS b.At bl.At < 0:=by
     obtain ⟨pre,hpre⟩:=List.getLast?_eq_some_iff.1 hl
     rw [hpre] at hb' hb
     rcases List.mem_append.1 hb' with hm | hm
     ·exact .inr ((List.pairwise_append.1 hb).2.2 b hm bl (by simp))
     ·exact .inl (by simpa using hm)
    have e2:o = r ∨ cmpS r.At o.At < 0:=by
     cases hq:restO base all with
     | nil=>rw [hq] at hh;cases hh
     | cons q t =>
      rw [hq] at hh ho hr
      injection hh with hh
      subst hh
      rcases List.mem_cons.1 ho with ho | ho
      ·exact .inl ho
      ·exact .inr ((List.pairwise_cons.1 hr).1 o ho)
    have h2:cmpS b.At r.At < 0:=by
     rcases e1 with rfl | e1
     ·exact h1
     ·exact cmpS_trans e1 h1
    rcases e2 with rfl | e2
    ·exact h2
    ·exact cmpS_trans h2 e2
 refine ⟨key,srt_ext (List.pairwise_append.2 ⟨hb,hr,fun b hb' o ho=>key o ho b hb'⟩) ha fun o=>?_⟩
 rw [List.mem_append]
 constructor
 ·rintro (h | h)
  ·exact hs o h
  ·exact (List.mem_filter.1 h).1
 ·intro ho
  by_cases hx:base.any (fun b=>decide (b.At = o.At)) = true
  ·obtain ⟨b,hb1,hb2⟩:=List.any_eq_true.1 hx
   rw [decide_eq_true_eq] at hb2
   left
   have hba:=hs b hb1
   obtain ⟨i,hi,rfl⟩:=List.getElem_of_mem hba
   obtain ⟨j,hj,rfl⟩:=List.getElem_of_mem ho
   rcases Nat.lt_trichotomy i j with hij | rfl | hij
   ·have:=List.pairwise_iff_getElem.1 ha i j hi hj hij
    rw [hb2,cmpS_self] at this
    omega
   ·exact hb1
   ·have:=List.pairwise_iff_getElem.1 ha j i hj hi hij
    rw [← hb2,cmpS_self] at this
    omega
  ·right
   exact List.mem_filter.2 ⟨ho,by simp only [Bool.not_eq_true] at hx;rw [hx];rfl⟩
theorem safe_iff {base all:List Opn} (ha:SrtL all):safeO base all = true ↔ ∀ b,base.getLast? = some b → ∀ o ∈ restO base all,0 < cmpS o.At b.At:=by
 have hr:=rest_srt (base:=base) ha
 unfold safeO
 cases hl:base.getLast? with
 | none=>simp
 | some bl =>
  cases hq:restO base all with
  | nil=>simp
  | cons r t =>
   simp only [List.head?_cons,decide_eq_true_eq,Option.some.injEq,forall_eq',List.mem_cons,forall_eq_or_imp]
   refine ⟨fun h=>⟨h,fun o ho=>?_⟩,fun h=>h.1⟩
   rw [hq] at hr
   have h1:=(List.pairwise_cons.1 hr).1 o ho
   have h2:cmpS bl.At r.At < 0:=by
    have:=cmpS_flip r.At bl.At
    omega
   have h3:=cmpS_trans h2 h1
   have:=cmpS_flip o.At bl.At
   omega
/-! what comes of two -/
def mgE (L:Hst) (a b:ID):Int:=match findC L a,findC L b with
 | some x,some y=>if ancG (dgH L) a b then 0 else if ancG (dgH L) b a then 0 else if max x.Time y.Time + 1 > 1099511627776 then 1 else 0
 | _,_=>4
structure PlanP (L:Hst) (a b:ID) (fw:ID) (base:List ID) (ops:List Opn) (safe:Bool) (time:Int):Prop where
 fa:ancG (dgH L) a b = true → fw = a ∧ base = [] ∧ OpsP L [a] ops ∧ safe = false ∧ time = 0
 fb:ancG (dgH L) a b = false → ancG (dgH L) b a = true → fw = b ∧ base = [] ∧ OpsP L [b] ops ∧ safe = false ∧ time = 0
 mg:ancG (dgH L) a b = false → ancG (dgH L) b a = false → fw = zID ∧ (∀ z,z ∈ base ↔ BaseOf (dgH L) a b z) ∧ Rise cmpI base ∧ OpsP L [a,b] ops ∧ (∃ bo,OpsP L base bo ∧ safe = safeO bo ops) ∧ ∀ x y,findC L a = some x → findC L b = some y → time = max x.Time y.Time + 1
theorem reached_one {G:Dg} {a x:ID}:Reached G [a] x ↔ ancG G a x = true:=by simp [Reached]
theorem reached_two {G:Dg} {a b x:ID}:Reached G [a,b] x ↔ ancG G a x = true ∨ ancG G b x = true:=by simp [Reached]
theorem base_reached {L:Hst} (hk:okG (dgH L)) {a b:ID} {base:List ID} (h:∀ z,z ∈ base ↔ BaseOf (dgH L) a b z) (x:ID):Reached (dgH L) base x ↔ ancG (dgH L) a x = true ∧ ancG (dgH L) b x = true:=by
 constructor
 ·rintro ⟨i,hi,hx⟩
  have:=((h i).1 hi).1
  exact ⟨anc_trans hk this.1 hx,anc_trans hk this.2 hx⟩
 ·rintro ⟨h1,h2⟩
  obtain ⟨p,hp,hpx⟩:=base_top hk _ x rfl h1 h2
  exact ⟨p,(h p).2 hp,hpx⟩
end Go.Proofs.YtjpieiccpbcabaaGreat
